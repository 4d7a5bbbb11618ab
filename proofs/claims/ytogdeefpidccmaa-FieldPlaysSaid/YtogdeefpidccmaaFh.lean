/- The dismissal layer, second part: contracts. -/
import Derived.Test.YtogdeefpidccmaaFg
namespace Go.Proofs.Ytogdeefpidccmaa
open Go Go.Mir
attribute [local irreducible] Go.Mir.RT.sat Go.Mir.evFn Go.Mir.stepObl
theorem wf_u8 {n : Int} (h : wfD (.int .u8) n) : 0 ≤ n ∧ n ≤ 255 := by
  obtain ⟨S, w, cs, h⟩ := h
  cases h with | int h => exact ⟨by have := h.1; simpa [IntKind.min, IntKind.max, IntKind.signed, IntKind.bits] using this, by have := h.2; simpa [IntKind.min, IntKind.max, IntKind.signed, IntKind.bits] using this⟩

theorem wrapu8 {n : Int} (h1 : 0 ≤ n) (h2 : n ≤ 255) : IntKind.u8.wrap n = n := by
  simp only [IntKind.wrap, IntKind.bits, IntKind.signed]
  simp
  omega

theorem wtab_at (i : Nat) (h : i < 11) : (wtab.getD i (dflt (Ty.nm Nm.dismissal_way))).how = i ∧ ntab.getD i (dflt Ty.str) = (wtab.getD i (dflt (Ty.nm Nm.dismissal_way))).name := by
  have : i = 0 ∨ i = 1 ∨ i = 2 ∨ i = 3 ∨ i = 4 ∨ i = 5 ∨ i = 6 ∨ i = 7 ∨ i = 8 ∨ i = 9 ∨ i = 10 := by omega
  rcases this with rfl | rfl | rfl | rfl | rfl | rfl | rfl | rfl | rfl | rfl | rfl <;> exact ⟨rfl, rfl⟩

theorem ofW_at (i : Nat) (h : i < 11) : ofW i = wtab.getD i (dflt (Ty.nm Nm.dismissal_way)) := by
  have : i = 0 ∨ i = 1 ∨ i = 2 ∨ i = 3 ∨ i = 4 ∨ i = 5 ∨ i = 6 ∨ i = 7 ∨ i = 8 ∨ i = 9 ∨ i = 10 := by omega
  rcases this with rfl | rfl | rfl | rfl | rfl | rfl | rfl | rfl | rfl | rfl | rfl <;> rfl

theorem ofW_out (h : Int) (h1 : h < 0 ∨ 10 < h) : ofW h = dismissal_way.zero := by
  unfold ofW
  rw [List.find?_eq_none.2]
  · rfl
  · intro x hx
    simp only [wtab, List.mem_cons, List.not_mem_nil, or_false] at hx
    rcases hx with rfl | rfl | rfl | rfl | rfl | rfl | rfl | rfl | rfl | rfl | rfl <;> simp <;> omega

theorem run19 (h : Int)  : (evFn (cfgF [] Try.f19) (fun _ => none) Try.f19 (argsV ps57 (h, ()))).sat fun v' rows => leV v' (spec19 (h, ())).v ∧ rows = (spec19 (h, ())).rows := by
  refine cast (by kernel_rfl) (?_ : (bif decide (h ≥ (1 : Int)) then decide (h ≤ (5 : Int)) else false) = creditedW h ∧ ([] : List RowD) = [])
  simp only [creditedW]; grind
theorem ok19 : CtrOK Try.prog KK 19 (pureCtr KK ps57 spec19) := by
  refine pure_ok (C := cfgF [] Try.f19) (cfgOK (CtrsOK.nil) _) mixed (fn := Try.f19) Try.func19 (by kernel_rfl) (by kernel_rfl) (by kernel_rfl) (Λ := fun _ _ => none) ?_ ?_ ?_
  · exact fun _ _ _ _ _ _ _ _ h => by cases h
  · rintro ⟨h, ⟨⟩⟩
    exact of_decide_eq_true (by kernel_rfl)
  · rintro ⟨h, ⟨⟩⟩ hw hn
    exact run19 h

theorem run22 (h : Int)  : (evFn (cfgF [k57] Try.f22) (fun _ => none) Try.f22 (argsV ps57 (h, ()))).sat fun v' rows => leV v' (spec22 (h, ())).v ∧ rows = (spec22 (h, ())).rows := by
  refine cast (by kernel_rfl) (?_ : ((ofW h).6 = (ofW h).6 ∧ (ofW h).6 = (ofW h).6 ∧ (h == (6 : Int)) = isRun h ∧ True) ∧ ([] : List RowD) = [])
  exact ⟨⟨rfl, rfl, rfl, trivial⟩, rfl⟩
theorem ok22 : CtrOK Try.prog KK 22 (pureCtr KK ps57 spec22) := by
  refine pure_ok (C := cfgF [k57] Try.f22) (cfgOK (.cons ok57 .nil) _) mixed (fn := Try.f22) Try.func22 (by kernel_rfl) (by kernel_rfl) (by kernel_rfl) (Λ := fun _ _ => none) ?_ ?_ ?_
  · exact fun _ _ _ _ _ _ _ _ h => by cases h
  · rintro ⟨h, ⟨⟩⟩
    exact of_decide_eq_true (by kernel_rfl)
  · rintro ⟨h, ⟨⟩⟩ hw hn
    exact run22 h

theorem run64   : (evFn (cfgF [] Try.f64) (fun _ => none) Try.f64 (argsV ps61 ())).sat fun v' rows => leV v' (spec64 ()).v ∧ rows = (spec64 ()).rows := by
  refine cast (by kernel_rfl) (?_ : (nat_lit 0 = nat_lit 0 ∧ nat_lit 0 = nat_lit 0) ∧ [RowD.mk Ty.str [ByteArray.mk #[(78 : UInt8), (79 : UInt8), (84 : UInt8), (79 : UInt8), (85 : UInt8), (84 : UInt8)], ByteArray.mk #[(66 : UInt8), (79 : UInt8), (87 : UInt8), (76 : UInt8), (69 : UInt8), (68 : UInt8)], ByteArray.mk #[(67 : UInt8), (65 : UInt8), (85 : UInt8), (71 : UInt8), (72 : UInt8), (84 : UInt8)], ByteArray.mk #[(76 : UInt8), (66 : UInt8), (87 : UInt8)], ByteArray.mk #[(83 : UInt8), (84 : UInt8), (85 : UInt8), (77 : UInt8), (80 : UInt8), (69 : UInt8), (68 : UInt8)], ByteArray.mk #[(72 : UInt8), (73 : UInt8), (84 : UInt8), (87 : UInt8), (73 : UInt8), (67 : UInt8), (75 : UInt8), (69 : UInt8), (84 : UInt8)], ByteArray.mk #[(82 : UInt8), (85 : UInt8), (78 : UInt8), (79 : UInt8), (85 : UInt8), (84 : UInt8)], ByteArray.mk #[(72 : UInt8), (73 : UInt8), (84 : UInt8), (84 : UInt8), (87 : UInt8), (73 : UInt8), (67 : UInt8), (69 : UInt8)], ByteArray.mk #[(79 : UInt8), (66 : UInt8), (83 : UInt8), (84 : UInt8), (82 : UInt8), (85 : UInt8), (67 : UInt8), (84 : UInt8), (73 : UInt8), (78 : UInt8), (71 : UInt8)], ByteArray.mk #[(84 : UInt8), (73 : UInt8), (77 : UInt8), (69 : UInt8), (68 : UInt8), (79 : UInt8), (85 : UInt8), (84 : UInt8)], ByteArray.mk #[(82 : UInt8), (69 : UInt8), (84 : UInt8), (73 : UInt8), (82 : UInt8), (69 : UInt8), (68 : UInt8)]]] = [RowD.mk Ty.str ntab])
  exact ⟨⟨rfl, rfl⟩, by kernel_rfl⟩
theorem ok64 : CtrOK Try.prog KK 64 (pureCtr KK ps61 spec64) := by
  refine pure_ok (C := cfgF [] Try.f64) (cfgOK (CtrsOK.nil) _) mixed (fn := Try.f64) Try.func64 (by kernel_rfl) (by kernel_rfl) (by kernel_rfl) (Λ := fun _ _ => none) ?_ ?_ ?_
  · exact fun _ _ _ _ _ _ _ _ h => by cases h
  · rintro ⟨⟩
    exact of_decide_eq_true (by kernel_rfl)
  · rintro ⟨⟩ hw hn
    exact run64 

theorem run27 (d : Delivery) (s : Int) (o : Int)  : (evFn (cfgF [] Try.f27) (fun _ => none) Try.f27 (argsV psV (d, s, o, ()))).sat fun v' rows => leV v' (spec27 (d, s, o, ())).v ∧ rows = (spec27 (d, s, o, ())).rows := by
  refine cast (by kernel_rfl) (?_ : ((d.7 == (0 : Int)) = true → (0 : Int) = victimW d s o ∧ ([] : List RowD) = []) ∧ ((d.7 == (0 : Int)) = false → ((d.8 == (1 : Int)) = true → s = victimW d s o ∧ ([] : List RowD) = []) ∧ ((d.8 == (1 : Int)) = false → ((d.8 == (2 : Int)) = true → o = victimW d s o ∧ ([] : List RowD) = []) ∧ ((d.8 == (2 : Int)) = false → (0 : Int) = victimW d s o ∧ ([] : List RowD) = []))))
  simp only [victimW]; grind
theorem ok27 : CtrOK Try.prog KK 27 (pureCtr KK psV spec27) := by
  refine pure_ok (C := cfgF [] Try.f27) (cfgOK (CtrsOK.nil) _) mixed (fn := Try.f27) Try.func27 (by kernel_rfl) (by kernel_rfl) (by kernel_rfl) (Λ := fun _ _ => none) ?_ ?_ ?_
  · exact fun _ _ _ _ _ _ _ _ h => by cases h
  · rintro ⟨d, s, o, ⟨⟩⟩
    exact of_decide_eq_true (by kernel_rfl)
  · rintro ⟨d, s, o, ⟨⟩⟩ hw hn
    exact run27 d s o

theorem run28 (d : Delivery) (s : Int) (o : Int)  : (evFn (cfgF [] Try.f28) (fun _ => none) Try.f28 (argsV psV (d, s, o, ()))).sat fun v' rows => leV v' (spec27 (d, s, o, ())).v ∧ rows = (spec27 (d, s, o, ())).rows := by
  refine cast (by kernel_rfl) (?_ : ((d.7 == (0 : Int)) = true → (0 : Int) = victimW d s o ∧ ([] : List RowD) = []) ∧ ((d.7 == (0 : Int)) = false → ((d.8 == (1 : Int)) = true → s = victimW d s o ∧ ([] : List RowD) = []) ∧ ((d.8 == (1 : Int)) = false → ((d.8 == (2 : Int)) = true → o = victimW d s o ∧ ([] : List RowD) = []) ∧ ((d.8 == (2 : Int)) = false → (0 : Int) = victimW d s o ∧ ([] : List RowD) = []))))
  simp only [victimW]; grind
theorem ok28 : CtrOK Try.prog KK 28 (pureCtr KK psV spec27) := by
  refine pure_ok (C := cfgF [] Try.f28) (cfgOK (CtrsOK.nil) _) mixed (fn := Try.f28) Try.func28 (by kernel_rfl) (by kernel_rfl) (by kernel_rfl) (Λ := fun _ _ => none) ?_ ?_ ?_
  · exact fun _ _ _ _ _ _ _ _ h => by cases h
  · rintro ⟨d, s, o, ⟨⟩⟩
    exact of_decide_eq_true (by kernel_rfl)
  · rintro ⟨d, s, o, ⟨⟩⟩ hw hn
    exact run28 d s o

theorem run26 (h : Int) (h0 : 0 ≤ h) : (evFn (cfgF [k64] Try.f26) (fun _ => none) Try.f26 (argsV ps57 (h, ()))).sat fun v' rows => leV v' (spec25 (h, ())).v ∧ rows = (spec25 (h, ())).rows := by
  refine cast (by kernel_rfl) (?_ : (decide (h > (10 : Int)) = true → ByteArray.mk #[] = (ofW h).2 ∧ ([] : List RowD) = []) ∧ (decide (h > (10 : Int)) = false → ((0 : Int) ≤ h ∧ h < (↑ntab.length : Int)) ∧ ntab.getD h.toNat (dflt Ty.str) = (ofW h).2 ∧ ([] : List RowD) = []))
  refine ⟨fun h1 => ⟨?_, rfl⟩, fun h1 => ?_⟩
  · have h1 : 10 < h := by simpa using h1
    rw [ofW_out h (.inr h1)]; rfl
  · have h1 : h ≤ 10 := by simpa using h1
    obtain ⟨i, rfl⟩ : ∃ i : Nat, h = i := ⟨h.toNat, by omega⟩
    have h2 : i < 11 := by omega
    have hn : ntab.length = 11 := rfl
    refine ⟨⟨by omega, by omega⟩, ?_, rfl⟩
    rw [ofW_at i h2, ← (wtab_at i h2).2, Int.toNat_natCast]
theorem ok26 : CtrOK Try.prog KK 26 (pureCtr KK ps57 spec25) := by
  refine pure_ok (C := cfgF [k64] Try.f26) (cfgOK (.cons ok64 .nil) _) mixed (fn := Try.f26) Try.func26 (by kernel_rfl) (by kernel_rfl) (by kernel_rfl) (Λ := fun _ _ => none) ?_ ?_ ?_
  · exact fun _ _ _ _ _ _ _ _ h => by cases h
  · rintro ⟨h, ⟨⟩⟩
    exact of_decide_eq_true (by kernel_rfl)
  · rintro ⟨h, ⟨⟩⟩ hw hn
    exact run26 h (wf_u8 (wf_fst hw)).1

theorem step23 (s : ByteArray)  (i : Nat) (hi : inv23 s i) : (stepObl (J23 s) (inv23 s) (fun i => 11 - i) i (T23 s) (evCode (cfgF [k61] Try.f23) (fun _ => none) (loopN Try.f23 0) (J23 s i)) (L23 i)).1 := by
  refine cast (by kernel_rfl) (?_ : (decide ((↑i : Int) < (↑wtab.length : Int)) = true → ((0 : Int) ≤ (↑i : Int) ∧ (↑i : Int) < (↑wtab.length : Int)) ∧ (((wtab.getD (↑i : Int).toNat (dflt (Ty.nm Nm.dismissal_way))).2.toList == s.toList) = true → wtab.any (named s) = true ∧ ((wtab.getD (↑i : Int).toNat (dflt (Ty.nm Nm.dismissal_way))).1 = parseHow s ∧ (0 : Int) = (0 : Int) ∧ True) ∧ True) ∧ (((wtab.getD (↑i : Int).toNat (dflt (Ty.nm Nm.dismissal_way))).2.toList == s.toList) = false → inv23 s (i + (1 : Nat)) ∧ (11 : Nat) - (i + (1 : Nat)) < (11 : Nat) - i ∧ (s = s ∧ True ∧ (↑wtab.length : Int) = (↑wtab.length : Int) ∧ IntKind.i64.wrap ((↑i : Int) + (1 : Int)) = (↑(i + (1 : Nat)) : Int) ∧ True) ∧ RowD.mk (Ty.nm Nm.dismissal_way) wtab = RowD.mk (Ty.nm Nm.dismissal_way) wtab ∧ True)) ∧ (decide ((↑i : Int) < (↑wtab.length : Int)) = false → wtab.any (named s) = false ∧ True ∧ True))
  have e : (i : Int).toNat = i := by simp
  rw [e]
  generalize hw : wtab.getD i (dflt (Ty.nm Nm.dismissal_way)) = w
  refine ⟨fun h1 => ?_, fun h1 => ?_⟩
  · have h1 : i < wtab.length := by simpa using h1
    have h3 : wtab[i]? = some w := by rw [← hw]; exact getD_at _ h1
    refine ⟨⟨by omega, by omega⟩, fun h2 => ?_, fun h2 => ?_⟩
    · have h4 : parseHow s = w.how := by
        unfold parseHow
        rw [find_at (named s) wtab i w h3 h2 hi.2]; rfl
      have h5 : wtab.any (named s) = true := List.any_eq_true.2 ⟨w, List.mem_of_getElem? h3, h2⟩
      rw [h4]
      exact ⟨h5, ⟨rfl, rfl, trivial⟩, trivial⟩
    · rw [wlen] at h1
      refine ⟨⟨by omega, fun y hy => ?_⟩, by omega, ⟨rfl, trivial, rfl, ?_, trivial⟩, rfl, trivial⟩
      · rw [List.take_add_one, h3] at hy
        rcases List.mem_append.1 hy with hy | hy
        · exact hi.2 y hy
        · simp at hy; subst hy; exact h2
      · rw [wrap64 (by omega) (by omega)]; omega
  · have h1 : wtab.length ≤ i := by simpa using h1
    refine ⟨?_, trivial, trivial⟩
    rw [List.any_eq_false]
    intro x hx
    have := hi.2 x (by rw [List.take_of_length_le h1]; exact hx)
    simpa using this
theorem loop23 (s : ByteArray)  : LoopOK Try.prog Try.f23.ntmps (loopN Try.f23 0) (loopSum ⟨[], [], 20⟩ (J23 s 0) (T23 s)) :=
  loop_by (cfgOK (.cons ok61 .nil) _) mixed (J23 s) (fun _ => rfl) (inv23 s) (fun i => 11 - i) (fun _ _ => none) (fun _ _ _ _ _ h => by cases h) (T23 s) [] [] 0 (⟨Nat.zero_le _, by simp⟩) L23 (fun i hi => step23 s  i hi)
theorem run23 (s : ByteArray)  : (evFn (cfgF [k61] Try.f23) (Λ23 s) Try.f23 (argsV psS (s, ()))).sat fun v' rows => leV v' (spec23 (s, ())).v ∧ rows = (spec23 (s, ())).rows := by
  refine cast (by kernel_rfl) (?_ : ((noH0 fun x => none) ∧ (s = s ∧ True ∧ (↑wtab.length : Int) = (↑wtab.length : Int) ∧ (0 : Int) = (↑(0 : Nat) : Int) ∧ True) ∧ RowD.mk (Ty.nm Nm.dismissal_way) wtab = RowD.mk (Ty.nm Nm.dismissal_way) wtab ∧ True) ∧ (wtab.any (named s) = true → (parseHow s = parseHow s ∧ (0 : Int) = parseErr s ∧ True) ∧ ([] : List RowD) = []) ∧ (wtab.any (named s) = false → ((0 : Int) = parseHow s ∧ (4 : Int) = parseErr s ∧ True) ∧ ([] : List RowD) = []))
  have hE : parseErr s = bif wtab.any (named s) then 0 else 4 := rfl
  have hN : wtab.any (named s) = false → parseHow s = 0 := fun h1 => by
    unfold parseHow
    rw [List.find?_eq_none.2 fun x hx => (List.any_eq_false.1 h1) x hx]; rfl
  refine ⟨⟨rfl, ⟨rfl, trivial, rfl, rfl, trivial⟩, rfl, trivial⟩, fun h1 => ⟨⟨rfl, by rw [hE, h1]; rfl, trivial⟩, rfl⟩, fun h1 => ⟨⟨(hN h1).symm, by rw [hE, h1]; rfl, trivial⟩, rfl⟩⟩
theorem ok23 : CtrOK Try.prog KK 23 (pureCtr KK psS spec23) := by
  refine pure_ok (C := cfgF [k61] Try.f23) (cfgOK (.cons ok61 .nil) _) mixed (fn := Try.f23) Try.func23 (by kernel_rfl) (by kernel_rfl) (by kernel_rfl) (Λ := fun x => Λ23 x.1) ?_ ?_ ?_
  · rintro ⟨s, ⟨⟩⟩ hw _
    exact LoopsOK.at (by kernel_rfl) (.cons (by kernel_rfl) (loop23 s) .nil)
  · rintro ⟨s, ⟨⟩⟩
    exact of_decide_eq_true (by kernel_rfl)
  · rintro ⟨s, ⟨⟩⟩ hw hn
    exact run23 s

theorem step24 (s : ByteArray)  (i : Nat) (hi : inv23 s i) : (stepObl (J24 s) (inv23 s) (fun i => 11 - i) i (T23 s) (evCode (cfgF [k64] Try.f24) (fun _ => none) (loopN Try.f24 0) (J24 s i)) (L23 i)).1 := by
  refine cast (by kernel_rfl) (?_ : (decide ((↑i : Int) < (↑ntab.length : Int)) = true → ((0 : Int) ≤ (↑i : Int) ∧ (↑i : Int) < (↑ntab.length : Int)) ∧ ((ByteArray.toList (ntab.getD (↑i : Int).toNat (dflt Ty.str)) == s.toList) = true → wtab.any (named s) = true ∧ (IntKind.u8.wrap (↑i : Int) = parseHow s ∧ (0 : Int) = (0 : Int) ∧ True) ∧ True) ∧ ((ByteArray.toList (ntab.getD (↑i : Int).toNat (dflt Ty.str)) == s.toList) = false → inv23 s (i + (1 : Nat)) ∧ (11 : Nat) - (i + (1 : Nat)) < (11 : Nat) - i ∧ (s = s ∧ True ∧ (↑ntab.length : Int) = (↑ntab.length : Int) ∧ IntKind.i64.wrap ((↑i : Int) + (1 : Int)) = (↑(i + (1 : Nat)) : Int) ∧ True) ∧ RowD.mk Ty.str ntab = RowD.mk Ty.str ntab ∧ True)) ∧ (decide ((↑i : Int) < (↑ntab.length : Int)) = false → wtab.any (named s) = false ∧ True ∧ True))
  have e : (i : Int).toNat = i := by simp
  rw [e]
  have hnl : ntab.length = 11 := rfl
  refine ⟨fun h1 => ?_, fun h1 => ?_⟩
  · have h1 : i < 11 := by have : (i : Int) < (ntab.length : Int) := by simpa using h1
                           omega
    rw [(wtab_at i h1).2]
    have hh := (wtab_at i h1).1
    generalize hw : wtab.getD i (dflt (Ty.nm Nm.dismissal_way)) = w at *
    have h3 : wtab[i]? = some w := by rw [← hw]; exact getD_at _ (by rw [wlen]; exact h1)
    refine ⟨⟨by omega, by omega⟩, fun h2 => ?_, fun h2 => ?_⟩
    · have h4 : parseHow s = w.how := by
        unfold parseHow
        rw [find_at (named s) wtab i w h3 h2 hi.2]; rfl
      have h5 : wtab.any (named s) = true := List.any_eq_true.2 ⟨w, List.mem_of_getElem? h3, h2⟩
      rw [h4, hh]
      exact ⟨h5, ⟨wrapu8 (by omega) (by omega), rfl, trivial⟩, trivial⟩
    · refine ⟨⟨by omega, fun y hy => ?_⟩, by omega, ⟨rfl, trivial, rfl, ?_, trivial⟩, rfl, trivial⟩
      · rw [List.take_add_one, h3] at hy
        rcases List.mem_append.1 hy with hy | hy
        · exact hi.2 y hy
        · simp at hy; subst hy; exact h2
      · rw [wrap64 (by omega) (by omega)]; omega
  · have h1 : wtab.length ≤ i := by have : ¬ (i : Int) < (ntab.length : Int) := by simpa using h1
                                    rw [wlen]; omega
    refine ⟨?_, trivial, trivial⟩
    rw [List.any_eq_false]
    intro x hx
    have := hi.2 x (by rw [List.take_of_length_le h1]; exact hx)
    simpa using this
theorem loop24 (s : ByteArray)  : LoopOK Try.prog Try.f24.ntmps (loopN Try.f24 0) (loopSum ⟨[], [], 20⟩ (J24 s 0) (T23 s)) :=
  loop_by (cfgOK (.cons ok64 .nil) _) mixed (J24 s) (fun _ => rfl) (inv23 s) (fun i => 11 - i) (fun _ _ => none) (fun _ _ _ _ _ h => by cases h) (T23 s) [] [] 0 (⟨Nat.zero_le _, by simp⟩) L23 (fun i hi => step24 s  i hi)
theorem run24 (s : ByteArray)  : (evFn (cfgF [k64] Try.f24) (Λ24 s) Try.f24 (argsV psS (s, ()))).sat fun v' rows => leV v' (spec23 (s, ())).v ∧ rows = (spec23 (s, ())).rows := by
  refine cast (by kernel_rfl) (?_ : ((noH0 fun x => none) ∧ (s = s ∧ True ∧ (↑ntab.length : Int) = (↑ntab.length : Int) ∧ (0 : Int) = (↑(0 : Nat) : Int) ∧ True) ∧ RowD.mk Ty.str ntab = RowD.mk Ty.str ntab ∧ True) ∧ (wtab.any (named s) = true → (parseHow s = parseHow s ∧ (0 : Int) = parseErr s ∧ True) ∧ ([] : List RowD) = []) ∧ (wtab.any (named s) = false → ((0 : Int) = parseHow s ∧ (4 : Int) = parseErr s ∧ True) ∧ ([] : List RowD) = []))
  have hE : parseErr s = bif wtab.any (named s) then 0 else 4 := rfl
  have hN : wtab.any (named s) = false → parseHow s = 0 := fun h1 => by
    unfold parseHow
    rw [List.find?_eq_none.2 fun x hx => (List.any_eq_false.1 h1) x hx]; rfl
  refine ⟨⟨rfl, ⟨rfl, trivial, rfl, rfl, trivial⟩, rfl, trivial⟩, fun h1 => ⟨⟨rfl, by rw [hE, h1]; rfl, trivial⟩, rfl⟩, fun h1 => ⟨⟨(hN h1).symm, by rw [hE, h1]; rfl, trivial⟩, rfl⟩⟩
theorem ok24 : CtrOK Try.prog KK 24 (pureCtr KK psS spec23) := by
  refine pure_ok (C := cfgF [k64] Try.f24) (cfgOK (.cons ok64 .nil) _) mixed (fn := Try.f24) Try.func24 (by kernel_rfl) (by kernel_rfl) (by kernel_rfl) (Λ := fun x => Λ24 x.1) ?_ ?_ ?_
  · rintro ⟨s, ⟨⟩⟩ hw _
    exact LoopsOK.at (by kernel_rfl) (.cons (by kernel_rfl) (loop24 s) .nil)
  · rintro ⟨s, ⟨⟩⟩
    exact of_decide_eq_true (by kernel_rfl)
  · rintro ⟨s, ⟨⟩⟩ hw hn
    exact run24 s

theorem step30 (xs : List Int) (ys : List Int) (hx : xs.length ≤ lenB) (hl : xs.length = ys.length) (i : Nat) (hi : inv30 xs ys i) : (stepObl (J30 xs ys) (inv30 xs ys) (fun i => xs.length - i) i (T30 xs ys) (evCode (cfgF [] Try.f30) (fun _ => none) (loopN Try.f30 0) (J30 xs ys i)) (L30 i)).1 := by
  refine cast (by kernel_rfl) (?_ : (decide ((↑i : Int) < (↑xs.length : Int)) = true → ((0 : Int) ≤ (↑i : Int) ∧ (↑i : Int) < (↑xs.length : Int)) ∧ ((0 : Int) ≤ (↑i : Int) ∧ (↑i : Int) < (↑ys.length : Int)) ∧ ((xs.getD (↑i : Int).toNat (dflt (Ty.int IntKind.u8)) != ys.getD (↑i : Int).toNat (dflt (Ty.int IntKind.u8))) = true → eqL xs ys = false ∧ (false = false ∧ True) ∧ True) ∧ ((xs.getD (↑i : Int).toNat (dflt (Ty.int IntKind.u8)) != ys.getD (↑i : Int).toNat (dflt (Ty.int IntKind.u8))) = false → inv30 xs ys (i + (1 : Nat)) ∧ xs.length - (i + (1 : Nat)) < xs.length - i ∧ (RowD.mk (Ty.int IntKind.u8) xs = RowD.mk (Ty.int IntKind.u8) xs ∧ RowD.mk (Ty.int IntKind.u8) ys = RowD.mk (Ty.int IntKind.u8) ys ∧ (↑xs.length : Int) = (↑xs.length : Int) ∧ IntKind.i64.wrap ((↑i : Int) + (1 : Int)) = (↑(i + (1 : Nat)) : Int) ∧ True) ∧ True)) ∧ (decide ((↑i : Int) < (↑xs.length : Int)) = false → eqL xs ys = true ∧ True ∧ True))
  have e : (i : Int).toNat = i := by simp
  rw [e]
  have hd : ∀ zs : List Int, i < zs.length → zs[i]? = some (zs.getD i (dflt (Ty.int IntKind.u8))) := fun zs h => getD_at _ h
  refine ⟨fun h1 => ?_, fun h1 => ?_⟩
  · have h1 : i < xs.length := by simpa using h1
    have hdx := hd xs h1
    have hdy := hd ys (by omega)
    refine ⟨⟨by omega, by omega⟩, ⟨by omega, by omega⟩, fun h2 => ?_, fun h2 => ?_⟩
    · refine ⟨?_, ⟨rfl, trivial⟩, trivial⟩
      have h2 : ¬ xs.getD i (dflt (Ty.int IntKind.u8)) = ys.getD i (dflt (Ty.int IntKind.u8)) := by simpa using h2
      refine decide_eq_false fun he => h2 (by rw [he])
    · have h2 : xs.getD i (dflt (Ty.int IntKind.u8)) = ys.getD i (dflt (Ty.int IntKind.u8)) := by simpa using h2
      have hb : xs.length ≤ 140737488355328 := hx
      refine ⟨⟨by omega, hl, ?_⟩, by omega, ⟨rfl, rfl, rfl, by rw [wrap64 (by omega) (by omega)]; omega, trivial⟩, trivial⟩
      rw [List.take_add_one, List.take_add_one, hi.2.2, hdx, hdy, h2]
  · have h1 : xs.length ≤ i := by simpa using h1
    refine ⟨decide_eq_true ?_, trivial, trivial⟩
    have := hi.2.2
    rwa [List.take_of_length_le h1, List.take_of_length_le (by omega)] at this
theorem loop30 (xs : List Int) (ys : List Int) (hx : xs.length ≤ lenB) (hl : xs.length = ys.length) : LoopOK Try.prog Try.f30.ntmps (loopN Try.f30 0) (loopSum ⟨[], [], 36⟩ (J30 xs ys 0) (T30 xs ys)) :=
  loop_by (cfgOK (CtrsOK.nil) _) mixed (J30 xs ys) (fun _ => rfl) (inv30 xs ys) (fun i => xs.length - i) (fun _ _ => none) (fun _ _ _ _ _ h => by cases h) (T30 xs ys) [] [] 0 (⟨Nat.zero_le _, hl, by simp⟩) L30 (fun i hi => step30 xs ys hx hl i hi)
theorem run30 (xs : List Int) (ys : List Int) (hx : xs.length ≤ lenB) : (evFn (cfgF [] Try.f30) (Λ30 xs ys) Try.f30 (argsV ps30 (xs, ys, ()))).sat fun v' rows => leV v' (spec30 (xs, ys, ())).v ∧ rows = (spec30 (xs, ys, ())).rows := by
  refine cast (by kernel_rfl) (?_ : (((↑xs.length : Int) != (↑ys.length : Int)) = true → false = eqL xs ys ∧ ([] : List RowD) = []) ∧ (((↑xs.length : Int) != (↑ys.length : Int)) = false → (xs.length = ys.length ∧ (noH0 fun x => none) ∧ (RowD.mk (Ty.int IntKind.u8) xs = RowD.mk (Ty.int IntKind.u8) xs ∧ RowD.mk (Ty.int IntKind.u8) ys = RowD.mk (Ty.int IntKind.u8) ys ∧ (↑xs.length : Int) = (↑xs.length : Int) ∧ (0 : Int) = (↑(0 : Nat) : Int) ∧ True) ∧ True) ∧ (eqL xs ys = true → true = eqL xs ys ∧ ([] : List RowD) = []) ∧ (eqL xs ys = false → false = eqL xs ys ∧ ([] : List RowD) = [])))
  refine ⟨fun h1 => ⟨?_, rfl⟩, fun h1 => ⟨⟨?_, rfl, ⟨rfl, rfl, rfl, rfl, trivial⟩, trivial⟩, fun h2 => ⟨h2.symm, rfl⟩, fun h2 => ⟨h2.symm, rfl⟩⟩⟩
  · refine (decide_eq_false fun he => ?_).symm
    rw [he] at h1
    simp at h1
  · have h1 : (xs.length : Int) = (ys.length : Int) := by simpa using h1
    omega
theorem ok30 : CtrOK Try.prog KK 30 (pureCtr KK ps30 spec30) := by
  refine pure_ok (C := cfgF [] Try.f30) (cfgOK (CtrsOK.nil) _) mixed (fn := Try.f30) Try.func30 (by kernel_rfl) (by kernel_rfl) (by kernel_rfl) (Λ := fun x => Λ30 x.1 x.2.1) ?_ ?_ ?_
  · rintro ⟨xs, ys, ⟨⟩⟩ hw _
    exact LoopsOK.at (by kernel_rfl) (.cons (by kernel_rfl) (LoopOK.under fun hp => loop30 xs ys (wf_slice (wf_fst hw)) hp) .nil)
  · rintro ⟨xs, ys, ⟨⟩⟩
    exact of_decide_eq_true (by kernel_rfl)
  · rintro ⟨xs, ys, ⟨⟩⟩ hw hn
    exact run30 xs ys (wf_slice (wf_fst hw))

theorem ways_same (t : Int) (free : Bool) : waysR t free 10 = waysW t free := by
  have key : ∀ t : Int, (t = 1 ∨ t = 2 ∨ t = 3) ∨ (t ≠ 1 ∧ t ≠ 2 ∧ t ≠ 3) := fun t => by omega
  rcases key t with (rfl | rfl | rfl) | ⟨h1, h2, h3⟩
  · cases free <;> rfl
  · cases free <;> rfl
  · cases free <;> rfl
  · have hn : ∀ w, freeW w t free = false := fun w => by simp [freeW, onW, h1, h2, h3]
    have hr : ∀ h, onR h t = false := fun h => by unfold onR; repeat' split
                                                  all_goals simp [h1, h2, h3]
    unfold waysW waysR
    rw [List.filter_eq_nil_iff.2 (fun w _ => by rw [hr w]; simp), List.filter_eq_nil_iff.2 (fun w _ => by rw [hn w]; simp)]
    rfl

theorem step31 (t : Int) (free : Bool)  (i : Nat) (hi : inv31 i) : (stepObl (J31 t free) inv31 (fun i => 10 - i) i (T31 t free) (evCode (cfgF [k59, k60] Try.f31) (fun _ => none) (loopN Try.f31 0) (J31 t free i)) (L31 i)).1 := by
  refine cast (by kernel_rfl) (?_ : (decide ((↑i : Int) + (1 : Int) ≤ (10 : Int)) = true → ((bif onR ((↑i : Int) + (1 : Int)) t then bif !free then true else onFreeR ((↑i : Int) + (1 : Int)) else false) = true → ((waysR t free i).length + [(↑i : Int) + (1 : Int)].length) * (1 : Nat) ≤ (70368744177664 : Nat) ∧ inv31 (i + (1 : Nat)) ∧ (10 : Nat) - (i + (1 : Nat)) < (10 : Nat) - i ∧ (t = t ∧ free = free ∧ True ∧ IntKind.u8.wrap ((↑i : Int) + (1 : Int) + (1 : Int)) = (↑(i + (1 : Nat)) : Int) + (1 : Int) ∧ True) ∧ RowD.mk (Ty.int IntKind.u8) (waysR t free i ++ [(↑i : Int) + (1 : Int)]) = RowD.mk (Ty.int IntKind.u8) (waysR t free (i + (1 : Nat))) ∧ True) ∧ ((bif onR ((↑i : Int) + (1 : Int)) t then bif !free then true else onFreeR ((↑i : Int) + (1 : Int)) else false) = false → inv31 (i + (1 : Nat)) ∧ (10 : Nat) - (i + (1 : Nat)) < (10 : Nat) - i ∧ (t = t ∧ free = free ∧ True ∧ IntKind.u8.wrap ((↑i : Int) + (1 : Int) + (1 : Int)) = (↑(i + (1 : Nat)) : Int) + (1 : Int) ∧ True) ∧ RowD.mk (Ty.int IntKind.u8) (waysR t free i) = RowD.mk (Ty.int IntKind.u8) (waysR t free (i + (1 : Nat))) ∧ True)) ∧ (decide ((↑i : Int) + (1 : Int) ≤ (10 : Int)) = false → True ∧ (True ∧ True) ∧ RowD.mk (Ty.int IntKind.u8) (waysR t free i) = RowD.mk (Ty.int IntKind.u8) (waysR t free (10 : Nat)) ∧ True))
  have hu : waysR t free (i + 1) = waysR t free i ++ (bif (bif onR ((i : Int) + 1) t then bif !free then true else onFreeR ((i : Int) + 1) else false) then [(i : Int) + 1] else []) := by
    unfold waysR
    rw [List.range_succ, List.map_append, List.filter_append]
    congr 1
    simp only [List.map_cons, List.map_nil, List.filter_cons, List.filter_nil]
    generalize onR ((i : Int) + 1) t = a
    generalize onFreeR ((i : Int) + 1) = b
    cases a <;> cases b <;> cases free <;> rfl
  have hl : (waysR t free i).length ≤ i := by
    unfold waysR
    refine Nat.le_trans (List.length_filter_le _ _) ?_
    simp
  have hi : i ≤ 10 := hi
  refine ⟨fun h1 => ?_, fun h1 => ?_⟩
  · have h1 : (i : Int) + 1 ≤ 10 := by simpa using h1
    have hwr : IntKind.u8.wrap ((i : Int) + 1 + 1) = ((i + 1 : Nat) : Int) + 1 := by rw [wrapu8 (by omega) (by omega)]; omega
    refine ⟨fun h2 => ?_, fun h2 => ?_⟩
    · rw [h2] at hu
      refine ⟨?_, (by unfold inv31; omega), by omega, ⟨rfl, rfl, trivial, hwr, trivial⟩, by rw [hu]; rfl, trivial⟩
      simp only [List.length_cons, List.length_nil]
      omega
    · rw [h2] at hu
      refine ⟨(by unfold inv31; omega), by omega, ⟨rfl, rfl, trivial, hwr, trivial⟩, by rw [hu]; simp, trivial⟩
  · have h1 : ¬ (i : Int) + 1 ≤ 10 := by simpa using h1
    have h2 : i = 10 := by omega
    subst h2
    exact ⟨trivial, ⟨trivial, trivial⟩, rfl, trivial⟩
theorem loop31 (t : Int) (free : Bool)  : LoopOK Try.prog Try.f31.ntmps (loopN Try.f31 0) (loopSum ⟨[], [12], 16⟩ (J31 t free 0) (T31 t free)) :=
  loop_by (cfgOK (.cons ok59 (.cons ok60 .nil)) _) mixed (J31 t free) (fun _ => rfl) inv31 (fun i => 10 - i) (fun _ _ => none) (fun _ _ _ _ _ h => by cases h) (T31 t free) [] [12] 0 (Nat.zero_le _) L31 (fun i hi => step31 t free  i hi)
theorem run31 (t : Int) (free : Bool)  : (evFn (cfgF [k59, k60] Try.f31) (Λ31 t free) Try.f31 (argsV ps20 (t, free, ()))).sat fun v' rows => leV v' (spec31 (t, free, ())).v ∧ rows = (spec31 (t, free, ())).rows := by
  refine cast (by kernel_rfl) (?_ : ((noH0 fun x => none) ∧ (t = t ∧ free = free ∧ True ∧ (1 : Int) = (↑(0 : Nat) : Int) + (1 : Int) ∧ True) ∧ waysR t free (0 : Nat) = [] ∧ True) ∧ (nat_lit 0 = nat_lit 0 ∧ nat_lit 0 = nat_lit 0) ∧ [RowD.mk (Ty.int IntKind.u8) (waysR t free (10 : Nat))] = [RowD.mk (Ty.int IntKind.u8) (waysW t free)])
  refine ⟨⟨rfl, ⟨rfl, rfl, trivial, rfl, trivial⟩, rfl, trivial⟩, ⟨rfl, rfl⟩, ?_⟩
  rw [ways_same]
theorem ok31 : CtrOK Try.prog KK 31 (pureCtr KK ps20 spec31) := by
  refine pure_ok (C := cfgF [k59, k60] Try.f31) (cfgOK (.cons ok59 (.cons ok60 .nil)) _) mixed (fn := Try.f31) Try.func31 (by kernel_rfl) (by kernel_rfl) (by kernel_rfl) (Λ := fun x => Λ31 x.1 x.2.1) ?_ ?_ ?_
  · rintro ⟨t, free, ⟨⟩⟩ hw _
    exact LoopsOK.at (by kernel_rfl) (.cons (by kernel_rfl) (loop31 t free) .nil)
  · rintro ⟨t, free, ⟨⟩⟩
    exact of_decide_eq_true (by kernel_rfl)
  · rintro ⟨t, free, ⟨⟩⟩ hw hn
    exact run31 t free

end Go.Proofs.Ytogdeefpidccmaa
