/- The dismissal layer: contracts. -/
import Derived.Test.YtogdeefpidccmaaFb
namespace Go.Proofs.Ytogdeefpidccmaa
open Go Go.Mir
attribute [local irreducible] Go.Mir.RT.sat Go.Mir.evFn Go.Mir.stepObl
theorem run61  : (evFn (cfgF [] Try.f61) (fun _ => none) Try.f61 (argsV ps61 ())).sat fun v' rows => leV v' (spec61 ()).v ∧ rows = (spec61 ()).rows := by
  refine cast (by kernel_rfl) (?_ : (nat_lit 0 = nat_lit 0 ∧ nat_lit 0 = nat_lit 0) ∧ [RowD.mk (Ty.nm Nm.dismissal_way) [dismissal_way.mk (0 : Int) (ByteArray.mk #[(78 : UInt8), (79 : UInt8), (84 : UInt8), (79 : UInt8), (85 : UInt8), (84 : UInt8)]) false false false false false, dismissal_way.mk (1 : Int) (ByteArray.mk #[(66 : UInt8), (79 : UInt8), (87 : UInt8), (76 : UInt8), (69 : UInt8), (68 : UInt8)]) true false false false false, dismissal_way.mk (2 : Int) (ByteArray.mk #[(67 : UInt8), (65 : UInt8), (85 : UInt8), (71 : UInt8), (72 : UInt8), (84 : UInt8)]) true false false true false, dismissal_way.mk (3 : Int) (ByteArray.mk #[(76 : UInt8), (66 : UInt8), (87 : UInt8)]) true false false false false, dismissal_way.mk (4 : Int) (ByteArray.mk #[(83 : UInt8), (84 : UInt8), (85 : UInt8), (77 : UInt8), (80 : UInt8), (69 : UInt8), (68 : UInt8)]) true true false true false, dismissal_way.mk (5 : Int) (ByteArray.mk #[(72 : UInt8), (73 : UInt8), (84 : UInt8), (87 : UInt8), (73 : UInt8), (67 : UInt8), (75 : UInt8), (69 : UInt8), (84 : UInt8)]) true true false false false, dismissal_way.mk (6 : Int) (ByteArray.mk #[(82 : UInt8), (85 : UInt8), (78 : UInt8), (79 : UInt8), (85 : UInt8), (84 : UInt8)]) true true true true true, dismissal_way.mk (7 : Int) (ByteArray.mk #[(72 : UInt8), (73 : UInt8), (84 : UInt8), (84 : UInt8), (87 : UInt8), (73 : UInt8), (67 : UInt8), (69 : UInt8)]) true false true false false, dismissal_way.mk (8 : Int) (ByteArray.mk #[(79 : UInt8), (66 : UInt8), (83 : UInt8), (84 : UInt8), (82 : UInt8), (85 : UInt8), (67 : UInt8), (84 : UInt8), (73 : UInt8), (78 : UInt8), (71 : UInt8)]) true true true false true, dismissal_way.mk (9 : Int) (ByteArray.mk #[(84 : UInt8), (73 : UInt8), (77 : UInt8), (69 : UInt8), (68 : UInt8), (79 : UInt8), (85 : UInt8), (84 : UInt8)]) false false false false false, dismissal_way.mk (10 : Int) (ByteArray.mk #[(82 : UInt8), (69 : UInt8), (84 : UInt8), (73 : UInt8), (82 : UInt8), (69 : UInt8), (68 : UInt8)]) false false false false false]] = [RowD.mk (Ty.nm Nm.dismissal_way) wtab])
  exact ⟨⟨rfl, rfl⟩, by kernel_rfl⟩
theorem ok61 : CtrOK Try.prog KK 61 (pureCtr KK ps61 spec61) := by
  refine pure_ok (C := cfgF [] Try.f61) (cfgOK CtrsOK.nil _) mixed (fn := Try.f61) Try.func61 (by kernel_rfl) (by kernel_rfl) (by kernel_rfl) (Λ := fun _ _ => none) ?_ ?_ ?_
  · exact fun _ _ _ _ _ _ _ _ h => by cases h
  · rintro ⟨⟩
    exact of_decide_eq_true (by kernel_rfl)
  · rintro ⟨⟩ _ _
    exact run61 

theorem run62 (w : dismissal_way) (t : Int) : (evFn (cfgF [] Try.f62) (fun _ => none) Try.f62 (argsV ps62 (w, t, ()))).sat fun v' rows => leV v' (spec62 (w, t, ())).v ∧ rows = (spec62 (w, t, ())).rows := by
  refine cast (by kernel_rfl) (?_ : (bif t == (1 : Int) then bif w.3 then true else bif t == (2 : Int) then bif w.4 then true else bif t == (3 : Int) then w.5 else false else bif t == (3 : Int) then w.5 else false else bif t == (2 : Int) then bif w.4 then true else bif t == (3 : Int) then w.5 else false else bif t == (3 : Int) then w.5 else false) = onW w t ∧ ([] : List RowD) = [])
  simp only [onW]; grind
theorem ok62 : CtrOK Try.prog KK 62 (pureCtr KK ps62 spec62) := by
  refine pure_ok (C := cfgF [] Try.f62) (cfgOK CtrsOK.nil _) mixed (fn := Try.f62) Try.func62 (by kernel_rfl) (by kernel_rfl) (by kernel_rfl) (Λ := fun _ _ => none) ?_ ?_ ?_
  · exact fun _ _ _ _ _ _ _ _ h => by cases h
  · rintro ⟨w, t, ⟨⟩⟩
    exact of_decide_eq_true (by kernel_rfl)
  · rintro ⟨w, t, ⟨⟩⟩ _ _
    exact run62 w t

theorem run89 (n : Int) : (evFn (cfgF [] Try.f89) (fun _ => none) Try.f89 (argsV ps89 (n, ()))).sat fun v' rows => leV v' (spec89 (n, ())).v ∧ rows = (spec89 (n, ())).rows := by
  refine cast (by kernel_rfl) (?_ : (bif decide (n ≥ (1 : Int)) then decide (n ≤ (11 : Int)) else false) = player n ∧ ([] : List RowD) = [])
  simp only [player]; grind
theorem ok89 : CtrOK Try.prog KK 89 (pureCtr KK ps89 spec89) := by
  refine pure_ok (C := cfgF [] Try.f89) (cfgOK CtrsOK.nil _) mixed (fn := Try.f89) Try.func89 (by kernel_rfl) (by kernel_rfl) (by kernel_rfl) (Λ := fun _ _ => none) ?_ ?_ ?_
  · exact fun _ _ _ _ _ _ _ _ h => by cases h
  · rintro ⟨n, ⟨⟩⟩
    exact of_decide_eq_true (by kernel_rfl)
  · rintro ⟨n, ⟨⟩⟩ _ _
    exact run89 n

theorem run60 (n : Int) : (evFn (cfgF [] Try.f60) (fun _ => none) Try.f60 (argsV ps57 (n, ()))).sat fun v' rows => leV v' (spec60 (n, ())).v ∧ rows = (spec60 (n, ())).rows := by
  refine cast (by kernel_rfl) (?_ : (bif n == (6 : Int) then true else bif n == (7 : Int) then true else n == (8 : Int)) = onFreeR n ∧ ([] : List RowD) = [])
  simp only [onFreeR]; grind
theorem ok60 : CtrOK Try.prog KK 60 (pureCtr KK ps57 spec60) := by
  refine pure_ok (C := cfgF [] Try.f60) (cfgOK CtrsOK.nil _) mixed (fn := Try.f60) Try.func60 (by kernel_rfl) (by kernel_rfl) (by kernel_rfl) (Λ := fun _ _ => none) ?_ ?_ ?_
  · exact fun _ _ _ _ _ _ _ _ h => by cases h
  · rintro ⟨n, ⟨⟩⟩
    exact of_decide_eq_true (by kernel_rfl)
  · rintro ⟨n, ⟨⟩⟩ _ _
    exact run60 n

theorem run59 (n : Int) (t : Int) : (evFn (cfgF [] Try.f59) (fun _ => none) Try.f59 (argsV psOn (n, t, ()))).sat fun v' rows => leV v' (spec59 (n, t, ())).v ∧ rows = (spec59 (n, t, ())).rows := by
  refine cast (by kernel_rfl) (?_ : ((bif n == (1 : Int) then n == (1 : Int) else bif n == (2 : Int) then n == (2 : Int) else n == (3 : Int)) = true → (t == (1 : Int)) = onR n t ∧ ([] : List RowD) = []) ∧ ((bif n == (1 : Int) then n == (1 : Int) else bif n == (2 : Int) then n == (2 : Int) else n == (3 : Int)) = false → ((bif n == (4 : Int) then n == (4 : Int) else n == (5 : Int)) = true → (bif t == (1 : Int) then true else t == (2 : Int)) = onR n t ∧ ([] : List RowD) = []) ∧ ((bif n == (4 : Int) then n == (4 : Int) else n == (5 : Int)) = false → ((n == (7 : Int)) = true → (bif t == (1 : Int) then true else t == (3 : Int)) = onR n t ∧ ([] : List RowD) = []) ∧ ((n == (7 : Int)) = false → ((bif n == (6 : Int) then n == (6 : Int) else n == (8 : Int)) = true → (bif t == (1 : Int) then true else bif t == (2 : Int) then true else t == (3 : Int)) = onR n t ∧ ([] : List RowD) = []) ∧ ((bif n == (6 : Int) then n == (6 : Int) else n == (8 : Int)) = false → false = onR n t ∧ ([] : List RowD) = [])))))
  simp only [onR]; grind
theorem ok59 : CtrOK Try.prog KK 59 (pureCtr KK psOn spec59) := by
  refine pure_ok (C := cfgF [] Try.f59) (cfgOK CtrsOK.nil _) mixed (fn := Try.f59) Try.func59 (by kernel_rfl) (by kernel_rfl) (by kernel_rfl) (Λ := fun _ _ => none) ?_ ?_ ?_
  · exact fun _ _ _ _ _ _ _ _ h => by cases h
  · rintro ⟨n, t, ⟨⟩⟩
    exact of_decide_eq_true (by kernel_rfl)
  · rintro ⟨n, t, ⟨⟩⟩ _ _
    exact run59 n t

theorem run29 (n : Int) : (evFn (cfgF [] Try.f29) (fun _ => none) Try.f29 (argsV ps57 (n, ()))).sat fun v' rows => leV v' (spec29 (n, ())).v ∧ rows = (spec29 (n, ())).rows := by
  refine cast (by kernel_rfl) (?_ : ((bif n == (2 : Int) then true else bif n == (4 : Int) then true else n == (6 : Int)) = oneR n ∧ (bif n == (2 : Int) then true else bif n == (4 : Int) then true else n == (6 : Int)) = oneR n ∧ (n == (6 : Int)) = isRun n ∧ True) ∧ ([] : List RowD) = [])
  simp only [oneR, isRun]; grind
theorem ok29 : CtrOK Try.prog KK 29 (pureCtr KK ps57 spec29) := by
  refine pure_ok (C := cfgF [] Try.f29) (cfgOK CtrsOK.nil _) mixed (fn := Try.f29) Try.func29 (by kernel_rfl) (by kernel_rfl) (by kernel_rfl) (Λ := fun _ _ => none) ?_ ?_ ?_
  · exact fun _ _ _ _ _ _ _ _ h => by cases h
  · rintro ⟨n, ⟨⟩⟩
    exact of_decide_eq_true (by kernel_rfl)
  · rintro ⟨n, ⟨⟩⟩ _ _
    exact run29 n

theorem wlen : wtab.length = 11 := rfl

theorem find_at {α : Type} (p : α → Bool) : ∀ (xs : List α) (i : Nat) (x : α), xs[i]? = some x → p x = true → (∀ y ∈ xs.take i, p y = false) → xs.find? p = some x
  | [], _, _, h, _, _ => by simp at h
  | y :: xs, 0, x, h, hp, _ => by simp at h; subst h; simp [hp]
  | y :: xs, i + 1, x, h, hp, hn => by
    have h0 : p y = false := hn y (by simp)
    rw [List.find?_cons_of_neg (by simp [h0])]
    exact find_at p xs i x (by simpa using h) hp (fun z hz => hn z (by simp [hz]))

theorem getD_at {α : Type} {xs : List α} {i : Nat} (z : α) (h : i < xs.length) : xs[i]? = some (xs.getD i z) := by
  rw [List.getD_eq_getElem?_getD, List.getElem?_eq_getElem h]; rfl

theorem step57 (h : Int) (i : Nat) (hi : inv57 h i) : (stepObl (J57 h) (inv57 h) (fun i => 11 - i) i (T57 h) (evCode (cfgF [k61] Try.f57) (fun _ => none) (loopN Try.f57 0) (J57 h i)) (L57 i)).1 := by
  refine cast (by kernel_rfl) (?_ : (decide ((↑i : Int) < (↑wtab.length : Int)) = true → ((0 : Int) ≤ (↑i : Int) ∧ (↑i : Int) < (↑wtab.length : Int)) ∧ (((wtab.getD (↑i : Int).toNat (dflt (Ty.nm Nm.dismissal_way))).1 == h) = true → (wtab.any fun w => w.1 == h) = true ∧ (True ∧ True) ∧ ((wtab.getD (↑i : Int).toNat (dflt (Ty.nm Nm.dismissal_way))).1 = (ofW h).1 ∧ (wtab.getD (↑i : Int).toNat (dflt (Ty.nm Nm.dismissal_way))).2 = (ofW h).2 ∧ (wtab.getD (↑i : Int).toNat (dflt (Ty.nm Nm.dismissal_way))).3 = (ofW h).3 ∧ (wtab.getD (↑i : Int).toNat (dflt (Ty.nm Nm.dismissal_way))).4 = (ofW h).4 ∧ (wtab.getD (↑i : Int).toNat (dflt (Ty.nm Nm.dismissal_way))).5 = (ofW h).5 ∧ (wtab.getD (↑i : Int).toNat (dflt (Ty.nm Nm.dismissal_way))).6 = (ofW h).6 ∧ (wtab.getD (↑i : Int).toNat (dflt (Ty.nm Nm.dismissal_way))).7 = (ofW h).7 ∧ True) ∧ True) ∧ (((wtab.getD (↑i : Int).toNat (dflt (Ty.nm Nm.dismissal_way))).1 == h) = false → inv57 h (i + (1 : Nat)) ∧ (11 : Nat) - (i + (1 : Nat)) < (11 : Nat) - i ∧ (h = h ∧ True ∧ True ∧ (↑wtab.length : Int) = (↑wtab.length : Int) ∧ IntKind.i64.wrap ((↑i : Int) + (1 : Int)) = (↑(i + (1 : Nat)) : Int) ∧ True) ∧ RowD.mk (Ty.nm Nm.dismissal_way) wtab = RowD.mk (Ty.nm Nm.dismissal_way) wtab ∧ ((0 : Int) = (0 : Int) ∧ ByteArray.empty = ByteArray.empty ∧ false = false ∧ false = false ∧ false = false ∧ false = false ∧ false = false ∧ True) ∧ True)) ∧ (decide ((↑i : Int) < (↑wtab.length : Int)) = false → (wtab.any fun w => w.1 == h) = false ∧ (True ∧ True) ∧ ((0 : Int) = (0 : Int) ∧ ByteArray.empty = ByteArray.empty ∧ false = false ∧ false = false ∧ false = false ∧ false = false ∧ false = false ∧ True) ∧ True))
  have e : (i : Int).toNat = i := by simp
  rw [e]
  generalize hw : wtab.getD i (dflt (Ty.nm Nm.dismissal_way)) = w
  refine ⟨fun h1 => ?_, fun h1 => ?_⟩
  · have h1 : i < wtab.length := by simpa using h1
    have h3 : wtab[i]? = some w := by rw [← hw]; exact getD_at _ h1
    refine ⟨⟨by omega, by omega⟩, fun h2 => ?_, fun h2 => ?_⟩
    · have h4 : ofW h = w := by
        unfold ofW
        rw [find_at (fun w => w.how == h) wtab i w h3 h2 hi.2]; rfl
      have h5 : (wtab.any fun w => w.1 == h) = true := List.any_eq_true.2 ⟨w, List.mem_of_getElem? h3, h2⟩
      rw [h4]
      exact ⟨h5, ⟨trivial, trivial⟩, ⟨rfl, rfl, rfl, rfl, rfl, rfl, rfl, trivial⟩, trivial⟩
    · rw [wlen] at h1
      refine ⟨⟨by omega, fun y hy => ?_⟩, by omega, ⟨rfl, trivial, trivial, rfl, ?_, trivial⟩, rfl, ⟨rfl, rfl, rfl, rfl, rfl, rfl, rfl, trivial⟩, trivial⟩
      · rw [List.take_add_one, h3] at hy
        rcases List.mem_append.1 hy with hy | hy
        · exact hi.2 y hy
        · simp at hy; subst hy; exact h2
      · rw [wrap64 (by omega) (by omega)]; omega
  · have h1 : wtab.length ≤ i := by simpa using h1
    refine ⟨?_, ⟨trivial, trivial⟩, ⟨rfl, rfl, rfl, rfl, rfl, rfl, rfl, trivial⟩, trivial⟩
    rw [List.any_eq_false]
    intro x hx
    have := hi.2 x (by rw [List.take_of_length_le h1]; exact hx)
    simpa using this

theorem loops57 (h : Int) : LoopsOK Try.prog Try.f57.ntmps [loopN Try.f57 0] (Λ57 h) :=
  .cons (L := loopSum ⟨[], [], 16⟩ (J57 h 0) (T57 h)) (by kernel_rfl) (loop_by (cfgOK (.cons ok61 .nil) _) mixed (J57 h) (fun _ => rfl) (inv57 h) (fun i => 11 - i) (fun _ _ => none) (fun _ _ _ _ _ h => by cases h) (T57 h) [] [] 0 ⟨Nat.zero_le _, by simp⟩ L57 (step57 h)) .nil

theorem run57 (h : Int) : (evFn (cfgF [k61] Try.f57) (Λ57 h) Try.f57 (argsV ps57 (h, ()))).sat fun v' rows => leV v' (spec57 (h, ())).v ∧ rows = (spec57 (h, ())).rows := by
  refine cast (by kernel_rfl) (?_ : ((noH0 fun x => none) ∧ (h = h ∧ True ∧ True ∧ (↑wtab.length : Int) = (↑wtab.length : Int) ∧ (0 : Int) = (↑(0 : Nat) : Int) ∧ True) ∧ RowD.mk (Ty.nm Nm.dismissal_way) wtab = RowD.mk (Ty.nm Nm.dismissal_way) wtab ∧ ((0 : Int) = (0 : Int) ∧ ByteArray.empty = ByteArray.empty ∧ false = false ∧ false = false ∧ false = false ∧ false = false ∧ false = false ∧ True) ∧ True) ∧ ((wtab.any fun w => w.1 == h) = true → ((ofW h).1 = (ofW h).1 ∧ (ofW h).2 = (ofW h).2 ∧ (ofW h).3 = (ofW h).3 ∧ (ofW h).4 = (ofW h).4 ∧ (ofW h).5 = (ofW h).5 ∧ (ofW h).6 = (ofW h).6 ∧ (ofW h).7 = (ofW h).7 ∧ True) ∧ ([] : List RowD) = []) ∧ ((wtab.any fun w => w.1 == h) = false → ((0 : Int) = (ofW h).1 ∧ ByteArray.empty = (ofW h).2 ∧ false = (ofW h).3 ∧ false = (ofW h).4 ∧ false = (ofW h).5 ∧ false = (ofW h).6 ∧ false = (ofW h).7 ∧ True) ∧ ([] : List RowD) = []))
  refine ⟨⟨rfl, ⟨rfl, trivial, trivial, rfl, rfl, trivial⟩, rfl, ⟨rfl, rfl, rfl, rfl, rfl, rfl, rfl, trivial⟩, trivial⟩, fun _ => ⟨⟨rfl, rfl, rfl, rfl, rfl, rfl, rfl, trivial⟩, rfl⟩, fun h1 => ?_⟩
  have h2 : ofW h = dismissal_way.zero := by
    unfold ofW
    rw [List.find?_eq_none.2]
    · rfl
    · intro x hx hp
      have := (List.any_eq_false.1 h1) x hx
      exact this hp
  rw [h2]
  exact ⟨⟨rfl, rfl, rfl, rfl, rfl, rfl, rfl, trivial⟩, rfl⟩
theorem ok57 : CtrOK Try.prog KK 57 (pureCtr KK ps57 spec57) := by
  refine pure_ok (C := cfgF [k61] Try.f57) (cfgOK (.cons ok61 .nil) _) mixed (fn := Try.f57) Try.func57 (by kernel_rfl) (by kernel_rfl) (by kernel_rfl) (Λ := fun x => Λ57 x.1) ?_ ?_ ?_
  · rintro ⟨h, ⟨⟩⟩ _ _
    exact LoopsOK.at (by kernel_rfl) (loops57 h)
  · rintro ⟨h, ⟨⟩⟩
    exact of_decide_eq_true (by kernel_rfl)
  · rintro ⟨h, ⟨⟩⟩ _ _
    exact run57 h

theorem freeW_eq (w : dismissal_way) (t : Int) (free : Bool) : (bif onW w t then bif !free then true else bif w.1 == (6 : Int) then true else bif w.1 == (7 : Int) then true else w.1 == (8 : Int) else false) = freeW w t free := by
  simp only [freeW]; cases onW w t <;> cases free <;> simp <;> grind

theorem waysUp_succ (t : Int) (free : Bool) (i : Nat) {w : dismissal_way} (h : wtab[i]? = some w) : waysUp t free (i + 1) = waysUp t free i ++ (bif freeW w t free then [w.how] else []) := by
  unfold waysUp
  rw [List.take_add_one, h, List.filter_append, List.map_append]
  congr 1
  cases hf : freeW w t free <;> simp [hf]

theorem waysUp_len (t : Int) (free : Bool) (i : Nat) : (waysUp t free i).length ≤ 11 := by
  unfold waysUp
  rw [List.length_map]
  have h1 := List.length_filter_le (fun w => freeW w t free) (wtab.take i)
  have h2 : (wtab.take i).length ≤ wtab.length := List.length_take_le' _ _
  rw [wlen] at h2
  omega

theorem step20 (t : Int) (free : Bool) (i : Nat) (_ : inv20 i) : (stepObl (J20 t free) inv20 (fun i => 11 - i) i (T20 t free) (evCode (cfgF [k61, k62] Try.f20) (fun _ => none) (loopN Try.f20 0) (J20 t free i)) (L20 i)).1 := by
  refine cast (by kernel_rfl) (?_ : (decide ((↑i : Int) < (↑wtab.length : Int)) = true → ((0 : Int) ≤ (↑i : Int) ∧ (↑i : Int) < (↑wtab.length : Int)) ∧ ((bif onW (wtab.getD (↑i : Int).toNat (dflt (Ty.nm Nm.dismissal_way))) t then bif !free then true else bif (wtab.getD (↑i : Int).toNat (dflt (Ty.nm Nm.dismissal_way))).1 == (6 : Int) then true else bif (wtab.getD (↑i : Int).toNat (dflt (Ty.nm Nm.dismissal_way))).1 == (7 : Int) then true else (wtab.getD (↑i : Int).toNat (dflt (Ty.nm Nm.dismissal_way))).1 == (8 : Int) else false) = true → ((waysUp t free i).length + [(wtab.getD (↑i : Int).toNat (dflt (Ty.nm Nm.dismissal_way))).1].length) * (1 : Nat) ≤ (70368744177664 : Nat) ∧ inv20 (i + (1 : Nat)) ∧ (11 : Nat) - (i + (1 : Nat)) < (11 : Nat) - i ∧ (t = t ∧ free = free ∧ True ∧ True ∧ (↑wtab.length : Int) = (↑wtab.length : Int) ∧ IntKind.i64.wrap ((↑i : Int) + (1 : Int)) = (↑(i + (1 : Nat)) : Int) ∧ True) ∧ RowD.mk (Ty.nm Nm.dismissal_way) wtab = RowD.mk (Ty.nm Nm.dismissal_way) wtab ∧ RowD.mk (Ty.int IntKind.u8) (waysUp t free i ++ [(wtab.getD (↑i : Int).toNat (dflt (Ty.nm Nm.dismissal_way))).1]) = RowD.mk (Ty.int IntKind.u8) (waysUp t free (i + (1 : Nat))) ∧ True) ∧ ((bif onW (wtab.getD (↑i : Int).toNat (dflt (Ty.nm Nm.dismissal_way))) t then bif !free then true else bif (wtab.getD (↑i : Int).toNat (dflt (Ty.nm Nm.dismissal_way))).1 == (6 : Int) then true else bif (wtab.getD (↑i : Int).toNat (dflt (Ty.nm Nm.dismissal_way))).1 == (7 : Int) then true else (wtab.getD (↑i : Int).toNat (dflt (Ty.nm Nm.dismissal_way))).1 == (8 : Int) else false) = false → inv20 (i + (1 : Nat)) ∧ (11 : Nat) - (i + (1 : Nat)) < (11 : Nat) - i ∧ (t = t ∧ free = free ∧ True ∧ True ∧ (↑wtab.length : Int) = (↑wtab.length : Int) ∧ IntKind.i64.wrap ((↑i : Int) + (1 : Int)) = (↑(i + (1 : Nat)) : Int) ∧ True) ∧ RowD.mk (Ty.nm Nm.dismissal_way) wtab = RowD.mk (Ty.nm Nm.dismissal_way) wtab ∧ RowD.mk (Ty.int IntKind.u8) (waysUp t free i) = RowD.mk (Ty.int IntKind.u8) (waysUp t free (i + (1 : Nat))) ∧ True)) ∧ (decide ((↑i : Int) < (↑wtab.length : Int)) = false → True ∧ (True ∧ True) ∧ RowD.mk (Ty.int IntKind.u8) (waysUp t free i) = RowD.mk (Ty.int IntKind.u8) (waysW t free) ∧ True))
  have e : (i : Int).toNat = i := by simp
  rw [e]
  generalize hw : wtab.getD i (dflt (Ty.nm Nm.dismissal_way)) = w
  rw [freeW_eq]
  refine ⟨fun h1 => ?_, fun h1 => ?_⟩
  · have h1 : i < wtab.length := by simpa using h1
    have h3 : wtab[i]? = some w := by rw [← hw]; exact getD_at _ h1
    have hu := waysUp_succ t free i h3
    rw [wlen] at h1
    have hwr : IntKind.i64.wrap ((i : Int) + 1) = ((i + 1 : Nat) : Int) := by rw [wrap64 (by omega) (by omega)]; omega
    refine ⟨⟨by omega, by rw [wlen]; omega⟩, fun h2 => ?_, fun h2 => ?_⟩
    · rw [h2] at hu
      refine ⟨?_, (by unfold inv20; omega), by omega, ⟨rfl, rfl, trivial, trivial, rfl, hwr, trivial⟩, rfl, by rw [hu]; rfl, trivial⟩
      have := waysUp_len t free i
      simp only [List.length_cons, List.length_nil]
      omega
    · rw [h2] at hu
      refine ⟨(by unfold inv20; omega), by omega, ⟨rfl, rfl, trivial, trivial, rfl, hwr, trivial⟩, rfl, by rw [hu]; simp, trivial⟩
  · have h1 : wtab.length ≤ i := by simpa using h1
    have hu : waysUp t free i = waysW t free := by unfold waysUp waysW; rw [List.take_of_length_le h1]
    exact ⟨trivial, ⟨trivial, trivial⟩, by rw [hu], trivial⟩

theorem loops20 (t : Int) (free : Bool) : LoopsOK Try.prog Try.f20.ntmps [loopN Try.f20 0] (Λ20 t free) :=
  .cons (L := loopSum ⟨[], [16], 20⟩ (J20 t free 0) (T20 t free)) (by kernel_rfl) (loop_by (cfgOK (.cons ok61 (.cons ok62 .nil)) _) mixed (J20 t free) (fun _ => rfl) inv20 (fun i => 11 - i) (fun _ _ => none) (fun _ _ _ _ _ h => by cases h) (T20 t free) [] [16] 0 (Nat.zero_le _) L20 (step20 t free)) .nil

theorem run20 (t : Int) (free : Bool) : (evFn (cfgF [k61, k62] Try.f20) (Λ20 t free) Try.f20 (argsV ps20 (t, free, ()))).sat fun v' rows => leV v' (spec20 (t, free, ())).v ∧ rows = (spec20 (t, free, ())).rows := by
  refine cast (by kernel_rfl) (?_ : ((noH0 fun x => none) ∧ (t = t ∧ free = free ∧ True ∧ True ∧ (↑wtab.length : Int) = (↑wtab.length : Int) ∧ (0 : Int) = (↑(0 : Nat) : Int) ∧ True) ∧ RowD.mk (Ty.nm Nm.dismissal_way) wtab = RowD.mk (Ty.nm Nm.dismissal_way) wtab ∧ waysUp t free (0 : Nat) = [] ∧ True) ∧ (nat_lit 0 = nat_lit 0 ∧ nat_lit 0 = nat_lit 0) ∧ [RowD.mk (Ty.int IntKind.u8) (waysW t free)] = [RowD.mk (Ty.int IntKind.u8) (waysW t free)])
  exact ⟨⟨rfl, ⟨rfl, rfl, trivial, trivial, rfl, rfl, trivial⟩, rfl, rfl, trivial⟩, ⟨rfl, rfl⟩, rfl⟩
theorem ok20 : CtrOK Try.prog KK 20 (pureCtr KK ps20 spec20) := by
  refine pure_ok (C := cfgF [k61, k62] Try.f20) (cfgOK (.cons ok61 (.cons ok62 .nil)) _) mixed (fn := Try.f20) Try.func20 (by kernel_rfl) (by kernel_rfl) (by kernel_rfl) (Λ := fun x => Λ20 x.1 x.2.1) ?_ ?_ ?_
  · rintro ⟨t, free, ⟨⟩⟩ _ _
    exact LoopsOK.at (by kernel_rfl) (loops20 t free)
  · rintro ⟨t, free, ⟨⟩⟩
    exact of_decide_eq_true (by kernel_rfl)
  · rintro ⟨t, free, ⟨⟩⟩ _ _
    exact run20 t free

theorem idx_has (xs : List Int) (v i : Int) (hi : 0 ≤ i) : decide (idx xs v i ≥ 0) = hasI xs v := by
  induction xs generalizing i with
  | nil => simp [idx, hasI]
  | cons x xs ih =>
    by_cases hv : v = x
    · subst hv; simp [idx, hasI, hi]
    · have h1 : (v == x) = false := by simpa using hv
      have h2 := ih (i + 1) (by omega)
      simp only [idx, h1, cond_false]
      rw [h2]
      simp [hasI, hv]

theorem run21 (xs : List Int) (v : Int) : (evFn (cfgF [k63] Try.f21) (fun _ => none) Try.f21 (argsV ps21 (xs, v, ()))).sat fun v' rows => leV v' (spec21 (xs, v, ())).v ∧ rows = (spec21 (xs, v, ())).rows := by
  refine cast (by kernel_rfl) (?_ : decide (idx xs v (0 : Int) ≥ (0 : Int)) = hasI xs v ∧ ([] : List RowD) = [])
  exact ⟨idx_has xs v 0 (Int.le_refl 0), rfl⟩
theorem ok21 : CtrOK Try.prog KK 21 (pureCtr KK ps21 spec21) := by
  refine pure_ok (C := cfgF [k63] Try.f21) (cfgOK (.cons ok63 .nil) _) mixed (fn := Try.f21) Try.func21 (by kernel_rfl) (by kernel_rfl) (by kernel_rfl) (Λ := fun _ _ => none) ?_ ?_ ?_
  · exact fun _ _ _ _ _ _ _ _ h => by cases h
  · rintro ⟨xs, v, ⟨⟩⟩
    exact of_decide_eq_true (by kernel_rfl)
  · rintro ⟨xs, v, ⟨⟩⟩ _ _
    exact run21 xs v

theorem run58 (d : Delivery) (w : dismissal_way) : (evFn (cfgF [k89] Try.f58) (fun _ => none) Try.f58 (argsV ps58 (d, w, ()))).sat fun v' rows => leV v' (spec58 (d, w, ())).v ∧ rows = (spec58 (d, w, ())).rows := by
  refine cast (by kernel_rfl) (?_ : ((bif !w.6 == player d.9 then true else bif !w.6 then d.9 != (0 : Int) else false) = true → false = fieldersW d w ∧ ([] : List RowD) = []) ∧ ((bif !w.6 == player d.9 then true else bif !w.6 then d.9 != (0 : Int) else false) = false → (bif d.10 == (0 : Int) then true else bif d.7 == (6 : Int) then bif player d.10 then d.10 != d.9 else false else false) = fieldersW d w ∧ ([] : List RowD) = []))
  simp only [fieldersW]; grind
theorem ok58 : CtrOK Try.prog KK 58 (pureCtr KK ps58 spec58) := by
  refine pure_ok (C := cfgF [k89] Try.f58) (cfgOK (.cons ok89 .nil) _) mixed (fn := Try.f58) Try.func58 (by kernel_rfl) (by kernel_rfl) (by kernel_rfl) (Λ := fun _ _ => none) ?_ ?_ ?_
  · exact fun _ _ _ _ _ _ _ _ h => by cases h
  · rintro ⟨d, w, ⟨⟩⟩
    exact of_decide_eq_true (by kernel_rfl)
  · rintro ⟨d, w, ⟨⟩⟩ _ _
    exact run58 d w

theorem run17 (d : Delivery) (free : Bool) : (evFn (cfgF [k57, k20, k21, k58] Try.f17) (fun _ => none) Try.f17 (argsV psP (d, free, ()))).sat fun v' rows => leV v' (spec17 (d, free, ())).v ∧ rows = (spec17 (d, free, ())).rows := by
  refine cast (by kernel_rfl) (?_ : ((d.7 == (0 : Int)) = true → ((d.8 != (0 : Int)) = true → (14 : Int) = possibleW d free ∧ ([] : List RowD) = []) ∧ ((d.8 != (0 : Int)) = false → ((bif d.9 != (0 : Int) then true else bif d.10 != (0 : Int) then true else d.11) = true → (15 : Int) = possibleW d free ∧ ([] : List RowD) = []) ∧ ((bif d.9 != (0 : Int) then true else bif d.10 != (0 : Int) then true else d.11) = false → (0 : Int) = possibleW d free ∧ ([] : List RowD) = []))) ∧ ((d.7 == (0 : Int)) = false → ((!hasI (waysW d.1 free) d.7) = true → (13 : Int) = possibleW d free ∧ ([] : List RowD) = []) ∧ ((!hasI (waysW d.1 free) d.7) = false → ((bif !bif d.7 == (6 : Int) then true else d.7 == (8 : Int) then bif d.2 != (0 : Int) then true else d.3 != (0 : Int) else false) = true → (12 : Int) = possibleW d free ∧ ([] : List RowD) = []) ∧ ((bif !bif d.7 == (6 : Int) then true else d.7 == (8 : Int) then bif d.2 != (0 : Int) then true else d.3 != (0 : Int) else false) = false → ((bif d.8 != (1 : Int) then bif d.8 != (2 : Int) then true else !(ofW d.7).7 else false) = true → (14 : Int) = possibleW d free ∧ ([] : List RowD) = []) ∧ ((bif d.8 != (1 : Int) then bif d.8 != (2 : Int) then true else !(ofW d.7).7 else false) = false → ((!fieldersW d (ofW d.7)) = true → (15 : Int) = possibleW d free ∧ ([] : List RowD) = []) ∧ ((!fieldersW d (ofW d.7)) = false → ((bif d.11 then bif d.7 != (2 : Int) then d.7 != (6 : Int) else false else false) = true → (18 : Int) = possibleW d free ∧ ([] : List RowD) = []) ∧ ((bif d.11 then bif d.7 != (2 : Int) then d.7 != (6 : Int) else false else false) = false → (0 : Int) = possibleW d free ∧ ([] : List RowD) = [])))))))
  simp only [possibleW, hasI]
  repeat' first | refine And.intro ?_ ?_ | intro _
  all_goals grind
theorem ok17 : CtrOK Try.prog KK 17 (pureCtr KK psP spec17) := by
  refine pure_ok (C := cfgF [k57, k20, k21, k58] Try.f17) (cfgOK (.cons ok57 (.cons ok20 (.cons ok21 (.cons ok58 .nil)))) _) mixed (fn := Try.f17) Try.func17 (by kernel_rfl) (by kernel_rfl) (by kernel_rfl) (Λ := fun _ _ => none) ?_ ?_ ?_
  · exact fun _ _ _ _ _ _ _ _ h => by cases h
  · rintro ⟨d, free, ⟨⟩⟩
    exact of_decide_eq_true (by kernel_rfl)
  · rintro ⟨d, free, ⟨⟩⟩ _ _
    exact run17 d free

theorem run18 (d : Delivery) (free : Bool) : (evFn (cfgF [k29, k59, k60] Try.f18) (fun _ => none) Try.f18 (argsV psP (d, free, ()))).sat fun v' rows => leV v' (spec18 (d, free, ())).v ∧ rows = (spec18 (d, free, ())).rows := by
  refine cast (by kernel_rfl) (?_ : ((d.7 == (0 : Int)) = true → ((d.8 != (0 : Int)) = true → (14 : Int) = possibleR d free ∧ ([] : List RowD) = []) ∧ ((d.8 != (0 : Int)) = false → ((bif d.9 != (0 : Int) then true else bif d.10 != (0 : Int) then true else d.11) = true → (15 : Int) = possibleR d free ∧ ([] : List RowD) = []) ∧ ((bif d.9 != (0 : Int) then true else bif d.10 != (0 : Int) then true else d.11) = false → (0 : Int) = possibleR d free ∧ ([] : List RowD) = []))) ∧ ((d.7 == (0 : Int)) = false → ((bif !onR d.7 d.1 then true else bif free then !onFreeR d.7 else false) = true → (13 : Int) = possibleR d free ∧ ([] : List RowD) = []) ∧ ((bif !onR d.7 d.1 then true else bif free then !onFreeR d.7 else false) = false → ((bif !bif d.7 == (6 : Int) then true else d.7 == (8 : Int) then bif d.2 != (0 : Int) then true else d.3 != (0 : Int) else false) = true → (12 : Int) = possibleR d free ∧ ([] : List RowD) = []) ∧ ((bif !bif d.7 == (6 : Int) then true else d.7 == (8 : Int) then bif d.2 != (0 : Int) then true else d.3 != (0 : Int) else false) = false → ((bif d.8 != (1 : Int) then bif d.8 == (2 : Int) then !bif d.7 == (6 : Int) then true else d.7 == (8 : Int) else !false else false) = true → (14 : Int) = possibleR d free ∧ ([] : List RowD) = []) ∧ ((bif d.8 != (1 : Int) then bif d.8 == (2 : Int) then !bif d.7 == (6 : Int) then true else d.7 == (8 : Int) else !false else false) = false → ((bif oneR d.7 then bif decide (d.9 < (1 : Int)) then true else bif decide (d.9 > (11 : Int)) then true else bif !oneR d.7 then d.9 != (0 : Int) else false else bif !oneR d.7 then d.9 != (0 : Int) else false) = true → (15 : Int) = possibleR d free ∧ ([] : List RowD) = []) ∧ ((bif oneR d.7 then bif decide (d.9 < (1 : Int)) then true else bif decide (d.9 > (11 : Int)) then true else bif !oneR d.7 then d.9 != (0 : Int) else false else bif !oneR d.7 then d.9 != (0 : Int) else false) = false → ((bif d.10 != (0 : Int) then bif !isRun d.7 then true else bif decide (d.10 < (1 : Int)) then true else bif decide (d.10 > (11 : Int)) then true else d.10 == d.9 else false) = true → (15 : Int) = possibleR d free ∧ ([] : List RowD) = []) ∧ ((bif d.10 != (0 : Int) then bif !isRun d.7 then true else bif decide (d.10 < (1 : Int)) then true else bif decide (d.10 > (11 : Int)) then true else d.10 == d.9 else false) = false → ((bif d.11 then bif d.7 != (2 : Int) then d.7 != (6 : Int) else false else false) = true → (18 : Int) = possibleR d free ∧ ([] : List RowD) = []) ∧ ((bif d.11 then bif d.7 != (2 : Int) then d.7 != (6 : Int) else false else false) = false → (0 : Int) = possibleR d free ∧ ([] : List RowD) = []))))))))
  simp only [possibleR, isRun, Bool.cond_true_left, Bool.cond_false_right, Bool.not_false]
  repeat' first | refine And.intro ?_ ?_ | intro _
  all_goals first | rfl | (simp_all; done) | grind
theorem ok18 : CtrOK Try.prog KK 18 (pureCtr KK psP spec18) := by
  refine pure_ok (C := cfgF [k29, k59, k60] Try.f18) (cfgOK (.cons ok29 (.cons ok59 (.cons ok60 .nil))) _) mixed (fn := Try.f18) Try.func18 (by kernel_rfl) (by kernel_rfl) (by kernel_rfl) (Λ := fun _ _ => none) ?_ ?_ ?_
  · exact fun _ _ _ _ _ _ _ _ h => by cases h
  · rintro ⟨d, free, ⟨⟩⟩
    exact of_decide_eq_true (by kernel_rfl)
  · rintro ⟨d, free, ⟨⟩⟩ _ _
    exact run18 d free

theorem run25 (h : Int) : (evFn (cfgF [k57] Try.f25) (fun _ => none) Try.f25 (argsV ps57 (h, ()))).sat fun v' rows => leV v' (spec25 (h, ())).v ∧ rows = (spec25 (h, ())).rows := by
  refine cast (by kernel_rfl) (?_ : (ofW h).2 = (ofW h).2 ∧ ([] : List RowD) = [])
  exact ⟨rfl, rfl⟩
theorem ok25 : CtrOK Try.prog KK 25 (pureCtr KK ps57 spec25) := by
  refine pure_ok (C := cfgF [k57] Try.f25) (cfgOK (.cons ok57 .nil) _) mixed (fn := Try.f25) Try.func25 (by kernel_rfl) (by kernel_rfl) (by kernel_rfl) (Λ := fun _ _ => none) ?_ ?_ ?_
  · exact fun _ _ _ _ _ _ _ _ h => by cases h
  · rintro ⟨h, ⟨⟩⟩
    exact of_decide_eq_true (by kernel_rfl)
  · rintro ⟨h, ⟨⟩⟩ _ _
    exact run25 h

theorem run16  : (evFn (cfgF [k20, k17, k25] Try.f16) (fun _ => none) Try.f16 (argsV ps61 ())).sat fun v' rows => leV v' (spec16 ()).v ∧ rows = (spec16 ()).rows := by
  refine conj_sat (cast (by kernel_rfl) (?_ : ((0 : Int) ≤ (0 : Int) ∧ (0 : Int) < (↑(waysW (2 : Int) true).length : Int)) ∧ ((0 : Int) ≤ (1 : Int) ∧ (1 : Int) < (↑(waysW (2 : Int) true).length : Int)) ∧ (bif (↑(waysW (2 : Int) true).length : Int) == (2 : Int) then bif (waysW (2 : Int) true).getD (Int.toNat (0 : Int)) (dflt (Ty.int IntKind.u8)) == (6 : Int) then bif (waysW (2 : Int) true).getD (Int.toNat (1 : Int)) (dflt (Ty.int IntKind.u8)) == (8 : Int) then bif possibleW (Delivery.mk (1 : Int) (0 : Int) (0 : Int) (0 : Int) (0 : Int) false (1 : Int) (1 : Int) (0 : Int) (0 : Int) false (0 : Int)) false == (0 : Int) then bif possibleW (Delivery.mk (3 : Int) (0 : Int) (0 : Int) (0 : Int) (0 : Int) false (1 : Int) (1 : Int) (0 : Int) (0 : Int) false (0 : Int)) false == (13 : Int) then (ofW (3 : Int)).2.toList == (ByteArray.mk #[(76 : UInt8), (66 : UInt8), (87 : UInt8)]).toList else false else false else false else false else false) = true ∧ ([] : List RowD) = []))
  exact ⟨⟨of_decide_eq_true (by kernel_rfl), of_decide_eq_true (by kernel_rfl)⟩, ⟨of_decide_eq_true (by kernel_rfl), of_decide_eq_true (by kernel_rfl)⟩, by kernel_rfl, rfl⟩
theorem ok16 : CtrOK Try.prog KK 16 (pureCtr KK ps61 spec16) := by
  refine pure_ok (C := cfgF [k20, k17, k25] Try.f16) (cfgOK (.cons ok20 (.cons ok17 (.cons ok25 .nil))) _) mixed (fn := Try.f16) Try.func16 (by kernel_rfl) (by kernel_rfl) (by kernel_rfl) (Λ := fun _ _ => none) ?_ ?_ ?_
  · exact fun _ _ _ _ _ _ _ _ h => by cases h
  · rintro ⟨⟩
    exact of_decide_eq_true (by kernel_rfl)
  · rintro ⟨⟩ _ _
    exact run16 

end Go.Proofs.Ytogdeefpidccmaa
