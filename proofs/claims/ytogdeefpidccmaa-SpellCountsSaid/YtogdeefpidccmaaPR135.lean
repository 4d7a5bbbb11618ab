/- Texts of the mirror and contracts, put together. -/
import Derived.Test.YtogdeefpidccmaaPR133
import Derived.Test.YtogdeefpidccmaaPR134

/- The field layer: contracts. -/
namespace Go.Proofs.Ytogdeefpidccmaa
open Go Go.Mir
attribute [local irreducible] Go.Mir.RT.sat Go.Mir.evFn Go.Mir.stepObl
def i64R (n : Int) : Prop := -9223372036854775808 ≤ n ∧ n ≤ 9223372036854775807
theorem wf_i64 {n : Int} (h : wfD (.int .i64) n) : i64R n := by
  obtain ⟨S, w, cs, h⟩ := h
  cases h with | int h => exact ⟨by have := h.1; simpa [IntKind.min, IntKind.max, IntKind.signed, IntKind.bits] using this, by have := h.2; simpa [IntKind.min, IntKind.max, IntKind.signed, IntKind.bits] using this⟩

theorem idx_ok {x : Innings} {p : Int} (hp : i64R p) (h : knownW x p = true) : IntKind.i64.wrap (p - 1) = p - 1 ∧ 0 ≤ p - 1 ∧ p - 1 < (x.Subs.length : Int) := by
  simp only [knownW, Bool.and_eq_true, decide_eq_true_eq] at h
  have := hp.2
  exact ⟨wrap64 (by omega) (by omega), by omega, by omega⟩

theorem few_take {α : Type} (xs : List α) : List.drop (Int.toNat 0) (List.take (if (13 : Int) < (xs.length : Int) then (13 : Int) else (xs.length : Int)).toNat xs) = List.take 13 xs := by
  simp only [Int.toNat_zero, List.drop_zero]
  split
  · rfl
  · rename_i h
    have : xs.length ≤ 13 := by omega
    rw [Int.toNat_natCast, List.take_of_length_le (Nat.le_refl _), List.take_of_length_le this]

theorem run73 (x : Innings) (p : Int)  : (evFn (cf8 [] Try.f73) (fun _ => none) Try.f73 (argsV psII (x, p, ()))).sat fun v' rows => leV v' (spec73 (x, p, ())).v ∧ rows = (spec73 (x, p, ())).rows := by
  refine cast (by kernel_rfl) (?_ : (bif decide (p ≥ (1 : Int)) then decide (p ≤ (↑x.21.length : Int)) else false) = knownW x p ∧ ([] : List RowD) = [])
  simp only [knownW]; grind
theorem ok73 : CtrOK Try.prog K8 73 (pureCtr K8 psII spec73) := by
  refine pure_ok (C := cf8 [] Try.f73) (cfg8OK (CtrsOK.nil) _) mixed (fn := Try.f73) Try.func73 (by kernel_rfl) (by kernel_rfl) (by kernel_rfl) (Λ := fun _ _ => none) ?_ ?_ ?_
  · exact fun _ _ _ _ _ _ _ _ h => by cases h
  · rintro ⟨x, p, ⟨⟩⟩
    exact of_decide_eq_true (by kernel_rfl)
  · rintro ⟨x, p, ⟨⟩⟩ hw hn
    exact run73 x p
theorem run76 (x : Innings) (p : Int)  : (evFn (cf8 [] Try.f76) (fun _ => none) Try.f76 (argsV psII (x, p, ()))).sat fun v' rows => leV v' (spec73 (x, p, ())).v ∧ rows = (spec73 (x, p, ())).rows := by
  refine cast (by kernel_rfl) (?_ : (bif decide (p ≥ (1 : Int)) then decide (p ≤ (↑x.21.length : Int)) else false) = knownW x p ∧ ([] : List RowD) = [])
  simp only [knownW]; grind
theorem ok76 : CtrOK Try.prog K8 76 (pureCtr K8 psII spec73) := by
  refine pure_ok (C := cf8 [] Try.f76) (cfg8OK (CtrsOK.nil) _) mixed (fn := Try.f76) Try.func76 (by kernel_rfl) (by kernel_rfl) (by kernel_rfl) (Λ := fun _ _ => none) ?_ ?_ ?_
  · exact fun _ _ _ _ _ _ _ _ h => by cases h
  · rintro ⟨x, p, ⟨⟩⟩
    exact of_decide_eq_true (by kernel_rfl)
  · rintro ⟨x, p, ⟨⟩⟩ hw hn
    exact run76 x p
theorem run74 (x : Innings) (p : Int) (hp : i64R p) : (evFn (cf8 [k73] Try.f74) (fun _ => none) Try.f74 (argsV psII (x, p, ()))).sat fun v' rows => leV v' (spec74 (x, p, ())).v ∧ rows = (spec74 (x, p, ())).rows := by
  refine cast (by kernel_rfl) (?_ : ((knownW x p = true → ((0 : Int) ≤ IntKind.i64.wrap (p - (1 : Int)) ∧ IntKind.i64.wrap (p - (1 : Int)) < (↑x.21.length : Int)) ∧ True) ∧ (knownW x p = false → True)) ∧ (true = true → (bif knownW x p then x.21.getD (IntKind.i64.wrap (p - (1 : Int))).toNat (dflt Ty.bool) else false) = replacedW x p ∧ ([] : List RowD) = []))
  refine ⟨⟨fun h => ⟨?_, trivial⟩, fun _ => trivial⟩, fun _ => ⟨?_, rfl⟩⟩
  · obtain ⟨e, h1, h2⟩ := idx_ok hp h
    rw [e]; exact ⟨h1, h2⟩
  · cases h : knownW x p with
    | false => simp [replacedW, h]
    | true =>
      obtain ⟨e, h1, h2⟩ := idx_ok hp h
      rw [e]; simp only [cond_true, replacedW, h, Bool.true_and]; rfl
theorem ok74 : CtrOK Try.prog K8 74 (pureCtr K8 psII spec74) := by
  refine pure_ok (C := cf8 [k73] Try.f74) (cfg8OK (.cons ok73 .nil) _) mixed (fn := Try.f74) Try.func74 (by kernel_rfl) (by kernel_rfl) (by kernel_rfl) (Λ := fun _ _ => none) ?_ ?_ ?_
  · exact fun _ _ _ _ _ _ _ _ h => by cases h
  · rintro ⟨x, p, ⟨⟩⟩
    exact of_decide_eq_true (by kernel_rfl)
  · rintro ⟨x, p, ⟨⟩⟩ hw hn
    exact run74 x p (wf_i64 (wf_fst (wf_snd hw)))
theorem run72 (x : Innings) (p : Int) (hp : i64R p) : (evFn (cf8 [] Try.f72) (fun _ => none) Try.f72 (argsV psII (x, p, ()))).sat fun v' rows => leV v' (spec74 (x, p, ())).v ∧ rows = (spec74 (x, p, ())).rows := by
  refine cast (by kernel_rfl) (?_ : ((decide (p ≥ (1 : Int)) = true → (decide (p ≤ (↑x.21.length : Int)) = true → ((0 : Int) ≤ IntKind.i64.wrap (p - (1 : Int)) ∧ IntKind.i64.wrap (p - (1 : Int)) < (↑x.21.length : Int)) ∧ True) ∧ (decide (p ≤ (↑x.21.length : Int)) = false → True)) ∧ (decide (p ≥ (1 : Int)) = false → True)) ∧ (true = true → (bif decide (p ≥ (1 : Int)) then bif decide (p ≤ (↑x.21.length : Int)) then x.21.getD (IntKind.i64.wrap (p - (1 : Int))).toNat (dflt Ty.bool) else false else false) = replacedW x p ∧ ([] : List RowD) = []))
  have hk : ∀ b c : Bool, decide (p ≥ 1) = b → decide (p ≤ (x.Subs.length : Int)) = c → knownW x p = (b && c) := fun b c hb hc => by simp only [knownW, hb, hc]
  refine ⟨⟨fun h1 => ⟨fun h2 => ⟨?_, trivial⟩, fun _ => trivial⟩, fun _ => trivial⟩, fun _ => ⟨?_, rfl⟩⟩
  · obtain ⟨e, h1, h2⟩ := idx_ok hp (hk _ _ h1 h2)
    rw [e]; exact ⟨h1, h2⟩
  · cases h1 : decide (p ≥ 1) with
    | false => simp only [cond_false, replacedW, hk _ _ h1 rfl, Bool.false_and]
    | true =>
      cases h2 : decide (p ≤ (x.Subs.length : Int)) with
      | false => simp only [cond_true, cond_false, replacedW, hk _ _ h1 h2, Bool.and_false, Bool.false_and]
      | true =>
        obtain ⟨e, h3, h4⟩ := idx_ok hp (hk _ _ h1 h2)
        rw [e]; simp only [cond_true, replacedW, hk _ _ h1 h2, Bool.true_and]; rfl
theorem ok72 : CtrOK Try.prog K8 72 (pureCtr K8 psII spec74) := by
  refine pure_ok (C := cf8 [] Try.f72) (cfg8OK (CtrsOK.nil) _) mixed (fn := Try.f72) Try.func72 (by kernel_rfl) (by kernel_rfl) (by kernel_rfl) (Λ := fun _ _ => none) ?_ ?_ ?_
  · exact fun _ _ _ _ _ _ _ _ h => by cases h
  · rintro ⟨x, p, ⟨⟩⟩
    exact of_decide_eq_true (by kernel_rfl)
  · rintro ⟨x, p, ⟨⟩⟩ hw hn
    exact run72 x p (wf_i64 (wf_fst (wf_snd hw)))
theorem wf_nm {n : Nm} {x : n.T} (h : wfD (.nm n) x) : wfD n.flds (n.to x) := by
  obtain ⟨S, w, cs, h⟩ := h
  cases h with | nm h => exact ⟨_, _, _, h⟩
theorem wf_power {r : Rules} (h : wfD (.nm .Rules) r) : r.Power.length ≤ lenB :=
  wf_slice (wf_fst (wf_snd (wf_snd (wf_snd (wf_snd (wf_snd (wf_snd (wf_snd (wf_snd (wf_snd (wf_snd (wf_snd (wf_snd (wf_snd (wf_nm h)))))))))))))))

theorem step37 (xs : List Int) (ys : List Int) (hx : xs.length ≤ lenB) (hl : xs.length = ys.length) (i : Nat) (hi : invE xs ys i) : (stepObl (J37 xs ys) (invE xs ys) (fun i => xs.length - i) i (T37 xs ys) (evCode (cf8 [] Try.f37) (fun _ => none) (loopN Try.f37 0) (J37 xs ys i)) (LE i)).1 := by
  refine cast (by kernel_rfl) (?_ : (decide ((↑i : Int) < (↑xs.length : Int)) = true → ((0 : Int) ≤ (↑i : Int) ∧ (↑i : Int) < (↑xs.length : Int)) ∧ ((0 : Int) ≤ (↑i : Int) ∧ (↑i : Int) < (↑ys.length : Int)) ∧ ((xs.getD (↑i : Int).toNat (dflt (Ty.int IntKind.i64)) != ys.getD (↑i : Int).toNat (dflt (Ty.int IntKind.i64))) = true → eqLI xs ys = false ∧ (false = false ∧ True) ∧ True) ∧ ((xs.getD (↑i : Int).toNat (dflt (Ty.int IntKind.i64)) != ys.getD (↑i : Int).toNat (dflt (Ty.int IntKind.i64))) = false → invE xs ys (i + (1 : Nat)) ∧ xs.length - (i + (1 : Nat)) < xs.length - i ∧ (RowD.mk (Ty.int IntKind.i64) xs = RowD.mk (Ty.int IntKind.i64) xs ∧ RowD.mk (Ty.int IntKind.i64) ys = RowD.mk (Ty.int IntKind.i64) ys ∧ (↑xs.length : Int) = (↑xs.length : Int) ∧ IntKind.i64.wrap ((↑i : Int) + (1 : Int)) = (↑(i + (1 : Nat)) : Int) ∧ True) ∧ True)) ∧ (decide ((↑i : Int) < (↑xs.length : Int)) = false → eqLI xs ys = true ∧ True ∧ True))
  have e : (i : Int).toNat = i := by simp
  rw [e]
  have hd : ∀ zs : List Int, i < zs.length → zs[i]? = some (zs.getD i (dflt (Ty.int IntKind.i64))) := fun zs h => getD_at _ h
  refine ⟨fun h1 => ?_, fun h1 => ?_⟩
  · have h1 : i < xs.length := by simpa using h1
    have hdx := hd xs h1
    have hdy := hd ys (by omega)
    refine ⟨⟨by omega, by omega⟩, ⟨by omega, by omega⟩, fun h2 => ?_, fun h2 => ?_⟩
    · refine ⟨?_, ⟨rfl, trivial⟩, trivial⟩
      have h2 : ¬ xs.getD i (dflt (Ty.int IntKind.i64)) = ys.getD i (dflt (Ty.int IntKind.i64)) := by simpa using h2
      refine decide_eq_false fun he => h2 (by rw [he])
    · have h2 : xs.getD i (dflt (Ty.int IntKind.i64)) = ys.getD i (dflt (Ty.int IntKind.i64)) := by simpa using h2
      have hb : xs.length ≤ 140737488355328 := hx
      refine ⟨⟨by omega, hl, ?_⟩, by omega, ⟨rfl, rfl, rfl, by rw [wrap64 (by omega) (by omega)]; omega, trivial⟩, trivial⟩
      rw [List.take_add_one, List.take_add_one, hi.2.2, hdx, hdy, h2]
  · have h1 : xs.length ≤ i := by simpa using h1
    refine ⟨decide_eq_true ?_, trivial, trivial⟩
    have := hi.2.2
    rwa [List.take_of_length_le h1, List.take_of_length_le (by omega)] at this
theorem loop37 (xs : List Int) (ys : List Int) (hx : xs.length ≤ lenB) (hl : xs.length = ys.length) : LoopOK Try.prog Try.f37.ntmps (loopN Try.f37 0) (loopSum ⟨[], [], 72⟩ (J37 xs ys 0) (T37 xs ys)) :=
  loop_by (cfg8OK (CtrsOK.nil) _) mixed (J37 xs ys) (fun _ => rfl) (invE xs ys) (fun i => xs.length - i) (fun _ _ => none) (fun _ _ _ _ _ h => by cases h) (T37 xs ys) [] [] 0 (⟨Nat.zero_le _, hl, by simp⟩) LE (fun i hi => step37 xs ys hx hl i hi)
theorem run37 (xs : List Int) (ys : List Int) (hx : xs.length ≤ lenB) : (evFn (cf8 [] Try.f37) (Λ37 xs ys) Try.f37 (argsV psLI (xs, ys, ()))).sat fun v' rows => leV v' (spec37 (xs, ys, ())).v ∧ rows = (spec37 (xs, ys, ())).rows := by
  refine cast (by kernel_rfl) (?_ : (((↑xs.length : Int) != (↑ys.length : Int)) = true → false = eqLI xs ys ∧ ([] : List RowD) = []) ∧ (((↑xs.length : Int) != (↑ys.length : Int)) = false → (xs.length = ys.length ∧ (noH0 fun x => none) ∧ (RowD.mk (Ty.int IntKind.i64) xs = RowD.mk (Ty.int IntKind.i64) xs ∧ RowD.mk (Ty.int IntKind.i64) ys = RowD.mk (Ty.int IntKind.i64) ys ∧ (↑xs.length : Int) = (↑xs.length : Int) ∧ (0 : Int) = (↑(0 : Nat) : Int) ∧ True) ∧ True) ∧ (eqLI xs ys = true → true = eqLI xs ys ∧ ([] : List RowD) = []) ∧ (eqLI xs ys = false → false = eqLI xs ys ∧ ([] : List RowD) = [])))
  refine ⟨fun h1 => ⟨?_, rfl⟩, fun h1 => ⟨⟨?_, rfl, ⟨rfl, rfl, rfl, rfl, trivial⟩, trivial⟩, fun h2 => ⟨h2.symm, rfl⟩, fun h2 => ⟨h2.symm, rfl⟩⟩⟩
  · refine (decide_eq_false fun he => ?_).symm
    rw [he] at h1
    simp at h1
  · have h1 : (xs.length : Int) = (ys.length : Int) := by simpa using h1
    omega
theorem ok37 : CtrOK Try.prog K8 37 (pureCtr K8 psLI spec37) := by
  refine pure_ok (C := cf8 [] Try.f37) (cfg8OK (CtrsOK.nil) _) mixed (fn := Try.f37) Try.func37 (by kernel_rfl) (by kernel_rfl) (by kernel_rfl) (Λ := fun x => Λ37 x.1 x.2.1) ?_ ?_ ?_
  · rintro ⟨xs, ys, ⟨⟩⟩ hw hn
    exact LoopsOK.at (by kernel_rfl) (.cons (by kernel_rfl) (LoopOK.under fun hp => loop37 xs ys (wf_slice (wf_fst hw)) hp) .nil)
  · rintro ⟨xs, ys, ⟨⟩⟩
    exact of_decide_eq_true (by kernel_rfl)
  · rintro ⟨xs, ys, ⟨⟩⟩ hw hn
    exact run37 xs ys (wf_slice (wf_fst hw))

theorem step71 (xs : List Int) (ys : List Int) (hx : xs.length ≤ lenB) (hl : xs.length = ys.length) (i : Nat) (hi : invE xs ys i) : (stepObl (J37 xs ys) (invE xs ys) (fun i => xs.length - i) i (T37 xs ys) (evCode (cf8 [] Try.f71) (fun _ => none) (loopN Try.f71 0) (J37 xs ys i)) (LE i)).1 := by
  refine cast (by kernel_rfl) (?_ : (decide ((↑i : Int) < (↑xs.length : Int)) = true → ((0 : Int) ≤ (↑i : Int) ∧ (↑i : Int) < (↑xs.length : Int)) ∧ ((0 : Int) ≤ (↑i : Int) ∧ (↑i : Int) < (↑ys.length : Int)) ∧ ((xs.getD (↑i : Int).toNat (dflt (Ty.int IntKind.i64)) != ys.getD (↑i : Int).toNat (dflt (Ty.int IntKind.i64))) = true → eqLI xs ys = false ∧ (false = false ∧ True) ∧ True) ∧ ((xs.getD (↑i : Int).toNat (dflt (Ty.int IntKind.i64)) != ys.getD (↑i : Int).toNat (dflt (Ty.int IntKind.i64))) = false → invE xs ys (i + (1 : Nat)) ∧ xs.length - (i + (1 : Nat)) < xs.length - i ∧ (RowD.mk (Ty.int IntKind.i64) xs = RowD.mk (Ty.int IntKind.i64) xs ∧ RowD.mk (Ty.int IntKind.i64) ys = RowD.mk (Ty.int IntKind.i64) ys ∧ (↑xs.length : Int) = (↑xs.length : Int) ∧ IntKind.i64.wrap ((↑i : Int) + (1 : Int)) = (↑(i + (1 : Nat)) : Int) ∧ True) ∧ True)) ∧ (decide ((↑i : Int) < (↑xs.length : Int)) = false → eqLI xs ys = true ∧ True ∧ True))
  have e : (i : Int).toNat = i := by simp
  rw [e]
  have hd : ∀ zs : List Int, i < zs.length → zs[i]? = some (zs.getD i (dflt (Ty.int IntKind.i64))) := fun zs h => getD_at _ h
  refine ⟨fun h1 => ?_, fun h1 => ?_⟩
  · have h1 : i < xs.length := by simpa using h1
    have hdx := hd xs h1
    have hdy := hd ys (by omega)
    refine ⟨⟨by omega, by omega⟩, ⟨by omega, by omega⟩, fun h2 => ?_, fun h2 => ?_⟩
    · refine ⟨?_, ⟨rfl, trivial⟩, trivial⟩
      have h2 : ¬ xs.getD i (dflt (Ty.int IntKind.i64)) = ys.getD i (dflt (Ty.int IntKind.i64)) := by simpa using h2
      refine decide_eq_false fun he => h2 (by rw [he])
    · have h2 : xs.getD i (dflt (Ty.int IntKind.i64)) = ys.getD i (dflt (Ty.int IntKind.i64)) := by simpa using h2
      have hb : xs.length ≤ 140737488355328 := hx
      refine ⟨⟨by omega, hl, ?_⟩, by omega, ⟨rfl, rfl, rfl, by rw [wrap64 (by omega) (by omega)]; omega, trivial⟩, trivial⟩
      rw [List.take_add_one, List.take_add_one, hi.2.2, hdx, hdy, h2]
  · have h1 : xs.length ≤ i := by simpa using h1
    refine ⟨decide_eq_true ?_, trivial, trivial⟩
    have := hi.2.2
    rwa [List.take_of_length_le h1, List.take_of_length_le (by omega)] at this
theorem loop71 (xs : List Int) (ys : List Int) (hx : xs.length ≤ lenB) (hl : xs.length = ys.length) : LoopOK Try.prog Try.f71.ntmps (loopN Try.f71 0) (loopSum ⟨[], [], 72⟩ (J37 xs ys 0) (T37 xs ys)) :=
  loop_by (cfg8OK (CtrsOK.nil) _) mixed (J37 xs ys) (fun _ => rfl) (invE xs ys) (fun i => xs.length - i) (fun _ _ => none) (fun _ _ _ _ _ h => by cases h) (T37 xs ys) [] [] 0 (⟨Nat.zero_le _, hl, by simp⟩) LE (fun i hi => step71 xs ys hx hl i hi)
theorem run71 (xs : List Int) (ys : List Int) (hx : xs.length ≤ lenB) : (evFn (cf8 [] Try.f71) (Λ37 xs ys) Try.f71 (argsV psLI (xs, ys, ()))).sat fun v' rows => leV v' (spec37 (xs, ys, ())).v ∧ rows = (spec37 (xs, ys, ())).rows := by
  refine cast (by kernel_rfl) (?_ : (((↑xs.length : Int) != (↑ys.length : Int)) = true → false = eqLI xs ys ∧ ([] : List RowD) = []) ∧ (((↑xs.length : Int) != (↑ys.length : Int)) = false → (xs.length = ys.length ∧ (noH0 fun x => none) ∧ (RowD.mk (Ty.int IntKind.i64) xs = RowD.mk (Ty.int IntKind.i64) xs ∧ RowD.mk (Ty.int IntKind.i64) ys = RowD.mk (Ty.int IntKind.i64) ys ∧ (↑xs.length : Int) = (↑xs.length : Int) ∧ (0 : Int) = (↑(0 : Nat) : Int) ∧ True) ∧ True) ∧ (eqLI xs ys = true → true = eqLI xs ys ∧ ([] : List RowD) = []) ∧ (eqLI xs ys = false → false = eqLI xs ys ∧ ([] : List RowD) = [])))
  refine ⟨fun h1 => ⟨?_, rfl⟩, fun h1 => ⟨⟨?_, rfl, ⟨rfl, rfl, rfl, rfl, trivial⟩, trivial⟩, fun h2 => ⟨h2.symm, rfl⟩, fun h2 => ⟨h2.symm, rfl⟩⟩⟩
  · refine (decide_eq_false fun he => ?_).symm
    rw [he] at h1
    simp at h1
  · have h1 : (xs.length : Int) = (ys.length : Int) := by simpa using h1
    omega
theorem ok71 : CtrOK Try.prog K8 71 (pureCtr K8 psLI spec37) := by
  refine pure_ok (C := cf8 [] Try.f71) (cfg8OK (CtrsOK.nil) _) mixed (fn := Try.f71) Try.func71 (by kernel_rfl) (by kernel_rfl) (by kernel_rfl) (Λ := fun x => Λ37 x.1 x.2.1) ?_ ?_ ?_
  · rintro ⟨xs, ys, ⟨⟩⟩ hw hn
    exact LoopsOK.at (by kernel_rfl) (.cons (by kernel_rfl) (LoopOK.under fun hp => loop71 xs ys (wf_slice (wf_fst hw)) hp) .nil)
  · rintro ⟨xs, ys, ⟨⟩⟩
    exact of_decide_eq_true (by kernel_rfl)
  · rintro ⟨xs, ys, ⟨⟩⟩ hw hn
    exact run71 xs ys (wf_slice (wf_fst hw))

theorem presentN_succ (l : List Bool) (i : Nat) : presentN l (i + 1) = presentN l i ++ (bif hereQ l i then [(i : Int) + 1] else []) := by
  unfold presentN
  rw [List.range_succ, List.filter_append, List.map_append]
  congr 1
  cases h : hereQ l i <;> simp [h]

theorem presentN_len (l : List Bool) (i : Nat) : (presentN l i).length ≤ i := by
  unfold presentN
  rw [List.length_map]
  refine Nat.le_trans (List.length_filter_le _ _) ?_
  simp

theorem step38 (x : Innings) (hx : x.Subs.length ≤ 1000000) (i : Nat) (hi : inv38 x i) : (stepObl (J38 x) (inv38 x) (fun i => x.Subs.length - i) i (T38 x) (evCode (cf8 [] Try.f38) (fun _ => none) (loopN Try.f38 0) (J38 x i)) (L38 i)).1 := by
  refine cast (by kernel_rfl) (?_ : (decide ((↑i : Int) < (↑x.21.length : Int)) = true → ((0 : Int) ≤ (↑i : Int) ∧ (↑i : Int) < (↑x.21.length : Int)) ∧ ((!x.21.getD (↑i : Int).toNat (dflt Ty.bool)) = true → ((presentN x.21 i).length + [IntKind.i64.wrap ((↑i : Int) + (1 : Int))].length) * (8 : Nat) ≤ (70368744177664 : Nat) ∧ inv38 x (i + (1 : Nat)) ∧ x.21.length - (i + (1 : Nat)) < x.21.length - i ∧ (True ∧ RowD.mk Ty.bool x.21 = RowD.mk Ty.bool x.21 ∧ (↑x.21.length : Int) = (↑x.21.length : Int) ∧ IntKind.i64.wrap ((↑i : Int) + (1 : Int)) = (↑(i + (1 : Nat)) : Int) ∧ True) ∧ RowD.mk (Ty.int IntKind.i64) (presentN x.21 i ++ [IntKind.i64.wrap ((↑i : Int) + (1 : Int))]) = RowD.mk (Ty.int IntKind.i64) (presentN x.21 (i + (1 : Nat))) ∧ True) ∧ ((!x.21.getD (↑i : Int).toNat (dflt Ty.bool)) = false → inv38 x (i + (1 : Nat)) ∧ x.21.length - (i + (1 : Nat)) < x.21.length - i ∧ (True ∧ RowD.mk Ty.bool x.21 = RowD.mk Ty.bool x.21 ∧ (↑x.21.length : Int) = (↑x.21.length : Int) ∧ IntKind.i64.wrap ((↑i : Int) + (1 : Int)) = (↑(i + (1 : Nat)) : Int) ∧ True) ∧ RowD.mk (Ty.int IntKind.i64) (presentN x.21 i) = RowD.mk (Ty.int IntKind.i64) (presentN x.21 (i + (1 : Nat))) ∧ True)) ∧ (decide ((↑i : Int) < (↑x.21.length : Int)) = false → True ∧ (True ∧ True) ∧ RowD.mk (Ty.int IntKind.i64) (presentN x.21 i) = RowD.mk (Ty.int IntKind.i64) (presentW x) ∧ True))
  have e : (i : Int).toNat = i := by simp
  rw [e]
  have hq : (!x.Subs.getD i (dflt Ty.bool)) = hereQ x.Subs i := rfl
  rw [hq]
  have hu := presentN_succ x.Subs i
  have hl := presentN_len x.Subs i
  refine ⟨fun h1 => ?_, fun h1 => ?_⟩
  · have h1 : i < x.Subs.length := by simpa using h1
    have hwr : IntKind.i64.wrap ((i : Int) + 1) = ((i + 1 : Nat) : Int) := by rw [wrap64 (by omega) (by omega)]; omega
    have hin : inv38 x (i + 1) := by unfold inv38; omega
    refine ⟨⟨by omega, by omega⟩, fun h2 => ?_, fun h2 => ?_⟩
    · rw [h2] at hu
      refine ⟨?_, hin, by omega, ⟨trivial, rfl, rfl, hwr, trivial⟩, by rw [hu, wrap64 (by omega) (by omega)]; rfl, trivial⟩
      simp only [List.length_cons, List.length_nil]
      omega
    · rw [h2] at hu
      exact ⟨hin, by omega, ⟨trivial, rfl, rfl, hwr, trivial⟩, by rw [hu]; simp, trivial⟩
  · have h1 : x.Subs.length ≤ i := by simpa using h1
    have hi : i ≤ x.Subs.length := hi
    have h2 : i = x.Subs.length := by omega
    subst h2
    exact ⟨trivial, ⟨trivial, trivial⟩, rfl, trivial⟩
theorem loop38 (x : Innings) (hx : x.Subs.length ≤ 1000000) : LoopOK Try.prog Try.f38.ntmps (loopN Try.f38 0) (loopSum ⟨[], [56], 64⟩ (J38 x 0) (T38 x)) :=
  loop_by (cfg8OK (CtrsOK.nil) _) mixed (J38 x) (fun _ => rfl) (inv38 x) (fun i => x.Subs.length - i) (fun _ _ => none) (fun _ _ _ _ _ h => by cases h) (T38 x) [] [56] 0 (Nat.zero_le _) L38 (fun i hi => step38 x hx i hi)
theorem run38 (x : Innings) (hx : x.Subs.length ≤ 1000000) : (evFn (cf8 [] Try.f38) (Λ38 x) Try.f38 (argsV psI (x, ()))).sat fun v' rows => leV v' (spec38 (x, ())).v ∧ rows = (spec38 (x, ())).rows := by
  refine cast (by kernel_rfl) (?_ : ((noH0 fun x => none) ∧ (True ∧ RowD.mk Ty.bool x.21 = RowD.mk Ty.bool x.21 ∧ (↑x.21.length : Int) = (↑x.21.length : Int) ∧ (0 : Int) = (↑(0 : Nat) : Int) ∧ True) ∧ presentN x.21 (0 : Nat) = [] ∧ True) ∧ (nat_lit 0 = nat_lit 0 ∧ nat_lit 0 = nat_lit 0) ∧ [RowD.mk (Ty.int IntKind.i64) (presentW x)] = [RowD.mk (Ty.int IntKind.i64) (presentW x)])
  exact ⟨⟨rfl, ⟨trivial, rfl, rfl, rfl, trivial⟩, rfl, trivial⟩, ⟨rfl, rfl⟩, rfl⟩
theorem ok38 : CtrOK Try.prog K8 38 (pureCtr K8 psI spec38) := by
  refine pure_ok (C := cf8 [] Try.f38) (cfg8OK (CtrsOK.nil) _) mixed (fn := Try.f38) Try.func38 (by kernel_rfl) (by kernel_rfl) (by kernel_rfl) (Λ := fun x => Λ38 x.1) ?_ ?_ ?_
  · rintro ⟨x, ⟨⟩⟩ hw hn
    exact LoopsOK.at (by kernel_rfl) (.cons (by kernel_rfl) (loop38 x (hn _ (List.mem_singleton.2 rfl))) .nil)
  · rintro ⟨x, ⟨⟩⟩
    exact of_decide_eq_true (by kernel_rfl)
  · rintro ⟨x, ⟨⟩⟩ hw hn
    exact run38 x (hn _ (List.mem_singleton.2 rfl))

theorem step39 (x : Innings) (hx : x.Subs.length ≤ 1000000) (i : Nat) (hi : inv38 x i) : (stepObl (J39 x) (inv38 x) (fun i => x.Subs.length - i) i (T39 x) (evCode (cf8 [k72] Try.f39) (fun _ => none) (loopN Try.f39 0) (J39 x i)) (L39 i)).1 := by
  refine cast (by kernel_rfl) (?_ : (decide ((↑i : Int) + (1 : Int) ≤ (↑x.21.length : Int)) = true → ((!replacedW x ((↑i : Int) + (1 : Int))) = true → ((presentN x.21 i).length + [(↑i : Int) + (1 : Int)].length) * (8 : Nat) ≤ (70368744177664 : Nat) ∧ inv38 x (i + (1 : Nat)) ∧ x.21.length - (i + (1 : Nat)) < x.21.length - i ∧ (True ∧ True ∧ IntKind.i64.wrap ((↑i : Int) + (1 : Int) + (1 : Int)) = (↑(i + (1 : Nat)) : Int) + (1 : Int) ∧ True) ∧ RowD.mk (Ty.int IntKind.i64) (presentN x.21 i ++ [(↑i : Int) + (1 : Int)]) = RowD.mk (Ty.int IntKind.i64) (presentN x.21 (i + (1 : Nat))) ∧ (x.1 = x.1 ∧ x.2 = x.2 ∧ x.3 = x.3 ∧ x.4 = x.4 ∧ x.5 = x.5 ∧ x.6.1 = x.6.1 ∧ x.6.2 = x.6.2 ∧ x.6.3 = x.6.3 ∧ x.6.4 = x.6.4 ∧ x.6.5 = x.6.5 ∧ x.7 = x.7 ∧ x.8 = x.8 ∧ x.9 = x.9 ∧ x.10 = x.10 ∧ RowD.mk (Ty.int IntKind.u8) x.11 = RowD.mk (Ty.int IntKind.u8) x.11 ∧ x.12 = x.12 ∧ RowD.mk (Ty.int IntKind.i64) x.13 = RowD.mk (Ty.int IntKind.i64) x.13 ∧ RowD.mk (Ty.int IntKind.i64) x.14 = RowD.mk (Ty.int IntKind.i64) x.14 ∧ x.15 = x.15 ∧ RowD.mk (Ty.int IntKind.i64) x.16 = RowD.mk (Ty.int IntKind.i64) x.16 ∧ x.17 = x.17 ∧ x.18 = x.18 ∧ x.19 = x.19 ∧ x.20 = x.20 ∧ RowD.mk Ty.bool x.21 = RowD.mk Ty.bool x.21 ∧ x.22.1 = x.22.1 ∧ x.22.2.1 = x.22.2.1 ∧ x.23 = x.23 ∧ True) ∧ True) ∧ ((!replacedW x ((↑i : Int) + (1 : Int))) = false → inv38 x (i + (1 : Nat)) ∧ x.21.length - (i + (1 : Nat)) < x.21.length - i ∧ (True ∧ True ∧ IntKind.i64.wrap ((↑i : Int) + (1 : Int) + (1 : Int)) = (↑(i + (1 : Nat)) : Int) + (1 : Int) ∧ True) ∧ RowD.mk (Ty.int IntKind.i64) (presentN x.21 i) = RowD.mk (Ty.int IntKind.i64) (presentN x.21 (i + (1 : Nat))) ∧ (x.1 = x.1 ∧ x.2 = x.2 ∧ x.3 = x.3 ∧ x.4 = x.4 ∧ x.5 = x.5 ∧ x.6.1 = x.6.1 ∧ x.6.2 = x.6.2 ∧ x.6.3 = x.6.3 ∧ x.6.4 = x.6.4 ∧ x.6.5 = x.6.5 ∧ x.7 = x.7 ∧ x.8 = x.8 ∧ x.9 = x.9 ∧ x.10 = x.10 ∧ RowD.mk (Ty.int IntKind.u8) x.11 = RowD.mk (Ty.int IntKind.u8) x.11 ∧ x.12 = x.12 ∧ RowD.mk (Ty.int IntKind.i64) x.13 = RowD.mk (Ty.int IntKind.i64) x.13 ∧ RowD.mk (Ty.int IntKind.i64) x.14 = RowD.mk (Ty.int IntKind.i64) x.14 ∧ x.15 = x.15 ∧ RowD.mk (Ty.int IntKind.i64) x.16 = RowD.mk (Ty.int IntKind.i64) x.16 ∧ x.17 = x.17 ∧ x.18 = x.18 ∧ x.19 = x.19 ∧ x.20 = x.20 ∧ RowD.mk Ty.bool x.21 = RowD.mk Ty.bool x.21 ∧ x.22.1 = x.22.1 ∧ x.22.2.1 = x.22.2.1 ∧ x.23 = x.23 ∧ True) ∧ True)) ∧ (decide ((↑i : Int) + (1 : Int) ≤ (↑x.21.length : Int)) = false → True ∧ (True ∧ True) ∧ RowD.mk (Ty.int IntKind.i64) (presentN x.21 i) = RowD.mk (Ty.int IntKind.i64) (presentW x) ∧ True))
  have hu := presentN_succ x.Subs i
  have hl := presentN_len x.Subs i
  have hi : i ≤ x.Subs.length := hi
  have hr : (i : Int) + 1 ≤ (x.Subs.length : Int) → (!replacedW x ((i : Int) + 1)) = hereQ x.Subs i := fun h => by
    have hk : knownW x ((i : Int) + 1) = true := by simp only [knownW, Bool.and_eq_true, decide_eq_true_eq]; omega
    simp only [replacedW, hk, Bool.true_and, subAt, hereQ, Int.add_sub_cancel, Int.toNat_natCast]
  refine ⟨fun h1 => ?_, fun h1 => ?_⟩
  · have h1 : (i : Int) + 1 ≤ (x.Subs.length : Int) := by simpa using h1
    rw [hr h1]
    have hwr : IntKind.i64.wrap ((i : Int) + 1 + 1) = ((i + 1 : Nat) : Int) + 1 := by rw [wrap64 (by omega) (by omega)]; omega
    have hin : inv38 x (i + 1) := by unfold inv38; omega
    refine ⟨fun h2 => ?_, fun h2 => ?_⟩
    · rw [h2] at hu
      refine ⟨?_, hin, by omega, ⟨trivial, trivial, hwr, trivial⟩, by rw [hu]; rfl, by simp⟩
      simp only [List.length_cons, List.length_nil]
      omega
    · rw [h2] at hu
      exact ⟨hin, by omega, ⟨trivial, trivial, hwr, trivial⟩, by rw [hu]; simp, by simp⟩
  · have h1 : ¬ (i : Int) + 1 ≤ (x.Subs.length : Int) := by simpa using h1
    have h2 : i = x.Subs.length := by omega
    subst h2
    exact ⟨trivial, ⟨trivial, trivial⟩, rfl, trivial⟩
theorem loop39 (x : Innings) (hx : x.Subs.length ≤ 1000000) : LoopOK Try.prog Try.f39.ntmps (loopN Try.f39 0) (loopSum ⟨[], [32], 40⟩ (J39 x 0) (T39 x)) :=
  loop_by (cfg8OK (.cons ok72 .nil) _) mixed (J39 x) (fun _ => rfl) (inv38 x) (fun i => x.Subs.length - i) (fun _ _ => none) (fun _ _ _ _ _ h => by cases h) (T39 x) [] [32] 0 (Nat.zero_le _) L39 (fun i hi => step39 x hx i hi)
theorem run39 (x : Innings) (hx : x.Subs.length ≤ 1000000) : (evFn (cf8 [k72] Try.f39) (Λ39 x) Try.f39 (argsV psI (x, ()))).sat fun v' rows => leV v' (spec38 (x, ())).v ∧ rows = (spec38 (x, ())).rows := by
  refine cast (by kernel_rfl) (?_ : ((noH0 fun x => none) ∧ (True ∧ True ∧ (1 : Int) = (↑(0 : Nat) : Int) + (1 : Int) ∧ True) ∧ presentN x.21 (0 : Nat) = [] ∧ (x.1 = x.1 ∧ x.2 = x.2 ∧ x.3 = x.3 ∧ x.4 = x.4 ∧ x.5 = x.5 ∧ x.6.1 = x.6.1 ∧ x.6.2 = x.6.2 ∧ x.6.3 = x.6.3 ∧ x.6.4 = x.6.4 ∧ x.6.5 = x.6.5 ∧ x.7 = x.7 ∧ x.8 = x.8 ∧ x.9 = x.9 ∧ x.10 = x.10 ∧ RowD.mk (Ty.int IntKind.u8) x.11 = RowD.mk (Ty.int IntKind.u8) x.11 ∧ x.12 = x.12 ∧ RowD.mk (Ty.int IntKind.i64) x.13 = RowD.mk (Ty.int IntKind.i64) x.13 ∧ RowD.mk (Ty.int IntKind.i64) x.14 = RowD.mk (Ty.int IntKind.i64) x.14 ∧ x.15 = x.15 ∧ RowD.mk (Ty.int IntKind.i64) x.16 = RowD.mk (Ty.int IntKind.i64) x.16 ∧ x.17 = x.17 ∧ x.18 = x.18 ∧ x.19 = x.19 ∧ x.20 = x.20 ∧ RowD.mk Ty.bool x.21 = RowD.mk Ty.bool x.21 ∧ x.22.1 = x.22.1 ∧ x.22.2.1 = x.22.2.1 ∧ x.23 = x.23 ∧ True) ∧ True) ∧ (nat_lit 0 = nat_lit 0 ∧ nat_lit 0 = nat_lit 0) ∧ [RowD.mk (Ty.int IntKind.i64) (presentW x)] = [RowD.mk (Ty.int IntKind.i64) (presentW x)])
  refine ⟨⟨rfl, ⟨trivial, trivial, rfl, trivial⟩, rfl, by simp⟩, ⟨rfl, rfl⟩, rfl⟩
theorem ok39 : CtrOK Try.prog K8 39 (pureCtr K8 psI spec38) := by
  refine pure_ok (C := cf8 [k72] Try.f39) (cfg8OK (.cons ok72 .nil) _) mixed (fn := Try.f39) Try.func39 (by kernel_rfl) (by kernel_rfl) (by kernel_rfl) (Λ := fun x => Λ39 x.1) ?_ ?_ ?_
  · rintro ⟨x, ⟨⟩⟩ hw hn
    exact LoopsOK.at (by kernel_rfl) (.cons (by kernel_rfl) (loop39 x (hn _ (List.mem_singleton.2 rfl))) .nil)
  · rintro ⟨x, ⟨⟩⟩
    exact of_decide_eq_true (by kernel_rfl)
  · rintro ⟨x, ⟨⟩⟩ hw hn
    exact run39 x (hn _ (List.mem_singleton.2 rfl))

theorem step75 (r : Rules) (o : Int) (hx : r.Power.length ≤ lenB) (i : Nat) (hi : inv75 r o i) : (stepObl (J75 r o) (inv75 r o) (fun i => r.Power.length - i) i (T75 r o) (evCode (cf8 [] Try.f75) (fun _ => none) (loopN Try.f75 0) (J75 r o i)) (L75 i)).1 := by
  refine cast (by kernel_rfl) (?_ : (decide ((↑i : Int) < (↑r.14.length : Int)) = true → ((0 : Int) ≤ (↑i : Int) ∧ (↑i : Int) < (↑r.14.length : Int)) ∧ ((bif decide ((r.14.getD (↑i : Int).toNat (dflt (Ty.nm Nm.Phase))).1 ≤ IntKind.i64.wrap (o + (1 : Int))) then decide (IntKind.i64.wrap (o + (1 : Int)) ≤ (r.14.getD (↑i : Int).toNat (dflt (Ty.nm Nm.Phase))).2) else false) = true → r.14.any (covers o) = true ∧ ((r.14.getD (↑i : Int).toNat (dflt (Ty.nm Nm.Phase))).3 = allowedW r o ∧ True) ∧ True) ∧ ((bif decide ((r.14.getD (↑i : Int).toNat (dflt (Ty.nm Nm.Phase))).1 ≤ IntKind.i64.wrap (o + (1 : Int))) then decide (IntKind.i64.wrap (o + (1 : Int)) ≤ (r.14.getD (↑i : Int).toNat (dflt (Ty.nm Nm.Phase))).2) else false) = false → inv75 r o (i + (1 : Nat)) ∧ r.14.length - (i + (1 : Nat)) < r.14.length - i ∧ (o = o ∧ True ∧ RowD.mk (Ty.nm Nm.Phase) r.14 = RowD.mk (Ty.nm Nm.Phase) r.14 ∧ (↑r.14.length : Int) = (↑r.14.length : Int) ∧ IntKind.i64.wrap ((↑i : Int) + (1 : Int)) = (↑(i + (1 : Nat)) : Int) ∧ True) ∧ (r.1 = r.1 ∧ r.2 = r.2 ∧ r.3 = r.3 ∧ r.4 = r.4 ∧ r.5 = r.5 ∧ r.6 = r.6 ∧ r.7 = r.7 ∧ r.8 = r.8 ∧ r.9 = r.9 ∧ r.10 = r.10 ∧ r.11 = r.11 ∧ r.12 = r.12 ∧ r.13 = r.13 ∧ RowD.mk (Ty.nm Nm.Phase) r.14 = RowD.mk (Ty.nm Nm.Phase) r.14 ∧ True) ∧ True)) ∧ (decide ((↑i : Int) < (↑r.14.length : Int)) = false → r.14.any (covers o) = false ∧ (True ∧ True) ∧ (r.1 = r.1 ∧ r.2 = r.2 ∧ r.3 = r.3 ∧ r.4 = r.4 ∧ r.5 = r.5 ∧ r.6 = r.6 ∧ r.7 = r.7 ∧ r.8 = r.8 ∧ r.9 = r.9 ∧ r.10 = r.10 ∧ r.11 = r.11 ∧ r.12 = r.12 ∧ r.13 = r.13 ∧ RowD.mk (Ty.nm Nm.Phase) r.14 = RowD.mk (Ty.nm Nm.Phase) r.14 ∧ True) ∧ True))
  have e : (i : Int).toNat = i := by simp
  rw [e]
  generalize hw : r.Power.getD i (dflt (Ty.nm Nm.Phase)) = w
  have hc : (bif decide (w.From ≤ IntKind.i64.wrap (o + 1)) then decide (IntKind.i64.wrap (o + 1) ≤ w.To) else false) = covers o w := by simp only [covers]; cases decide (w.From ≤ IntKind.i64.wrap (o + 1)) <;> rfl
  have hb : r.Power.length ≤ 140737488355328 := hx
  refine ⟨fun h1 => ?_, fun h1 => ?_⟩
  · have h1 : i < r.Power.length := by simpa using h1
    have h3 : r.Power[i]? = some w := by rw [← hw]; exact getD_at _ h1
    refine ⟨⟨by omega, by omega⟩, fun h2 => ?_, fun h2 => ?_⟩
    · have h2 : covers o w = true := by rw [← hc]; exact h2
      have h4 : allowedW r o = w.Outside := by
        unfold allowedW
        rw [find_at (covers o) r.Power i w h3 h2 hi.2]; rfl
      have h5 : r.Power.any (covers o) = true := List.any_eq_true.2 ⟨w, List.mem_of_getElem? h3, h2⟩
      rw [h4]
      simp [h5]
    · have h2 : covers o w = false := by rw [← hc]; exact h2
      refine ⟨⟨by omega, fun y hy => ?_⟩, by omega, ⟨rfl, trivial, rfl, rfl, ?_, trivial⟩, by simp⟩
      · rw [List.take_add_one, h3] at hy
        rcases List.mem_append.1 hy with hy | hy
        · exact hi.2 y hy
        · simp at hy; subst hy; exact h2
      · rw [wrap64 (by omega) (by omega)]; omega
  · have h1 : r.Power.length ≤ i := by simpa using h1
    have : r.Power.any (covers o) = false := by
      rw [List.any_eq_false]
      intro x hx
      have := hi.2 x (by rw [List.take_of_length_le h1]; exact hx)
      simpa using this
    simp [this]
theorem loop75 (r : Rules) (o : Int) (hx : r.Power.length ≤ lenB) : LoopOK Try.prog Try.f75.ntmps (loopN Try.f75 0) (loopSum ⟨[], [], 48⟩ (J75 r o 0) (T75 r o)) :=
  loop_by (cfg8OK (CtrsOK.nil) _) mixed (J75 r o) (fun _ => rfl) (inv75 r o) (fun i => r.Power.length - i) (fun _ _ => none) (fun _ _ _ _ _ h => by cases h) (T75 r o) [] [] 0 (⟨Nat.zero_le _, by simp⟩) L75 (fun i hi => step75 r o hx i hi)
theorem run75 (r : Rules) (o : Int) (hx : r.Power.length ≤ lenB) : (evFn (cf8 [] Try.f75) (Λ75 r o) Try.f75 (argsV psR (r, o, ()))).sat fun v' rows => leV v' (spec75 (r, o, ())).v ∧ rows = (spec75 (r, o, ())).rows := by
  refine cast (by kernel_rfl) (?_ : ((noH0 fun x => none) ∧ (o = o ∧ True ∧ RowD.mk (Ty.nm Nm.Phase) r.14 = RowD.mk (Ty.nm Nm.Phase) r.14 ∧ (↑r.14.length : Int) = (↑r.14.length : Int) ∧ (0 : Int) = (↑(0 : Nat) : Int) ∧ True) ∧ (r.1 = r.1 ∧ r.2 = r.2 ∧ r.3 = r.3 ∧ r.4 = r.4 ∧ r.5 = r.5 ∧ r.6 = r.6 ∧ r.7 = r.7 ∧ r.8 = r.8 ∧ r.9 = r.9 ∧ r.10 = r.10 ∧ r.11 = r.11 ∧ r.12 = r.12 ∧ r.13 = r.13 ∧ RowD.mk (Ty.nm Nm.Phase) r.14 = RowD.mk (Ty.nm Nm.Phase) r.14 ∧ True) ∧ True) ∧ (r.14.any (covers o) = true → allowedW r o = allowedW r o ∧ ([] : List RowD) = []) ∧ (r.14.any (covers o) = false → r.13 = allowedW r o ∧ ([] : List RowD) = []))
  have hN : r.Power.any (covers o) = false → allowedW r o = r.Outside := fun h1 => by
    unfold allowedW
    rw [List.find?_eq_none.2 fun x hx => (List.any_eq_false.1 h1) x hx]; rfl
  refine ⟨⟨rfl, ⟨rfl, trivial, rfl, rfl, rfl, trivial⟩, by simp⟩, fun _ => by simp, fun h => by rw [hN h]; simp⟩
theorem ok75 : CtrOK Try.prog K8 75 (pureCtr K8 psR spec75) := by
  refine pure_ok (C := cf8 [] Try.f75) (cfg8OK (CtrsOK.nil) _) mixed (fn := Try.f75) Try.func75 (by kernel_rfl) (by kernel_rfl) (by kernel_rfl) (Λ := fun x => Λ75 x.1 x.2.1) ?_ ?_ ?_
  · rintro ⟨r, o, ⟨⟩⟩ hw hn
    exact LoopsOK.at (by kernel_rfl) (.cons (by kernel_rfl) (loop75 r o (wf_power (wf_fst hw))) .nil)
  · rintro ⟨r, o, ⟨⟩⟩
    exact of_decide_eq_true (by kernel_rfl)
  · rintro ⟨r, o, ⟨⟩⟩ hw hn
    exact run75 r o (wf_power (wf_fst hw))

theorem step77 (r : Rules) (o : Int) (hx : r.Power.length ≤ lenB) (i : Nat) (hi : inv75 r o i) : (stepObl (J75 r o) (inv75 r o) (fun i => r.Power.length - i) i (T75 r o) (evCode (cf8 [] Try.f77) (fun _ => none) (loopN Try.f77 0) (J75 r o i)) (L75 i)).1 := by
  refine cast (by kernel_rfl) (?_ : (decide ((↑i : Int) < (↑r.14.length : Int)) = true → ((0 : Int) ≤ (↑i : Int) ∧ (↑i : Int) < (↑r.14.length : Int)) ∧ ((bif decide ((r.14.getD (↑i : Int).toNat (dflt (Ty.nm Nm.Phase))).1 ≤ IntKind.i64.wrap (o + (1 : Int))) then decide (IntKind.i64.wrap (o + (1 : Int)) ≤ (r.14.getD (↑i : Int).toNat (dflt (Ty.nm Nm.Phase))).2) else false) = true → r.14.any (covers o) = true ∧ ((r.14.getD (↑i : Int).toNat (dflt (Ty.nm Nm.Phase))).3 = allowedW r o ∧ True) ∧ True) ∧ ((bif decide ((r.14.getD (↑i : Int).toNat (dflt (Ty.nm Nm.Phase))).1 ≤ IntKind.i64.wrap (o + (1 : Int))) then decide (IntKind.i64.wrap (o + (1 : Int)) ≤ (r.14.getD (↑i : Int).toNat (dflt (Ty.nm Nm.Phase))).2) else false) = false → inv75 r o (i + (1 : Nat)) ∧ r.14.length - (i + (1 : Nat)) < r.14.length - i ∧ (o = o ∧ True ∧ RowD.mk (Ty.nm Nm.Phase) r.14 = RowD.mk (Ty.nm Nm.Phase) r.14 ∧ (↑r.14.length : Int) = (↑r.14.length : Int) ∧ IntKind.i64.wrap ((↑i : Int) + (1 : Int)) = (↑(i + (1 : Nat)) : Int) ∧ True) ∧ (r.1 = r.1 ∧ r.2 = r.2 ∧ r.3 = r.3 ∧ r.4 = r.4 ∧ r.5 = r.5 ∧ r.6 = r.6 ∧ r.7 = r.7 ∧ r.8 = r.8 ∧ r.9 = r.9 ∧ r.10 = r.10 ∧ r.11 = r.11 ∧ r.12 = r.12 ∧ r.13 = r.13 ∧ RowD.mk (Ty.nm Nm.Phase) r.14 = RowD.mk (Ty.nm Nm.Phase) r.14 ∧ True) ∧ True)) ∧ (decide ((↑i : Int) < (↑r.14.length : Int)) = false → r.14.any (covers o) = false ∧ (True ∧ True) ∧ (r.1 = r.1 ∧ r.2 = r.2 ∧ r.3 = r.3 ∧ r.4 = r.4 ∧ r.5 = r.5 ∧ r.6 = r.6 ∧ r.7 = r.7 ∧ r.8 = r.8 ∧ r.9 = r.9 ∧ r.10 = r.10 ∧ r.11 = r.11 ∧ r.12 = r.12 ∧ r.13 = r.13 ∧ RowD.mk (Ty.nm Nm.Phase) r.14 = RowD.mk (Ty.nm Nm.Phase) r.14 ∧ True) ∧ True))
  have e : (i : Int).toNat = i := by simp
  rw [e]
  generalize hw : r.Power.getD i (dflt (Ty.nm Nm.Phase)) = w
  have hc : (bif decide (w.From ≤ IntKind.i64.wrap (o + 1)) then decide (IntKind.i64.wrap (o + 1) ≤ w.To) else false) = covers o w := by simp only [covers]; cases decide (w.From ≤ IntKind.i64.wrap (o + 1)) <;> rfl
  have hb : r.Power.length ≤ 140737488355328 := hx
  refine ⟨fun h1 => ?_, fun h1 => ?_⟩
  · have h1 : i < r.Power.length := by simpa using h1
    have h3 : r.Power[i]? = some w := by rw [← hw]; exact getD_at _ h1
    refine ⟨⟨by omega, by omega⟩, fun h2 => ?_, fun h2 => ?_⟩
    · have h2 : covers o w = true := by rw [← hc]; exact h2
      have h4 : allowedW r o = w.Outside := by
        unfold allowedW
        rw [find_at (covers o) r.Power i w h3 h2 hi.2]; rfl
      have h5 : r.Power.any (covers o) = true := List.any_eq_true.2 ⟨w, List.mem_of_getElem? h3, h2⟩
      rw [h4]
      simp [h5]
    · have h2 : covers o w = false := by rw [← hc]; exact h2
      refine ⟨⟨by omega, fun y hy => ?_⟩, by omega, ⟨rfl, trivial, rfl, rfl, ?_, trivial⟩, by simp⟩
      · rw [List.take_add_one, h3] at hy
        rcases List.mem_append.1 hy with hy | hy
        · exact hi.2 y hy
        · simp at hy; subst hy; exact h2
      · rw [wrap64 (by omega) (by omega)]; omega
  · have h1 : r.Power.length ≤ i := by simpa using h1
    have : r.Power.any (covers o) = false := by
      rw [List.any_eq_false]
      intro x hx
      have := hi.2 x (by rw [List.take_of_length_le h1]; exact hx)
      simpa using this
    simp [this]
theorem loop77 (r : Rules) (o : Int) (hx : r.Power.length ≤ lenB) : LoopOK Try.prog Try.f77.ntmps (loopN Try.f77 0) (loopSum ⟨[], [], 48⟩ (J75 r o 0) (T75 r o)) :=
  loop_by (cfg8OK (CtrsOK.nil) _) mixed (J75 r o) (fun _ => rfl) (inv75 r o) (fun i => r.Power.length - i) (fun _ _ => none) (fun _ _ _ _ _ h => by cases h) (T75 r o) [] [] 0 (⟨Nat.zero_le _, by simp⟩) L75 (fun i hi => step77 r o hx i hi)
theorem run77 (r : Rules) (o : Int) (hx : r.Power.length ≤ lenB) : (evFn (cf8 [] Try.f77) (Λ75 r o) Try.f77 (argsV psR (r, o, ()))).sat fun v' rows => leV v' (spec75 (r, o, ())).v ∧ rows = (spec75 (r, o, ())).rows := by
  refine cast (by kernel_rfl) (?_ : ((noH0 fun x => none) ∧ (o = o ∧ True ∧ RowD.mk (Ty.nm Nm.Phase) r.14 = RowD.mk (Ty.nm Nm.Phase) r.14 ∧ (↑r.14.length : Int) = (↑r.14.length : Int) ∧ (0 : Int) = (↑(0 : Nat) : Int) ∧ True) ∧ (r.1 = r.1 ∧ r.2 = r.2 ∧ r.3 = r.3 ∧ r.4 = r.4 ∧ r.5 = r.5 ∧ r.6 = r.6 ∧ r.7 = r.7 ∧ r.8 = r.8 ∧ r.9 = r.9 ∧ r.10 = r.10 ∧ r.11 = r.11 ∧ r.12 = r.12 ∧ r.13 = r.13 ∧ RowD.mk (Ty.nm Nm.Phase) r.14 = RowD.mk (Ty.nm Nm.Phase) r.14 ∧ True) ∧ True) ∧ (r.14.any (covers o) = true → allowedW r o = allowedW r o ∧ ([] : List RowD) = []) ∧ (r.14.any (covers o) = false → r.13 = allowedW r o ∧ ([] : List RowD) = []))
  have hN : r.Power.any (covers o) = false → allowedW r o = r.Outside := fun h1 => by
    unfold allowedW
    rw [List.find?_eq_none.2 fun x hx => (List.any_eq_false.1 h1) x hx]; rfl
  refine ⟨⟨rfl, ⟨rfl, trivial, rfl, rfl, rfl, trivial⟩, by simp⟩, fun _ => by simp, fun h => by rw [hN h]; simp⟩
theorem ok77 : CtrOK Try.prog K8 77 (pureCtr K8 psR spec75) := by
  refine pure_ok (C := cf8 [] Try.f77) (cfg8OK (CtrsOK.nil) _) mixed (fn := Try.f77) Try.func77 (by kernel_rfl) (by kernel_rfl) (by kernel_rfl) (Λ := fun x => Λ75 x.1 x.2.1) ?_ ?_ ?_
  · rintro ⟨r, o, ⟨⟩⟩ hw hn
    exact LoopsOK.at (by kernel_rfl) (.cons (by kernel_rfl) (loop77 r o (wf_power (wf_fst hw))) .nil)
  · rintro ⟨r, o, ⟨⟩⟩
    exact of_decide_eq_true (by kernel_rfl)
  · rintro ⟨r, o, ⟨⟩⟩ hw hn
    exact run77 r o (wf_power (wf_fst hw))

theorem run40 (r : Rules) (x : Innings)  : (evFn (cf8 [k73, k74, k75] Try.f40) (fun _ => none) Try.f40 (argsV psRI (r, x, ()))).sat fun v' rows => leV v' (spec40 (r, x, ())).v ∧ rows = (spec40 (r, x, ())).rows := by
  refine cast (by kernel_rfl) (?_ : ((bif !knownW x x.19 then true else bif replacedW x x.19 then true else x.19 == x.12) = true → (17 : Int) = readyW r x ∧ ([] : List RowD) = []) ∧ ((bif !knownW x x.19 then true else bif replacedW x x.19 then true else x.19 == x.12) = false → (decide (x.20 > allowedW r x.7) = true → (16 : Int) = readyW r x ∧ ([] : List RowD) = []) ∧ (decide (x.20 > allowedW r x.7) = false → (0 : Int) = readyW r x ∧ ([] : List RowD) = [])))
  simp only [readyW]
  repeat' first | refine And.intro ?_ ?_ | intro _
  all_goals first | rfl | grind
theorem ok40 : CtrOK Try.prog K8 40 (pureCtr K8 psRI spec40) := by
  refine pure_ok (C := cf8 [k73, k74, k75] Try.f40) (cfg8OK (.cons ok73 (.cons ok74 (.cons ok75 .nil))) _) mixed (fn := Try.f40) Try.func40 (by kernel_rfl) (by kernel_rfl) (by kernel_rfl) (Λ := fun _ _ => none) ?_ ?_ ?_
  · exact fun _ _ _ _ _ _ _ _ h => by cases h
  · rintro ⟨r, x, ⟨⟩⟩
    exact of_decide_eq_true (by kernel_rfl)
  · rintro ⟨r, x, ⟨⟩⟩ hw hn
    exact run40 r x
theorem run41 (r : Rules) (x : Innings)  : (evFn (cf8 [k72, k76, k77] Try.f41) (fun _ => none) Try.f41 (argsV psRI (r, x, ()))).sat fun v' rows => leV v' (spec40 (r, x, ())).v ∧ rows = (spec40 (r, x, ())).rows := by
  refine cast (by kernel_rfl) (?_ : ((bif !knownW x x.19 then true else bif replacedW x x.19 then true else x.19 == x.12) = true → (17 : Int) = readyW r x ∧ ([] : List RowD) = []) ∧ ((bif !knownW x x.19 then true else bif replacedW x x.19 then true else x.19 == x.12) = false → (decide (x.20 > allowedW r x.7) = true → (16 : Int) = readyW r x ∧ ([] : List RowD) = []) ∧ (decide (x.20 > allowedW r x.7) = false → (0 : Int) = readyW r x ∧ ([] : List RowD) = [])))
  simp only [readyW]
  repeat' first | refine And.intro ?_ ?_ | intro _
  all_goals first | rfl | grind
theorem ok41 : CtrOK Try.prog K8 41 (pureCtr K8 psRI spec40) := by
  refine pure_ok (C := cf8 [k72, k76, k77] Try.f41) (cfg8OK (.cons ok72 (.cons ok76 (.cons ok77 .nil))) _) mixed (fn := Try.f41) Try.func41 (by kernel_rfl) (by kernel_rfl) (by kernel_rfl) (Λ := fun _ _ => none) ?_ ?_ ?_
  · exact fun _ _ _ _ _ _ _ _ h => by cases h
  · rintro ⟨r, x, ⟨⟩⟩
    exact of_decide_eq_true (by kernel_rfl)
  · rintro ⟨r, x, ⟨⟩⟩ hw hn
    exact run41 r x
theorem run42 (x : Innings) (d : Delivery)  : (evFn (cf8 [k73, k74] Try.f42) (fun _ => none) Try.f42 (argsV psID (x, d, ()))).sat fun v' rows => leV v' (spec42 (x, d, ())).v ∧ rows = (spec42 (x, d, ())).rows := by
  refine cast (by kernel_rfl) (?_ : ((decide (d.9 > (0 : Int)) = true → ((!knownW x d.9) = true → (3 : Int) = namedW x d ∧ ([] : List RowD) = []) ∧ ((!knownW x d.9) = false → ((!d.11 == replacedW x d.9) = true → (18 : Int) = namedW x d ∧ ([] : List RowD) = []) ∧ ((!d.11 == replacedW x d.9) = false → True))) ∧ (decide (d.9 > (0 : Int)) = false → True)) ∧ ((bif decide (d.9 > (0 : Int)) then bif !knownW x d.9 then false else !!d.11 == replacedW x d.9 else true) = true → ((decide (d.10 > (0 : Int)) = true → ((!knownW x d.10) = true → (3 : Int) = namedW x d ∧ ([] : List RowD) = []) ∧ ((!knownW x d.10) = false → (replacedW x d.10 = true → (18 : Int) = namedW x d ∧ ([] : List RowD) = []) ∧ (replacedW x d.10 = false → True))) ∧ (decide (d.10 > (0 : Int)) = false → True)) ∧ ((bif decide (d.10 > (0 : Int)) then bif !knownW x d.10 then false else !replacedW x d.10 else true) = true → ((bif d.7 == (4 : Int) then (if (0 : Int) > d.9 then (0 : Int) else d.9) != x.19 else false) = true → (17 : Int) = namedW x d ∧ ([] : List RowD) = []) ∧ ((bif d.7 == (4 : Int) then (if (0 : Int) > d.9 then (0 : Int) else d.9) != x.19 else false) = false → (0 : Int) = namedW x d ∧ ([] : List RowD) = []))))
  have hm : maxI d.Fielder 0 = if (0 : Int) > d.Fielder then 0 else d.Fielder := rfl
  simp only [namedW, named1, named2, hm]
  repeat' first | refine And.intro ?_ ?_ | intro _
  all_goals first | trivial | rfl | grind
theorem ok42 : CtrOK Try.prog K8 42 (pureCtr K8 psID spec42) := by
  refine pure_ok (C := cf8 [k73, k74] Try.f42) (cfg8OK (.cons ok73 (.cons ok74 .nil)) _) mixed (fn := Try.f42) Try.func42 (by kernel_rfl) (by kernel_rfl) (by kernel_rfl) (Λ := fun _ _ => none) ?_ ?_ ?_
  · exact fun _ _ _ _ _ _ _ _ h => by cases h
  · rintro ⟨x, d, ⟨⟩⟩
    exact of_decide_eq_true (by kernel_rfl)
  · rintro ⟨x, d, ⟨⟩⟩ hw hn
    exact run42 x d
theorem run43 (x : Innings) (d : Delivery)  : (evFn (cf8 [k72, k76] Try.f43) (fun _ => none) Try.f43 (argsV psID (x, d, ()))).sat fun v' rows => leV v' (spec42 (x, d, ())).v ∧ rows = (spec42 (x, d, ())).rows := by
  refine cast (by kernel_rfl) (?_ : ((decide (d.9 > (0 : Int)) = true → ((!knownW x d.9) = true → (3 : Int) = namedW x d ∧ ([] : List RowD) = []) ∧ ((!knownW x d.9) = false → ((!replacedW x d.9 == d.11) = true → (18 : Int) = namedW x d ∧ ([] : List RowD) = []) ∧ ((!replacedW x d.9 == d.11) = false → True))) ∧ (decide (d.9 > (0 : Int)) = false → True)) ∧ ((bif decide (d.9 > (0 : Int)) then bif !knownW x d.9 then false else !!replacedW x d.9 == d.11 else true) = true → ((decide (d.10 > (0 : Int)) = true → ((!knownW x d.10) = true → (3 : Int) = namedW x d ∧ ([] : List RowD) = []) ∧ ((!knownW x d.10) = false → (replacedW x d.10 = true → (18 : Int) = namedW x d ∧ ([] : List RowD) = []) ∧ (replacedW x d.10 = false → True))) ∧ (decide (d.10 > (0 : Int)) = false → True)) ∧ ((bif decide (d.10 > (0 : Int)) then bif !knownW x d.10 then false else !replacedW x d.10 else true) = true → ((bif d.7 == (4 : Int) then (if (0 : Int) > d.9 then (0 : Int) else d.9) != x.19 else false) = true → (17 : Int) = namedW x d ∧ ([] : List RowD) = []) ∧ ((bif d.7 == (4 : Int) then (if (0 : Int) > d.9 then (0 : Int) else d.9) != x.19 else false) = false → (0 : Int) = namedW x d ∧ ([] : List RowD) = []))))
  have hm : maxI d.Fielder 0 = if (0 : Int) > d.Fielder then 0 else d.Fielder := rfl
  simp only [namedW, named1, named2, hm]
  repeat' first | refine And.intro ?_ ?_ | intro _
  all_goals first | trivial | rfl | grind
theorem ok43 : CtrOK Try.prog K8 43 (pureCtr K8 psID spec42) := by
  refine pure_ok (C := cf8 [k72, k76] Try.f43) (cfg8OK (.cons ok72 (.cons ok76 .nil)) _) mixed (fn := Try.f43) Try.func43 (by kernel_rfl) (by kernel_rfl) (by kernel_rfl) (Λ := fun _ _ => none) ?_ ?_ ?_
  · exact fun _ _ _ _ _ _ _ _ h => by cases h
  · rintro ⟨x, d, ⟨⟩⟩
    exact of_decide_eq_true (by kernel_rfl)
  · rintro ⟨x, d, ⟨⟩⟩ hw hn
    exact run43 x d
theorem run33 (x : Innings)  : (evFn (cf8 [] Try.f33) (fun _ => none) Try.f33 (argsV psI (x, ()))).sat fun v' rows => leV v' (spec33 (x, ())).v ∧ rows = (spec33 (x, ())).rows := by
  refine cast (by kernel_rfl) (?_ : ((0 : Int) ≤ (0 : Int) ∧ ((0 : Int) ≤ if (13 : Int) < (↑x.11.length : Int) then (13 : Int) else (↑x.11.length : Int)) ∧ (if (13 : Int) < (↑x.11.length : Int) then (13 : Int) else (↑x.11.length : Int)) ≤ (↑x.11.length : Int)) ∧ ((0 : Int) ≤ (0 : Int) ∧ ((0 : Int) ≤ if (13 : Int) < (↑x.16.length : Int) then (13 : Int) else (↑x.16.length : Int)) ∧ (if (13 : Int) < (↑x.16.length : Int) then (13 : Int) else (↑x.16.length : Int)) ≤ (↑x.16.length : Int)) ∧ ((0 : Int) ≤ (0 : Int) ∧ ((0 : Int) ≤ if (13 : Int) < (↑x.21.length : Int) then (13 : Int) else (↑x.21.length : Int)) ∧ (if (13 : Int) < (↑x.21.length : Int) then (13 : Int) else (↑x.21.length : Int)) ≤ (↑x.21.length : Int)) ∧ ((0 : Int) ≤ (0 : Int) ∧ ((0 : Int) ≤ if (13 : Int) < (↑x.13.length : Int) then (13 : Int) else (↑x.13.length : Int)) ∧ (if (13 : Int) < (↑x.13.length : Int) then (13 : Int) else (↑x.13.length : Int)) ≤ (↑x.13.length : Int)) ∧ ((0 : Int) ≤ (0 : Int) ∧ ((0 : Int) ≤ if (13 : Int) < (↑x.14.length : Int) then (13 : Int) else (↑x.14.length : Int)) ∧ (if (13 : Int) < (↑x.14.length : Int) then (13 : Int) else (↑x.14.length : Int)) ≤ (↑x.14.length : Int)) ∧ (x.1 = x.1 ∧ x.2 = x.2 ∧ x.3 = x.3 ∧ x.4 = x.4 ∧ x.5 = x.5 ∧ x.6.1 = x.6.1 ∧ x.6.2 = x.6.2 ∧ x.6.3 = x.6.3 ∧ x.6.4 = x.6.4 ∧ x.6.5 = x.6.5 ∧ x.7 = x.7 ∧ x.8 = x.8 ∧ x.9 = x.9 ∧ x.10 = x.10 ∧ RowD.mk (Ty.int IntKind.u8) (List.drop (Int.toNat (0 : Int)) (List.take (if (13 : Int) < (↑x.11.length : Int) then (13 : Int) else (↑x.11.length : Int)).toNat x.11)) = RowD.mk (Ty.int IntKind.u8) (List.take (13 : Nat) x.11) ∧ x.12 = x.12 ∧ RowD.mk (Ty.int IntKind.i64) (List.drop (Int.toNat (0 : Int)) (List.take (if (13 : Int) < (↑x.13.length : Int) then (13 : Int) else (↑x.13.length : Int)).toNat x.13)) = RowD.mk (Ty.int IntKind.i64) (List.take (13 : Nat) x.13) ∧ RowD.mk (Ty.int IntKind.i64) (List.drop (Int.toNat (0 : Int)) (List.take (if (13 : Int) < (↑x.14.length : Int) then (13 : Int) else (↑x.14.length : Int)).toNat x.14)) = RowD.mk (Ty.int IntKind.i64) (List.take (13 : Nat) x.14) ∧ x.15 = x.15 ∧ RowD.mk (Ty.int IntKind.i64) (List.drop (Int.toNat (0 : Int)) (List.take (if (13 : Int) < (↑x.16.length : Int) then (13 : Int) else (↑x.16.length : Int)).toNat x.16)) = RowD.mk (Ty.int IntKind.i64) (List.take (13 : Nat) x.16) ∧ x.17 = x.17 ∧ x.18 = x.18 ∧ x.19 = x.19 ∧ x.20 = x.20 ∧ RowD.mk Ty.bool (List.drop (Int.toNat (0 : Int)) (List.take (if (13 : Int) < (↑x.21.length : Int) then (13 : Int) else (↑x.21.length : Int)).toNat x.21)) = RowD.mk Ty.bool (List.take (13 : Nat) x.21) ∧ x.22.1 = x.22.1 ∧ x.22.2.1 = x.22.2.1 ∧ x.23 = x.23 ∧ True) ∧ ([] : List RowD) = [])
  have hb : ∀ {α : Type} (xs : List α), (0 : Int) ≤ 0 ∧ ((0 : Int) ≤ if (13 : Int) < (xs.length : Int) then (13 : Int) else (xs.length : Int)) ∧ (if (13 : Int) < (xs.length : Int) then (13 : Int) else (xs.length : Int)) ≤ (xs.length : Int) := fun xs => ⟨Int.le_refl 0, by split <;> omega, by split <;> omega⟩
  refine ⟨hb _, hb _, hb _, hb _, hb _, ?_, rfl⟩
  refine ⟨rfl, rfl, rfl, rfl, rfl, rfl, rfl, rfl, rfl, rfl, rfl, rfl, rfl, rfl, ?_, rfl, ?_, ?_, rfl, ?_, rfl, rfl, rfl, rfl, ?_, rfl, rfl, rfl, trivial⟩
  · exact congrArg (RowD.mk (Ty.int IntKind.u8)) (few_take x.Batters)
  · exact congrArg (RowD.mk (Ty.int IntKind.i64)) (few_take x.Bowlers)
  · exact congrArg (RowD.mk (Ty.int IntKind.i64)) (few_take x.Before)
  · exact congrArg (RowD.mk (Ty.int IntKind.i64)) (few_take x.Bowled)
  · exact congrArg (RowD.mk Ty.bool) (few_take x.Subs)
theorem ok33 : CtrOK Try.prog K8 33 (pureCtr K8 psI spec33) := by
  refine pure_ok (C := cf8 [] Try.f33) (cfg8OK (CtrsOK.nil) _) mixed (fn := Try.f33) Try.func33 (by kernel_rfl) (by kernel_rfl) (by kernel_rfl) (Λ := fun _ _ => none) ?_ ?_ ?_
  · exact fun _ _ _ _ _ _ _ _ h => by cases h
  · rintro ⟨x, ⟨⟩⟩
    exact of_decide_eq_true (by kernel_rfl)
  · rintro ⟨x, ⟨⟩⟩ hw hn
    exact run33 x
theorem run45 (x : List Bool) (hs : x.length ≤ 1000000) : (evFn (cf8 [] Try.f45) (fun _ => none) Try.f45 (argsV ps45 (x, ()))).sat fun v' rows => leV v' (spec45 (x, ())).v ∧ rows = (spec45 (x, ())).rows := by
  refine cast (by kernel_rfl) (?_ : (x.isEmpty = true → (nat_lit 0 = nat_lit 0 ∧ nat_lit 0 = nat_lit 0) ∧ [RowD.mk Ty.bool []] = [RowD.mk Ty.bool x]) ∧ ((0 : Nat) + x.length) * (1 : Nat) ≤ (70368744177664 : Nat) ∧ (nat_lit 0 = nat_lit 0 ∧ nat_lit 0 = nat_lit 0) ∧ [RowD.mk Ty.bool ([] ++ x)] = [RowD.mk Ty.bool x])
  refine ⟨fun h => ⟨⟨rfl, rfl⟩, ?_⟩, ?_, ⟨rfl, rfl⟩, rfl⟩
  · have : x = [] := List.isEmpty_iff.1 h
    subst this; rfl
  · omega
theorem ok45 : CtrOK Try.prog K8 45 (pureCtr K8 ps45 spec45) := by
  refine pure_ok (C := cf8 [] Try.f45) (cfg8OK (CtrsOK.nil) _) mixed (fn := Try.f45) Try.func45 (by kernel_rfl) (by kernel_rfl) (by kernel_rfl) (Λ := fun _ _ => none) ?_ ?_ ?_
  · exact fun _ _ _ _ _ _ _ _ h => by cases h
  · rintro ⟨x, ⟨⟩⟩
    exact of_decide_eq_true (by kernel_rfl)
  · rintro ⟨x, ⟨⟩⟩ hw hn
    exact run45 x (hn _ (List.mem_singleton.2 rfl))
theorem run90 (x : List Int) (hs : x.length ≤ 1000000) : (evFn (cf8 [] Try.f90) (fun _ => none) Try.f90 (argsV ps90 (x, ()))).sat fun v' rows => leV v' (spec90 (x, ())).v ∧ rows = (spec90 (x, ())).rows := by
  refine cast (by kernel_rfl) (?_ : (x.isEmpty = true → (nat_lit 0 = nat_lit 0 ∧ nat_lit 0 = nat_lit 0) ∧ [RowD.mk (Ty.int IntKind.u8) []] = [RowD.mk (Ty.int IntKind.u8) x]) ∧ ((0 : Nat) + x.length) * (1 : Nat) ≤ (70368744177664 : Nat) ∧ (nat_lit 0 = nat_lit 0 ∧ nat_lit 0 = nat_lit 0) ∧ [RowD.mk (Ty.int IntKind.u8) ([] ++ x)] = [RowD.mk (Ty.int IntKind.u8) x])
  refine ⟨fun h => ⟨⟨rfl, rfl⟩, ?_⟩, ?_, ⟨rfl, rfl⟩, rfl⟩
  · have : x = [] := List.isEmpty_iff.1 h
    subst this; rfl
  · omega
theorem ok90 : CtrOK Try.prog K8 90 (pureCtr K8 ps90 spec90) := by
  refine pure_ok (C := cf8 [] Try.f90) (cfg8OK (CtrsOK.nil) _) mixed (fn := Try.f90) Try.func90 (by kernel_rfl) (by kernel_rfl) (by kernel_rfl) (Λ := fun _ _ => none) ?_ ?_ ?_
  · exact fun _ _ _ _ _ _ _ _ h => by cases h
  · rintro ⟨x, ⟨⟩⟩
    exact of_decide_eq_true (by kernel_rfl)
  · rintro ⟨x, ⟨⟩⟩ hw hn
    exact run90 x (hn _ (List.mem_singleton.2 rfl))
theorem run91 (x : List Int) (hs : x.length ≤ 1000000) : (evFn (cf8 [] Try.f91) (fun _ => none) Try.f91 (argsV ps91 (x, ()))).sat fun v' rows => leV v' (spec91 (x, ())).v ∧ rows = (spec91 (x, ())).rows := by
  refine cast (by kernel_rfl) (?_ : (x.isEmpty = true → (nat_lit 0 = nat_lit 0 ∧ nat_lit 0 = nat_lit 0) ∧ [RowD.mk (Ty.int IntKind.i64) []] = [RowD.mk (Ty.int IntKind.i64) x]) ∧ ((0 : Nat) + x.length) * (8 : Nat) ≤ (70368744177664 : Nat) ∧ (nat_lit 0 = nat_lit 0 ∧ nat_lit 0 = nat_lit 0) ∧ [RowD.mk (Ty.int IntKind.i64) ([] ++ x)] = [RowD.mk (Ty.int IntKind.i64) x])
  refine ⟨fun h => ⟨⟨rfl, rfl⟩, ?_⟩, ?_, ⟨rfl, rfl⟩, rfl⟩
  · have : x = [] := List.isEmpty_iff.1 h
    subst this; rfl
  · omega
theorem ok91 : CtrOK Try.prog K8 91 (pureCtr K8 ps91 spec91) := by
  refine pure_ok (C := cf8 [] Try.f91) (cfg8OK (CtrsOK.nil) _) mixed (fn := Try.f91) Try.func91 (by kernel_rfl) (by kernel_rfl) (by kernel_rfl) (Λ := fun _ _ => none) ?_ ?_ ?_
  · exact fun _ _ _ _ _ _ _ _ h => by cases h
  · rintro ⟨x, ⟨⟩⟩
    exact of_decide_eq_true (by kernel_rfl)
  · rintro ⟨x, ⟨⟩⟩ hw hn
    exact run91 x (hn _ (List.mem_singleton.2 rfl))
theorem run78 (x : Innings) (hs : smallI x) : (evFn (cf8 [k45, k90, k91] Try.f78) (fun _ => none) Try.f78 (argsV psI (x, ()))).sat fun v' rows => leV v' (spec78 (x, ())).v ∧ rows = (spec78 (x, ())).rows := by
  refine cast (by kernel_rfl) (?_ : x.11.length ≤ (1000000 : Nat) ∧ x.13.length ≤ (1000000 : Nat) ∧ x.14.length ≤ (1000000 : Nat) ∧ x.16.length ≤ (1000000 : Nat) ∧ x.21.length ≤ (1000000 : Nat) ∧ (x.1 = x.1 ∧ x.2 = x.2 ∧ x.3 = x.3 ∧ x.4 = x.4 ∧ x.5 = x.5 ∧ x.6.1 = x.6.1 ∧ x.6.2 = x.6.2 ∧ x.6.3 = x.6.3 ∧ x.6.4 = x.6.4 ∧ x.6.5 = x.6.5 ∧ x.7 = x.7 ∧ x.8 = x.8 ∧ x.9 = x.9 ∧ x.10 = x.10 ∧ (nat_lit 0 = nat_lit 0 ∧ nat_lit 0 = nat_lit 0) ∧ x.12 = x.12 ∧ (nat_lit 1 = nat_lit 1 ∧ nat_lit 1 = nat_lit 1) ∧ (nat_lit 2 = nat_lit 2 ∧ nat_lit 2 = nat_lit 2) ∧ x.15 = x.15 ∧ (nat_lit 3 = nat_lit 3 ∧ nat_lit 3 = nat_lit 3) ∧ x.17 = x.17 ∧ x.18 = x.18 ∧ x.19 = x.19 ∧ x.20 = x.20 ∧ (nat_lit 4 = nat_lit 4 ∧ nat_lit 4 = nat_lit 4) ∧ x.22.1 = x.22.1 ∧ x.22.2.1 = x.22.2.1 ∧ x.23 = x.23 ∧ True) ∧ [RowD.mk (Ty.int IntKind.u8) x.11, RowD.mk (Ty.int IntKind.i64) x.13, RowD.mk (Ty.int IntKind.i64) x.14, RowD.mk (Ty.int IntKind.i64) x.16, RowD.mk Ty.bool x.21] = [RowD.mk (Ty.int IntKind.u8) x.11, RowD.mk (Ty.int IntKind.i64) x.13, RowD.mk (Ty.int IntKind.i64) x.14, RowD.mk (Ty.int IntKind.i64) x.16, RowD.mk Ty.bool x.21])
  obtain ⟨h1, h2, h3, h4, h5⟩ := hs
  simp [h1, h2, h3, h4, h5]
theorem ok78 : CtrOK Try.prog K8 78 (pureCtr K8 psI spec78) := by
  refine pure_ok (C := cf8 [k45, k90, k91] Try.f78) (cfg8OK (.cons ok45 (.cons ok90 (.cons ok91 .nil))) _) mixed (fn := Try.f78) Try.func78 (by kernel_rfl) (by kernel_rfl) (by kernel_rfl) (Λ := fun _ _ => none) ?_ ?_ ?_
  · exact fun _ _ _ _ _ _ _ _ h => by cases h
  · rintro ⟨x, ⟨⟩⟩
    exact of_decide_eq_true (by kernel_rfl)
  · rintro ⟨x, ⟨⟩⟩ hw hn
    exact run78 x (hn _ (List.mem_singleton.2 rfl))
theorem run44 (x : Innings) (hs : smallI x) : (evFn (cf8 [] Try.f44) (fun _ => none) Try.f44 (argsV psI (x, ()))).sat fun v' rows => leV v' (spec78 (x, ())).v ∧ rows = (spec78 (x, ())).rows := by
  refine cast (by kernel_rfl) (?_ : ((0 : Nat) + x.11.length) * (1 : Nat) ≤ (70368744177664 : Nat) ∧ ((0 : Nat) + x.13.length) * (8 : Nat) ≤ (70368744177664 : Nat) ∧ ((0 : Nat) + x.14.length) * (8 : Nat) ≤ (70368744177664 : Nat) ∧ ((0 : Nat) + x.16.length) * (8 : Nat) ≤ (70368744177664 : Nat) ∧ ((0 : Nat) + x.21.length) * (1 : Nat) ≤ (70368744177664 : Nat) ∧ (x.1 = x.1 ∧ x.2 = x.2 ∧ x.3 = x.3 ∧ x.4 = x.4 ∧ x.5 = x.5 ∧ x.6.1 = x.6.1 ∧ x.6.2 = x.6.2 ∧ x.6.3 = x.6.3 ∧ x.6.4 = x.6.4 ∧ x.6.5 = x.6.5 ∧ x.7 = x.7 ∧ x.8 = x.8 ∧ x.9 = x.9 ∧ x.10 = x.10 ∧ (nat_lit 0 = nat_lit 0 ∧ nat_lit 0 = nat_lit 0) ∧ x.12 = x.12 ∧ (nat_lit 1 = nat_lit 1 ∧ nat_lit 1 = nat_lit 1) ∧ (nat_lit 2 = nat_lit 2 ∧ nat_lit 2 = nat_lit 2) ∧ x.15 = x.15 ∧ (nat_lit 3 = nat_lit 3 ∧ nat_lit 3 = nat_lit 3) ∧ x.17 = x.17 ∧ x.18 = x.18 ∧ x.19 = x.19 ∧ x.20 = x.20 ∧ (nat_lit 4 = nat_lit 4 ∧ nat_lit 4 = nat_lit 4) ∧ x.22.1 = x.22.1 ∧ x.22.2.1 = x.22.2.1 ∧ x.23 = x.23 ∧ True) ∧ [RowD.mk (Ty.int IntKind.u8) ([] ++ x.11), RowD.mk (Ty.int IntKind.i64) ([] ++ x.13), RowD.mk (Ty.int IntKind.i64) ([] ++ x.14), RowD.mk (Ty.int IntKind.i64) ([] ++ x.16), RowD.mk Ty.bool ([] ++ x.21)] = [RowD.mk (Ty.int IntKind.u8) x.11, RowD.mk (Ty.int IntKind.i64) x.13, RowD.mk (Ty.int IntKind.i64) x.14, RowD.mk (Ty.int IntKind.i64) x.16, RowD.mk Ty.bool x.21])
  obtain ⟨h1, h2, h3, h4, h5⟩ := hs
  exact ⟨by omega, by omega, by omega, by omega, by omega, by simp, rfl⟩
theorem ok44 : CtrOK Try.prog K8 44 (pureCtr K8 psI spec78) := by
  refine pure_ok (C := cf8 [] Try.f44) (cfg8OK (CtrsOK.nil) _) mixed (fn := Try.f44) Try.func44 (by kernel_rfl) (by kernel_rfl) (by kernel_rfl) (Λ := fun _ _ => none) ?_ ?_ ?_
  · exact fun _ _ _ _ _ _ _ _ h => by cases h
  · rintro ⟨x, ⟨⟩⟩
    exact of_decide_eq_true (by kernel_rfl)
  · rintro ⟨x, ⟨⟩⟩ hw hn
    exact run44 x (hn _ (List.mem_singleton.2 rfl))
theorem run66 (x : Innings) (p : Int) (hs : smallI x) : (evFn (cf8 [k73, k74, k78] Try.f66) (fun _ => none) Try.f66 (argsV psII (x, p, ()))).sat fun v' rows => leV v' (spec66 (x, p, ())).v ∧ rows = (spec66 (x, p, ())).rows := by
  refine cast (by kernel_rfl) (?_ : smallI x ∧ ((!knownW x p) = true → ((x.1 = (keeperY x p).1 ∧ x.2 = (keeperY x p).2 ∧ x.3 = (keeperY x p).3 ∧ x.4 = (keeperY x p).4 ∧ x.5 = (keeperY x p).5 ∧ x.6.1 = (keeperY x p).6.1 ∧ x.6.2 = (keeperY x p).6.2 ∧ x.6.3 = (keeperY x p).6.3 ∧ x.6.4 = (keeperY x p).6.4 ∧ x.6.5 = (keeperY x p).6.5 ∧ x.7 = (keeperY x p).7 ∧ x.8 = (keeperY x p).8 ∧ x.9 = (keeperY x p).9 ∧ x.10 = (keeperY x p).10 ∧ (nat_lit 0 = nat_lit 0 ∧ nat_lit 0 = nat_lit 0) ∧ x.12 = (keeperY x p).12 ∧ (nat_lit 1 = nat_lit 1 ∧ nat_lit 1 = nat_lit 1) ∧ (nat_lit 2 = nat_lit 2 ∧ nat_lit 2 = nat_lit 2) ∧ x.15 = (keeperY x p).15 ∧ (nat_lit 3 = nat_lit 3 ∧ nat_lit 3 = nat_lit 3) ∧ x.17 = (keeperY x p).17 ∧ x.18 = (keeperY x p).18 ∧ x.19 = (keeperY x p).19 ∧ x.20 = (keeperY x p).20 ∧ (nat_lit 4 = nat_lit 4 ∧ nat_lit 4 = nat_lit 4) ∧ x.22.1 = (keeperY x p).22.1 ∧ x.22.2.1 = (keeperY x p).22.2.1 ∧ x.23 = (keeperY x p).23 ∧ True) ∧ (3 : Int) = keeperL x p ∧ True) ∧ [RowD.mk (Ty.int IntKind.u8) x.11, RowD.mk (Ty.int IntKind.i64) x.13, RowD.mk (Ty.int IntKind.i64) x.14, RowD.mk (Ty.int IntKind.i64) x.16, RowD.mk Ty.bool x.21] = [RowD.mk (Ty.int IntKind.u8) (keeperY x p).11, RowD.mk (Ty.int IntKind.i64) (keeperY x p).13, RowD.mk (Ty.int IntKind.i64) (keeperY x p).14, RowD.mk (Ty.int IntKind.i64) (keeperY x p).16, RowD.mk Ty.bool (keeperY x p).21]) ∧ ((!knownW x p) = false → (replacedW x p = true → ((x.1 = (keeperY x p).1 ∧ x.2 = (keeperY x p).2 ∧ x.3 = (keeperY x p).3 ∧ x.4 = (keeperY x p).4 ∧ x.5 = (keeperY x p).5 ∧ x.6.1 = (keeperY x p).6.1 ∧ x.6.2 = (keeperY x p).6.2 ∧ x.6.3 = (keeperY x p).6.3 ∧ x.6.4 = (keeperY x p).6.4 ∧ x.6.5 = (keeperY x p).6.5 ∧ x.7 = (keeperY x p).7 ∧ x.8 = (keeperY x p).8 ∧ x.9 = (keeperY x p).9 ∧ x.10 = (keeperY x p).10 ∧ (nat_lit 0 = nat_lit 0 ∧ nat_lit 0 = nat_lit 0) ∧ x.12 = (keeperY x p).12 ∧ (nat_lit 1 = nat_lit 1 ∧ nat_lit 1 = nat_lit 1) ∧ (nat_lit 2 = nat_lit 2 ∧ nat_lit 2 = nat_lit 2) ∧ x.15 = (keeperY x p).15 ∧ (nat_lit 3 = nat_lit 3 ∧ nat_lit 3 = nat_lit 3) ∧ x.17 = (keeperY x p).17 ∧ x.18 = (keeperY x p).18 ∧ x.19 = (keeperY x p).19 ∧ x.20 = (keeperY x p).20 ∧ (nat_lit 4 = nat_lit 4 ∧ nat_lit 4 = nat_lit 4) ∧ x.22.1 = (keeperY x p).22.1 ∧ x.22.2.1 = (keeperY x p).22.2.1 ∧ x.23 = (keeperY x p).23 ∧ True) ∧ (18 : Int) = keeperL x p ∧ True) ∧ [RowD.mk (Ty.int IntKind.u8) x.11, RowD.mk (Ty.int IntKind.i64) x.13, RowD.mk (Ty.int IntKind.i64) x.14, RowD.mk (Ty.int IntKind.i64) x.16, RowD.mk Ty.bool x.21] = [RowD.mk (Ty.int IntKind.u8) (keeperY x p).11, RowD.mk (Ty.int IntKind.i64) (keeperY x p).13, RowD.mk (Ty.int IntKind.i64) (keeperY x p).14, RowD.mk (Ty.int IntKind.i64) (keeperY x p).16, RowD.mk Ty.bool (keeperY x p).21]) ∧ (replacedW x p = false → ((bif p == x.12 then true else p == x.19) = true → ((x.1 = (keeperY x p).1 ∧ x.2 = (keeperY x p).2 ∧ x.3 = (keeperY x p).3 ∧ x.4 = (keeperY x p).4 ∧ x.5 = (keeperY x p).5 ∧ x.6.1 = (keeperY x p).6.1 ∧ x.6.2 = (keeperY x p).6.2 ∧ x.6.3 = (keeperY x p).6.3 ∧ x.6.4 = (keeperY x p).6.4 ∧ x.6.5 = (keeperY x p).6.5 ∧ x.7 = (keeperY x p).7 ∧ x.8 = (keeperY x p).8 ∧ x.9 = (keeperY x p).9 ∧ x.10 = (keeperY x p).10 ∧ (nat_lit 0 = nat_lit 0 ∧ nat_lit 0 = nat_lit 0) ∧ x.12 = (keeperY x p).12 ∧ (nat_lit 1 = nat_lit 1 ∧ nat_lit 1 = nat_lit 1) ∧ (nat_lit 2 = nat_lit 2 ∧ nat_lit 2 = nat_lit 2) ∧ x.15 = (keeperY x p).15 ∧ (nat_lit 3 = nat_lit 3 ∧ nat_lit 3 = nat_lit 3) ∧ x.17 = (keeperY x p).17 ∧ x.18 = (keeperY x p).18 ∧ x.19 = (keeperY x p).19 ∧ x.20 = (keeperY x p).20 ∧ (nat_lit 4 = nat_lit 4 ∧ nat_lit 4 = nat_lit 4) ∧ x.22.1 = (keeperY x p).22.1 ∧ x.22.2.1 = (keeperY x p).22.2.1 ∧ x.23 = (keeperY x p).23 ∧ True) ∧ (17 : Int) = keeperL x p ∧ True) ∧ [RowD.mk (Ty.int IntKind.u8) x.11, RowD.mk (Ty.int IntKind.i64) x.13, RowD.mk (Ty.int IntKind.i64) x.14, RowD.mk (Ty.int IntKind.i64) x.16, RowD.mk Ty.bool x.21] = [RowD.mk (Ty.int IntKind.u8) (keeperY x p).11, RowD.mk (Ty.int IntKind.i64) (keeperY x p).13, RowD.mk (Ty.int IntKind.i64) (keeperY x p).14, RowD.mk (Ty.int IntKind.i64) (keeperY x p).16, RowD.mk Ty.bool (keeperY x p).21]) ∧ ((bif p == x.12 then true else p == x.19) = false → ((x.1 = (keeperY x p).1 ∧ x.2 = (keeperY x p).2 ∧ x.3 = (keeperY x p).3 ∧ x.4 = (keeperY x p).4 ∧ x.5 = (keeperY x p).5 ∧ x.6.1 = (keeperY x p).6.1 ∧ x.6.2 = (keeperY x p).6.2 ∧ x.6.3 = (keeperY x p).6.3 ∧ x.6.4 = (keeperY x p).6.4 ∧ x.6.5 = (keeperY x p).6.5 ∧ x.7 = (keeperY x p).7 ∧ x.8 = (keeperY x p).8 ∧ x.9 = (keeperY x p).9 ∧ x.10 = (keeperY x p).10 ∧ (nat_lit 0 = nat_lit 0 ∧ nat_lit 0 = nat_lit 0) ∧ x.12 = (keeperY x p).12 ∧ (nat_lit 1 = nat_lit 1 ∧ nat_lit 1 = nat_lit 1) ∧ (nat_lit 2 = nat_lit 2 ∧ nat_lit 2 = nat_lit 2) ∧ x.15 = (keeperY x p).15 ∧ (nat_lit 3 = nat_lit 3 ∧ nat_lit 3 = nat_lit 3) ∧ x.17 = (keeperY x p).17 ∧ x.18 = (keeperY x p).18 ∧ p = (keeperY x p).19 ∧ x.20 = (keeperY x p).20 ∧ (nat_lit 4 = nat_lit 4 ∧ nat_lit 4 = nat_lit 4) ∧ x.22.1 = (keeperY x p).22.1 ∧ x.22.2.1 = (keeperY x p).22.2.1 ∧ x.23 = (keeperY x p).23 ∧ True) ∧ (0 : Int) = keeperL x p ∧ True) ∧ [RowD.mk (Ty.int IntKind.u8) x.11, RowD.mk (Ty.int IntKind.i64) x.13, RowD.mk (Ty.int IntKind.i64) x.14, RowD.mk (Ty.int IntKind.i64) x.16, RowD.mk Ty.bool x.21] = [RowD.mk (Ty.int IntKind.u8) (keeperY x p).11, RowD.mk (Ty.int IntKind.i64) (keeperY x p).13, RowD.mk (Ty.int IntKind.i64) (keeperY x p).14, RowD.mk (Ty.int IntKind.i64) (keeperY x p).16, RowD.mk Ty.bool (keeperY x p).21]))))
  refine ⟨hs, fun h1 => ?_, fun h1 => ⟨fun h2 => ?_, fun h2 => ⟨fun h3 => ?_, fun h3 => ?_⟩⟩⟩
  · have k : knownW x p = false := by simpa using h1
    have e : keeperY x p = x := by simp [keeperY, k]
    have l : keeperL x p = 3 := by simp [keeperL, k]
    rw [e, l]; simp
  · have k : knownW x p = true := by simpa using h1
    have e : keeperY x p = x := by simp [keeperY, k, h2]
    have l : keeperL x p = 18 := by simp [keeperL, k, h2]
    rw [e, l]; simp
  · have k : knownW x p = true := by simpa using h1
    have h4 : (p == x.Bowler || p == x.Keeper) = true := by rw [← h3]; cases p == x.Bowler <;> rfl
    have e : keeperY x p = x := by simp only [keeperY, k, h2, h4]; simp
    have l : keeperL x p = 17 := by simp only [keeperL, k, h2, h4]; simp
    rw [e, l]; simp
  · have k : knownW x p = true := by simpa using h1
    have h4 : (p == x.Bowler || p == x.Keeper) = false := by rw [← h3]; cases p == x.Bowler <;> rfl
    have e : keeperY x p = { x with Keeper := p } := by simp only [keeperY, k, h2, h4]; simp
    have l : keeperL x p = 0 := by simp only [keeperL, k, h2, h4]; simp
    rw [e, l]; simp
theorem ok66 : CtrOK Try.prog K8 66 (pureCtr K8 psII spec66) := by
  refine pure_ok (C := cf8 [k73, k74, k78] Try.f66) (cfg8OK (.cons ok73 (.cons ok74 (.cons ok78 .nil))) _) mixed (fn := Try.f66) Try.func66 (by kernel_rfl) (by kernel_rfl) (by kernel_rfl) (Λ := fun _ _ => none) ?_ ?_ ?_
  · exact fun _ _ _ _ _ _ _ _ h => by cases h
  · rintro ⟨x, p, ⟨⟩⟩
    exact of_decide_eq_true (by kernel_rfl)
  · rintro ⟨x, p, ⟨⟩⟩ hw hn
    exact run66 x p (hn _ (List.mem_singleton.2 rfl))
theorem run68 (x : Innings) (p : Int) (hs : smallI x) : (evFn (cf8 [k44, k72, k76] Try.f68) (fun _ => none) Try.f68 (argsV psII (x, p, ()))).sat fun v' rows => leV v' (spec66 (x, p, ())).v ∧ rows = (spec66 (x, p, ())).rows := by
  refine cast (by kernel_rfl) (?_ : smallI x ∧ ((!knownW x p) = true → ((x.1 = (keeperY x p).1 ∧ x.2 = (keeperY x p).2 ∧ x.3 = (keeperY x p).3 ∧ x.4 = (keeperY x p).4 ∧ x.5 = (keeperY x p).5 ∧ x.6.1 = (keeperY x p).6.1 ∧ x.6.2 = (keeperY x p).6.2 ∧ x.6.3 = (keeperY x p).6.3 ∧ x.6.4 = (keeperY x p).6.4 ∧ x.6.5 = (keeperY x p).6.5 ∧ x.7 = (keeperY x p).7 ∧ x.8 = (keeperY x p).8 ∧ x.9 = (keeperY x p).9 ∧ x.10 = (keeperY x p).10 ∧ (nat_lit 0 = nat_lit 0 ∧ nat_lit 0 = nat_lit 0) ∧ x.12 = (keeperY x p).12 ∧ (nat_lit 1 = nat_lit 1 ∧ nat_lit 1 = nat_lit 1) ∧ (nat_lit 2 = nat_lit 2 ∧ nat_lit 2 = nat_lit 2) ∧ x.15 = (keeperY x p).15 ∧ (nat_lit 3 = nat_lit 3 ∧ nat_lit 3 = nat_lit 3) ∧ x.17 = (keeperY x p).17 ∧ x.18 = (keeperY x p).18 ∧ x.19 = (keeperY x p).19 ∧ x.20 = (keeperY x p).20 ∧ (nat_lit 4 = nat_lit 4 ∧ nat_lit 4 = nat_lit 4) ∧ x.22.1 = (keeperY x p).22.1 ∧ x.22.2.1 = (keeperY x p).22.2.1 ∧ x.23 = (keeperY x p).23 ∧ True) ∧ (3 : Int) = keeperL x p ∧ True) ∧ [RowD.mk (Ty.int IntKind.u8) x.11, RowD.mk (Ty.int IntKind.i64) x.13, RowD.mk (Ty.int IntKind.i64) x.14, RowD.mk (Ty.int IntKind.i64) x.16, RowD.mk Ty.bool x.21] = [RowD.mk (Ty.int IntKind.u8) (keeperY x p).11, RowD.mk (Ty.int IntKind.i64) (keeperY x p).13, RowD.mk (Ty.int IntKind.i64) (keeperY x p).14, RowD.mk (Ty.int IntKind.i64) (keeperY x p).16, RowD.mk Ty.bool (keeperY x p).21]) ∧ ((!knownW x p) = false → (replacedW x p = true → ((x.1 = (keeperY x p).1 ∧ x.2 = (keeperY x p).2 ∧ x.3 = (keeperY x p).3 ∧ x.4 = (keeperY x p).4 ∧ x.5 = (keeperY x p).5 ∧ x.6.1 = (keeperY x p).6.1 ∧ x.6.2 = (keeperY x p).6.2 ∧ x.6.3 = (keeperY x p).6.3 ∧ x.6.4 = (keeperY x p).6.4 ∧ x.6.5 = (keeperY x p).6.5 ∧ x.7 = (keeperY x p).7 ∧ x.8 = (keeperY x p).8 ∧ x.9 = (keeperY x p).9 ∧ x.10 = (keeperY x p).10 ∧ (nat_lit 0 = nat_lit 0 ∧ nat_lit 0 = nat_lit 0) ∧ x.12 = (keeperY x p).12 ∧ (nat_lit 1 = nat_lit 1 ∧ nat_lit 1 = nat_lit 1) ∧ (nat_lit 2 = nat_lit 2 ∧ nat_lit 2 = nat_lit 2) ∧ x.15 = (keeperY x p).15 ∧ (nat_lit 3 = nat_lit 3 ∧ nat_lit 3 = nat_lit 3) ∧ x.17 = (keeperY x p).17 ∧ x.18 = (keeperY x p).18 ∧ x.19 = (keeperY x p).19 ∧ x.20 = (keeperY x p).20 ∧ (nat_lit 4 = nat_lit 4 ∧ nat_lit 4 = nat_lit 4) ∧ x.22.1 = (keeperY x p).22.1 ∧ x.22.2.1 = (keeperY x p).22.2.1 ∧ x.23 = (keeperY x p).23 ∧ True) ∧ (18 : Int) = keeperL x p ∧ True) ∧ [RowD.mk (Ty.int IntKind.u8) x.11, RowD.mk (Ty.int IntKind.i64) x.13, RowD.mk (Ty.int IntKind.i64) x.14, RowD.mk (Ty.int IntKind.i64) x.16, RowD.mk Ty.bool x.21] = [RowD.mk (Ty.int IntKind.u8) (keeperY x p).11, RowD.mk (Ty.int IntKind.i64) (keeperY x p).13, RowD.mk (Ty.int IntKind.i64) (keeperY x p).14, RowD.mk (Ty.int IntKind.i64) (keeperY x p).16, RowD.mk Ty.bool (keeperY x p).21]) ∧ (replacedW x p = false → ((bif p == x.12 then true else p == x.19) = true → ((x.1 = (keeperY x p).1 ∧ x.2 = (keeperY x p).2 ∧ x.3 = (keeperY x p).3 ∧ x.4 = (keeperY x p).4 ∧ x.5 = (keeperY x p).5 ∧ x.6.1 = (keeperY x p).6.1 ∧ x.6.2 = (keeperY x p).6.2 ∧ x.6.3 = (keeperY x p).6.3 ∧ x.6.4 = (keeperY x p).6.4 ∧ x.6.5 = (keeperY x p).6.5 ∧ x.7 = (keeperY x p).7 ∧ x.8 = (keeperY x p).8 ∧ x.9 = (keeperY x p).9 ∧ x.10 = (keeperY x p).10 ∧ (nat_lit 0 = nat_lit 0 ∧ nat_lit 0 = nat_lit 0) ∧ x.12 = (keeperY x p).12 ∧ (nat_lit 1 = nat_lit 1 ∧ nat_lit 1 = nat_lit 1) ∧ (nat_lit 2 = nat_lit 2 ∧ nat_lit 2 = nat_lit 2) ∧ x.15 = (keeperY x p).15 ∧ (nat_lit 3 = nat_lit 3 ∧ nat_lit 3 = nat_lit 3) ∧ x.17 = (keeperY x p).17 ∧ x.18 = (keeperY x p).18 ∧ x.19 = (keeperY x p).19 ∧ x.20 = (keeperY x p).20 ∧ (nat_lit 4 = nat_lit 4 ∧ nat_lit 4 = nat_lit 4) ∧ x.22.1 = (keeperY x p).22.1 ∧ x.22.2.1 = (keeperY x p).22.2.1 ∧ x.23 = (keeperY x p).23 ∧ True) ∧ (17 : Int) = keeperL x p ∧ True) ∧ [RowD.mk (Ty.int IntKind.u8) x.11, RowD.mk (Ty.int IntKind.i64) x.13, RowD.mk (Ty.int IntKind.i64) x.14, RowD.mk (Ty.int IntKind.i64) x.16, RowD.mk Ty.bool x.21] = [RowD.mk (Ty.int IntKind.u8) (keeperY x p).11, RowD.mk (Ty.int IntKind.i64) (keeperY x p).13, RowD.mk (Ty.int IntKind.i64) (keeperY x p).14, RowD.mk (Ty.int IntKind.i64) (keeperY x p).16, RowD.mk Ty.bool (keeperY x p).21]) ∧ ((bif p == x.12 then true else p == x.19) = false → ((x.1 = (keeperY x p).1 ∧ x.2 = (keeperY x p).2 ∧ x.3 = (keeperY x p).3 ∧ x.4 = (keeperY x p).4 ∧ x.5 = (keeperY x p).5 ∧ x.6.1 = (keeperY x p).6.1 ∧ x.6.2 = (keeperY x p).6.2 ∧ x.6.3 = (keeperY x p).6.3 ∧ x.6.4 = (keeperY x p).6.4 ∧ x.6.5 = (keeperY x p).6.5 ∧ x.7 = (keeperY x p).7 ∧ x.8 = (keeperY x p).8 ∧ x.9 = (keeperY x p).9 ∧ x.10 = (keeperY x p).10 ∧ (nat_lit 0 = nat_lit 0 ∧ nat_lit 0 = nat_lit 0) ∧ x.12 = (keeperY x p).12 ∧ (nat_lit 1 = nat_lit 1 ∧ nat_lit 1 = nat_lit 1) ∧ (nat_lit 2 = nat_lit 2 ∧ nat_lit 2 = nat_lit 2) ∧ x.15 = (keeperY x p).15 ∧ (nat_lit 3 = nat_lit 3 ∧ nat_lit 3 = nat_lit 3) ∧ x.17 = (keeperY x p).17 ∧ x.18 = (keeperY x p).18 ∧ p = (keeperY x p).19 ∧ x.20 = (keeperY x p).20 ∧ (nat_lit 4 = nat_lit 4 ∧ nat_lit 4 = nat_lit 4) ∧ x.22.1 = (keeperY x p).22.1 ∧ x.22.2.1 = (keeperY x p).22.2.1 ∧ x.23 = (keeperY x p).23 ∧ True) ∧ (0 : Int) = keeperL x p ∧ True) ∧ [RowD.mk (Ty.int IntKind.u8) x.11, RowD.mk (Ty.int IntKind.i64) x.13, RowD.mk (Ty.int IntKind.i64) x.14, RowD.mk (Ty.int IntKind.i64) x.16, RowD.mk Ty.bool x.21] = [RowD.mk (Ty.int IntKind.u8) (keeperY x p).11, RowD.mk (Ty.int IntKind.i64) (keeperY x p).13, RowD.mk (Ty.int IntKind.i64) (keeperY x p).14, RowD.mk (Ty.int IntKind.i64) (keeperY x p).16, RowD.mk Ty.bool (keeperY x p).21]))))
  refine ⟨hs, fun h1 => ?_, fun h1 => ⟨fun h2 => ?_, fun h2 => ⟨fun h3 => ?_, fun h3 => ?_⟩⟩⟩
  · have k : knownW x p = false := by simpa using h1
    have e : keeperY x p = x := by simp [keeperY, k]
    have l : keeperL x p = 3 := by simp [keeperL, k]
    rw [e, l]; simp
  · have k : knownW x p = true := by simpa using h1
    have e : keeperY x p = x := by simp [keeperY, k, h2]
    have l : keeperL x p = 18 := by simp [keeperL, k, h2]
    rw [e, l]; simp
  · have k : knownW x p = true := by simpa using h1
    have h4 : (p == x.Bowler || p == x.Keeper) = true := by rw [← h3]; cases p == x.Bowler <;> rfl
    have e : keeperY x p = x := by simp only [keeperY, k, h2, h4]; simp
    have l : keeperL x p = 17 := by simp only [keeperL, k, h2, h4]; simp
    rw [e, l]; simp
  · have k : knownW x p = true := by simpa using h1
    have h4 : (p == x.Bowler || p == x.Keeper) = false := by rw [← h3]; cases p == x.Bowler <;> rfl
    have e : keeperY x p = { x with Keeper := p } := by simp only [keeperY, k, h2, h4]; simp
    have l : keeperL x p = 0 := by simp only [keeperL, k, h2, h4]; simp
    rw [e, l]; simp
theorem ok68 : CtrOK Try.prog K8 68 (pureCtr K8 psII spec66) := by
  refine pure_ok (C := cf8 [k44, k72, k76] Try.f68) (cfg8OK (.cons ok44 (.cons ok72 (.cons ok76 .nil))) _) mixed (fn := Try.f68) Try.func68 (by kernel_rfl) (by kernel_rfl) (by kernel_rfl) (Λ := fun _ _ => none) ?_ ?_ ?_
  · exact fun _ _ _ _ _ _ _ _ h => by cases h
  · rintro ⟨x, p, ⟨⟩⟩
    exact of_decide_eq_true (by kernel_rfl)
  · rintro ⟨x, p, ⟨⟩⟩ hw hn
    exact run68 x p (hn _ (List.mem_singleton.2 rfl))
theorem run46 (x : Innings) (p : Int) (on : Bool) (hs : smallI x) (hp : i64R p) : (evFn (cf8 [k73, k74, k78] Try.f46) (fun _ => none) Try.f46 (argsV psIIB (x, p, on, ()))).sat fun v' rows => leV v' (spec46 (x, p, on, ())).v ∧ rows = (spec46 (x, p, on, ())).rows := by
  refine cast (by kernel_rfl) (?_ : smallI x ∧ ((!knownW x p) = true → ((x.1 = (substY x p on).1 ∧ x.2 = (substY x p on).2 ∧ x.3 = (substY x p on).3 ∧ x.4 = (substY x p on).4 ∧ x.5 = (substY x p on).5 ∧ x.6.1 = (substY x p on).6.1 ∧ x.6.2 = (substY x p on).6.2 ∧ x.6.3 = (substY x p on).6.3 ∧ x.6.4 = (substY x p on).6.4 ∧ x.6.5 = (substY x p on).6.5 ∧ x.7 = (substY x p on).7 ∧ x.8 = (substY x p on).8 ∧ x.9 = (substY x p on).9 ∧ x.10 = (substY x p on).10 ∧ (nat_lit 0 = nat_lit 0 ∧ nat_lit 0 = nat_lit 0) ∧ x.12 = (substY x p on).12 ∧ (nat_lit 1 = nat_lit 1 ∧ nat_lit 1 = nat_lit 1) ∧ (nat_lit 2 = nat_lit 2 ∧ nat_lit 2 = nat_lit 2) ∧ x.15 = (substY x p on).15 ∧ (nat_lit 3 = nat_lit 3 ∧ nat_lit 3 = nat_lit 3) ∧ x.17 = (substY x p on).17 ∧ x.18 = (substY x p on).18 ∧ x.19 = (substY x p on).19 ∧ x.20 = (substY x p on).20 ∧ (nat_lit 4 = nat_lit 4 ∧ nat_lit 4 = nat_lit 4) ∧ x.22.1 = (substY x p on).22.1 ∧ x.22.2.1 = (substY x p on).22.2.1 ∧ x.23 = (substY x p on).23 ∧ True) ∧ (3 : Int) = substL x p on ∧ True) ∧ [RowD.mk (Ty.int IntKind.u8) x.11, RowD.mk (Ty.int IntKind.i64) x.13, RowD.mk (Ty.int IntKind.i64) x.14, RowD.mk (Ty.int IntKind.i64) x.16, RowD.mk Ty.bool x.21] = [RowD.mk (Ty.int IntKind.u8) (substY x p on).11, RowD.mk (Ty.int IntKind.i64) (substY x p on).13, RowD.mk (Ty.int IntKind.i64) (substY x p on).14, RowD.mk (Ty.int IntKind.i64) (substY x p on).16, RowD.mk Ty.bool (substY x p on).21]) ∧ ((!knownW x p) = false → ((replacedW x p == on) = true → ((x.1 = (substY x p on).1 ∧ x.2 = (substY x p on).2 ∧ x.3 = (substY x p on).3 ∧ x.4 = (substY x p on).4 ∧ x.5 = (substY x p on).5 ∧ x.6.1 = (substY x p on).6.1 ∧ x.6.2 = (substY x p on).6.2 ∧ x.6.3 = (substY x p on).6.3 ∧ x.6.4 = (substY x p on).6.4 ∧ x.6.5 = (substY x p on).6.5 ∧ x.7 = (substY x p on).7 ∧ x.8 = (substY x p on).8 ∧ x.9 = (substY x p on).9 ∧ x.10 = (substY x p on).10 ∧ (nat_lit 0 = nat_lit 0 ∧ nat_lit 0 = nat_lit 0) ∧ x.12 = (substY x p on).12 ∧ (nat_lit 1 = nat_lit 1 ∧ nat_lit 1 = nat_lit 1) ∧ (nat_lit 2 = nat_lit 2 ∧ nat_lit 2 = nat_lit 2) ∧ x.15 = (substY x p on).15 ∧ (nat_lit 3 = nat_lit 3 ∧ nat_lit 3 = nat_lit 3) ∧ x.17 = (substY x p on).17 ∧ x.18 = (substY x p on).18 ∧ x.19 = (substY x p on).19 ∧ x.20 = (substY x p on).20 ∧ (nat_lit 4 = nat_lit 4 ∧ nat_lit 4 = nat_lit 4) ∧ x.22.1 = (substY x p on).22.1 ∧ x.22.2.1 = (substY x p on).22.2.1 ∧ x.23 = (substY x p on).23 ∧ True) ∧ (18 : Int) = substL x p on ∧ True) ∧ [RowD.mk (Ty.int IntKind.u8) x.11, RowD.mk (Ty.int IntKind.i64) x.13, RowD.mk (Ty.int IntKind.i64) x.14, RowD.mk (Ty.int IntKind.i64) x.16, RowD.mk Ty.bool x.21] = [RowD.mk (Ty.int IntKind.u8) (substY x p on).11, RowD.mk (Ty.int IntKind.i64) (substY x p on).13, RowD.mk (Ty.int IntKind.i64) (substY x p on).14, RowD.mk (Ty.int IntKind.i64) (substY x p on).16, RowD.mk Ty.bool (substY x p on).21]) ∧ ((replacedW x p == on) = false → ((0 : Int) ≤ IntKind.i64.wrap (p - (1 : Int)) ∧ IntKind.i64.wrap (p - (1 : Int)) < (↑x.21.length : Int)) ∧ (((bif bif on then (bif bif on then x.19 == p else false then x.12 else x.12) == p else false then bif bif on then x.19 == p else false then x.1 else x.1 else bif bif on then x.19 == p else false then x.1 else x.1) = (substY x p on).1 ∧ (bif bif on then (bif bif on then x.19 == p else false then x.12 else x.12) == p else false then bif bif on then x.19 == p else false then x.2 else x.2 else bif bif on then x.19 == p else false then x.2 else x.2) = (substY x p on).2 ∧ (bif bif on then (bif bif on then x.19 == p else false then x.12 else x.12) == p else false then bif bif on then x.19 == p else false then x.3 else x.3 else bif bif on then x.19 == p else false then x.3 else x.3) = (substY x p on).3 ∧ (bif bif on then (bif bif on then x.19 == p else false then x.12 else x.12) == p else false then bif bif on then x.19 == p else false then x.4 else x.4 else bif bif on then x.19 == p else false then x.4 else x.4) = (substY x p on).4 ∧ (bif bif on then (bif bif on then x.19 == p else false then x.12 else x.12) == p else false then bif bif on then x.19 == p else false then x.5 else x.5 else bif bif on then x.19 == p else false then x.5 else x.5) = (substY x p on).5 ∧ (bif bif on then (bif bif on then x.19 == p else false then x.12 else x.12) == p else false then bif bif on then x.19 == p else false then x.6.1 else x.6.1 else bif bif on then x.19 == p else false then x.6.1 else x.6.1) = (substY x p on).6.1 ∧ (bif bif on then (bif bif on then x.19 == p else false then x.12 else x.12) == p else false then bif bif on then x.19 == p else false then x.6.2 else x.6.2 else bif bif on then x.19 == p else false then x.6.2 else x.6.2) = (substY x p on).6.2 ∧ (bif bif on then (bif bif on then x.19 == p else false then x.12 else x.12) == p else false then bif bif on then x.19 == p else false then x.6.3 else x.6.3 else bif bif on then x.19 == p else false then x.6.3 else x.6.3) = (substY x p on).6.3 ∧ (bif bif on then (bif bif on then x.19 == p else false then x.12 else x.12) == p else false then bif bif on then x.19 == p else false then x.6.4 else x.6.4 else bif bif on then x.19 == p else false then x.6.4 else x.6.4) = (substY x p on).6.4 ∧ (bif bif on then (bif bif on then x.19 == p else false then x.12 else x.12) == p else false then bif bif on then x.19 == p else false then x.6.5 else x.6.5 else bif bif on then x.19 == p else false then x.6.5 else x.6.5) = (substY x p on).6.5 ∧ (bif bif on then (bif bif on then x.19 == p else false then x.12 else x.12) == p else false then bif bif on then x.19 == p else false then x.7 else x.7 else bif bif on then x.19 == p else false then x.7 else x.7) = (substY x p on).7 ∧ (bif bif on then (bif bif on then x.19 == p else false then x.12 else x.12) == p else false then bif bif on then x.19 == p else false then x.8 else x.8 else bif bif on then x.19 == p else false then x.8 else x.8) = (substY x p on).8 ∧ (bif bif on then (bif bif on then x.19 == p else false then x.12 else x.12) == p else false then bif bif on then x.19 == p else false then x.9 else x.9 else bif bif on then x.19 == p else false then x.9 else x.9) = (substY x p on).9 ∧ (bif bif on then (bif bif on then x.19 == p else false then x.12 else x.12) == p else false then bif bif on then x.19 == p else false then x.10 else x.10 else bif bif on then x.19 == p else false then x.10 else x.10) = (substY x p on).10 ∧ (nat_lit 0 = nat_lit 0 ∧ nat_lit 0 = nat_lit 0) ∧ (bif bif on then (bif bif on then x.19 == p else false then x.12 else x.12) == p else false then (0 : Int) else bif bif on then x.19 == p else false then x.12 else x.12) = (substY x p on).12 ∧ (nat_lit 1 = nat_lit 1 ∧ nat_lit 1 = nat_lit 1) ∧ (nat_lit 2 = nat_lit 2 ∧ nat_lit 2 = nat_lit 2) ∧ (bif bif on then (bif bif on then x.19 == p else false then x.12 else x.12) == p else false then bif bif on then x.19 == p else false then x.15 else x.15 else bif bif on then x.19 == p else false then x.15 else x.15) = (substY x p on).15 ∧ (nat_lit 3 = nat_lit 3 ∧ nat_lit 3 = nat_lit 3) ∧ (bif bif on then (bif bif on then x.19 == p else false then x.12 else x.12) == p else false then bif bif on then x.19 == p else false then x.17 else x.17 else bif bif on then x.19 == p else false then x.17 else x.17) = (substY x p on).17 ∧ (bif bif on then (bif bif on then x.19 == p else false then x.12 else x.12) == p else false then bif bif on then x.19 == p else false then x.18 else x.18 else bif bif on then x.19 == p else false then x.18 else x.18) = (substY x p on).18 ∧ (bif bif on then (bif bif on then x.19 == p else false then x.12 else x.12) == p else false then bif bif on then x.19 == p else false then (0 : Int) else x.19 else bif bif on then x.19 == p else false then (0 : Int) else x.19) = (substY x p on).19 ∧ (bif bif on then (bif bif on then x.19 == p else false then x.12 else x.12) == p else false then bif bif on then x.19 == p else false then x.20 else x.20 else bif bif on then x.19 == p else false then x.20 else x.20) = (substY x p on).20 ∧ (nat_lit 4 = nat_lit 4 ∧ nat_lit 4 = nat_lit 4) ∧ (bif bif on then (bif bif on then x.19 == p else false then x.12 else x.12) == p else false then bif bif on then x.19 == p else false then x.22.1 else x.22.1 else bif bif on then x.19 == p else false then x.22.1 else x.22.1) = (substY x p on).22.1 ∧ (bif bif on then (bif bif on then x.19 == p else false then x.12 else x.12) == p else false then bif bif on then x.19 == p else false then x.22.2.1 else x.22.2.1 else bif bif on then x.19 == p else false then x.22.2.1 else x.22.2.1) = (substY x p on).22.2.1 ∧ (bif bif on then (bif bif on then x.19 == p else false then x.12 else x.12) == p else false then bif bif on then x.19 == p else false then x.23 else x.23 else bif bif on then x.19 == p else false then x.23 else x.23) = (substY x p on).23 ∧ True) ∧ (0 : Int) = substL x p on ∧ True) ∧ [RowD.mk (Ty.int IntKind.u8) x.11, RowD.mk (Ty.int IntKind.i64) x.13, RowD.mk (Ty.int IntKind.i64) x.14, RowD.mk (Ty.int IntKind.i64) x.16, RowD.mk Ty.bool (x.21.set (IntKind.i64.wrap (p - (1 : Int))).toNat on)] = [RowD.mk (Ty.int IntKind.u8) (substY x p on).11, RowD.mk (Ty.int IntKind.i64) (substY x p on).13, RowD.mk (Ty.int IntKind.i64) (substY x p on).14, RowD.mk (Ty.int IntKind.i64) (substY x p on).16, RowD.mk Ty.bool (substY x p on).21])))
  refine ⟨hs, fun h1 => ?_, fun h1 => ⟨fun h2 => ?_, fun h2 => ?_⟩⟩
  · have k : knownW x p = false := by simpa using h1
    have e : substY x p on = x := by simp [substY, k]
    have l : substL x p on = 3 := by simp [substL, k]
    rw [e, l]; simp
  · have k : knownW x p = true := by simpa using h1
    have e : substY x p on = x := by simp only [substY, k, h2]; simp
    have l : substL x p on = 18 := by simp only [substL, k, h2]; simp
    rw [e, l]; simp
  · have k : knownW x p = true := by simpa using h1
    have e : substY x p on = putSub x p on := by simp only [substY, k, h2]; simp
    have l : substL x p on = 0 := by simp only [substL, k, h2]; simp
    obtain ⟨ew, a, b⟩ := idx_ok hp k
    rw [e, l, ew]
    refine ⟨⟨a, b⟩, ?_⟩
    simp only [Bool.cond_self]
    cases on with
    | false => simp [putSub]
    | true => cases hk : (x.Keeper == p) <;> cases hb : (x.Bowler == p) <;> simp [putSub, hk, hb]
theorem ok46 : CtrOK Try.prog K8 46 (pureCtr K8 psIIB spec46) := by
  refine pure_ok (C := cf8 [k73, k74, k78] Try.f46) (cfg8OK (.cons ok73 (.cons ok74 (.cons ok78 .nil))) _) mixed (fn := Try.f46) Try.func46 (by kernel_rfl) (by kernel_rfl) (by kernel_rfl) (Λ := fun _ _ => none) ?_ ?_ ?_
  · exact fun _ _ _ _ _ _ _ _ h => by cases h
  · rintro ⟨x, p, on, ⟨⟩⟩
    exact of_decide_eq_true (by kernel_rfl)
  · rintro ⟨x, p, on, ⟨⟩⟩ hw hn
    exact run46 x p on (hn _ (List.mem_singleton.2 rfl)) (wf_i64 (wf_fst (wf_snd hw)))
theorem run69 (x : Innings) (p : Int) (on : Bool) (hs : smallI x) (hp : i64R p) : (evFn (cf8 [k44, k72, k76] Try.f69) (fun _ => none) Try.f69 (argsV psIIB (x, p, on, ()))).sat fun v' rows => leV v' (spec46 (x, p, on, ())).v ∧ rows = (spec46 (x, p, on, ())).rows := by
  refine cast (by kernel_rfl) (?_ : smallI x ∧ ((!knownW x p) = true → ((x.1 = (substY x p on).1 ∧ x.2 = (substY x p on).2 ∧ x.3 = (substY x p on).3 ∧ x.4 = (substY x p on).4 ∧ x.5 = (substY x p on).5 ∧ x.6.1 = (substY x p on).6.1 ∧ x.6.2 = (substY x p on).6.2 ∧ x.6.3 = (substY x p on).6.3 ∧ x.6.4 = (substY x p on).6.4 ∧ x.6.5 = (substY x p on).6.5 ∧ x.7 = (substY x p on).7 ∧ x.8 = (substY x p on).8 ∧ x.9 = (substY x p on).9 ∧ x.10 = (substY x p on).10 ∧ (nat_lit 0 = nat_lit 0 ∧ nat_lit 0 = nat_lit 0) ∧ x.12 = (substY x p on).12 ∧ (nat_lit 1 = nat_lit 1 ∧ nat_lit 1 = nat_lit 1) ∧ (nat_lit 2 = nat_lit 2 ∧ nat_lit 2 = nat_lit 2) ∧ x.15 = (substY x p on).15 ∧ (nat_lit 3 = nat_lit 3 ∧ nat_lit 3 = nat_lit 3) ∧ x.17 = (substY x p on).17 ∧ x.18 = (substY x p on).18 ∧ x.19 = (substY x p on).19 ∧ x.20 = (substY x p on).20 ∧ (nat_lit 4 = nat_lit 4 ∧ nat_lit 4 = nat_lit 4) ∧ x.22.1 = (substY x p on).22.1 ∧ x.22.2.1 = (substY x p on).22.2.1 ∧ x.23 = (substY x p on).23 ∧ True) ∧ (3 : Int) = substL x p on ∧ True) ∧ [RowD.mk (Ty.int IntKind.u8) x.11, RowD.mk (Ty.int IntKind.i64) x.13, RowD.mk (Ty.int IntKind.i64) x.14, RowD.mk (Ty.int IntKind.i64) x.16, RowD.mk Ty.bool x.21] = [RowD.mk (Ty.int IntKind.u8) (substY x p on).11, RowD.mk (Ty.int IntKind.i64) (substY x p on).13, RowD.mk (Ty.int IntKind.i64) (substY x p on).14, RowD.mk (Ty.int IntKind.i64) (substY x p on).16, RowD.mk Ty.bool (substY x p on).21]) ∧ ((!knownW x p) = false → ((replacedW x p == on) = true → ((x.1 = (substY x p on).1 ∧ x.2 = (substY x p on).2 ∧ x.3 = (substY x p on).3 ∧ x.4 = (substY x p on).4 ∧ x.5 = (substY x p on).5 ∧ x.6.1 = (substY x p on).6.1 ∧ x.6.2 = (substY x p on).6.2 ∧ x.6.3 = (substY x p on).6.3 ∧ x.6.4 = (substY x p on).6.4 ∧ x.6.5 = (substY x p on).6.5 ∧ x.7 = (substY x p on).7 ∧ x.8 = (substY x p on).8 ∧ x.9 = (substY x p on).9 ∧ x.10 = (substY x p on).10 ∧ (nat_lit 0 = nat_lit 0 ∧ nat_lit 0 = nat_lit 0) ∧ x.12 = (substY x p on).12 ∧ (nat_lit 1 = nat_lit 1 ∧ nat_lit 1 = nat_lit 1) ∧ (nat_lit 2 = nat_lit 2 ∧ nat_lit 2 = nat_lit 2) ∧ x.15 = (substY x p on).15 ∧ (nat_lit 3 = nat_lit 3 ∧ nat_lit 3 = nat_lit 3) ∧ x.17 = (substY x p on).17 ∧ x.18 = (substY x p on).18 ∧ x.19 = (substY x p on).19 ∧ x.20 = (substY x p on).20 ∧ (nat_lit 4 = nat_lit 4 ∧ nat_lit 4 = nat_lit 4) ∧ x.22.1 = (substY x p on).22.1 ∧ x.22.2.1 = (substY x p on).22.2.1 ∧ x.23 = (substY x p on).23 ∧ True) ∧ (18 : Int) = substL x p on ∧ True) ∧ [RowD.mk (Ty.int IntKind.u8) x.11, RowD.mk (Ty.int IntKind.i64) x.13, RowD.mk (Ty.int IntKind.i64) x.14, RowD.mk (Ty.int IntKind.i64) x.16, RowD.mk Ty.bool x.21] = [RowD.mk (Ty.int IntKind.u8) (substY x p on).11, RowD.mk (Ty.int IntKind.i64) (substY x p on).13, RowD.mk (Ty.int IntKind.i64) (substY x p on).14, RowD.mk (Ty.int IntKind.i64) (substY x p on).16, RowD.mk Ty.bool (substY x p on).21]) ∧ ((replacedW x p == on) = false → ((0 : Int) ≤ IntKind.i64.wrap (p - (1 : Int)) ∧ IntKind.i64.wrap (p - (1 : Int)) < (↑x.21.length : Int)) ∧ (((bif bif on then (bif bif on then x.19 == p else false then x.12 else x.12) == p else false then bif bif on then x.19 == p else false then x.1 else x.1 else bif bif on then x.19 == p else false then x.1 else x.1) = (substY x p on).1 ∧ (bif bif on then (bif bif on then x.19 == p else false then x.12 else x.12) == p else false then bif bif on then x.19 == p else false then x.2 else x.2 else bif bif on then x.19 == p else false then x.2 else x.2) = (substY x p on).2 ∧ (bif bif on then (bif bif on then x.19 == p else false then x.12 else x.12) == p else false then bif bif on then x.19 == p else false then x.3 else x.3 else bif bif on then x.19 == p else false then x.3 else x.3) = (substY x p on).3 ∧ (bif bif on then (bif bif on then x.19 == p else false then x.12 else x.12) == p else false then bif bif on then x.19 == p else false then x.4 else x.4 else bif bif on then x.19 == p else false then x.4 else x.4) = (substY x p on).4 ∧ (bif bif on then (bif bif on then x.19 == p else false then x.12 else x.12) == p else false then bif bif on then x.19 == p else false then x.5 else x.5 else bif bif on then x.19 == p else false then x.5 else x.5) = (substY x p on).5 ∧ (bif bif on then (bif bif on then x.19 == p else false then x.12 else x.12) == p else false then bif bif on then x.19 == p else false then x.6.1 else x.6.1 else bif bif on then x.19 == p else false then x.6.1 else x.6.1) = (substY x p on).6.1 ∧ (bif bif on then (bif bif on then x.19 == p else false then x.12 else x.12) == p else false then bif bif on then x.19 == p else false then x.6.2 else x.6.2 else bif bif on then x.19 == p else false then x.6.2 else x.6.2) = (substY x p on).6.2 ∧ (bif bif on then (bif bif on then x.19 == p else false then x.12 else x.12) == p else false then bif bif on then x.19 == p else false then x.6.3 else x.6.3 else bif bif on then x.19 == p else false then x.6.3 else x.6.3) = (substY x p on).6.3 ∧ (bif bif on then (bif bif on then x.19 == p else false then x.12 else x.12) == p else false then bif bif on then x.19 == p else false then x.6.4 else x.6.4 else bif bif on then x.19 == p else false then x.6.4 else x.6.4) = (substY x p on).6.4 ∧ (bif bif on then (bif bif on then x.19 == p else false then x.12 else x.12) == p else false then bif bif on then x.19 == p else false then x.6.5 else x.6.5 else bif bif on then x.19 == p else false then x.6.5 else x.6.5) = (substY x p on).6.5 ∧ (bif bif on then (bif bif on then x.19 == p else false then x.12 else x.12) == p else false then bif bif on then x.19 == p else false then x.7 else x.7 else bif bif on then x.19 == p else false then x.7 else x.7) = (substY x p on).7 ∧ (bif bif on then (bif bif on then x.19 == p else false then x.12 else x.12) == p else false then bif bif on then x.19 == p else false then x.8 else x.8 else bif bif on then x.19 == p else false then x.8 else x.8) = (substY x p on).8 ∧ (bif bif on then (bif bif on then x.19 == p else false then x.12 else x.12) == p else false then bif bif on then x.19 == p else false then x.9 else x.9 else bif bif on then x.19 == p else false then x.9 else x.9) = (substY x p on).9 ∧ (bif bif on then (bif bif on then x.19 == p else false then x.12 else x.12) == p else false then bif bif on then x.19 == p else false then x.10 else x.10 else bif bif on then x.19 == p else false then x.10 else x.10) = (substY x p on).10 ∧ (nat_lit 0 = nat_lit 0 ∧ nat_lit 0 = nat_lit 0) ∧ (bif bif on then (bif bif on then x.19 == p else false then x.12 else x.12) == p else false then (0 : Int) else bif bif on then x.19 == p else false then x.12 else x.12) = (substY x p on).12 ∧ (nat_lit 1 = nat_lit 1 ∧ nat_lit 1 = nat_lit 1) ∧ (nat_lit 2 = nat_lit 2 ∧ nat_lit 2 = nat_lit 2) ∧ (bif bif on then (bif bif on then x.19 == p else false then x.12 else x.12) == p else false then bif bif on then x.19 == p else false then x.15 else x.15 else bif bif on then x.19 == p else false then x.15 else x.15) = (substY x p on).15 ∧ (nat_lit 3 = nat_lit 3 ∧ nat_lit 3 = nat_lit 3) ∧ (bif bif on then (bif bif on then x.19 == p else false then x.12 else x.12) == p else false then bif bif on then x.19 == p else false then x.17 else x.17 else bif bif on then x.19 == p else false then x.17 else x.17) = (substY x p on).17 ∧ (bif bif on then (bif bif on then x.19 == p else false then x.12 else x.12) == p else false then bif bif on then x.19 == p else false then x.18 else x.18 else bif bif on then x.19 == p else false then x.18 else x.18) = (substY x p on).18 ∧ (bif bif on then (bif bif on then x.19 == p else false then x.12 else x.12) == p else false then bif bif on then x.19 == p else false then (0 : Int) else x.19 else bif bif on then x.19 == p else false then (0 : Int) else x.19) = (substY x p on).19 ∧ (bif bif on then (bif bif on then x.19 == p else false then x.12 else x.12) == p else false then bif bif on then x.19 == p else false then x.20 else x.20 else bif bif on then x.19 == p else false then x.20 else x.20) = (substY x p on).20 ∧ (nat_lit 4 = nat_lit 4 ∧ nat_lit 4 = nat_lit 4) ∧ (bif bif on then (bif bif on then x.19 == p else false then x.12 else x.12) == p else false then bif bif on then x.19 == p else false then x.22.1 else x.22.1 else bif bif on then x.19 == p else false then x.22.1 else x.22.1) = (substY x p on).22.1 ∧ (bif bif on then (bif bif on then x.19 == p else false then x.12 else x.12) == p else false then bif bif on then x.19 == p else false then x.22.2.1 else x.22.2.1 else bif bif on then x.19 == p else false then x.22.2.1 else x.22.2.1) = (substY x p on).22.2.1 ∧ (bif bif on then (bif bif on then x.19 == p else false then x.12 else x.12) == p else false then bif bif on then x.19 == p else false then x.23 else x.23 else bif bif on then x.19 == p else false then x.23 else x.23) = (substY x p on).23 ∧ True) ∧ (0 : Int) = substL x p on ∧ True) ∧ [RowD.mk (Ty.int IntKind.u8) x.11, RowD.mk (Ty.int IntKind.i64) x.13, RowD.mk (Ty.int IntKind.i64) x.14, RowD.mk (Ty.int IntKind.i64) x.16, RowD.mk Ty.bool (x.21.set (IntKind.i64.wrap (p - (1 : Int))).toNat on)] = [RowD.mk (Ty.int IntKind.u8) (substY x p on).11, RowD.mk (Ty.int IntKind.i64) (substY x p on).13, RowD.mk (Ty.int IntKind.i64) (substY x p on).14, RowD.mk (Ty.int IntKind.i64) (substY x p on).16, RowD.mk Ty.bool (substY x p on).21])))
  refine ⟨hs, fun h1 => ?_, fun h1 => ⟨fun h2 => ?_, fun h2 => ?_⟩⟩
  · have k : knownW x p = false := by simpa using h1
    have e : substY x p on = x := by simp [substY, k]
    have l : substL x p on = 3 := by simp [substL, k]
    rw [e, l]; simp
  · have k : knownW x p = true := by simpa using h1
    have e : substY x p on = x := by simp only [substY, k, h2]; simp
    have l : substL x p on = 18 := by simp only [substL, k, h2]; simp
    rw [e, l]; simp
  · have k : knownW x p = true := by simpa using h1
    have e : substY x p on = putSub x p on := by simp only [substY, k, h2]; simp
    have l : substL x p on = 0 := by simp only [substL, k, h2]; simp
    obtain ⟨ew, a, b⟩ := idx_ok hp k
    rw [e, l, ew]
    refine ⟨⟨a, b⟩, ?_⟩
    simp only [Bool.cond_self]
    cases on with
    | false => simp [putSub]
    | true => cases hk : (x.Keeper == p) <;> cases hb : (x.Bowler == p) <;> simp [putSub, hk, hb]
theorem ok69 : CtrOK Try.prog K8 69 (pureCtr K8 psIIB spec46) := by
  refine pure_ok (C := cf8 [k44, k72, k76] Try.f69) (cfg8OK (.cons ok44 (.cons ok72 (.cons ok76 .nil))) _) mixed (fn := Try.f69) Try.func69 (by kernel_rfl) (by kernel_rfl) (by kernel_rfl) (Λ := fun _ _ => none) ?_ ?_ ?_
  · exact fun _ _ _ _ _ _ _ _ h => by cases h
  · rintro ⟨x, p, on, ⟨⟩⟩
    exact of_decide_eq_true (by kernel_rfl)
  · rintro ⟨x, p, on, ⟨⟩⟩ hw hn
    exact run69 x p on (hn _ (List.mem_singleton.2 rfl)) (wf_i64 (wf_fst (wf_snd hw)))
theorem run67 (x : Innings) (p : Int) (hs : smallI x) : (evFn (cf8 [k78] Try.f67) (fun _ => none) Try.f67 (argsV psII (x, p, ()))).sat fun v' rows => leV v' (spec67 (x, p, ())).v ∧ rows = (spec67 (x, p, ())).rows := by
  refine cast (by kernel_rfl) (?_ : smallI x ∧ ((bif decide (p < (0 : Int)) then true else decide (p > IntKind.i64.wrap ((↑x.21.length : Int) - (2 : Int)))) = true → ((x.1 = (outsideY x p).1 ∧ x.2 = (outsideY x p).2 ∧ x.3 = (outsideY x p).3 ∧ x.4 = (outsideY x p).4 ∧ x.5 = (outsideY x p).5 ∧ x.6.1 = (outsideY x p).6.1 ∧ x.6.2 = (outsideY x p).6.2 ∧ x.6.3 = (outsideY x p).6.3 ∧ x.6.4 = (outsideY x p).6.4 ∧ x.6.5 = (outsideY x p).6.5 ∧ x.7 = (outsideY x p).7 ∧ x.8 = (outsideY x p).8 ∧ x.9 = (outsideY x p).9 ∧ x.10 = (outsideY x p).10 ∧ (nat_lit 0 = nat_lit 0 ∧ nat_lit 0 = nat_lit 0) ∧ x.12 = (outsideY x p).12 ∧ (nat_lit 1 = nat_lit 1 ∧ nat_lit 1 = nat_lit 1) ∧ (nat_lit 2 = nat_lit 2 ∧ nat_lit 2 = nat_lit 2) ∧ x.15 = (outsideY x p).15 ∧ (nat_lit 3 = nat_lit 3 ∧ nat_lit 3 = nat_lit 3) ∧ x.17 = (outsideY x p).17 ∧ x.18 = (outsideY x p).18 ∧ x.19 = (outsideY x p).19 ∧ x.20 = (outsideY x p).20 ∧ (nat_lit 4 = nat_lit 4 ∧ nat_lit 4 = nat_lit 4) ∧ x.22.1 = (outsideY x p).22.1 ∧ x.22.2.1 = (outsideY x p).22.2.1 ∧ x.23 = (outsideY x p).23 ∧ True) ∧ (16 : Int) = outsideL x p ∧ True) ∧ [RowD.mk (Ty.int IntKind.u8) x.11, RowD.mk (Ty.int IntKind.i64) x.13, RowD.mk (Ty.int IntKind.i64) x.14, RowD.mk (Ty.int IntKind.i64) x.16, RowD.mk Ty.bool x.21] = [RowD.mk (Ty.int IntKind.u8) (outsideY x p).11, RowD.mk (Ty.int IntKind.i64) (outsideY x p).13, RowD.mk (Ty.int IntKind.i64) (outsideY x p).14, RowD.mk (Ty.int IntKind.i64) (outsideY x p).16, RowD.mk Ty.bool (outsideY x p).21]) ∧ ((bif decide (p < (0 : Int)) then true else decide (p > IntKind.i64.wrap ((↑x.21.length : Int) - (2 : Int)))) = false → ((x.1 = (outsideY x p).1 ∧ x.2 = (outsideY x p).2 ∧ x.3 = (outsideY x p).3 ∧ x.4 = (outsideY x p).4 ∧ x.5 = (outsideY x p).5 ∧ x.6.1 = (outsideY x p).6.1 ∧ x.6.2 = (outsideY x p).6.2 ∧ x.6.3 = (outsideY x p).6.3 ∧ x.6.4 = (outsideY x p).6.4 ∧ x.6.5 = (outsideY x p).6.5 ∧ x.7 = (outsideY x p).7 ∧ x.8 = (outsideY x p).8 ∧ x.9 = (outsideY x p).9 ∧ x.10 = (outsideY x p).10 ∧ (nat_lit 0 = nat_lit 0 ∧ nat_lit 0 = nat_lit 0) ∧ x.12 = (outsideY x p).12 ∧ (nat_lit 1 = nat_lit 1 ∧ nat_lit 1 = nat_lit 1) ∧ (nat_lit 2 = nat_lit 2 ∧ nat_lit 2 = nat_lit 2) ∧ x.15 = (outsideY x p).15 ∧ (nat_lit 3 = nat_lit 3 ∧ nat_lit 3 = nat_lit 3) ∧ x.17 = (outsideY x p).17 ∧ x.18 = (outsideY x p).18 ∧ x.19 = (outsideY x p).19 ∧ p = (outsideY x p).20 ∧ (nat_lit 4 = nat_lit 4 ∧ nat_lit 4 = nat_lit 4) ∧ x.22.1 = (outsideY x p).22.1 ∧ x.22.2.1 = (outsideY x p).22.2.1 ∧ x.23 = (outsideY x p).23 ∧ True) ∧ (0 : Int) = outsideL x p ∧ True) ∧ [RowD.mk (Ty.int IntKind.u8) x.11, RowD.mk (Ty.int IntKind.i64) x.13, RowD.mk (Ty.int IntKind.i64) x.14, RowD.mk (Ty.int IntKind.i64) x.16, RowD.mk Ty.bool x.21] = [RowD.mk (Ty.int IntKind.u8) (outsideY x p).11, RowD.mk (Ty.int IntKind.i64) (outsideY x p).13, RowD.mk (Ty.int IntKind.i64) (outsideY x p).14, RowD.mk (Ty.int IntKind.i64) (outsideY x p).16, RowD.mk Ty.bool (outsideY x p).21]))
  have ew : IntKind.i64.wrap ((x.Subs.length : Int) - 2) = (x.Subs.length : Int) - 2 := by
    have := hs.2.2.2.2
    rw [wrap64 (by omega) (by omega)]
  have hc : (bif decide (p < (0 : Int)) then true else decide (p > IntKind.i64.wrap ((x.Subs.length : Int) - (2 : Int)))) = tooFar x p := by
    rw [ew]; simp only [tooFar]; cases decide (p < 0) <;> rfl
  refine ⟨hs, fun h1 => ?_, fun h1 => ?_⟩
  · have h1 : tooFar x p = true := by rw [← hc]; exact h1
    have e : outsideY x p = x := by simp [outsideY, h1]
    have l : outsideL x p = 16 := by simp [outsideL, h1]
    rw [e, l]; simp
  · have h1 : tooFar x p = false := by rw [← hc]; exact h1
    have e : outsideY x p = { x with Outside := p } := by simp [outsideY, h1]
    have l : outsideL x p = 0 := by simp [outsideL, h1]
    rw [e, l]; simp
theorem ok67 : CtrOK Try.prog K8 67 (pureCtr K8 psII spec67) := by
  refine pure_ok (C := cf8 [k78] Try.f67) (cfg8OK (.cons ok78 .nil) _) mixed (fn := Try.f67) Try.func67 (by kernel_rfl) (by kernel_rfl) (by kernel_rfl) (Λ := fun _ _ => none) ?_ ?_ ?_
  · exact fun _ _ _ _ _ _ _ _ h => by cases h
  · rintro ⟨x, p, ⟨⟩⟩
    exact of_decide_eq_true (by kernel_rfl)
  · rintro ⟨x, p, ⟨⟩⟩ hw hn
    exact run67 x p (hn _ (List.mem_singleton.2 rfl))
theorem run70 (x : Innings) (p : Int) (hs : smallI x) : (evFn (cf8 [k44] Try.f70) (fun _ => none) Try.f70 (argsV psII (x, p, ()))).sat fun v' rows => leV v' (spec67 (x, p, ())).v ∧ rows = (spec67 (x, p, ())).rows := by
  refine cast (by kernel_rfl) (?_ : smallI x ∧ ((bif decide (p < (0 : Int)) then true else decide (p > IntKind.i64.wrap ((↑x.21.length : Int) - (2 : Int)))) = true → ((x.1 = (outsideY x p).1 ∧ x.2 = (outsideY x p).2 ∧ x.3 = (outsideY x p).3 ∧ x.4 = (outsideY x p).4 ∧ x.5 = (outsideY x p).5 ∧ x.6.1 = (outsideY x p).6.1 ∧ x.6.2 = (outsideY x p).6.2 ∧ x.6.3 = (outsideY x p).6.3 ∧ x.6.4 = (outsideY x p).6.4 ∧ x.6.5 = (outsideY x p).6.5 ∧ x.7 = (outsideY x p).7 ∧ x.8 = (outsideY x p).8 ∧ x.9 = (outsideY x p).9 ∧ x.10 = (outsideY x p).10 ∧ (nat_lit 0 = nat_lit 0 ∧ nat_lit 0 = nat_lit 0) ∧ x.12 = (outsideY x p).12 ∧ (nat_lit 1 = nat_lit 1 ∧ nat_lit 1 = nat_lit 1) ∧ (nat_lit 2 = nat_lit 2 ∧ nat_lit 2 = nat_lit 2) ∧ x.15 = (outsideY x p).15 ∧ (nat_lit 3 = nat_lit 3 ∧ nat_lit 3 = nat_lit 3) ∧ x.17 = (outsideY x p).17 ∧ x.18 = (outsideY x p).18 ∧ x.19 = (outsideY x p).19 ∧ x.20 = (outsideY x p).20 ∧ (nat_lit 4 = nat_lit 4 ∧ nat_lit 4 = nat_lit 4) ∧ x.22.1 = (outsideY x p).22.1 ∧ x.22.2.1 = (outsideY x p).22.2.1 ∧ x.23 = (outsideY x p).23 ∧ True) ∧ (16 : Int) = outsideL x p ∧ True) ∧ [RowD.mk (Ty.int IntKind.u8) x.11, RowD.mk (Ty.int IntKind.i64) x.13, RowD.mk (Ty.int IntKind.i64) x.14, RowD.mk (Ty.int IntKind.i64) x.16, RowD.mk Ty.bool x.21] = [RowD.mk (Ty.int IntKind.u8) (outsideY x p).11, RowD.mk (Ty.int IntKind.i64) (outsideY x p).13, RowD.mk (Ty.int IntKind.i64) (outsideY x p).14, RowD.mk (Ty.int IntKind.i64) (outsideY x p).16, RowD.mk Ty.bool (outsideY x p).21]) ∧ ((bif decide (p < (0 : Int)) then true else decide (p > IntKind.i64.wrap ((↑x.21.length : Int) - (2 : Int)))) = false → ((x.1 = (outsideY x p).1 ∧ x.2 = (outsideY x p).2 ∧ x.3 = (outsideY x p).3 ∧ x.4 = (outsideY x p).4 ∧ x.5 = (outsideY x p).5 ∧ x.6.1 = (outsideY x p).6.1 ∧ x.6.2 = (outsideY x p).6.2 ∧ x.6.3 = (outsideY x p).6.3 ∧ x.6.4 = (outsideY x p).6.4 ∧ x.6.5 = (outsideY x p).6.5 ∧ x.7 = (outsideY x p).7 ∧ x.8 = (outsideY x p).8 ∧ x.9 = (outsideY x p).9 ∧ x.10 = (outsideY x p).10 ∧ (nat_lit 0 = nat_lit 0 ∧ nat_lit 0 = nat_lit 0) ∧ x.12 = (outsideY x p).12 ∧ (nat_lit 1 = nat_lit 1 ∧ nat_lit 1 = nat_lit 1) ∧ (nat_lit 2 = nat_lit 2 ∧ nat_lit 2 = nat_lit 2) ∧ x.15 = (outsideY x p).15 ∧ (nat_lit 3 = nat_lit 3 ∧ nat_lit 3 = nat_lit 3) ∧ x.17 = (outsideY x p).17 ∧ x.18 = (outsideY x p).18 ∧ x.19 = (outsideY x p).19 ∧ p = (outsideY x p).20 ∧ (nat_lit 4 = nat_lit 4 ∧ nat_lit 4 = nat_lit 4) ∧ x.22.1 = (outsideY x p).22.1 ∧ x.22.2.1 = (outsideY x p).22.2.1 ∧ x.23 = (outsideY x p).23 ∧ True) ∧ (0 : Int) = outsideL x p ∧ True) ∧ [RowD.mk (Ty.int IntKind.u8) x.11, RowD.mk (Ty.int IntKind.i64) x.13, RowD.mk (Ty.int IntKind.i64) x.14, RowD.mk (Ty.int IntKind.i64) x.16, RowD.mk Ty.bool x.21] = [RowD.mk (Ty.int IntKind.u8) (outsideY x p).11, RowD.mk (Ty.int IntKind.i64) (outsideY x p).13, RowD.mk (Ty.int IntKind.i64) (outsideY x p).14, RowD.mk (Ty.int IntKind.i64) (outsideY x p).16, RowD.mk Ty.bool (outsideY x p).21]))
  have ew : IntKind.i64.wrap ((x.Subs.length : Int) - 2) = (x.Subs.length : Int) - 2 := by
    have := hs.2.2.2.2
    rw [wrap64 (by omega) (by omega)]
  have hc : (bif decide (p < (0 : Int)) then true else decide (p > IntKind.i64.wrap ((x.Subs.length : Int) - (2 : Int)))) = tooFar x p := by
    rw [ew]; simp only [tooFar]; cases decide (p < 0) <;> rfl
  refine ⟨hs, fun h1 => ?_, fun h1 => ?_⟩
  · have h1 : tooFar x p = true := by rw [← hc]; exact h1
    have e : outsideY x p = x := by simp [outsideY, h1]
    have l : outsideL x p = 16 := by simp [outsideL, h1]
    rw [e, l]; simp
  · have h1 : tooFar x p = false := by rw [← hc]; exact h1
    have e : outsideY x p = { x with Outside := p } := by simp [outsideY, h1]
    have l : outsideL x p = 0 := by simp [outsideL, h1]
    rw [e, l]; simp
theorem ok70 : CtrOK Try.prog K8 70 (pureCtr K8 psII spec67) := by
  refine pure_ok (C := cf8 [k44] Try.f70) (cfg8OK (.cons ok44 .nil) _) mixed (fn := Try.f70) Try.func70 (by kernel_rfl) (by kernel_rfl) (by kernel_rfl) (Λ := fun _ _ => none) ?_ ?_ ?_
  · exact fun _ _ _ _ _ _ _ _ h => by cases h
  · rintro ⟨x, p, ⟨⟩⟩
    exact of_decide_eq_true (by kernel_rfl)
  · rintro ⟨x, p, ⟨⟩⟩ hw hn
    exact run70 x p (hn _ (List.mem_singleton.2 rfl))
theorem run65   : (evFn (cf8 [] Try.f65) (fun _ => none) Try.f65 (argsV ps0 ())).sat fun v' rows => leV v' (spec65 ()).v ∧ rows = (spec65 ()).rows := by
  refine cast (by kernel_rfl) (?_ : ((0 : Int) ≤ (4 : Int) ∧ (4 : Int) = (4 : Int) ∧ (4 : Int) ≤ (17179869184 : Int)) ∧ ((0 : Int) = (0 : Int) ∧ (0 : Int) = (0 : Int) ∧ (0 : Int) = (0 : Int) ∧ (0 : Int) = (0 : Int) ∧ (0 : Int) = (0 : Int) ∧ (0 : Int) = (0 : Int) ∧ (0 : Int) = (0 : Int) ∧ (0 : Int) = (0 : Int) ∧ (0 : Int) = (0 : Int) ∧ (0 : Int) = (0 : Int) ∧ (0 : Int) = (0 : Int) ∧ (0 : Int) = (0 : Int) ∧ (0 : Int) = (0 : Int) ∧ (0 : Int) = (0 : Int) ∧ (nat_lit 0 = nat_lit 0 ∧ nat_lit 0 = nat_lit 0) ∧ (0 : Int) = (0 : Int) ∧ (nat_lit 1 = nat_lit 1 ∧ nat_lit 1 = nat_lit 1) ∧ (nat_lit 2 = nat_lit 2 ∧ nat_lit 2 = nat_lit 2) ∧ false = false ∧ (nat_lit 3 = nat_lit 3 ∧ nat_lit 3 = nat_lit 3) ∧ false = false ∧ (0 : Int) = (0 : Int) ∧ (0 : Int) = (0 : Int) ∧ (0 : Int) = (0 : Int) ∧ (nat_lit 4 = nat_lit 4 ∧ nat_lit 4 = nat_lit 4) ∧ (0 : Int) = (0 : Int) ∧ (0 : Int) = (0 : Int) ∧ (0 : Int) = (0 : Int) ∧ True) ∧ [RowD.mk (Ty.int IntKind.u8) [], RowD.mk (Ty.int IntKind.i64) [], RowD.mk (Ty.int IntKind.i64) [], RowD.mk (Ty.int IntKind.i64) [], RowD.mk Ty.bool (List.replicate (Int.toNat (4 : Int)) false)] = [RowD.mk (Ty.int IntKind.u8) [], RowD.mk (Ty.int IntKind.i64) [], RowD.mk (Ty.int IntKind.i64) [], RowD.mk (Ty.int IntKind.i64) [], RowD.mk Ty.bool [false, false, false, false]])
  exact ⟨⟨by omega, rfl, by omega⟩, by simp, rfl⟩
theorem ok65 : CtrOK Try.prog K8 65 (pureCtr K8 ps0 spec65) := by
  refine pure_ok (C := cf8 [] Try.f65) (cfg8OK (CtrsOK.nil) _) mixed (fn := Try.f65) Try.func65 (by kernel_rfl) (by kernel_rfl) (by kernel_rfl) (Λ := fun _ _ => none) ?_ ?_ ?_
  · exact fun _ _ _ _ _ _ _ _ h => by cases h
  · rintro ⟨⟩
    exact of_decide_eq_true (by kernel_rfl)
  · rintro ⟨⟩ hw hn
    exact run65 
end Go.Proofs.Ytogdeefpidccmaa

/- The field layer: the example, and the laws' functions. -/
namespace Go.Proofs.Ytogdeefpidccmaa
open Go Go.Mir
attribute [local irreducible] Go.Mir.RT.sat Go.Mir.evFn Go.Mir.stepObl
theorem step79 (xs : List Int) (v : Int) (hx : xs.length ≤ lenB) (i : Nat) (hi : inv79 xs v i) : (stepObl (J79 xs v) (inv79 xs v) (fun i => xs.length - i) i (T79 xs v) (evCode (cf8 [] Try.f79) (fun _ => none) (loopN Try.f79 0) (J79 xs v i)) (L79 i)).1 := by
  refine cast (by kernel_rfl) (?_ : (decide ((↑i : Int) < (↑xs.length : Int)) = true → ((0 : Int) ≤ (↑i : Int) ∧ (↑i : Int) < (↑xs.length : Int)) ∧ ((v == xs.getD (↑i : Int).toNat (dflt (Ty.int IntKind.i64))) = true → xs.contains v = true ∧ ((↑i : Int) = idx xs v (0 : Int) ∧ True) ∧ True) ∧ ((v == xs.getD (↑i : Int).toNat (dflt (Ty.int IntKind.i64))) = false → inv79 xs v (i + (1 : Nat)) ∧ xs.length - (i + (1 : Nat)) < xs.length - i ∧ (RowD.mk (Ty.int IntKind.i64) xs = RowD.mk (Ty.int IntKind.i64) xs ∧ v = v ∧ (↑xs.length : Int) = (↑xs.length : Int) ∧ IntKind.i64.wrap ((↑i : Int) + (1 : Int)) = (↑(i + (1 : Nat)) : Int) ∧ True) ∧ True)) ∧ (decide ((↑i : Int) < (↑xs.length : Int)) = false → xs.contains v = false ∧ True ∧ True))
  have e : (i : Int).toNat = i := by simp
  rw [e]
  refine ⟨fun h1 => ?_, fun h1 => ?_⟩
  · have h1 : i < xs.length := by simpa using h1
    refine ⟨⟨by omega, by omega⟩, fun h2 => ?_, fun h2 => ?_⟩
    · have h2 : v = xs.getD i (dflt (Ty.int IntKind.i64)) := eq_of_beq h2
      have h3 : xs[i]? = some v := by rw [h2]; exact getD_at _ h1
      refine ⟨by simpa using List.mem_of_getElem? h3, ⟨?_, trivial⟩, trivial⟩
      rw [idx_at xs v 0 i h3 hi.2]; omega
    · have h2 : v ≠ xs.getD i (0 : Int) := ne_of_beq_false h2
      have h3 : xs.getD i (0 : Int) = xs[i] := by rw [List.getD_eq_getElem?_getD, List.getElem?_eq_getElem h1]; rfl
      refine ⟨⟨by omega, ?_⟩, by omega, ⟨rfl, rfl, rfl, ?_, trivial⟩, trivial⟩
      · rw [List.take_succ_eq_append_getElem h1, List.mem_append, List.mem_singleton, not_or]
        exact ⟨hi.2, by rw [← h3]; exact h2⟩
      · have : xs.length ≤ 140737488355328 := hx
        rw [wrap64 (by omega) (by omega)]; omega
  · have h1 : ¬ i < xs.length := by simpa using h1
    refine ⟨?_, trivial, trivial⟩
    have := hi.2
    rw [List.take_of_length_le (by omega)] at this
    simpa using this
theorem loop79 (xs : List Int) (v : Int) (hx : xs.length ≤ lenB) : LoopOK Try.prog Try.f79.ntmps (loopN Try.f79 0) (loopSum ⟨[], [], 0⟩ (J79 xs v 0) (T79 xs v)) :=
  loop_by (cfg8OK (CtrsOK.nil) _) mixed (J79 xs v) (fun _ => rfl) (inv79 xs v) (fun i => xs.length - i) (fun _ _ => none) (fun _ _ _ _ _ h => by cases h) (T79 xs v) [] [] 0 (⟨Nat.zero_le _, by simp⟩) L79 (fun i hi => step79 xs v hx i hi)
theorem run79 (xs : List Int) (v : Int) (hx : xs.length ≤ lenB) : (evFn (cf8 [] Try.f79) (Λ79 xs v) Try.f79 (argsV psLV (xs, v, ()))).sat fun v' rows => leV v' (spec79 (xs, v, ())).v ∧ rows = (spec79 (xs, v, ())).rows := by
  refine cast (by kernel_rfl) (?_ : ((noH0 fun x => none) ∧ (RowD.mk (Ty.int IntKind.i64) xs = RowD.mk (Ty.int IntKind.i64) xs ∧ v = v ∧ (↑xs.length : Int) = (↑xs.length : Int) ∧ (0 : Int) = (↑(0 : Nat) : Int) ∧ True) ∧ True) ∧ (xs.contains v = true → idx xs v (0 : Int) = idx xs v (0 : Int) ∧ ([] : List RowD) = []) ∧ (xs.contains v = false → (-1 : Int) = idx xs v (0 : Int) ∧ ([] : List RowD) = []))
  refine ⟨⟨rfl, ⟨rfl, rfl, rfl, rfl, trivial⟩, trivial⟩, fun _ => ⟨rfl, rfl⟩, fun h => ⟨?_, rfl⟩⟩
  rw [idx_none]
  simpa using h
theorem ok79 : CtrOK Try.prog K8 79 (pureCtr K8 psLV spec79) := by
  refine pure_ok (C := cf8 [] Try.f79) (cfg8OK (CtrsOK.nil) _) mixed (fn := Try.f79) Try.func79 (by kernel_rfl) (by kernel_rfl) (by kernel_rfl) (Λ := fun x => Λ79 x.1 x.2.1) ?_ ?_ ?_
  · rintro ⟨xs, v, ⟨⟩⟩ hw hn
    exact LoopsOK.at (by kernel_rfl) (.cons (by kernel_rfl) (loop79 xs v (wf_slice (wf_fst hw))) .nil)
  · rintro ⟨xs, v, ⟨⟩⟩
    exact of_decide_eq_true (by kernel_rfl)
  · rintro ⟨xs, v, ⟨⟩⟩ hw hn
    exact run79 xs v (wf_slice (wf_fst hw))
theorem run47 (xs : List Int) (v : Int)  : (evFn (cf8 [k79] Try.f47) (fun _ => none) Try.f47 (argsV psLV (xs, v, ()))).sat fun v' rows => leV v' (spec47 (xs, v, ())).v ∧ rows = (spec47 (xs, v, ())).rows := by
  refine cast (by kernel_rfl) (?_ : decide (idx xs v (0 : Int) ≥ (0 : Int)) = hasLI xs v ∧ ([] : List RowD) = [])
  exact ⟨idx_has xs v 0 (Int.le_refl 0), rfl⟩
theorem ok47 : CtrOK Try.prog K8 47 (pureCtr K8 psLV spec47) := by
  refine pure_ok (C := cf8 [k79] Try.f47) (cfg8OK (.cons ok79 .nil) _) mixed (fn := Try.f47) Try.func47 (by kernel_rfl) (by kernel_rfl) (by kernel_rfl) (Λ := fun _ _ => none) ?_ ?_ ?_
  · exact fun _ _ _ _ _ _ _ _ h => by cases h
  · rintro ⟨xs, v, ⟨⟩⟩
    exact of_decide_eq_true (by kernel_rfl)
  · rintro ⟨xs, v, ⟨⟩⟩ hw hn
    exact run47 xs v
theorem run32   : (evFn (cf8 [k37, k38, k40, k42, k46, k65, k66, k67] Try.f32) (fun _ => none) Try.f32 (argsV ps0 ())).sat fun v' rows => leV v' (spec32 ()).v ∧ rows = (spec32 ()).rows := by
  refine conj_sat (cast (by kernel_rfl) (?_ : smallI (Innings.mk (0 : Int) (0 : Int) (0 : Int) (0 : Int) (0 : Int) (Extras.mk (0 : Int) (0 : Int) (0 : Int) (0 : Int) (0 : Int)) (0 : Int) (0 : Int) (0 : Int) (0 : Int) [] (0 : Int) [] [] false [] false (0 : Int) (0 : Int) (0 : Int) [false, false, false, false] ((0 : Int), (0 : Int), ()) (0 : Int)) ∧ smallI (Innings.mk (0 : Int) (0 : Int) (0 : Int) (0 : Int) (0 : Int) (Extras.mk (0 : Int) (0 : Int) (0 : Int) (0 : Int) (0 : Int)) (0 : Int) (0 : Int) (0 : Int) (0 : Int) [] (0 : Int) [] [] false [] false (0 : Int) (2 : Int) (0 : Int) [false, false, false, false] ((0 : Int), (0 : Int), ()) (0 : Int)) ∧ smallI (Innings.mk (0 : Int) (0 : Int) (0 : Int) (0 : Int) (0 : Int) (Extras.mk (0 : Int) (0 : Int) (0 : Int) (0 : Int) (0 : Int)) (0 : Int) (0 : Int) (0 : Int) (0 : Int) [] (0 : Int) [] [] false [] false (0 : Int) (2 : Int) (2 : Int) [false, false, false, false] ((0 : Int), (0 : Int), ()) (0 : Int)) ∧ smallI (Innings.mk (0 : Int) (0 : Int) (0 : Int) (0 : Int) (0 : Int) (Extras.mk (0 : Int) (0 : Int) (0 : Int) (0 : Int) (0 : Int)) (0 : Int) (0 : Int) (0 : Int) (0 : Int) [] (0 : Int) [] [] false [] false (0 : Int) (2 : Int) (2 : Int) [false, false, false, false] ((0 : Int), (0 : Int), ()) (0 : Int)) ∧ ([false, false, false, false].set ((2 : Int) - (1 : Int)).toNat true).length ≤ (1000000 : Nat) ∧ (bif keeperL (Innings.mk (0 : Int) (0 : Int) (0 : Int) (0 : Int) (0 : Int) (Extras.mk (0 : Int) (0 : Int) (0 : Int) (0 : Int) (0 : Int)) (0 : Int) (0 : Int) (0 : Int) (0 : Int) [] (0 : Int) [] [] false [] false (0 : Int) (0 : Int) (0 : Int) [false, false, false, false] ((0 : Int), (0 : Int), ()) (0 : Int)) (2 : Int) == (0 : Int) then bif outsideL (Innings.mk (0 : Int) (0 : Int) (0 : Int) (0 : Int) (0 : Int) (Extras.mk (0 : Int) (0 : Int) (0 : Int) (0 : Int) (0 : Int)) (0 : Int) (0 : Int) (0 : Int) (0 : Int) [] (0 : Int) [] [] false [] false (0 : Int) (2 : Int) (0 : Int) [false, false, false, false] ((0 : Int), (0 : Int), ()) (0 : Int)) (2 : Int) == (0 : Int) then bif outsideL (Innings.mk (0 : Int) (0 : Int) (0 : Int) (0 : Int) (0 : Int) (Extras.mk (0 : Int) (0 : Int) (0 : Int) (0 : Int) (0 : Int)) (0 : Int) (0 : Int) (0 : Int) (0 : Int) [] (0 : Int) [] [] false [] false (0 : Int) (2 : Int) (2 : Int) [false, false, false, false] ((0 : Int), (0 : Int), ()) (0 : Int)) (3 : Int) == (16 : Int) then bif readyW (Rules.mk ByteArray.empty (0 : Int) (0 : Int) (0 : Int) (0 : Int) (0 : Int) (0 : Int) (0 : Int) false (0 : Int) (0 : Int) (0 : Int) (2 : Int) []) (Innings.mk (0 : Int) (0 : Int) (0 : Int) (0 : Int) (0 : Int) (Extras.mk (0 : Int) (0 : Int) (0 : Int) (0 : Int) (0 : Int)) (0 : Int) (0 : Int) (0 : Int) (0 : Int) [] (0 : Int) [] [] false [] false (0 : Int) (2 : Int) (2 : Int) [false, false, false, false] ((0 : Int), (0 : Int), ()) (0 : Int)) == (0 : Int) then bif substL (Innings.mk (0 : Int) (0 : Int) (0 : Int) (0 : Int) (0 : Int) (Extras.mk (0 : Int) (0 : Int) (0 : Int) (0 : Int) (0 : Int)) (0 : Int) (0 : Int) (0 : Int) (0 : Int) [] (0 : Int) [] [] false [] false (0 : Int) (2 : Int) (2 : Int) [false, false, false, false] ((0 : Int), (0 : Int), ()) (0 : Int)) (2 : Int) true == (0 : Int) then bif (bif true && (2 : Int) == (2 : Int) then (0 : Int) else (2 : Int)) == (0 : Int) then bif eqLI (presentW (Innings.mk (0 : Int) (0 : Int) (0 : Int) (0 : Int) (0 : Int) (Extras.mk (0 : Int) (0 : Int) (0 : Int) (0 : Int) (0 : Int)) (0 : Int) (0 : Int) (0 : Int) (0 : Int) [] (bif true && (0 : Int) == (2 : Int) then (0 : Int) else (0 : Int)) [] [] false [] false (0 : Int) (bif true && (2 : Int) == (2 : Int) then (0 : Int) else (2 : Int)) (2 : Int) ([false, false, false, false].set ((2 : Int) - (1 : Int)).toNat true) ((0 : Int), (0 : Int), ()) (0 : Int))) [(1 : Int), (3 : Int), (4 : Int)] then namedW (Innings.mk (0 : Int) (0 : Int) (0 : Int) (0 : Int) (0 : Int) (Extras.mk (0 : Int) (0 : Int) (0 : Int) (0 : Int) (0 : Int)) (0 : Int) (0 : Int) (0 : Int) (0 : Int) [] (bif true && (0 : Int) == (2 : Int) then (0 : Int) else (0 : Int)) [] [] false [] false (0 : Int) (bif true && (2 : Int) == (2 : Int) then (0 : Int) else (2 : Int)) (2 : Int) ([false, false, false, false].set ((2 : Int) - (1 : Int)).toNat true) ((0 : Int), (0 : Int), ()) (0 : Int)) (Delivery.mk (1 : Int) (0 : Int) (0 : Int) (0 : Int) (0 : Int) false (2 : Int) (1 : Int) (2 : Int) (0 : Int) false (0 : Int)) == (18 : Int) else false else false else false else false else false else false else false) = true ∧ ([] : List RowD) = []))
  exact ⟨by simp [smallI], by simp [smallI], by simp [smallI], by simp [smallI], by simp, by kernel_rfl, rfl⟩
theorem ok32 : CtrOK Try.prog K8 32 (pureCtr K8 ps0 spec32) := by
  refine pure_ok (C := cf8 [k37, k38, k40, k42, k46, k65, k66, k67] Try.f32) (cfg8OK (.cons ok37 (.cons ok38 (.cons ok40 (.cons ok42 (.cons ok46 (.cons ok65 (.cons ok66 (.cons ok67 .nil)))))))) _) mixed (fn := Try.f32) Try.func32 (by kernel_rfl) (by kernel_rfl) (by kernel_rfl) (Λ := fun _ _ => none) ?_ ?_ ?_
  · exact fun _ _ _ _ _ _ _ _ h => by cases h
  · rintro ⟨⟩
    exact of_decide_eq_true (by kernel_rfl)
  · rintro ⟨⟩ hw hn
    exact run32 
theorem few_small (x : Innings) : smallI (fewW x) := by
  simp only [smallI, fewW, List.length_take]
  omega

theorem run10 (r : Rules) (x : Innings) (d : Delivery)  : (evFn (cf8 [k32, k33, k40, k41, k42, k43] Try.f10) (fun _ => none) Try.f10 (argsV (.prod (.nm .Rules) (.prod (.nm .Innings) (.prod (.nm .Delivery) .unit))) (r, x, d, ()))).sat fun v _ => isTrue v := by
  refine cast (by kernel_rfl) (?_ : ((!true) = true → false = true) ∧ ((!true) = false → ((0 : Int) ≤ (0 : Int) ∧ ((0 : Int) ≤ if (10 : Int) < (↑r.14.length : Int) then (10 : Int) else (↑r.14.length : Int)) ∧ (if (10 : Int) < (↑r.14.length : Int) then (10 : Int) else (↑r.14.length : Int)) ≤ (↑r.14.length : Int)) ∧ (bif readyW (Rules.mk r.1 r.2 r.3 r.4 r.5 r.6 r.7 r.8 r.9 r.10 r.11 r.12 r.13 (List.drop (Int.toNat (0 : Int)) (List.take (if (10 : Int) < (↑r.14.length : Int) then (10 : Int) else (↑r.14.length : Int)).toNat r.14))) (Innings.mk x.1 x.2 x.3 x.4 x.5 x.6 (if (1000000 : Int) < if (0 : Int) > x.7 then (0 : Int) else x.7 then (1000000 : Int) else if (0 : Int) > x.7 then (0 : Int) else x.7) x.8 x.9 x.10 (List.take (13 : Nat) x.11) x.12 (List.take (13 : Nat) x.13) (List.take (13 : Nat) x.14) x.15 (List.take (13 : Nat) x.16) x.17 x.18 x.19 x.20 (fewW x).21 x.22 x.23) == readyW (Rules.mk r.1 r.2 r.3 r.4 r.5 r.6 r.7 r.8 r.9 r.10 r.11 r.12 r.13 (List.drop (Int.toNat (0 : Int)) (List.take (if (10 : Int) < (↑r.14.length : Int) then (10 : Int) else (↑r.14.length : Int)).toNat r.14))) (Innings.mk x.1 x.2 x.3 x.4 x.5 x.6 (if (1000000 : Int) < if (0 : Int) > x.7 then (0 : Int) else x.7 then (1000000 : Int) else if (0 : Int) > x.7 then (0 : Int) else x.7) x.8 x.9 x.10 (List.take (13 : Nat) x.11) x.12 (List.take (13 : Nat) x.13) (List.take (13 : Nat) x.14) x.15 (List.take (13 : Nat) x.16) x.17 x.18 x.19 x.20 (fewW x).21 x.22 x.23) then namedW (Innings.mk x.1 x.2 x.3 x.4 x.5 x.6 (if (1000000 : Int) < if (0 : Int) > x.7 then (0 : Int) else x.7 then (1000000 : Int) else if (0 : Int) > x.7 then (0 : Int) else x.7) x.8 x.9 x.10 (List.take (13 : Nat) x.11) x.12 (List.take (13 : Nat) x.13) (List.take (13 : Nat) x.14) x.15 (List.take (13 : Nat) x.16) x.17 x.18 x.19 x.20 (fewW x).21 x.22 x.23) d == namedW (Innings.mk x.1 x.2 x.3 x.4 x.5 x.6 (if (1000000 : Int) < if (0 : Int) > x.7 then (0 : Int) else x.7 then (1000000 : Int) else if (0 : Int) > x.7 then (0 : Int) else x.7) x.8 x.9 x.10 (List.take (13 : Nat) x.11) x.12 (List.take (13 : Nat) x.13) (List.take (13 : Nat) x.14) x.15 (List.take (13 : Nat) x.16) x.17 x.18 x.19 x.20 (fewW x).21 x.22 x.23) d else false) = true))
  refine ⟨fun h => (by cases h), fun _ => ⟨⟨Int.le_refl 0, by split <;> omega, by split <;> omega⟩, ?_⟩⟩
  simp

theorem putSub_len (y : Innings) (p : Int) (on : Bool) : (putSub y p on).Subs.length = y.Subs.length := by simp [putSub]
theorem putSub_small {y : Innings} (h : smallI y) (p : Int) (on : Bool) : smallI (putSub y p on) := by
  simp only [smallI, putSub, List.length_set] at h ⊢
  exact h
theorem substY_small {y : Innings} (h : smallI y) (p : Int) (on : Bool) : smallI (substY y p on) := by
  unfold substY
  split
  · exact h
  · split
    · exact h
    · exact putSub_small h p on

theorem hereQ_set (l : List Bool) (k i : Nat) (hk : k < l.length) : hereQ (l.set k true) i = (hereQ l i && decide (i ≠ k)) := by
  simp only [hereQ, List.getD_eq_getElem?_getD, List.getElem?_set]
  by_cases h : k = i
  · subst h; simp [hk]
  · simp [h, Ne.symm h]

/-- one player leaves the field -/
theorem present_less (l : List Bool) (k : Nat) (hk : k < l.length) (h0 : l.getD k false = false) :
    (presentN (l.set k true) l.length).length = (presentN l l.length).length - 1 ∧ 1 ≤ (presentN l l.length).length ∧ ((k : Int) + 1) ∉ presentN (l.set k true) l.length := by
  have hf : (List.range l.length).filter (hereQ (l.set k true)) = ((List.range l.length).filter (hereQ l)).erase k := by
    rw [List.Nodup.erase_eq_filter (List.Pairwise.filter _ List.nodup_range), List.filter_filter]
    congr 1
    funext i
    rw [hereQ_set l k i hk]
    rw [Bool.and_comm]
    congr 1
    by_cases h : i = k <;> simp [h]
  have hm : k ∈ (List.range l.length).filter (hereQ l) := by
    rw [List.mem_filter, List.mem_range]
    exact ⟨hk, by simp only [hereQ, h0]; rfl⟩
  unfold presentN
  rw [hf]
  simp only [List.length_map]
  refine ⟨List.length_erase_of_mem hm, List.length_pos_of_mem hm, ?_⟩
  intro hc
  rw [List.mem_map] at hc
  obtain ⟨i, hi, e⟩ := hc
  have : i = k := by omega
  subst this
  exact (List.Nodup.not_mem_erase (List.Pairwise.filter _ List.nodup_range)) hi

structure Swapped (y : Innings) (p : Int) : Prop where
  len : ((presentW (substY y p true)).length : Int) = ((presentW y).length : Int) - 1
  pos : 1 ≤ (presentW y).length
  no : hasLI (presentW (substY y p true)) p = false
  law : substL (substY y p true) p false = 0
  back : presentW (substY (substY y p true) p false) = presentW y
  kp : (substY y p true).Keeper ≠ p
  bw : (substY y p true).Bowler ≠ p

theorem swaps (y : Innings) (p : Int) (h : substL y p true = 0) : Swapped y p := by
  have hk : knownW y p = true := by
    cases hk : knownW y p with
    | true => rfl
    | false => simp [substL, hk] at h
  have hr : replacedW y p = false := by
    cases hr : replacedW y p with
    | false => rfl
    | true => simp [substL, hk, hr] at h
  have hs : subAt y p = false := by simpa [replacedW, hk] using hr
  have e : substY y p true = putSub y p true := by simp [substY, hk, hr]
  have hb := hk
  simp only [knownW, Bool.and_eq_true, decide_eq_true_eq] at hb
  generalize hkk : (p - 1).toNat = k
  have hp : p = (k : Int) + 1 := by omega
  have hlt : k < y.Subs.length := by omega
  have hs' : y.Subs.getD k false = false := by rw [← hkk]; exact hs
  obtain ⟨a1, a2, a3⟩ := present_less y.Subs k hlt hs'
  have hP : presentW (putSub y p true) = presentN (y.Subs.set k true) y.Subs.length := by
    simp only [presentW, putSub, List.length_set, hkk]
  have hk2 : knownW (putSub y p true) p = true := by simp only [knownW, putSub_len]; exact hk
  have hs2 : subAt (putSub y p true) p = true := by
    simp only [subAt, putSub, hkk, List.getD_eq_getElem?_getD, List.getElem?_set_self hlt]; rfl
  have hr2 : replacedW (putSub y p true) p = true := by simp [replacedW, hk2, hs2]
  have e2 : substY (putSub y p true) p false = putSub (putSub y p true) p false := by simp [substY, hk2, hr2]
  refine ⟨?_, a2, ?_, ?_, ?_, ?_, ?_⟩
  · rw [e, hP, a1]; simp only [presentW] at a2 ⊢; omega
  · rw [e, hP]
    simp only [hasLI]
    rw [hp]
    simpa using a3
  · rw [e]; simp [substL, hk2, hr2]
  · rw [e, e2]
    have : (putSub (putSub y p true) p false).Subs = y.Subs := by
      simp only [putSub, hkk, List.set_set]
      apply List.ext_getElem?
      intro i
      rw [List.getElem?_set]
      by_cases hi : k = i
      · subst hi
        rw [if_pos rfl, if_pos hlt, List.getElem?_eq_getElem hlt]
        rw [List.getD_eq_getElem?_getD, List.getElem?_eq_getElem hlt] at hs'
        simpa using hs'.symm
      · rw [if_neg hi]
    simp only [presentW, this]
  · rw [e]
    simp only [putSub, Bool.true_and]
    by_cases h : y.Keeper = p
    · simp [h]; omega
    · rw [beq_eq_false_iff_ne.2 h]; exact h
  · rw [e]
    simp only [putSub, Bool.true_and]
    by_cases h : y.Bowler = p
    · simp [h]; omega
    · rw [beq_eq_false_iff_ne.2 h]; exact h

theorem run12 (x : Innings) (p : Int)  : (evFn (cf8 [k32, k33, k37, k38, k46, k47] Try.f12) (fun _ => none) Try.f12 (argsV (.prod (.nm .Innings) (.prod (.int .i64) .unit)) (x, p, ()))).sat fun v _ => isTrue v := by
  refine cast (by kernel_rfl) (?_ : ((!true) = true → false = true) ∧ ((!true) = false → (fewW x).21.length ≤ (1000000 : Nat) ∧ smallI (fewW x) ∧ ((substL (fewW x) p true != (0 : Int)) = true → (bif substL (fewW x) p true == (3 : Int) then true else substL (fewW x) p true == (18 : Int)) = true) ∧ ((substL (fewW x) p true != (0 : Int)) = false → (substY (fewW x) p true).21.length ≤ (1000000 : Nat) ∧ smallI (substY (fewW x) p true) ∧ ((((↑(presentW (substY (fewW x) p true)).length : Int) == IntKind.i64.wrap ((↑(presentW (fewW x)).length : Int) - (1 : Int))) = true → ((!hasLI (presentW (substY (fewW x) p true)) p) = true → ((substL (substY (fewW x) p true) p false == (0 : Int)) = true → (substY (substY (fewW x) p true) p false).21.length ≤ (1000000 : Nat) ∧ (eqLI (presentW (substY (substY (fewW x) p true) p false)) (presentW (fewW x)) = true → (((substY (fewW x) p true).19 != p) = true → True) ∧ (((substY (fewW x) p true).19 != p) = false → True)) ∧ (eqLI (presentW (substY (substY (fewW x) p true) p false)) (presentW (fewW x)) = false → True)) ∧ ((substL (substY (fewW x) p true) p false == (0 : Int)) = false → True)) ∧ ((!hasLI (presentW (substY (fewW x) p true)) p) = false → True)) ∧ (((↑(presentW (substY (fewW x) p true)).length : Int) == IntKind.i64.wrap ((↑(presentW (fewW x)).length : Int) - (1 : Int))) = false → True)) ∧ (true = true → (bif (↑(presentW (substY (fewW x) p true)).length : Int) == IntKind.i64.wrap ((↑(presentW (fewW x)).length : Int) - (1 : Int)) then bif !hasLI (presentW (substY (fewW x) p true)) p then bif substL (substY (fewW x) p true) p false == (0 : Int) then bif eqLI (presentW (substY (substY (fewW x) p true) p false)) (presentW (fewW x)) then bif (substY (fewW x) p true).19 != p then (substY (fewW x) p true).12 != p else false else false else false else false else false) = true))))
  have hsm := few_small x
  generalize fewW x = y at hsm ⊢
  have h1 := substY_small hsm p true
  have h2 := substY_small h1 p false
  have hw : ∀ h : substL y p true = 0, IntKind.i64.wrap (((presentW y).length : Int) - 1) = ((presentW y).length : Int) - 1 := fun h => by
    have a := presentN_len y.Subs y.Subs.length
    have b := hsm.2.2.2.2
    have c := (swaps y p h).pos
    simp only [presentW] at a c ⊢
    exact wrap64 (by omega) (by omega)
  have hL : substL y p true = 0 ∨ substL y p true = 3 ∨ substL y p true = 18 := by
    unfold substL; split
    · simp
    · split <;> simp
  refine ⟨fun h => (by cases h), fun _ => ⟨hsm.2.2.2.2, hsm, fun h => ?_, fun h => ?_⟩⟩
  · rcases hL with h3 | h3 | h3 <;> simp [h3] at h ⊢
  · have h : substL y p true = 0 := by simpa using h
    have S := swaps y p h
    have hww := hw h
    obtain ⟨s1, s2, s3, s4, s5, s6, s7⟩ := S
    simp only [hww, s1, s3, s4, s5]
    simp [h1.2.2.2.2, h1, h2.2.2.2.2, eqLI, s6, s7]
end Go.Proofs.Ytogdeefpidccmaa

/- Rules and bowlers: contracts. -/
namespace Go.Proofs.Ytogdeefpidccmaa
open Go Go.Mir
attribute [local irreducible] Go.Mir.RT.sat Go.Mir.evFn Go.Mir.stepObl
theorem run97 (n : Int) (lo : Int) (hi : Int)  : (evFn (cf8 [] Try.f97) (fun _ => none) Try.f97 (argsV ps97 (n, lo, hi, ()))).sat fun v' rows => leV v' (spec97 (n, lo, hi, ())).v ∧ rows = (spec97 (n, lo, hi, ())).rows := by
  refine cast (by kernel_rfl) (?_ : (bif decide (n ≥ lo) then decide (n ≤ hi) else false) = betweenW n lo hi ∧ ([] : List RowD) = [])
  simp only [betweenW]; grind
theorem ok97 : CtrOK Try.prog K8 97 (pureCtr K8 ps97 spec97) := by
  refine pure_ok (C := cf8 [] Try.f97) (cfg8OK (CtrsOK.nil) _) mixed (fn := Try.f97) Try.func97 (by kernel_rfl) (by kernel_rfl) (by kernel_rfl) (Λ := fun _ _ => none) ?_ ?_ ?_
  · exact fun _ _ _ _ _ _ _ _ h => by cases h
  · rintro ⟨n, lo, hi, ⟨⟩⟩
    exact of_decide_eq_true (by kernel_rfl)
  · rintro ⟨n, lo, hi, ⟨⟩⟩ hw hn
    exact run97 n lo hi
theorem run96 (n : Int) (lo : Int) (hi : Int)  : (evFn (cf8 [] Try.f96) (fun _ => none) Try.f96 (argsV ps97 (n, lo, hi, ()))).sat fun v' rows => leV v' (spec97 (n, lo, hi, ())).v ∧ rows = (spec97 (n, lo, hi, ())).rows := by
  refine cast (by kernel_rfl) (?_ : (bif decide (n ≥ lo) then decide (n ≤ hi) else false) = betweenW n lo hi ∧ ([] : List RowD) = [])
  simp only [betweenW]; grind
theorem ok96 : CtrOK Try.prog K8 96 (pureCtr K8 ps97 spec97) := by
  refine pure_ok (C := cf8 [] Try.f96) (cfg8OK (CtrsOK.nil) _) mixed (fn := Try.f96) Try.func96 (by kernel_rfl) (by kernel_rfl) (by kernel_rfl) (Λ := fun _ _ => none) ?_ ?_ ?_
  · exact fun _ _ _ _ _ _ _ _ h => by cases h
  · rintro ⟨n, lo, hi, ⟨⟩⟩
    exact of_decide_eq_true (by kernel_rfl)
  · rintro ⟨n, lo, hi, ⟨⟩⟩ hw hn
    exact run96 n lo hi
theorem run84 (x : Innings) (p : Int)  : (evFn (cf8 [] Try.f84) (fun _ => none) Try.f84 (argsV psII (x, p, ()))).sat fun v' rows => leV v' (spec84 (x, p, ())).v ∧ rows = (spec84 (x, p, ())).rows := by
  refine cast (by kernel_rfl) (?_ : (bif decide (p ≥ (1 : Int)) then decide (p ≤ (↑x.16.length : Int)) else false) = knownB x p ∧ ([] : List RowD) = [])
  simp only [knownB]; grind
theorem ok84 : CtrOK Try.prog K8 84 (pureCtr K8 psII spec84) := by
  refine pure_ok (C := cf8 [] Try.f84) (cfg8OK (CtrsOK.nil) _) mixed (fn := Try.f84) Try.func84 (by kernel_rfl) (by kernel_rfl) (by kernel_rfl) (Λ := fun _ _ => none) ?_ ?_ ?_
  · exact fun _ _ _ _ _ _ _ _ h => by cases h
  · rintro ⟨x, p, ⟨⟩⟩
    exact of_decide_eq_true (by kernel_rfl)
  · rintro ⟨x, p, ⟨⟩⟩ hw hn
    exact run84 x p
theorem run87 (x : Innings) (p : Int)  : (evFn (cf8 [] Try.f87) (fun _ => none) Try.f87 (argsV psII (x, p, ()))).sat fun v' rows => leV v' (spec84 (x, p, ())).v ∧ rows = (spec84 (x, p, ())).rows := by
  refine cast (by kernel_rfl) (?_ : (bif decide (p ≥ (1 : Int)) then decide (p ≤ (↑x.16.length : Int)) else false) = knownB x p ∧ ([] : List RowD) = [])
  simp only [knownB]; grind
theorem ok87 : CtrOK Try.prog K8 87 (pureCtr K8 psII spec84) := by
  refine pure_ok (C := cf8 [] Try.f87) (cfg8OK (CtrsOK.nil) _) mixed (fn := Try.f87) Try.func87 (by kernel_rfl) (by kernel_rfl) (by kernel_rfl) (Λ := fun _ _ => none) ?_ ?_ ?_
  · exact fun _ _ _ _ _ _ _ _ h => by cases h
  · rintro ⟨x, p, ⟨⟩⟩
    exact of_decide_eq_true (by kernel_rfl)
  · rintro ⟨x, p, ⟨⟩⟩ hw hn
    exact run87 x p
theorem run83 (x : Innings) (hs : smallI x) : (evFn (cf8 [k45, k90, k91] Try.f83) (fun _ => none) Try.f83 (argsV psI (x, ()))).sat fun v' rows => leV v' (spec78 (x, ())).v ∧ rows = (spec78 (x, ())).rows := by
  refine cast (by kernel_rfl) (?_ : x.11.length ≤ (1000000 : Nat) ∧ x.13.length ≤ (1000000 : Nat) ∧ x.14.length ≤ (1000000 : Nat) ∧ x.16.length ≤ (1000000 : Nat) ∧ x.21.length ≤ (1000000 : Nat) ∧ (x.1 = x.1 ∧ x.2 = x.2 ∧ x.3 = x.3 ∧ x.4 = x.4 ∧ x.5 = x.5 ∧ x.6.1 = x.6.1 ∧ x.6.2 = x.6.2 ∧ x.6.3 = x.6.3 ∧ x.6.4 = x.6.4 ∧ x.6.5 = x.6.5 ∧ x.7 = x.7 ∧ x.8 = x.8 ∧ x.9 = x.9 ∧ x.10 = x.10 ∧ (nat_lit 0 = nat_lit 0 ∧ nat_lit 0 = nat_lit 0) ∧ x.12 = x.12 ∧ (nat_lit 1 = nat_lit 1 ∧ nat_lit 1 = nat_lit 1) ∧ (nat_lit 2 = nat_lit 2 ∧ nat_lit 2 = nat_lit 2) ∧ x.15 = x.15 ∧ (nat_lit 3 = nat_lit 3 ∧ nat_lit 3 = nat_lit 3) ∧ x.17 = x.17 ∧ x.18 = x.18 ∧ x.19 = x.19 ∧ x.20 = x.20 ∧ (nat_lit 4 = nat_lit 4 ∧ nat_lit 4 = nat_lit 4) ∧ x.22.1 = x.22.1 ∧ x.22.2.1 = x.22.2.1 ∧ x.23 = x.23 ∧ True) ∧ [RowD.mk (Ty.int IntKind.u8) x.11, RowD.mk (Ty.int IntKind.i64) x.13, RowD.mk (Ty.int IntKind.i64) x.14, RowD.mk (Ty.int IntKind.i64) x.16, RowD.mk Ty.bool x.21] = [RowD.mk (Ty.int IntKind.u8) x.11, RowD.mk (Ty.int IntKind.i64) x.13, RowD.mk (Ty.int IntKind.i64) x.14, RowD.mk (Ty.int IntKind.i64) x.16, RowD.mk Ty.bool x.21])
  obtain ⟨h1, h2, h3, h4, h5⟩ := hs
  simp [h1, h2, h3, h4, h5]
theorem ok83 : CtrOK Try.prog K8 83 (pureCtr K8 psI spec78) := by
  refine pure_ok (C := cf8 [k45, k90, k91] Try.f83) (cfg8OK (.cons ok45 (.cons ok90 (.cons ok91 .nil))) _) mixed (fn := Try.f83) Try.func83 (by kernel_rfl) (by kernel_rfl) (by kernel_rfl) (Λ := fun _ _ => none) ?_ ?_ ?_
  · exact fun _ _ _ _ _ _ _ _ h => by cases h
  · rintro ⟨x, ⟨⟩⟩
    exact of_decide_eq_true (by kernel_rfl)
  · rintro ⟨x, ⟨⟩⟩ hw hn
    exact run83 x (hn _ (List.mem_singleton.2 rfl))
theorem step88 (xs : List Int) (v : Int) (hx : xs.length ≤ lenB) (i : Nat) (hi : inv88 xs v i) : (stepObl (J88 xs v) (inv88 xs v) (fun i => xs.length - i) i (T88 xs v) (evCode (cf8 [] Try.f88) (fun _ => none) (loopN Try.f88 0) (J88 xs v i)) (L88 i)).1 := by
  refine cast (by kernel_rfl) (?_ : (decide ((↑i : Int) < (↑xs.length : Int)) = true → ((0 : Int) ≤ (↑i : Int) ∧ (↑i : Int) < (↑xs.length : Int)) ∧ ((xs.getD (↑i : Int).toNat (dflt (Ty.int IntKind.i64)) == v) = true → xs.contains v = true ∧ (true = true ∧ True) ∧ True) ∧ ((xs.getD (↑i : Int).toNat (dflt (Ty.int IntKind.i64)) == v) = false → inv88 xs v (i + (1 : Nat)) ∧ xs.length - (i + (1 : Nat)) < xs.length - i ∧ (v = v ∧ RowD.mk (Ty.int IntKind.i64) xs = RowD.mk (Ty.int IntKind.i64) xs ∧ (↑xs.length : Int) = (↑xs.length : Int) ∧ IntKind.i64.wrap ((↑i : Int) + (1 : Int)) = (↑(i + (1 : Nat)) : Int) ∧ True) ∧ True)) ∧ (decide ((↑i : Int) < (↑xs.length : Int)) = false → xs.contains v = false ∧ True ∧ True))
  have e : (i : Int).toNat = i := by simp
  rw [e]
  refine ⟨fun h1 => ?_, fun h1 => ?_⟩
  · have h1 : i < xs.length := by simpa using h1
    refine ⟨⟨by omega, by omega⟩, fun h2 => ?_, fun h2 => ?_⟩
    · have h2 : xs.getD i (0 : Int) = v := eq_of_beq h2
      have h3 : xs[i]? = some v := by rw [← h2]; exact getD_at _ h1
      exact ⟨by simpa using List.mem_of_getElem? h3, ⟨rfl, trivial⟩, trivial⟩
    · have h2 : xs.getD i (0 : Int) ≠ v := ne_of_beq_false h2
      have h3 : xs.getD i (0 : Int) = xs[i] := by rw [List.getD_eq_getElem?_getD, List.getElem?_eq_getElem h1]; rfl
      refine ⟨⟨by omega, ?_⟩, by omega, ⟨rfl, rfl, rfl, ?_, trivial⟩, trivial⟩
      · rw [List.take_succ_eq_append_getElem h1, List.mem_append, List.mem_singleton, not_or]
        exact ⟨hi.2, by rw [← h3]; exact fun h => h2 h.symm⟩
      · have : xs.length ≤ 140737488355328 := hx
        rw [wrap64 (by omega) (by omega)]; omega
  · have h1 : ¬ i < xs.length := by simpa using h1
    refine ⟨?_, trivial, trivial⟩
    have := hi.2
    rw [List.take_of_length_le (by omega)] at this
    simpa using this
theorem loop88 (xs : List Int) (v : Int) (hx : xs.length ≤ lenB) : LoopOK Try.prog Try.f88.ntmps (loopN Try.f88 0) (loopSum ⟨[], [], 0⟩ (J88 xs v 0) (T88 xs v)) :=
  loop_by (cfg8OK (CtrsOK.nil) _) mixed (J88 xs v) (fun _ => rfl) (inv88 xs v) (fun i => xs.length - i) (fun _ _ => none) (fun _ _ _ _ _ h => by cases h) (T88 xs v) [] [] 0 (⟨Nat.zero_le _, by simp⟩) L88 (fun i hi => step88 xs v hx i hi)
theorem run88 (xs : List Int) (v : Int) (hx : xs.length ≤ lenB) : (evFn (cf8 [] Try.f88) (Λ88 xs v) Try.f88 (argsV psLV (xs, v, ()))).sat fun v' rows => leV v' (spec47 (xs, v, ())).v ∧ rows = (spec47 (xs, v, ())).rows := by
  refine cast (by kernel_rfl) (?_ : ((noH0 fun x => none) ∧ (v = v ∧ RowD.mk (Ty.int IntKind.i64) xs = RowD.mk (Ty.int IntKind.i64) xs ∧ (↑xs.length : Int) = (↑xs.length : Int) ∧ (0 : Int) = (↑(0 : Nat) : Int) ∧ True) ∧ True) ∧ (xs.contains v = true → true = hasLI xs v ∧ ([] : List RowD) = []) ∧ (xs.contains v = false → false = hasLI xs v ∧ ([] : List RowD) = []))
  exact ⟨⟨rfl, ⟨rfl, rfl, rfl, rfl, trivial⟩, trivial⟩, fun h => ⟨h.symm, rfl⟩, fun h => ⟨h.symm, rfl⟩⟩
theorem ok88 : CtrOK Try.prog K8 88 (pureCtr K8 psLV spec47) := by
  refine pure_ok (C := cf8 [] Try.f88) (cfg8OK (CtrsOK.nil) _) mixed (fn := Try.f88) Try.func88 (by kernel_rfl) (by kernel_rfl) (by kernel_rfl) (Λ := fun x => Λ88 x.1 x.2.1) ?_ ?_ ?_
  · rintro ⟨xs, v, ⟨⟩⟩ hw hn
    exact LoopsOK.at (by kernel_rfl) (.cons (by kernel_rfl) (loop88 xs v (wf_slice (wf_fst hw))) .nil)
  · rintro ⟨xs, v, ⟨⟩⟩
    exact of_decide_eq_true (by kernel_rfl)
  · rintro ⟨xs, v, ⟨⟩⟩ hw hn
    exact run88 xs v (wf_slice (wf_fst hw))
theorem run93 (r : Rules)  : (evFn (cf8 [k97] Try.f93) (fun _ => none) Try.f93 (argsV psRu (r, ()))).sat fun v' rows => leV v' (spec93 (r, ())).v ∧ rows = (spec93 (r, ())).rows := by
  refine cast (by kernel_rfl) (?_ : (bif betweenW r.2 (2 : Int) (11 : Int) then bif betweenW r.3 (1 : Int) (2 : Int) then bif betweenW r.4 (0 : Int) (90 : Int) then bif betweenW r.5 (4 : Int) (8 : Int) then bif betweenW r.6 (0 : Int) (90 : Int) then bif betweenW r.7 (1 : Int) (5 : Int) then bif betweenW r.8 (1 : Int) (5 : Int) then bif betweenW r.10 (0 : Int) (200 : Int) then bif betweenW r.11 (0 : Int) (1000 : Int) then bif betweenW r.12 (0 : Int) (9 : Int) then betweenW r.13 (0 : Int) (11 : Int) else false else false else false else false else false else false else false else false else false else false) = inRangeW r ∧ ([] : List RowD) = [])
  simp only [inRangeW, Bool.cond_false_right, and_self]
theorem ok93 : CtrOK Try.prog K8 93 (pureCtr K8 psRu spec93) := by
  refine pure_ok (C := cf8 [k97] Try.f93) (cfg8OK (.cons ok97 .nil) _) mixed (fn := Try.f93) Try.func93 (by kernel_rfl) (by kernel_rfl) (by kernel_rfl) (Λ := fun _ _ => none) ?_ ?_ ?_
  · exact fun _ _ _ _ _ _ _ _ h => by cases h
  · rintro ⟨r, ⟨⟩⟩
    exact of_decide_eq_true (by kernel_rfl)
  · rintro ⟨r, ⟨⟩⟩ hw hn
    exact run93 r
theorem scanW_succ (r : Rules) (i n : Nat) : scanW r i (n + 1) = if phErr r i != 0 then phErr r i else scanW r (i + 1) n := rfl

theorem wf_str {s : ByteArray} (h : wfD .str s) : s.size ≤ lenB := by
  obtain ⟨S, w, cs, h⟩ := h
  cases h with | str h => exact h

theorem step94 (r : Rules) (hx : r.Power.length ≤ lenB) (i : Nat) (hi : inv94 r i) : (stepObl (J94 r) (inv94 r) (fun i => r.Power.length - i) i (T94 r) (evCode (cf8 [k97] Try.f94) (fun _ => none) (loopN Try.f94 0) (J94 r i)) (L94 i)).1 := by
  refine cast (by kernel_rfl) (?_ : (decide ((↑i : Int) < (↑r.14.length : Int)) = true → ((0 : Int) ≤ (↑i : Int) ∧ (↑i : Int) < (↑r.14.length : Int)) ∧ ((bif decide ((r.14.getD (↑i : Int).toNat (dflt (Ty.nm Nm.Phase))).1 < (1 : Int)) then true else bif decide ((r.14.getD (↑i : Int).toNat (dflt (Ty.nm Nm.Phase))).1 > (r.14.getD (↑i : Int).toNat (dflt (Ty.nm Nm.Phase))).2) then true else bif decide ((r.14.getD (↑i : Int).toNat (dflt (Ty.nm Nm.Phase))).2 > r.4) then true else !betweenW (r.14.getD (↑i : Int).toNat (dflt (Ty.nm Nm.Phase))).3 (0 : Int) (11 : Int)) = true → (scanW r (0 : Nat) r.14.length != (0 : Int)) = true ∧ ((2 : Int) = scanW r (0 : Nat) r.14.length ∧ True) ∧ True) ∧ ((bif decide ((r.14.getD (↑i : Int).toNat (dflt (Ty.nm Nm.Phase))).1 < (1 : Int)) then true else bif decide ((r.14.getD (↑i : Int).toNat (dflt (Ty.nm Nm.Phase))).1 > (r.14.getD (↑i : Int).toNat (dflt (Ty.nm Nm.Phase))).2) then true else bif decide ((r.14.getD (↑i : Int).toNat (dflt (Ty.nm Nm.Phase))).2 > r.4) then true else !betweenW (r.14.getD (↑i : Int).toNat (dflt (Ty.nm Nm.Phase))).3 (0 : Int) (11 : Int)) = false → ((decide ((↑i : Int) > (0 : Int)) = true → ((0 : Int) ≤ IntKind.i64.wrap ((↑i : Int) - (1 : Int)) ∧ IntKind.i64.wrap ((↑i : Int) - (1 : Int)) < (↑r.14.length : Int)) ∧ True) ∧ (decide ((↑i : Int) > (0 : Int)) = false → True)) ∧ (true = true → ((bif decide ((↑i : Int) > (0 : Int)) then decide ((r.14.getD (↑i : Int).toNat (dflt (Ty.nm Nm.Phase))).1 ≤ (r.14.getD (IntKind.i64.wrap ((↑i : Int) - (1 : Int))).toNat (dflt (Ty.nm Nm.Phase))).2) else false) = true → (scanW r (0 : Nat) r.14.length != (0 : Int)) = true ∧ ((8 : Int) = scanW r (0 : Nat) r.14.length ∧ True) ∧ True) ∧ ((bif decide ((↑i : Int) > (0 : Int)) then decide ((r.14.getD (↑i : Int).toNat (dflt (Ty.nm Nm.Phase))).1 ≤ (r.14.getD (IntKind.i64.wrap ((↑i : Int) - (1 : Int))).toNat (dflt (Ty.nm Nm.Phase))).2) else false) = false → inv94 r (i + (1 : Nat)) ∧ r.14.length - (i + (1 : Nat)) < r.14.length - i ∧ (True ∧ RowD.mk (Ty.nm Nm.Phase) r.14 = RowD.mk (Ty.nm Nm.Phase) r.14 ∧ (↑r.14.length : Int) = (↑r.14.length : Int) ∧ IntKind.i64.wrap ((↑i : Int) + (1 : Int)) = (↑(i + (1 : Nat)) : Int) ∧ True) ∧ (r.1 = r.1 ∧ r.2 = r.2 ∧ r.3 = r.3 ∧ r.4 = r.4 ∧ r.5 = r.5 ∧ r.6 = r.6 ∧ r.7 = r.7 ∧ r.8 = r.8 ∧ r.9 = r.9 ∧ r.10 = r.10 ∧ r.11 = r.11 ∧ r.12 = r.12 ∧ r.13 = r.13 ∧ RowD.mk (Ty.nm Nm.Phase) r.14 = RowD.mk (Ty.nm Nm.Phase) r.14 ∧ True) ∧ True)))) ∧ (decide ((↑i : Int) < (↑r.14.length : Int)) = false → (scanW r (0 : Nat) r.14.length != (0 : Int)) = false ∧ True ∧ True))
  have e : (i : Int).toNat = i := by simp
  rw [e]
  have hb : r.Power.length ≤ 140737488355328 := hx
  have hp : r.Power.getD i (dflt (Ty.nm Nm.Phase)) = phaseAt r i := rfl
  rw [hp]
  have hpb : (bif decide ((phaseAt r i).From < 1) then true else bif decide ((phaseAt r i).From > (phaseAt r i).To) then true else bif decide ((phaseAt r i).To > r.Overs) then true else !betweenW (phaseAt r i).Outside 0 11) = phaseBad r (phaseAt r i) := by
    simp only [phaseBad, Bool.cond_true_left]
  rw [hpb]
  obtain ⟨hi1, hi2⟩ := hi
  refine ⟨fun h1 => ?_, fun h1 => ?_⟩
  · have h1 : i < r.Power.length := by simpa using h1
    have hn : r.Power.length - i = (r.Power.length - (i + 1)) + 1 := by omega
    rw [hn, scanW_succ] at hi2
    have hw1 : 0 < i → IntKind.i64.wrap ((i : Int) - 1) = ((i - 1 : Nat) : Int) := fun h => by rw [wrap64 (by omega) (by omega)]; omega
    refine ⟨⟨by omega, by omega⟩, fun h2 => ?_, fun h2 => ⟨⟨fun h3 => ?_, fun _ => trivial⟩, fun _ => ⟨fun h3 => ?_, fun h3 => ?_⟩⟩⟩
    · have hE : phErr r i = 2 := by simp only [phErr, h2]; rfl
      rw [hE] at hi2
      have hi2 : scanW r 0 r.Power.length = 2 := hi2
      rw [hi2]
      exact ⟨rfl, ⟨rfl, trivial⟩, trivial⟩
    · have h3 : 0 < i := by simpa using h3
      rw [hw1 h3]
      exact ⟨⟨by omega, by omega⟩, trivial⟩
    · have h4 : 0 < i := by
        by_cases h4 : 0 < i
        · exact h4
        · have : i = 0 := by omega
          subst this
          simp at h3
      rw [hw1 h4, Int.toNat_natCast] at h3
      have hq : r.Power.getD (i - 1) (dflt (Ty.nm Nm.Phase)) = phaseAt r (i - 1) := rfl
      rw [hq] at h3
      have h5 : (decide ((i : Int) > 0) && decide ((phaseAt r i).From ≤ (phaseAt r (i - 1)).To)) = true := by rw [← h3]; cases decide ((i : Int) > 0) <;> rfl
      have hE : phErr r i = 8 := by simp only [phErr, h2, h5]; rfl
      rw [hE] at hi2
      have hi2 : scanW r 0 r.Power.length = 8 := hi2
      rw [hi2]
      exact ⟨rfl, ⟨rfl, trivial⟩, trivial⟩
    · have h5 : (decide ((i : Int) > 0) && decide ((phaseAt r i).From ≤ (phaseAt r (i - 1)).To)) = false := by
        by_cases h4 : 0 < i
        · rw [hw1 h4, Int.toNat_natCast] at h3
          have hq : r.Power.getD (i - 1) (dflt (Ty.nm Nm.Phase)) = phaseAt r (i - 1) := rfl
          rw [hq] at h3
          rw [← h3]; cases decide ((i : Int) > 0) <;> rfl
        · have : i = 0 := by omega
          subst this; rfl
      have hE : phErr r i = 0 := by simp only [phErr, h2, h5]; rfl
      rw [hE] at hi2
      have hi2 : scanW r 0 r.Power.length = scanW r (i + 1) (r.Power.length - (i + 1)) := hi2
      exact ⟨⟨by omega, hi2⟩, by omega, ⟨trivial, rfl, rfl, by rw [wrap64 (by omega) (by omega)]; omega, trivial⟩, by simp⟩
  · have h1 : r.Power.length ≤ i := by simpa using h1
    have h2 : r.Power.length - i = 0 := by omega
    rw [h2] at hi2
    have hi2 : scanW r 0 r.Power.length = 0 := hi2
    rw [hi2]
    exact ⟨rfl, trivial, trivial⟩
theorem loop94 (r : Rules) (hx : r.Power.length ≤ lenB) : LoopOK Try.prog Try.f94.ntmps (loopN Try.f94 0) (loopSum ⟨[], [], 8⟩ (J94 r 0) (T94 r)) :=
  loop_by (cfg8OK (.cons ok97 .nil) _) mixed (J94 r) (fun _ => rfl) (inv94 r) (fun i => r.Power.length - i) (fun _ _ => none) (fun _ _ _ _ _ h => by cases h) (T94 r) [] [] 0 (⟨Nat.zero_le _, rfl⟩) L94 (fun i hi => step94 r hx i hi)
theorem run94 (r : Rules) (hx : r.Power.length ≤ lenB) : (evFn (cf8 [k97] Try.f94) (Λ94 r) Try.f94 (argsV psRu (r, ()))).sat fun v' rows => leV v' (spec94 (r, ())).v ∧ rows = (spec94 (r, ())).rows := by
  refine cast (by kernel_rfl) (?_ : (decide ((↑r.14.length : Int) > (8 : Int)) = true → (9 : Int) = phasesW r ∧ ([] : List RowD) = []) ∧ (decide ((↑r.14.length : Int) > (8 : Int)) = false → ((noH0 fun x => none) ∧ (True ∧ RowD.mk (Ty.nm Nm.Phase) r.14 = RowD.mk (Ty.nm Nm.Phase) r.14 ∧ (↑r.14.length : Int) = (↑r.14.length : Int) ∧ (0 : Int) = (↑(0 : Nat) : Int) ∧ True) ∧ (r.1 = r.1 ∧ r.2 = r.2 ∧ r.3 = r.3 ∧ r.4 = r.4 ∧ r.5 = r.5 ∧ r.6 = r.6 ∧ r.7 = r.7 ∧ r.8 = r.8 ∧ r.9 = r.9 ∧ r.10 = r.10 ∧ r.11 = r.11 ∧ r.12 = r.12 ∧ r.13 = r.13 ∧ RowD.mk (Ty.nm Nm.Phase) r.14 = RowD.mk (Ty.nm Nm.Phase) r.14 ∧ True) ∧ True) ∧ ((scanW r (0 : Nat) r.14.length != (0 : Int)) = true → scanW r (0 : Nat) r.14.length = phasesW r ∧ ([] : List RowD) = []) ∧ ((scanW r (0 : Nat) r.14.length != (0 : Int)) = false → (0 : Int) = phasesW r ∧ ([] : List RowD) = [])))
  refine ⟨fun h => ⟨?_, rfl⟩, fun h => ⟨⟨rfl, ⟨trivial, rfl, rfl, rfl, trivial⟩, by simp⟩, fun h2 => ⟨?_, rfl⟩, fun h2 => ⟨?_, rfl⟩⟩⟩
  · simp only [phasesW]; rw [if_pos (of_decide_eq_true h)]
  · simp only [phasesW]; rw [if_neg (of_decide_eq_false h)]
  · simp only [phasesW]; rw [if_neg (of_decide_eq_false h)]
    have h2 : scanW r 0 r.Power.length = 0 := by simpa using h2
    exact h2.symm
theorem ok94 : CtrOK Try.prog K8 94 (pureCtr K8 psRu spec94) := by
  refine pure_ok (C := cf8 [k97] Try.f94) (cfg8OK (.cons ok97 .nil) _) mixed (fn := Try.f94) Try.func94 (by kernel_rfl) (by kernel_rfl) (by kernel_rfl) (Λ := fun x => Λ94 x.1) ?_ ?_ ?_
  · rintro ⟨r, ⟨⟩⟩ hw hn
    exact LoopsOK.at (by kernel_rfl) (.cons (by kernel_rfl) (loop94 r (wf_power (wf_fst hw))) .nil)
  · rintro ⟨r, ⟨⟩⟩
    exact of_decide_eq_true (by kernel_rfl)
  · rintro ⟨r, ⟨⟩⟩ hw hn
    exact run94 r (wf_power (wf_fst hw))
theorem step95 (s : ByteArray) (hx : s.size ≤ lenB) (i : Nat) (hi : inv95 s i) : (stepObl (J95 s) (inv95 s) (fun i => s.size - i) i (T95 s) (evCode (cf8 [] Try.f95) (fun _ => none) (loopN Try.f95 0) (J95 s i)) (L95 i)).1 := by
  refine cast (by kernel_rfl) (?_ : (decide ((↑i : Int) < (↑s.size : Int)) = true → (((0 : Int) ≤ (↑i : Int) ∧ (↑i : Int) < (↑s.size : Int)) ∧ ((bif decide ((↑(s.1.getD (↑i : Int).toNat (0 : UInt8)).toNat : Int) ≥ (65 : Int)) then decide ((↑(s.1.getD (↑i : Int).toNat (0 : UInt8)).toNat : Int) ≤ (90 : Int)) else false) = true → True) ∧ ((bif decide ((↑(s.1.getD (↑i : Int).toNat (0 : UInt8)).toNat : Int) ≥ (65 : Int)) then decide ((↑(s.1.getD (↑i : Int).toNat (0 : UInt8)).toNat : Int) ≤ (90 : Int)) else false) = false → ((bif (↑i : Int) == (0 : Int) then true else bif (↑(s.1.getD (↑i : Int).toNat (0 : UInt8)).toNat : Int) != (95 : Int) then bif (↑(s.1.getD (↑i : Int).toNat (0 : UInt8)).toNat : Int) != (45 : Int) then bif decide ((↑(s.1.getD (↑i : Int).toNat (0 : UInt8)).toNat : Int) < (48 : Int)) then true else decide ((↑(s.1.getD (↑i : Int).toNat (0 : UInt8)).toNat : Int) > (57 : Int)) else false else false) = true → goodTo s s.size = false ∧ (false = false ∧ True) ∧ True) ∧ ((bif (↑i : Int) == (0 : Int) then true else bif (↑(s.1.getD (↑i : Int).toNat (0 : UInt8)).toNat : Int) != (95 : Int) then bif (↑(s.1.getD (↑i : Int).toNat (0 : UInt8)).toNat : Int) != (45 : Int) then bif decide ((↑(s.1.getD (↑i : Int).toNat (0 : UInt8)).toNat : Int) < (48 : Int)) then true else decide ((↑(s.1.getD (↑i : Int).toNat (0 : UInt8)).toNat : Int) > (57 : Int)) else false else false) = false → True))) ∧ ((bif bif decide ((↑(s.1.getD (↑i : Int).toNat (0 : UInt8)).toNat : Int) ≥ (65 : Int)) then decide ((↑(s.1.getD (↑i : Int).toNat (0 : UInt8)).toNat : Int) ≤ (90 : Int)) else false then true else !bif (↑i : Int) == (0 : Int) then true else bif (↑(s.1.getD (↑i : Int).toNat (0 : UInt8)).toNat : Int) != (95 : Int) then bif (↑(s.1.getD (↑i : Int).toNat (0 : UInt8)).toNat : Int) != (45 : Int) then bif decide ((↑(s.1.getD (↑i : Int).toNat (0 : UInt8)).toNat : Int) < (48 : Int)) then true else decide ((↑(s.1.getD (↑i : Int).toNat (0 : UInt8)).toNat : Int) > (57 : Int)) else false else false) = true → inv95 s (i + (1 : Nat)) ∧ s.size - (i + (1 : Nat)) < s.size - i ∧ (s = s ∧ IntKind.i64.wrap ((↑i : Int) + (1 : Int)) = (↑(i + (1 : Nat)) : Int) ∧ True) ∧ True)) ∧ (decide ((↑i : Int) < (↑s.size : Int)) = false → goodTo s s.size = true ∧ True ∧ True))
  have e : (i : Int).toNat = i := by simp
  rw [e]
  have hb : s.size ≤ 140737488355328 := hx
  have hby : (((s.data.getD i 0).toNat : Nat) : Int) = byteAt s i := rfl
  rw [hby]
  generalize hc : byteAt s i = c
  have hl : (bif decide (c ≥ 65) then decide (c ≤ 90) else false) = letterW c := by simp only [letterW, Bool.cond_false_right]
  rw [hl]
  have hr : (bif (i : Int) == 0 then true else bif c != 95 then bif c != 45 then bif decide (c < 48) then true else decide (c > 57) else false else false) = ((i : Int) == 0 || (c != 95 && (c != 45 && (decide (c < 48) || decide (c > 57))))) := by
    simp only [Bool.cond_true_left, Bool.cond_false_right]
  rw [hr]
  have hbad : badCh i c = (!letterW c && ((i : Int) == 0 || (c != 95 && (c != 45 && (decide (c < 48) || decide (c > 57)))))) := rfl
  generalize ((i : Int) == 0 || (c != 95 && (c != 45 && (decide (c < 48) || decide (c > 57))))) = q at hbad ⊢
  obtain ⟨hi1, hi2⟩ := hi
  refine ⟨fun h1 => ?_, fun h1 => ⟨?_, trivial, trivial⟩⟩
  · have h1 : i < s.size := by simpa using h1
    refine ⟨⟨⟨by omega, by omega⟩, fun _ => trivial, fun h2 => ⟨fun h3 => ⟨?_, ⟨rfl, trivial⟩, trivial⟩, fun _ => trivial⟩⟩, fun h2 => ⟨⟨by omega, ?_⟩, by omega, ⟨rfl, by rw [wrap64 (by omega) (by omega)]; omega, trivial⟩, trivial⟩⟩
    · have hb2 : badCh i (byteAt s i) = true := by rw [hc, hbad, h2, h3]; rfl
      unfold goodTo
      rw [List.all_eq_false]
      exact ⟨i, List.mem_range.2 h1, by rw [hb2]; decide⟩
    · have hb2 : badCh i (byteAt s i) = false := by
        rw [hc, hbad]
        cases hL : letterW c with
        | true => rfl
        | false => rw [hL] at h2; simpa using h2
      unfold goodTo at hi2 ⊢
      rw [List.range_succ, List.all_append, hi2]
      simp [hb2]
  · have h1 : s.size ≤ i := by simpa using h1
    have : i = s.size := by omega
    rw [← this]; exact hi2
theorem loop95 (s : ByteArray) (hx : s.size ≤ lenB) : LoopOK Try.prog Try.f95.ntmps (loopN Try.f95 0) (loopSum ⟨[], [], 0⟩ (J95 s 0) (T95 s)) :=
  loop_by (cfg8OK (CtrsOK.nil) _) mixed (J95 s) (fun _ => rfl) (inv95 s) (fun i => s.size - i) (fun _ _ => none) (fun _ _ _ _ _ h => by cases h) (T95 s) [] [] 0 (⟨Nat.zero_le _, rfl⟩) L95 (fun i hi => step95 s hx i hi)
theorem run95 (s : ByteArray) (hx : s.size ≤ lenB) : (evFn (cf8 [] Try.f95) (Λ95 s) Try.f95 (argsV psSt (s, ()))).sat fun v' rows => leV v' (spec95 (s, ())).v ∧ rows = (spec95 (s, ())).rows := by
  refine cast (by kernel_rfl) (?_ : ((bif s.toList == (ByteArray.mk #[]).toList then true else decide ((↑s.size : Int) > (16 : Int))) = true → false = nameW s ∧ ([] : List RowD) = []) ∧ ((bif s.toList == (ByteArray.mk #[]).toList then true else decide ((↑s.size : Int) > (16 : Int))) = false → ((noH0 fun x => none) ∧ (s = s ∧ (0 : Int) = (↑(0 : Nat) : Int) ∧ True) ∧ True) ∧ (goodTo s s.size = true → true = nameW s ∧ ([] : List RowD) = []) ∧ (goodTo s s.size = false → false = nameW s ∧ ([] : List RowD) = [])))
  have hz : (s.toList == (ByteArray.mk #[]).toList) = decide ((s.size : Int) < 1) := by
    rw [Bool.eq_iff_iff, beq_iff_eq, decide_eq_true_eq, ByteArray.toList_eq, ByteArray.toList_eq]
    constructor
    · intro h
      have := congrArg List.length h
      simp at this
      have h2 : s.size = 0 := by rw [← ByteArray.size_data]; simp [this]
      omega
    · intro h
      have h2 : s.data.size = 0 := by rw [ByteArray.size_data]; omega
      have h3 : s.data = #[] := Array.eq_empty_of_size_eq_zero h2
      rw [h3]
  have hn : nameW s = (goodTo s s.size && (decide ((s.size : Int) ≥ 1) && decide ((s.size : Int) ≤ 16))) := rfl
  rw [hz, hn]
  refine ⟨fun h => ⟨?_, rfl⟩, fun h => ⟨⟨rfl, ⟨rfl, rfl, trivial⟩, trivial⟩, fun h2 => ⟨?_, rfl⟩, fun h2 => ⟨?_, rfl⟩⟩⟩
  · have : (decide ((s.size : Int) ≥ 1) && decide ((s.size : Int) ≤ 16)) = false := by
      by_cases h1 : (s.size : Int) < 1
      · have : ¬ (s.size : Int) ≥ 1 := by omega
        simp [this]
      · rw [decide_eq_false h1] at h
        have h : (s.size : Int) > 16 := of_decide_eq_true h
        have : ¬ (s.size : Int) ≤ 16 := by omega
        simp [this]
    rw [this, Bool.and_false]
  · have h1 : ¬ (s.size : Int) < 1 := fun h1 => by rw [decide_eq_true h1] at h; cases h
    rw [decide_eq_false h1] at h
    have h : ¬ (s.size : Int) > 16 := of_decide_eq_false h
    rw [h2, decide_eq_true (show (s.size : Int) ≥ 1 by omega), decide_eq_true (show (s.size : Int) ≤ 16 by omega)]
    rfl
  · rw [h2]; rfl
theorem ok95 : CtrOK Try.prog K8 95 (pureCtr K8 psSt spec95) := by
  refine pure_ok (C := cf8 [] Try.f95) (cfg8OK (CtrsOK.nil) _) mixed (fn := Try.f95) Try.func95 (by kernel_rfl) (by kernel_rfl) (by kernel_rfl) (Λ := fun x => Λ95 x.1) ?_ ?_ ?_
  · rintro ⟨s, ⟨⟩⟩ hw hn
    exact LoopsOK.at (by kernel_rfl) (.cons (by kernel_rfl) (loop95 s (wf_str (wf_fst hw))) .nil)
  · rintro ⟨s, ⟨⟩⟩
    exact of_decide_eq_true (by kernel_rfl)
  · rintro ⟨s, ⟨⟩⟩ hw hn
    exact run95 s (wf_str (wf_fst hw))
end Go.Proofs.Ytogdeefpidccmaa

/- text.Name: contract. -/
namespace Go.Proofs.Ytogdeefpidccmaa
open Go Go.Mir
attribute [local irreducible] Go.Mir.RT.sat Go.Mir.evFn Go.Mir.stepObl
theorem bytes_len (s : ByteArray) : (bytesI s).length = s.size := by
  have : s.data.size = s.size := ByteArray.size_data
  simp [bytesI, this]
theorem bytes_at (s : ByteArray) (i : Nat) (h : i < s.size) : (bytesI s).getD i (0 : Int) = byteAt s i := by
  have h1 : i < s.data.size := by rw [ByteArray.size_data]; exact h
  simp [bytesI, byteAt, Array.getElem?_eq_getElem h1]

theorem step92 (s : ByteArray) (hx : s.size ≤ lenB) (i : Nat) (hi : inv95 s i) : (stepObl (J92 s) (inv95 s) (fun i => s.size - i) i (T92 s) (evCode (cf8 [] Try.f92) (fun _ => none) (loopN Try.f92 0) (J92 s i)) (L95 i)).1 := by
  refine cast (by kernel_rfl) (?_ : (decide ((↑i : Int) < (↑(bytesI s).length : Int)) = true → ((0 : Int) ≤ (↑i : Int) ∧ (↑i : Int) < (↑(bytesI s).length : Int)) ∧ ((bif !bif decide ((bytesI s).getD (↑i : Int).toNat (dflt (Ty.int IntKind.u8)) ≥ (65 : Int)) then decide ((bytesI s).getD (↑i : Int).toNat (dflt (Ty.int IntKind.u8)) ≤ (90 : Int)) else false then bif (↑i : Int) == (0 : Int) then true else bif (bytesI s).getD (↑i : Int).toNat (dflt (Ty.int IntKind.u8)) != (95 : Int) then bif (bytesI s).getD (↑i : Int).toNat (dflt (Ty.int IntKind.u8)) != (45 : Int) then bif decide ((bytesI s).getD (↑i : Int).toNat (dflt (Ty.int IntKind.u8)) < (48 : Int)) then true else decide ((bytesI s).getD (↑i : Int).toNat (dflt (Ty.int IntKind.u8)) > (57 : Int)) else false else false else false) = true → goodTo s s.size = false ∧ (false = false ∧ True) ∧ True) ∧ ((bif !bif decide ((bytesI s).getD (↑i : Int).toNat (dflt (Ty.int IntKind.u8)) ≥ (65 : Int)) then decide ((bytesI s).getD (↑i : Int).toNat (dflt (Ty.int IntKind.u8)) ≤ (90 : Int)) else false then bif (↑i : Int) == (0 : Int) then true else bif (bytesI s).getD (↑i : Int).toNat (dflt (Ty.int IntKind.u8)) != (95 : Int) then bif (bytesI s).getD (↑i : Int).toNat (dflt (Ty.int IntKind.u8)) != (45 : Int) then bif decide ((bytesI s).getD (↑i : Int).toNat (dflt (Ty.int IntKind.u8)) < (48 : Int)) then true else decide ((bytesI s).getD (↑i : Int).toNat (dflt (Ty.int IntKind.u8)) > (57 : Int)) else false else false else false) = false → inv95 s (i + (1 : Nat)) ∧ s.size - (i + (1 : Nat)) < s.size - i ∧ (s = s ∧ True ∧ (↑(bytesI s).length : Int) = (↑(bytesI s).length : Int) ∧ IntKind.i64.wrap ((↑i : Int) + (1 : Int)) = (↑(i + (1 : Nat)) : Int) ∧ True) ∧ RowD.mk (Ty.int IntKind.u8) (bytesI s) = RowD.mk (Ty.int IntKind.u8) (bytesI s) ∧ True)) ∧ (decide ((↑i : Int) < (↑(bytesI s).length : Int)) = false → goodTo s s.size = true ∧ (s = s ∧ True) ∧ True))
  have e : (i : Int).toNat = i := by simp
  rw [e]
  have hb : s.size ≤ 140737488355328 := hx
  have hlen := bytes_len s
  obtain ⟨hi1, hi2⟩ := hi
  have hbad : ∀ c : Int, (bif !(bif decide (c ≥ 65) then decide (c ≤ 90) else false) then bif (i : Int) == 0 then true else bif c != 95 then bif c != 45 then bif decide (c < 48) then true else decide (c > 57) else false else false else false) = badCh i c := fun c => by
    simp only [badCh, letterW, Bool.cond_true_left, Bool.cond_false_right]
  rw [hbad]
  refine ⟨fun h1 => ?_, fun h1 => ⟨?_, ⟨rfl, trivial⟩, trivial⟩⟩
  · have h1 : i < (bytesI s).length := by simpa using h1
    have hat : (bytesI s).getD i (dflt (Ty.int IntKind.u8)) = byteAt s i := bytes_at s i (by omega)
    rw [hat]
    refine ⟨⟨by omega, by omega⟩, fun h2 => ⟨?_, ⟨rfl, trivial⟩, trivial⟩, fun h2 => ⟨⟨by omega, ?_⟩, by omega, ⟨rfl, trivial, rfl, by rw [wrap64 (by omega) (by omega)]; omega, trivial⟩, rfl, trivial⟩⟩
    · unfold goodTo
      rw [List.all_eq_false]
      exact ⟨i, List.mem_range.2 (by omega), by rw [h2]; decide⟩
    · unfold goodTo at hi2 ⊢
      rw [List.range_succ, List.all_append, hi2]
      simp [h2]
  · have h1 : (bytesI s).length ≤ i := by simpa using h1
    have : i = s.size := by omega
    rw [← this]; exact hi2
theorem loop92 (s : ByteArray) (hx : s.size ≤ lenB) : LoopOK Try.prog Try.f92.ntmps (loopN Try.f92 0) (loopSum ⟨[], [], 40⟩ (J92 s 0) (T92 s)) :=
  loop_by (cfg8OK (CtrsOK.nil) _) mixed (J92 s) (fun _ => rfl) (inv95 s) (fun i => s.size - i) (fun _ _ => none) (fun _ _ _ _ _ h => by cases h) (T92 s) [] [] 0 (⟨Nat.zero_le _, rfl⟩) L95 (fun i hi => step92 s hx i hi)
theorem run92 (s : ByteArray) (hx : s.size ≤ lenB) : (evFn (cf8 [] Try.f92) (Λ92 s) Try.f92 (argsV psSt (s, ()))).sat fun v' rows => leV v' (spec95 (s, ())).v ∧ rows = (spec95 (s, ())).rows := by
  refine cast (by kernel_rfl) (?_ : ((noH0 fun x => none) ∧ (s = s ∧ True ∧ (↑(bytesI s).length : Int) = (↑(bytesI s).length : Int) ∧ (0 : Int) = (↑(0 : Nat) : Int) ∧ True) ∧ RowD.mk (Ty.int IntKind.u8) (bytesI s) = RowD.mk (Ty.int IntKind.u8) (bytesI s) ∧ True) ∧ (goodTo s s.size = true → (bif decide ((↑s.size : Int) ≥ (1 : Int)) then decide ((↑s.size : Int) ≤ (16 : Int)) else false) = nameW s ∧ ([] : List RowD) = []) ∧ (goodTo s s.size = false → false = nameW s ∧ ([] : List RowD) = []))
  have hn : nameW s = (goodTo s s.size && (decide ((s.size : Int) ≥ 1) && decide ((s.size : Int) ≤ 16))) := rfl
  refine ⟨⟨rfl, ⟨rfl, trivial, rfl, rfl, trivial⟩, rfl, trivial⟩, fun h => ⟨?_, rfl⟩, fun h => ⟨?_, rfl⟩⟩
  · rw [hn, h, Bool.true_and, Bool.cond_false_right]
  · rw [hn, h, Bool.false_and]
theorem ok92 : CtrOK Try.prog K8 92 (pureCtr K8 psSt spec95) := by
  refine pure_ok (C := cf8 [] Try.f92) (cfg8OK (CtrsOK.nil) _) mixed (fn := Try.f92) Try.func92 (by kernel_rfl) (by kernel_rfl) (by kernel_rfl) (Λ := fun x => Λ92 x.1) ?_ ?_ ?_
  · rintro ⟨s, ⟨⟩⟩ hw hn
    exact LoopsOK.at (by kernel_rfl) (.cons (by kernel_rfl) (loop92 s (wf_str (wf_fst hw))) .nil)
  · rintro ⟨s, ⟨⟩⟩
    exact of_decide_eq_true (by kernel_rfl)
  · rintro ⟨s, ⟨⟩⟩ hw hn
    exact run92 s (wf_str (wf_fst hw))
end Go.Proofs.Ytogdeefpidccmaa
