/- The dismissal layer: the laws' functions. -/
import Derived.Test.YtogdeefpidccmaaFh
import Derived.Test.YtogdeefpidccmaaFd
namespace Go.Proofs.Ytogdeefpidccmaa
open Go Go.Mir
attribute [local irreducible] Go.Mir.RT.sat Go.Mir.evFn Go.Mir.stepObl
theorem free_law (d : Delivery) (h : possibleW d true = 0) : possibleW d false = 0 ∧ creditedW d.How = false := by
  simp only [possible_same, possibleR, onFreeR, creditedW] at h ⊢
  generalize onR d.How d.Typ = a at h ⊢
  generalize oneR d.How = c at h ⊢
  by_cases h0 : d.How = 0
  · simp [h0] at h ⊢
    exact h
  · by_cases h6 : d.How = 6
    · simp [h6] at h ⊢; exact h
    · by_cases h7 : d.How = 7
      · simp [h7] at h ⊢; exact h
      · by_cases h8 : d.How = 8
        · simp [h8] at h ⊢; exact h
        · simp [h0, h6, h7, h8] at h

theorem listed_law (d : Delivery) (free : Bool) (h0 : d.How ≠ 0) (h : possibleW d free = 0) : hasI (waysW d.Typ free) d.How = true := by
  cases hc : hasI (waysW d.Typ free) d.How with
  | true => rfl
  | false =>
    have hc : (waysW d.Typ free).contains d.How = false := hc
    simp only [possibleW] at h
    rw [hc] at h
    simp [h0] at h

def samp (t h : Int) : Delivery := ⟨t, 0, 0, 0, 0, false, h, 1, bif (ofW h).fielder then 1 else 0, 0, false, 0⟩
theorem samp_law (t h : Int) (free : Bool) (hh : hasI (waysW t free) h = true) : possibleW (samp t h) free = 0 := by
  rw [ways_has] at hh
  have hf := (ofW_cases h).2
  simp only [possible_same, possibleR, samp, hf]
  revert hh
  generalize hc : onR h t = a
  generalize hb : onFreeR h = b
  have h0 : onR 0 t = false := rfl
  by_cases hz : h = 0
  · subst hz; rw [h0] at hc; subst hc; simp
  · cases a <;> cases b <;> cases free <;> cases oneR h <;> simp [hz]

theorem names_law : ∀ i : Nat, i < 11 → parseErr (ofW i).name = 0 ∧ parseHow (ofW i).name = i := fun i h => by
  have : i = 0 ∨ i = 1 ∨ i = 2 ∨ i = 3 ∨ i = 4 ∨ i = 5 ∨ i = 6 ∨ i = 7 ∨ i = 8 ∨ i = 9 ∨ i = 10 := by omega
  rcases this with rfl | rfl | rfl | rfl | rfl | rfl | rfl | rfl | rfl | rfl | rfl <;> exact ⟨by kernel_rfl, by kernel_rfl⟩

theorem run4 (d : Delivery)  : (evFn (cfgF [k16, k17, k19] Try.f4) (fun _ => none) Try.f4 (argsV (.prod (.nm .Delivery) .unit) (d, ()))).sat fun v _ => isTrue v := by
  refine cast (by kernel_rfl) (?_ : ((!true) = true → false = true) ∧ ((!true) = false → ((possibleW d true != (0 : Int)) = true → true = true) ∧ ((possibleW d true != (0 : Int)) = false → (bif possibleW d false == (0 : Int) then !creditedW d.7 else false) = true)))
  refine ⟨fun h => (by cases h), fun _ => ⟨fun _ => rfl, fun h => ?_⟩⟩
  have h : possibleW d true = 0 := by simpa using h
  obtain ⟨h1, h2⟩ := free_law d h
  rw [h1, h2]; rfl
theorem run6 (h : Int) (s : ByteArray)  : (evFn (cfgF [k16, k23, k24, k25, k26] Try.f6) (fun _ => none) Try.f6 (argsV (.prod (.int .u8) (.prod .str .unit)) (h, s, ()))).sat fun v _ => isTrue v := by
  refine cast (by kernel_rfl) (?_ : ((!true) = true → false = true) ∧ ((!true) = false → ((0 : Int) ≤ (0 : Int) ∧ ((0 : Int) ≤ if (20 : Int) < (↑s.size : Int) then (20 : Int) else (↑s.size : Int)) ∧ (if (20 : Int) < (↑s.size : Int) then (20 : Int) else (↑s.size : Int)) ≤ (↑s.size : Int)) ∧ (bif (ofW h).2.toList == (ofW h).2.toList then bif parseHow (s.extract (Int.toNat (0 : Int)) (if (20 : Int) < (↑s.size : Int) then (20 : Int) else (↑s.size : Int)).toNat) == parseHow (s.extract (Int.toNat (0 : Int)) (if (20 : Int) < (↑s.size : Int) then (20 : Int) else (↑s.size : Int)).toNat) then bif parseErr (s.extract (Int.toNat (0 : Int)) (if (20 : Int) < (↑s.size : Int) then (20 : Int) else (↑s.size : Int)).toNat) == parseErr (s.extract (Int.toNat (0 : Int)) (if (20 : Int) < (↑s.size : Int) then (20 : Int) else (↑s.size : Int)).toNat) then bif parseErr (ofW h).2 == (0 : Int) then bif parseHow (ofW h).2 == h then true else bif (ofW h).2.toList == (ByteArray.mk #[]).toList then parseErr (ofW h).2 == (4 : Int) else false else bif (ofW h).2.toList == (ByteArray.mk #[]).toList then parseErr (ofW h).2 == (4 : Int) else false else false else false else false) = true))
  have hs : (0 : Int) ≤ (s.size : Int) := Int.natCast_nonneg _
  have hq : (bif parseErr (ofW h).name == 0 then bif parseHow (ofW h).name == h then true else bif (ofW h).name.toList == (ByteArray.mk #[]).toList then parseErr (ofW h).name == 4 else false else bif (ofW h).name.toList == (ByteArray.mk #[]).toList then parseErr (ofW h).name == 4 else false) = true := by
    by_cases hr : 0 ≤ h ∧ h ≤ 10
    · obtain ⟨i, rfl⟩ : ∃ i : Nat, h = i := ⟨h.toNat, by omega⟩
      obtain ⟨h1, h2⟩ := names_law i (by omega)
      rw [h1, h2]; simp
    · rw [ofW_out h (by omega)]
      kernel_rfl
  refine ⟨fun h => (by cases h), fun _ => ⟨⟨Int.le_refl 0, ?_, ?_⟩, ?_⟩⟩
  · split <;> omega
  · split <;> omega
  · simpa using hq
theorem run7 (d : Delivery) (s : Int) (o : Int)  : (evFn (cfgF [k16, k17, k27, k28] Try.f7) (fun _ => none) Try.f7 (argsV psV (d, s, o, ()))).sat fun v _ => isTrue v := by
  refine cast (by kernel_rfl) (?_ : ((!true) = true → false = true) ∧ ((!true) = false → ((victimW d s o != victimW d s o) = true → false = true) ∧ ((victimW d s o != victimW d s o) = false → ((possibleW d false != (0 : Int)) = true → true = true) ∧ ((possibleW d false != (0 : Int)) = false → (bif d.7 == (0 : Int) then bif victimW d s o == (0 : Int) then true else bif d.7 != (0 : Int) then bif victimW d s o == s then true else victimW d s o == o else false else bif d.7 != (0 : Int) then bif victimW d s o == s then true else victimW d s o == o else false) = true))))
  refine ⟨fun h => (by cases h), fun _ => ⟨fun h => (by simp at h), fun _ => ⟨fun _ => rfl, fun h => ?_⟩⟩⟩
  have h : possibleW d false = 0 := by simpa using h
  have h2 : d.How ≠ 0 → d.Victim = 1 ∨ d.Victim = 2 := fun h0 => by
    simp only [possible_same, possibleR, h0, beq_eq_false_iff_ne.2 h0] at h
    grind
  simp only [victimW]
  by_cases h0 : d.How = 0
  · simp [h0]
  · rcases h2 h0 with h3 | h3 <;> simp [h0, h3]
theorem run8 (t : Int) (free : Bool) (h : Int)  : (evFn (cfgF [k16, k20, k22, k29, k30, k31] Try.f8) (fun _ => none) Try.f8 (argsV (.prod (.int .u8) (.prod .bool (.prod (.int .u8) .unit))) (t, free, h, ()))).sat fun v _ => isTrue v := by
  refine cast (by kernel_rfl) (?_ : ((!true) = true → false = true) ∧ ((!true) = false → (bif eqL (waysW t free) (waysW t free) then bif (ofW h).6 == oneR h then bif (ofW h).6 == oneR h then isRun h == isRun h else false else false else false) = true))
  refine ⟨fun h => (by cases h), fun _ => ?_⟩
  rw [(ofW_cases h).2]
  simp [eqL]
theorem step5 (d : Delivery) (free : Bool)  (i : Nat) (hi : inv5 d free i) : (stepObl (J5 d free) (inv5 d free) (fun i => (waysW d.Typ free).length - i) i T5 (evCode (cfgF [k16, k17, k20, k21, k22] Try.f5) (fun _ => none) (loopN Try.f5 0) (J5 d free i)) (L5 i)).1 := by
  refine cast (by kernel_rfl) (?_ : (decide ((↑i : Int) < (↑(waysW d.1 free).length : Int)) = true → ((0 : Int) ≤ (↑i : Int) ∧ (↑i : Int) < (↑(waysW d.1 free).length : Int)) ∧ ((possibleW (Delivery.mk (bif (ofW ((waysW d.1 free).getD (↑i : Int).toNat (dflt (Ty.int IntKind.u8)))).6 then d.1 else d.1) (bif (ofW ((waysW d.1 free).getD (↑i : Int).toNat (dflt (Ty.int IntKind.u8)))).6 then (0 : Int) else (0 : Int)) (bif (ofW ((waysW d.1 free).getD (↑i : Int).toNat (dflt (Ty.int IntKind.u8)))).6 then (0 : Int) else (0 : Int)) (bif (ofW ((waysW d.1 free).getD (↑i : Int).toNat (dflt (Ty.int IntKind.u8)))).6 then (0 : Int) else (0 : Int)) (bif (ofW ((waysW d.1 free).getD (↑i : Int).toNat (dflt (Ty.int IntKind.u8)))).6 then (0 : Int) else (0 : Int)) false (bif (ofW ((waysW d.1 free).getD (↑i : Int).toNat (dflt (Ty.int IntKind.u8)))).6 then (waysW d.1 free).getD (↑i : Int).toNat (dflt (Ty.int IntKind.u8)) else (waysW d.1 free).getD (↑i : Int).toNat (dflt (Ty.int IntKind.u8))) (bif (ofW ((waysW d.1 free).getD (↑i : Int).toNat (dflt (Ty.int IntKind.u8)))).6 then (1 : Int) else (1 : Int)) (bif (ofW ((waysW d.1 free).getD (↑i : Int).toNat (dflt (Ty.int IntKind.u8)))).6 then (1 : Int) else (0 : Int)) (bif (ofW ((waysW d.1 free).getD (↑i : Int).toNat (dflt (Ty.int IntKind.u8)))).6 then (0 : Int) else (0 : Int)) false (bif (ofW ((waysW d.1 free).getD (↑i : Int).toNat (dflt (Ty.int IntKind.u8)))).6 then (0 : Int) else (0 : Int))) free != (0 : Int)) = true → true = false ∧ (false = false ∧ True) ∧ True) ∧ ((possibleW (Delivery.mk (bif (ofW ((waysW d.1 free).getD (↑i : Int).toNat (dflt (Ty.int IntKind.u8)))).6 then d.1 else d.1) (bif (ofW ((waysW d.1 free).getD (↑i : Int).toNat (dflt (Ty.int IntKind.u8)))).6 then (0 : Int) else (0 : Int)) (bif (ofW ((waysW d.1 free).getD (↑i : Int).toNat (dflt (Ty.int IntKind.u8)))).6 then (0 : Int) else (0 : Int)) (bif (ofW ((waysW d.1 free).getD (↑i : Int).toNat (dflt (Ty.int IntKind.u8)))).6 then (0 : Int) else (0 : Int)) (bif (ofW ((waysW d.1 free).getD (↑i : Int).toNat (dflt (Ty.int IntKind.u8)))).6 then (0 : Int) else (0 : Int)) false (bif (ofW ((waysW d.1 free).getD (↑i : Int).toNat (dflt (Ty.int IntKind.u8)))).6 then (waysW d.1 free).getD (↑i : Int).toNat (dflt (Ty.int IntKind.u8)) else (waysW d.1 free).getD (↑i : Int).toNat (dflt (Ty.int IntKind.u8))) (bif (ofW ((waysW d.1 free).getD (↑i : Int).toNat (dflt (Ty.int IntKind.u8)))).6 then (1 : Int) else (1 : Int)) (bif (ofW ((waysW d.1 free).getD (↑i : Int).toNat (dflt (Ty.int IntKind.u8)))).6 then (1 : Int) else (0 : Int)) (bif (ofW ((waysW d.1 free).getD (↑i : Int).toNat (dflt (Ty.int IntKind.u8)))).6 then (0 : Int) else (0 : Int)) false (bif (ofW ((waysW d.1 free).getD (↑i : Int).toNat (dflt (Ty.int IntKind.u8)))).6 then (0 : Int) else (0 : Int))) free != (0 : Int)) = false → inv5 d free (i + (1 : Nat)) ∧ (waysW d.1 free).length - (i + (1 : Nat)) < (waysW d.1 free).length - i ∧ (free = free ∧ True ∧ True ∧ (↑(waysW d.1 free).length : Int) = (↑(waysW d.1 free).length : Int) ∧ IntKind.i64.wrap ((↑i : Int) + (1 : Int)) = (↑(i + (1 : Nat)) : Int) ∧ True) ∧ RowD.mk (Ty.int IntKind.u8) (waysW d.1 free) = RowD.mk (Ty.int IntKind.u8) (waysW d.1 free) ∧ (d.1 = d.1 ∧ d.2 = d.2 ∧ d.3 = d.3 ∧ d.4 = d.4 ∧ d.5 = d.5 ∧ d.6 = d.6 ∧ d.7 = d.7 ∧ d.8 = d.8 ∧ d.9 = d.9 ∧ d.10 = d.10 ∧ d.11 = d.11 ∧ d.12 = d.12 ∧ True) ∧ True)) ∧ (decide ((↑i : Int) < (↑(waysW d.1 free).length : Int)) = false → true = true ∧ True ∧ True))
  have e : (i : Int).toNat = i := by simp
  rw [e]
  generalize hh : (waysW d.1 free).getD i (dflt (Ty.int IntKind.u8)) = h
  simp only [Bool.cond_self]
  refine ⟨fun h1 => ?_, fun h1 => ?_⟩
  · have h1 : i < (waysW d.Typ free).length := by simpa using h1
    have hm : hasI (waysW d.Typ free) h = true := by
      have : (waysW d.Typ free)[i]? = some h := by rw [← hh]; exact getD_at _ h1
      exact List.elem_eq_true_of_mem (List.mem_of_getElem? this)
    have hp := samp_law d.Typ h free hm
    have hp : possibleW (Delivery.mk d.1 0 0 0 0 false h 1 (bif (ofW h).6 then 1 else 0) 0 false 0) free = 0 := hp
    rw [hp]
    have hln : (waysW d.Typ free).length ≤ 11 := by
      unfold waysW; rw [List.length_map]
      exact Nat.le_trans (List.length_filter_le _ _) (Nat.le_of_eq wlen)
    have hwr : IntKind.i64.wrap ((i : Int) + 1) = ((i + 1 : Nat) : Int) := by rw [wrap64 (by omega) (by omega)]; omega
    have hin : inv5 d free (i + 1) := by unfold inv5; omega
    refine ⟨⟨by omega, by omega⟩, fun h2 => (by cases h2), fun _ => ⟨hin, by omega, ?_⟩⟩
    simp [hwr]
  · simp
theorem loop5 (d : Delivery) (free : Bool)  : LoopOK Try.prog Try.f5.ntmps (loopN Try.f5 0) (loopSum ⟨[], [], 112⟩ (J5 d free 0) T5) :=
  loop_by (cfgOK (.cons ok16 (.cons ok17 (.cons ok20 (.cons ok21 (.cons ok22 .nil))))) _) mixed (J5 d free) (fun _ => rfl) (inv5 d free) (fun i => (waysW d.Typ free).length - i) (fun _ _ => none) (fun _ _ _ _ _ h => by cases h) T5 [] [] 0 (Nat.zero_le _) L5 (fun i hi => step5 d free  i hi)
theorem run5 (d : Delivery) (free : Bool)  : (evFn (cfgF [k16, k17, k20, k21, k22] Try.f5) (Λ5 d free) Try.f5 (argsV psP (d, free, ()))).sat fun v _ => isTrue v := by
  refine cast (by kernel_rfl) (?_ : ((!true) = true → false = true) ∧ ((!true) = false → ((bif d.7 != (0 : Int) then bif possibleW d free == (0 : Int) then !hasI (waysW d.1 free) d.7 else false else false) = true → false = true) ∧ ((bif d.7 != (0 : Int) then bif possibleW d free == (0 : Int) then !hasI (waysW d.1 free) d.7 else false else false) = false → ((noH0 fun x => none) ∧ (free = free ∧ True ∧ True ∧ (↑(waysW d.1 free).length : Int) = (↑(waysW d.1 free).length : Int) ∧ (0 : Int) = (↑(0 : Nat) : Int) ∧ True) ∧ RowD.mk (Ty.int IntKind.u8) (waysW d.1 free) = RowD.mk (Ty.int IntKind.u8) (waysW d.1 free) ∧ (d.1 = d.1 ∧ d.2 = d.2 ∧ d.3 = d.3 ∧ d.4 = d.4 ∧ d.5 = d.5 ∧ d.6 = d.6 ∧ d.7 = d.7 ∧ d.8 = d.8 ∧ d.9 = d.9 ∧ d.10 = d.10 ∧ d.11 = d.11 ∧ d.12 = d.12 ∧ True) ∧ True) ∧ (true = true → true = true) ∧ (true = false → false = true))))
  refine ⟨fun h => (by cases h), fun _ => ⟨fun h => ?_, fun _ => ⟨⟨rfl, ⟨rfl, trivial, trivial, rfl, rfl, trivial⟩, rfl, ⟨rfl, rfl, rfl, rfl, rfl, rfl, rfl, rfl, rfl, rfl, rfl, rfl, trivial⟩, trivial⟩, fun _ => rfl, fun h => by cases h⟩⟩⟩
  have h3 : d.How ≠ 0 ∧ possibleW d free = 0 ∧ hasI (waysW d.Typ free) d.How = false := by
    by_cases h0 : d.How = 0
    · simp [h0] at h
    · by_cases h1 : possibleW d free = 0
      · refine ⟨h0, h1, ?_⟩
        simpa [h0, h1] using h
      · simp [h1] at h
  rw [listed_law d free h3.1 h3.2.1] at h3
  exact absurd h3.2.2 (by simp)
end Go.Proofs.Ytogdeefpidccmaa
