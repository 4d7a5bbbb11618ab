/- DismissalPossible: the row. -/
import Derived.Test.YtogdeefpidccmaaFd
import Derived.SizedLaws
namespace Go.Proofs.Ytogdeefpidccmaa
open Go Go.Mir Go.ChangeShapes Go.WideShapes Go.ChangeAt Go.RowKit

attribute [local irreducible] Go.Mir.RT.sat Go.Mir.evFn Go.Mir.stepObl

theorem own0 : ownKnob Try.prog.godebug = none := by kernel_rfl
theorem laid0 : laidOutB Try.prog = true := by kernel_rfl

theorem run3 (d : Delivery) (free : Bool) : (evFn (cfgF [k16, k17, k18] Try.f3) (fun _ => none) Try.f3 (argsV psP (d, free, ()))).sat fun v _ => isTrue v := by
  have e : ((evFn (cfgF [k16, k17, k18] Try.f3) (fun _ => none) Try.f3 (argsV psP (d, free, ()))).sat fun v _ => isTrue v) = ((bif true then possibleW d free == possibleR d free else false) = true) := by kernel_rfl
  rw [e, possible_same]
  simp

theorem args_two {H : Type} {ds : List (DataW H)} (h : ds.length = 2) : ∃ a b, ds = [a, b] := by
  match ds, h with
  | [a, b], _ => exact ⟨a, b, rfl⟩

set_option maxRecDepth 100000 in
theorem dismissalPossible_lifted (os : Os) (started : os.Started) (H : Type) (enc : TypeId × Value → H) :
    ReturnsInHanded {} Try.checked os 3 .any (Rows.dismissalPossibleSpec.pre6 enc Try.prog Try.f3 Rows.dismissalPossibleRow.domain false) (Rows.dismissalPossibleSpec.post enc Try.prog Try.f3 false true false false) := by
  refine returnsInHanded_of_change_sized (C := Try.checked) own0 started (by kernel_rfl) Try.func3
    (ChangeSpec.witness6 (enc := enc) (C := Try.checked) false ⟨#[], #[.agg #[.int .u8 0, .int .u8 0, .int .i64 0, .int .i64 0, .int .i64 0, .bool false, .int .u8 0, .int .i64 0, .int .i64 0, .int .i64 0, .bool false, .int .i64 0], .bool false], []⟩ 8 (by kernel_rfl) (by kernel_rfl) (by kernel_rfl) (by kernel_rfl)) ?_
  intro W base args ds gs before hval hW _ hsz _
  have hW' := hW
  obtain ⟨p, q, hA, hV, rfl, _, _⟩ := hW'
  obtain ⟨rfl, rfl⟩ := trodVars_none hV
  have hw : ∀ m ∈ DataW.weightsEach Try.prog Try.f3.params.toList ds, m ≤ lenB := fun m hm => by
    have e : DataW.weightsEach Try.checked.prog (Try.f3.params.toList ++ Rows.dismissalPossibleSpec.plain.varTypes Try.checked.prog) (ds ++ []) = DataW.weightsEach Try.prog Try.f3.params.toList ds := by
      rw [List.append_nil]; kernel_rfl
    rw [e] at hsz
    have h1 := List.all_eq_true.1 hsz m hm
    have h2 : m ≤ reachBytes := by simpa using h1
    exact Nat.le_trans h2 (of_decide_eq_true (by kernel_rfl))
  have hlen : ds.length = 2 := by
    obtain ⟨_, _, _, _, _, h⟩ := args_open (ps := psP) hA (by kernel_rfl) (fun j t v h1 h2 => ⟨_, _, hval j t v (Array.getElem?_toList.symm.trans h1) (Array.getElem?_toList.symm.trans h2)⟩) hw
    exact h
  refine (law_calls (C := cfgF [k16, k17, k18] Try.f3) (cfgOK (.cons ok16 (.cons ok17 (.cons ok18 .nil))) _) mixed Try.func3 rfl (ps := psP) (by kernel_rfl) (of_decide_eq_true (by kernel_rfl)) (Λ := fun _ _ => none) (fun _ _ _ _ _ _ _ _ h => by cases h)
    (by rintro ⟨d, free, ⟨⟩⟩ _ _; exact run3 d free) hA (fun j t v h1 h2 => ⟨_, _, hval j t v h1 h2⟩) hw (Nat.le_refl _)).mono fun e W' hr => ?_
  obtain ⟨rfl, hk⟩ := hr
  refine ⟨_, rfl, law_post laid0 (TB := 4) (by kernel_rfl) Try.underlying4 ?_ rfl hW ?_ hk⟩
  · have h : (Try.f3.params.toList.all fun t => Try.prog.readableRec t && decide (t < Try.prog.types.size)) = true := by kernel_rfl
    intro t ht
    have := List.all_eq_true.1 h t ht
    simpa using this
  · obtain ⟨a, b, rfl⟩ := args_two hlen
    exact ⟨rfl, rfl, rfl⟩

end Go.Proofs.Ytogdeefpidccmaa
