/- DismissalWays: the ways of being out on any type of delivery and the fielders that are named for any way are the reference's; the statement given for this law is proved whole, with no condition added. -/
import Derived.Test.YtogdeefpidccmaaFi
import Derived.Test.YtogdeefpidccmaaFr
import Derived.SizedLaws
namespace Go.Proofs.Ytogdeefpidccmaa
open Go Go.Mir Go.ChangeShapes Go.WideShapes Go.ChangeAt Go.RowKit

attribute [local irreducible] Go.Mir.RT.sat Go.Mir.evFn Go.Mir.stepObl

set_option maxRecDepth 100000 in
theorem dismissalWays_lifted (os : Os) (started : os.Started) (H : Type) (enc : TypeId × Value → H) :
    ReturnsInHanded {} Try.checked os 8 .any (Rows.dismissalWaysSpec.pre6 enc Try.prog Try.f8 Rows.dismissalWaysRow.domain false) (Rows.dismissalWaysSpec.post enc Try.prog Try.f8 false true false false) := by
  refine returnsInHanded_of_change_sized (C := Try.checked) own1 started (by kernel_rfl) Try.func8
    (ChangeSpec.witness6 (enc := enc) (C := Try.checked) false ⟨#[], #[.int .u8 0, .bool false, .int .u8 0], []⟩ 8 (by kernel_rfl) (by kernel_rfl) (by kernel_rfl) (by kernel_rfl)) ?_
  intro W base args ds gs before hval hW _ hsz _
  have hW' := hW
  obtain ⟨p, q, hA, hV, rfl, _, _⟩ := hW'
  obtain ⟨rfl, rfl⟩ := trodVars_none hV
  have hw : ∀ m ∈ DataW.weightsEach Try.prog Try.f8.params.toList ds, m ≤ lenB := fun m hm => by
    have e : DataW.weightsEach Try.checked.prog (Try.f8.params.toList ++ Rows.dismissalWaysSpec.plain.varTypes Try.checked.prog) (ds ++ []) = DataW.weightsEach Try.prog Try.f8.params.toList ds := by
      rw [List.append_nil]; kernel_rfl
    rw [e] at hsz
    have h1 := List.all_eq_true.1 hsz m hm
    have h2 : m ≤ reachBytes := by simpa using h1
    exact Nat.le_trans h2 (of_decide_eq_true (by kernel_rfl))
  have hlen : ds.length = 3 := by
    obtain ⟨_, _, _, _, _, h⟩ := args_open (ps := (.prod (.int .u8) (.prod .bool (.prod (.int .u8) .unit)))) hA (by kernel_rfl) (fun j t v h1 h2 => ⟨_, _, hval j t v (Array.getElem?_toList.symm.trans h1) (Array.getElem?_toList.symm.trans h2)⟩) hw
    exact h
  refine (law_calls (C := cfgF [k16, k20, k22, k29, k30, k31] Try.f8) (cfgOK (.cons ok16 (.cons ok20 (.cons ok22 (.cons ok29 (.cons ok30 (.cons ok31 .nil)))))) _) mixed Try.func8 rfl (ps := (.prod (.int .u8) (.prod .bool (.prod (.int .u8) .unit)))) (by kernel_rfl) (of_decide_eq_true (by kernel_rfl)) (Λ := fun _ _ => none) (fun _ _ _ _ _ _ _ _ h => by cases h)
    (by rintro ⟨t, free, h, ⟨⟩⟩ hw hn; exact run8 t free h) hA (fun j t v h1 h2 => ⟨_, _, hval j t v h1 h2⟩) hw (Nat.le_refl _)).mono fun e W' hr => ?_
  obtain ⟨rfl, hk⟩ := hr
  refine ⟨_, rfl, law_post laid1 (TB := 4) (by kernel_rfl) Try.underlying4 ?_ rfl hW ?_ hk⟩
  · have h : (Try.f8.params.toList.all fun t => Try.prog.readableRec t && decide (t < Try.prog.types.size)) = true := by kernel_rfl
    intro t ht
    have := List.all_eq_true.1 h t ht
    simpa using this
  · obtain ⟨a, b, c, rfl⟩ := list3 hlen
    exact ⟨rfl, rfl, rfl⟩

theorem dismissalWays_holds : Rows.DismissalWaysSaid :=
  OpenClaim.holds_of_wide 8 Try.f8 rfl rfl rfl rfl rfl rfl rfl ⟨rfl, rfl, rfl, rfl, rfl⟩ rfl rfl rfl rfl rfl (by kernel_rfl) Try.func8 (by kernel_rfl)
    (of_decide_eq_true (by kernel_rfl)) (by unfold Func.isWrapper; rw [if_neg (by decide +kernel)]; exact ⟨rfl, rfl⟩)
    (fun os started H enc _ => dismissalWays_lifted os started H enc)
#print axioms dismissalWays_holds

end Go.Proofs.Ytogdeefpidccmaa
