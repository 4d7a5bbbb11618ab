/- FieldReady: the law that refuses any delivery because of the field, and because of the fielders that it names, is the reference's, for all rules, states and deliveries; the statement given for this law is proved whole, with no condition added. -/
import Derived.Test.YtogdeefpidccmaaFl
import Derived.Test.YtogdeefpidccmaaFr
import Derived.SizedLaws
namespace Go.Proofs.Ytogdeefpidccmaa
open Go Go.Mir Go.ChangeShapes Go.WideShapes Go.ChangeAt Go.RowKit

attribute [local irreducible] Go.Mir.RT.sat Go.Mir.evFn Go.Mir.stepObl

set_option maxRecDepth 100000 in
theorem fieldReady_lifted (os : Os) (started : os.Started) (H : Type) (enc : TypeId × Value → H) :
    ReturnsInHanded {} Try.checked os 10 .any (Rows.fieldReadySpec.pre6 enc Try.prog Try.f10 Rows.fieldReadyRow.domain false) (Rows.fieldReadySpec.post enc Try.prog Try.f10 false true false false) := by
  refine returnsInHanded_of_change_sized (C := Try.checked) own1 started (by kernel_rfl) Try.func10
    (ChangeSpec.witness6 (enc := enc) (C := Try.checked) false ⟨#[], #[.agg #[.string ⟨#[]⟩, .int .i64 0, .int .i64 0, .int .i64 0, .int .i64 0, .int .i64 0, .int .i64 0, .int .i64 0, .bool false, .int .i64 0, .int .i64 0, .int .i64 0, .int .i64 0, .slice none 0 0], .agg #[.int .i64 0, .int .i64 0, .int .i64 0, .int .i64 0, .int .i64 0, .int .i64 0, .int .i64 0, .int .i64 0, .int .i64 0, .int .i64 0, .int .i64 0, .int .i64 0, .int .i64 0, .int .i64 0, .slice none 0 0, .int .i64 0, .slice none 0 0, .slice none 0 0, .bool false, .slice none 0 0, .bool false, .int .i64 0, .int .i64 0, .int .i64 0, .slice none 0 0, .int .i64 0, .int .i64 0, .int .u8 0], .agg #[.int .u8 0, .int .u8 0, .int .i64 0, .int .i64 0, .int .i64 0, .bool false, .int .u8 0, .int .i64 0, .int .i64 0, .int .i64 0, .bool false, .int .i64 0]], []⟩ 8 (by kernel_rfl) (by kernel_rfl) (by kernel_rfl) (by kernel_rfl)) ?_
  intro W base args ds gs before hval hW _ hsz _
  have hW' := hW
  obtain ⟨p, q, hA, hV, rfl, _, _⟩ := hW'
  obtain ⟨rfl, rfl⟩ := trodVars_none hV
  have hw : ∀ m ∈ DataW.weightsEach Try.prog Try.f10.params.toList ds, m ≤ lenB := fun m hm => by
    have e : DataW.weightsEach Try.checked.prog (Try.f10.params.toList ++ Rows.fieldReadySpec.plain.varTypes Try.checked.prog) (ds ++ []) = DataW.weightsEach Try.prog Try.f10.params.toList ds := by
      rw [List.append_nil]; kernel_rfl
    rw [e] at hsz
    have h1 := List.all_eq_true.1 hsz m hm
    have h2 : m ≤ reachBytes := by simpa using h1
    exact Nat.le_trans h2 (of_decide_eq_true (by kernel_rfl))
  have hlen : ds.length = 3 := by
    obtain ⟨_, _, _, _, _, h⟩ := args_open (ps := (.prod (.nm .Rules) (.prod (.nm .Innings) (.prod (.nm .Delivery) .unit)))) hA (by kernel_rfl) (fun j t v h1 h2 => ⟨_, _, hval j t v (Array.getElem?_toList.symm.trans h1) (Array.getElem?_toList.symm.trans h2)⟩) hw
    exact h
  refine (law_calls (C := cf8 [k32, k33, k40, k41, k42, k43] Try.f10) (cfg8OK (.cons ok32 (.cons ok33 (.cons ok40 (.cons ok41 (.cons ok42 (.cons ok43 .nil)))))) _) mixed Try.func10 rfl (ps := (.prod (.nm .Rules) (.prod (.nm .Innings) (.prod (.nm .Delivery) .unit)))) (by kernel_rfl) (of_decide_eq_true (by kernel_rfl)) (Λ := fun _ _ => none) (fun _ _ _ _ _ _ _ _ h => by cases h)
    (by rintro ⟨r, x, d, ⟨⟩⟩ hw hn; exact run10 r x d) hA (fun j t v h1 h2 => ⟨_, _, hval j t v h1 h2⟩) hw (Nat.le_refl _)).mono fun e W' hr => ?_
  obtain ⟨rfl, hk⟩ := hr
  refine ⟨_, rfl, law_post laid1 (TB := 4) (by kernel_rfl) Try.underlying4 ?_ rfl hW ?_ hk⟩
  · have h : (Try.f10.params.toList.all fun t => Try.prog.readableRec t && decide (t < Try.prog.types.size)) = true := by kernel_rfl
    intro t ht
    have := List.all_eq_true.1 h t ht
    simpa using this
  · obtain ⟨a, b, c, rfl⟩ := list3 hlen
    exact ⟨rfl, rfl, rfl⟩

theorem fieldReady_holds : Rows.FieldReadySaid :=
  OpenClaim.holds_of_wide 10 Try.f10 rfl rfl rfl rfl rfl rfl rfl ⟨rfl, rfl, rfl, rfl, rfl⟩ rfl rfl rfl rfl rfl (by kernel_rfl) Try.func10 (by kernel_rfl)
    (of_decide_eq_true (by kernel_rfl)) (by unfold Func.isWrapper; rw [if_neg (by decide +kernel)]; exact ⟨rfl, rfl⟩)
    (fun os started H enc _ => fieldReady_lifted os started H enc)
#print axioms fieldReady_holds

end Go.Proofs.Ytogdeefpidccmaa
