/- FieldPlays: what is done with any fielding side, by any acts one after the other, is what the reference does, and so are the players who are present; the statement given for this law is proved whole, with no condition added. -/
import Derived.Test.YtogdeefpidccmaaFs
import Derived.Test.YtogdeefpidccmaaFr
import Derived.SizedLaws
namespace Go.Proofs.Ytogdeefpidccmaa
open Go Go.Mir Go.ChangeShapes Go.WideShapes Go.ChangeAt Go.RowKit

attribute [local irreducible] Go.Mir.RT.sat Go.Mir.evFn Go.Mir.stepObl

set_option maxRecDepth 100000 in
theorem fieldPlays_lifted (os : Os) (started : os.Started) (H : Type) (enc : TypeId × Value → H) :
    ReturnsInHanded {} Try.checked os 9 .any (Rows.fieldPlaysSpec.pre6 enc Try.prog Try.f9 Rows.fieldPlaysRow.domain false) (Rows.fieldPlaysSpec.post enc Try.prog Try.f9 false true false false) := by
  refine returnsInHanded_of_change_sized (C := Try.checked) own1 started (by kernel_rfl) Try.func9
    (ChangeSpec.witness6 (enc := enc) (C := Try.checked) false ⟨#[], #[.agg #[.int .i64 0, .int .i64 0, .int .i64 0, .int .i64 0, .int .i64 0, .int .i64 0, .int .i64 0, .int .i64 0, .int .i64 0, .int .i64 0, .int .i64 0, .int .i64 0, .int .i64 0, .int .i64 0, .slice none 0 0, .int .i64 0, .slice none 0 0, .slice none 0 0, .bool false, .slice none 0 0, .bool false, .int .i64 0, .int .i64 0, .int .i64 0, .slice none 0 0, .int .i64 0, .int .i64 0, .int .u8 0], .slice none 0 0], []⟩ 8 (by kernel_rfl) (by kernel_rfl) (by kernel_rfl) (by kernel_rfl)) ?_
  intro W base args ds gs before hval hW _ hsz _
  have hW' := hW
  obtain ⟨p, q, hA, hV, rfl, _, _⟩ := hW'
  obtain ⟨rfl, rfl⟩ := trodVars_none hV
  have hw : ∀ m ∈ DataW.weightsEach Try.prog Try.f9.params.toList ds, m ≤ lenB := fun m hm => by
    have e : DataW.weightsEach Try.checked.prog (Try.f9.params.toList ++ Rows.fieldPlaysSpec.plain.varTypes Try.checked.prog) (ds ++ []) = DataW.weightsEach Try.prog Try.f9.params.toList ds := by
      rw [List.append_nil]; kernel_rfl
    rw [e] at hsz
    have h1 := List.all_eq_true.1 hsz m hm
    have h2 : m ≤ reachBytes := by simpa using h1
    exact Nat.le_trans h2 (of_decide_eq_true (by kernel_rfl))
  have hlen : ds.length = 2 := by
    obtain ⟨_, _, _, _, _, h⟩ := args_open (ps := psIL) hA (by kernel_rfl) (fun j t v h1 h2 => ⟨_, _, hval j t v (Array.getElem?_toList.symm.trans h1) (Array.getElem?_toList.symm.trans h2)⟩) hw
    exact h
  refine (law_calls (C := cf8 [k32, k33, k34, k35, k36, k37, k38, k39] Try.f9) (cfg8OK (.cons ok32 (.cons ok33 (.cons ok34 (.cons ok35 (.cons ok36 (.cons ok37 (.cons ok38 (.cons ok39 .nil)))))))) _) mixed Try.func9 rfl (ps := psIL) (by kernel_rfl) (of_decide_eq_true (by kernel_rfl)) (Λ := fun x => Λ9 x.1 x.2.1) (by rintro ⟨x, l, ⟨⟩⟩ hw hn; exact LoopsOK.at (by kernel_rfl) (.cons (by kernel_rfl) (loop9 (fewW x) l (few_small x)) .nil))
    (by rintro ⟨x, l, ⟨⟩⟩ hw hn; exact run9 x l) hA (fun j t v h1 h2 => ⟨_, _, hval j t v h1 h2⟩) hw (Nat.le_refl _)).mono fun e W' hr => ?_
  obtain ⟨rfl, hk⟩ := hr
  refine ⟨_, rfl, law_post laid1 (TB := 4) (by kernel_rfl) Try.underlying4 ?_ rfl hW ?_ hk⟩
  · have h : (Try.f9.params.toList.all fun t => Try.prog.readableRec t && decide (t < Try.prog.types.size)) = true := by kernel_rfl
    intro t ht
    have := List.all_eq_true.1 h t ht
    simpa using this
  · obtain ⟨a, b, rfl⟩ := list2 hlen
    exact ⟨rfl, rfl, rfl⟩

theorem fieldPlays_holds : Rows.FieldPlaysSaid :=
  OpenClaim.holds_of_wide 9 Try.f9 rfl rfl rfl rfl rfl rfl rfl ⟨rfl, rfl, rfl, rfl, rfl⟩ rfl rfl rfl rfl rfl (by kernel_rfl) Try.func9 (by kernel_rfl)
    (of_decide_eq_true (by kernel_rfl)) (by unfold Func.isWrapper; rw [if_neg (by decide +kernel)]; exact ⟨rfl, rfl⟩)
    (fun os started H enc _ => fieldPlays_lifted os started H enc)
#print axioms fieldPlays_holds

end Go.Proofs.Ytogdeefpidccmaa
