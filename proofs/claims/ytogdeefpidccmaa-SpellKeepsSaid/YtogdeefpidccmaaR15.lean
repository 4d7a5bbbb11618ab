/- SpellKeeps: a refused call changes nothing, and no call changes the argument, for all rules, states and players; the statement given for this law is proved whole, with no condition added. -/
import Derived.Test.YtogdeefpidccmaaPR157
import Derived.SizedLaws
namespace Go.Proofs.Ytogdeefpidccmaa
open Go Go.Mir Go.ChangeShapes Go.WideShapes Go.ChangeAt Go.RowKit

attribute [local irreducible] Go.Mir.RT.sat Go.Mir.evFn Go.Mir.stepObl

set_option maxRecDepth 100000 in
theorem spellKeeps_lifted (os : Os) (started : os.Started) (H : Type) (enc : TypeId × Value → H) :
    ReturnsInHanded {} Try.checked os 15 .any (Rows.spellKeepsSpec.pre6 enc Try.prog Try.f15 Rows.spellKeepsRow.domain false) (Rows.spellKeepsSpec.post enc Try.prog Try.f15 false true false false) := by
  refine returnsInHanded_of_change_sized (C := Try.checked) own1 started (by kernel_rfl) Try.func15
    (ChangeSpec.witness6 (enc := enc) (C := Try.checked) false ⟨#[], #[.agg #[.string ⟨#[]⟩, .int .i64 0, .int .i64 0, .int .i64 0, .int .i64 0, .int .i64 0, .int .i64 0, .int .i64 0, .bool false, .int .i64 0, .int .i64 0, .int .i64 0, .int .i64 0, .slice none 0 0], .agg #[.int .i64 0, .int .i64 0, .int .i64 0, .int .i64 0, .int .i64 0, .int .i64 0, .int .i64 0, .int .i64 0, .int .i64 0, .int .i64 0, .int .i64 0, .int .i64 0, .int .i64 0, .int .i64 0, .slice none 0 0, .int .i64 0, .slice none 0 0, .slice none 0 0, .bool false, .slice none 0 0, .bool false, .int .i64 0, .int .i64 0, .int .i64 0, .slice none 0 0, .int .i64 0, .int .i64 0, .int .u8 0], .int .i64 0], []⟩ 8 (by kernel_rfl) (by kernel_rfl) (by kernel_rfl) (by kernel_rfl)) ?_
  intro W base args ds gs before hval hW _ hsz _
  have hW' := hW
  obtain ⟨p, q, hA, hV, rfl, _, _⟩ := hW'
  obtain ⟨rfl, rfl⟩ := trodVars_none hV
  have hw : ∀ m ∈ DataW.weightsEach Try.prog Try.f15.params.toList ds, m ≤ lenB := fun m hm => by
    have e : DataW.weightsEach Try.checked.prog (Try.f15.params.toList ++ Rows.spellKeepsSpec.plain.varTypes Try.checked.prog) (ds ++ []) = DataW.weightsEach Try.prog Try.f15.params.toList ds := by
      rw [List.append_nil]; kernel_rfl
    rw [e] at hsz
    have h1 := List.all_eq_true.1 hsz m hm
    have h2 : m ≤ reachBytes := by simpa using h1
    exact Nat.le_trans h2 (of_decide_eq_true (by kernel_rfl))
  have hlen : ds.length = 3 := by
    obtain ⟨_, _, _, _, _, h⟩ := args_open (ps := (.prod (.nm .Rules) (.prod (.nm .Innings) (.prod (.int .i64) .unit)))) hA (by kernel_rfl) (fun j t v h1 h2 => ⟨_, _, hval j t v (Array.getElem?_toList.symm.trans h1) (Array.getElem?_toList.symm.trans h2)⟩) hw
    exact h
  refine (law_calls (C := cf8 [k36, k44, k48, k50, k51, k52, k53, k55] Try.f15) (cfg8OK (.cons ok36 (.cons ok44 (.cons ok48 (.cons ok50 (.cons ok51 (.cons ok52 (.cons ok53 (.cons ok55 .nil)))))))) _) mixed Try.func15 rfl (ps := (.prod (.nm .Rules) (.prod (.nm .Innings) (.prod (.int .i64) .unit)))) (by kernel_rfl) (of_decide_eq_true (by kernel_rfl)) (Λ := fun x => Λ15L x.1 x.2.1 x.2.2.1) (by rintro ⟨r, x, p, ⟨⟩⟩ hw hn; exact LoopsOK.at (by kernel_rfl) (.skip (b := loopN Try.f15 0) (by kernel_rfl) (.cons (by kernel_rfl) (loops15a r x p) (.cons (by kernel_rfl) (loops15b r x p) .nil))))
    (by rintro ⟨r, x, p, ⟨⟩⟩ hw hn; exact run15 r x p) hA (fun j t v h1 h2 => ⟨_, _, hval j t v h1 h2⟩) hw (Nat.le_refl _)).mono fun e W' hr => ?_
  obtain ⟨rfl, hk⟩ := hr
  refine ⟨_, rfl, law_post laid1 (TB := 4) (by kernel_rfl) Try.underlying4 ?_ rfl hW ?_ hk⟩
  · have h : (Try.f15.params.toList.all fun t => Try.prog.readableRec t && decide (t < Try.prog.types.size)) = true := by kernel_rfl
    intro t ht
    have := List.all_eq_true.1 h t ht
    simpa using this
  · obtain ⟨a, b, c, rfl⟩ := list3 hlen
    exact ⟨rfl, rfl, rfl⟩

theorem spellKeeps_holds : Rows.SpellKeepsSaid :=
  OpenClaim.holds_of_wide 15 Try.f15 rfl rfl rfl rfl rfl rfl rfl ⟨rfl, rfl, rfl, rfl, rfl⟩ rfl rfl rfl rfl rfl (by kernel_rfl) Try.func15 (by kernel_rfl)
    (of_decide_eq_true (by kernel_rfl)) (by unfold Func.isWrapper; rw [if_neg (by decide +kernel)]; exact ⟨rfl, rfl⟩)
    (fun os started H enc _ => spellKeeps_lifted os started H enc)
#print axioms spellKeeps_holds

end Go.Proofs.Ytogdeefpidccmaa
