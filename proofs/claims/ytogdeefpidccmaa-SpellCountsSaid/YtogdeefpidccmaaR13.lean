/- SpellCounts: whatever is bowled from the beginning on, the balls of all bowlers are those of the innings, no bowler passes the quota, and nobody bowls in two overs that follow one another; the statement given for this law is proved whole, with no condition added. -/
import Derived.Test.YtogdeefpidccmaaPR137
import Derived.SizedLaws
namespace Go.Proofs.Ytogdeefpidccmaa
open Go Go.Mir Go.ChangeShapes Go.WideShapes Go.ChangeAt Go.RowKit

attribute [local irreducible] Go.Mir.RT.sat Go.Mir.evFn Go.Mir.stepObl

set_option maxRecDepth 100000 in
theorem spellCounts_lifted (os : Os) (started : os.Started) (H : Type) (enc : TypeId × Value → H) :
    ReturnsInHanded {} Try.checked os 13 .any (Rows.spellCountsSpec.pre6 enc Try.prog Try.f13 Rows.spellCountsRow.domain false) (Rows.spellCountsSpec.post enc Try.prog Try.f13 false true false false) := by
  refine returnsInHanded_of_change_sized (C := Try.checked) own1 started (by kernel_rfl) Try.func13
    (ChangeSpec.witness6 (enc := enc) (C := Try.checked) false ⟨#[], #[.slice none 0 0, .int .u8 0], []⟩ 8 (by kernel_rfl) (by kernel_rfl) (by kernel_rfl) (by kernel_rfl)) ?_
  intro W base args ds gs before hval hW _ hsz _
  have hW' := hW
  obtain ⟨p, q, hA, hV, rfl, _, _⟩ := hW'
  obtain ⟨rfl, rfl⟩ := trodVars_none hV
  have hw : ∀ m ∈ DataW.weightsEach Try.prog Try.f13.params.toList ds, m ≤ lenB := fun m hm => by
    have e : DataW.weightsEach Try.checked.prog (Try.f13.params.toList ++ Rows.spellCountsSpec.plain.varTypes Try.checked.prog) (ds ++ []) = DataW.weightsEach Try.prog Try.f13.params.toList ds := by
      rw [List.append_nil]; kernel_rfl
    rw [e] at hsz
    have h1 := List.all_eq_true.1 hsz m hm
    have h2 : m ≤ reachBytes := by simpa using h1
    exact Nat.le_trans h2 (of_decide_eq_true (by kernel_rfl))
  have hlen : ds.length = 2 := by
    obtain ⟨_, _, _, _, _, h⟩ := args_open (ps := (.prod (.slice (.nm .law13_Act)) (.prod (.int .u8) .unit))) hA (by kernel_rfl) (fun j t v h1 h2 => ⟨_, _, hval j t v (Array.getElem?_toList.symm.trans h1) (Array.getElem?_toList.symm.trans h2)⟩) hw
    exact h
  refine (law_calls (C := cf8 [k47, k48, k49, k50, k51] Try.f13) (cfg8OK (.cons ok47 (.cons ok48 (.cons ok49 (.cons ok50 (.cons ok51 .nil))))) _) mixed Try.func13 rfl (ps := (.prod (.slice (.nm .law13_Act)) (.prod (.int .u8) .unit))) (by kernel_rfl) (of_decide_eq_true (by kernel_rfl)) (Λ := fun x => Λ13 x.1 x.2.1) (by rintro ⟨l, k, ⟨⟩⟩ hw hn; exact LoopsOK.at (by kernel_rfl) (.cons (by kernel_rfl) (loop8c l (kp k)) (.cons (by kernel_rfl) (loop26c (fin13 l (kp k)) (inv_fin l (kp k))) (.cons (by kernel_rfl) (loop33c (fin13 l (kp k)) (inv_fin l (kp k))) .nil))))
    (by rintro ⟨l, k, ⟨⟩⟩ hw hn; exact run13 l k) hA (fun j t v h1 h2 => ⟨_, _, hval j t v h1 h2⟩) hw (Nat.le_refl _)).mono fun e W' hr => ?_
  obtain ⟨rfl, hk⟩ := hr
  refine ⟨_, rfl, law_post laid1 (TB := 4) (by kernel_rfl) Try.underlying4 ?_ rfl hW ?_ hk⟩
  · have h : (Try.f13.params.toList.all fun t => Try.prog.readableRec t && decide (t < Try.prog.types.size)) = true := by kernel_rfl
    intro t ht
    have := List.all_eq_true.1 h t ht
    simpa using this
  · obtain ⟨a, b, rfl⟩ := list2 hlen
    exact ⟨rfl, rfl, rfl⟩

theorem spellCounts_holds : Rows.SpellCountsSaid :=
  OpenClaim.holds_of_wide 13 Try.f13 rfl rfl rfl rfl rfl rfl rfl ⟨rfl, rfl, rfl, rfl, rfl⟩ rfl rfl rfl rfl rfl (by kernel_rfl) Try.func13 (by kernel_rfl)
    (of_decide_eq_true (by kernel_rfl)) (by unfold Func.isWrapper; rw [if_neg (by decide +kernel)]; exact ⟨rfl, rfl⟩)
    (fun os started H enc _ => spellCounts_lifted os started H enc)
#print axioms spellCounts_holds

end Go.Proofs.Ytogdeefpidccmaa
