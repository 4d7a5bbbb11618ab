/- MilestoneNexts: the next milestone is the specified one: the least multiple of the step above the value. The card: the tables of the library that the row lists are tied to the program's text. Condition: none beyond the row's own (listed variables hold what the program's text lays). -/
import Derived.Test.YtidkcdcajfkgbaaGreatDoorPR36
import Derived.Test.YtidkcdcajfkgbaaGreatDoorCards
import Derived.SizedLaws
import Derived.LaidMore
import Derived.SevenTiedAt
import Derived.OpenShut
import Derived.ProofKit
namespace Go.Proofs.YtidkcdcajfkgbaaGreatDoor
open Go Go.Mir Go.ChangeShapes Go.WideShapes Go.ChangeAt Go.RowKit

attribute [local irreducible] Go.Mir.RT.sat Go.Mir.evFn Go.Mir.stepObl

theorem laid1 : laidOutB Tryz.prog = true := by kernel_rfl
theorem list2 {α : Type} {l : List α} (h : l.length = 2) : ∃ a b, l = [a, b] := by
  match l, h with
  | [a, b], _ => exact ⟨a, b, rfl⟩
theorem ok8 : CtrOK Tryz.prog KK 8 (pureCtr KK .unit specT) := awOK KK

set_option maxRecDepth 100000 in
theorem milestoneNexts_lifted (os : Os) (started : os.Started) (H : Type) (enc : TypeId × Value → H) :
    ReturnsInHanded {} Tryz.checked os 3 .any (fun w args => (Rows.milestoneNextsSpec.pre enc Tryz.prog Tryz.f3 [] false w args ∧ laidMetH Tryz.prog laid3 w) ∧ sizedMet enc Tryz.prog Tryz.f3 (OpenSpec.ofChange Rows.milestoneNextsSpec) false w args)
      (Rows.milestoneNextsSpec.post enc Tryz.prog Tryz.f3 false true false false) := by
  refine returnsInHanded_of_change_and (C := Tryz.checked) (X := fun w _ => laidMetH Tryz.prog laid3 w) (fun _ _ _ hh h => h.of_heap hh) own1 started (by kernel_rfl) Tryz.func3
    (ChangeSpec.witness_shaped (enc := enc) (C := Tryz.checked) (os := os) (X := fun w _ => laidMetH Tryz.prog laid3 w) false (World.doorLaid Tryz.prog 72 os) #[.int .i64 0, .int .i64 0] 8 rfl (World.shaped_of_RefB (by kernel_rfl) (by kernel_rfl)) (by kernel_rfl) (by kernel_rfl) (by kernel_rfl) (door_met os _)) ?_
  intro W base args ds gs before hval hW _ hsz _ _
  have hW' := hW
  obtain ⟨p, q, hA, hV, rfl, _, _⟩ := hW'
  obtain ⟨rfl, rfl⟩ := trodVars_none hV
  have hw : ∀ m ∈ DataW.weightsEach Tryz.prog Tryz.f3.params.toList ds, m ≤ lenB := fun m hm => by
    have e : DataW.weightsEach Tryz.checked.prog (Tryz.f3.params.toList ++ Rows.milestoneNextsSpec.plain.varTypes Tryz.checked.prog) (ds ++ []) = DataW.weightsEach Tryz.prog Tryz.f3.params.toList ds := by
      rw [List.append_nil]; kernel_rfl
    rw [e] at hsz
    have h1 := List.all_eq_true.1 hsz m hm
    have h2 : m ≤ reachBytes := by simpa using h1
    exact Nat.le_trans h2 (of_decide_eq_true (by kernel_rfl))
  have hlen : ds.length = 2 := by
    obtain ⟨_, _, _, _, _, h⟩ := args_open (ps := ps2) hA (by kernel_rfl) (fun j t v h1 h2 => ⟨_, _, hval j t v (Array.getElem?_toList.symm.trans h1) (Array.getElem?_toList.symm.trans h2)⟩) hw
    exact h
  refine (law_calls (C := cfgF [k8, k9, k10] Tryz.f3) (cfgOK (.cons ok8 (.cons ok9 (.cons ok10 .nil))) _) mixed Tryz.func3 rfl (ps := ps2) (by kernel_rfl) (of_decide_eq_true (by kernel_rfl)) (Λ := fun _ _ => none) (fun _ _ _ _ _ _ _ _ h => by cases h)
    (by rintro ⟨n, v, ⟨⟩⟩ hw hn; exact run3 n v) hA (fun j t v h1 h2 => ⟨_, _, hval j t v h1 h2⟩) hw (Nat.le_refl _)).mono fun e W' hr => ?_
  obtain ⟨rfl, hk⟩ := hr
  refine ⟨_, rfl, law_post laid1 (TB := 4) (by kernel_rfl) Tryz.underlying4 ?_ rfl hW ?_ hk⟩
  · have h : (Tryz.f3.params.toList.all fun t => Tryz.prog.readableRec t && decide (t < Tryz.prog.types.size)) = true := by kernel_rfl
    intro t ht
    have := List.all_eq_true.1 h t ht
    simpa using this
  · obtain ⟨a, b, rfl⟩ := list2 hlen
    exact ⟨rfl, rfl, rfl⟩

theorem milestoneNexts_row : Rows.MilestoneNextsSaid :=
  OpenClaim.holds_of_wide 3 Tryz.f3 rfl rfl rfl rfl rfl rfl rfl ⟨rfl, rfl, rfl, rfl, rfl⟩ rfl rfl rfl rfl rfl (by kernel_rfl) Tryz.func3 (by kernel_rfl)
    (of_decide_eq_true (by kernel_rfl)) (by unfold Func.isWrapper; rw [if_neg (by decide +kernel)]; exact ⟨rfl, rfl⟩)
    (fun os started H enc _ => milestoneNexts_lifted os started H enc)

theorem milestoneNexts_holds : Rows.MilestoneNextsCardSaid :=
  Claim7.holds_tied_plain_at .later [] [.data, .data, .data] true (true, "b08478799106967dc0ba60dc5c40e1eb14af256991ad4f5f0c80fe73471acec4") true
    milestoneNexts_row (fun _ h => by cases h) (by kernel_rfl) (fun _ h => by cases h) milestoneNexts_row_tie rfl ⟨rfl, rfl⟩ (by kernel_rfl) rfl
    (fun f fn hf hfn => by
      obtain rfl : f = 3 := Option.some.inj ((show Tryz.prog.funcNamed "scorebook/scorebooklaw28.MilestoneNexts" = some 3 by kernel_rfl).symm.trans hf) |>.symm
      obtain rfl : fn = Tryz.f3 := (Option.some.inj (Tryz.func3.symm.trans hfn)).symm
      exact ⟨by kernel_rfl, fun j t ht => by
        have hm : t ∈ [3] := by
          have := Array.mem_of_getElem? ht
          have e : Tryz.f3.params.toList = [3, 3] := by kernel_rfl
          have h2 : t ∈ Tryz.f3.params.toList := Array.mem_toList_iff.2 this
          rw [e] at h2
          simpa using h2
        have hall : ([3].all fun u => !Tryz.prog.wantsStandIn u) = true := by kernel_rfl
        exact (show Tryz.prog.wantsStandIn t = false by simpa using List.all_eq_true.1 hall t hm)⟩)
    (by kernel_rfl)
#print axioms milestoneNexts_holds

end Go.Proofs.YtidkcdcajfkgbaaGreatDoor
