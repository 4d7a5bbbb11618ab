/- DismissalPossible: the law that the program names when it refuses what a delivery says of a dismissal is the reference's, for every delivery and whether or not it is a free hit; the statement given for this law is proved whole, with no condition added. -/
import Derived.Test.YtogdeefpidccmaaFe
namespace Go.Proofs.Ytogdeefpidccmaa
open Go Go.Mir Go.ChangeShapes Go.WideShapes Go.ChangeAt Go.RowKit

theorem dismissalPossible_holds : Rows.DismissalPossibleSaid :=
  OpenClaim.holds_of_wide 3 Try.f3 rfl rfl rfl rfl rfl rfl rfl ⟨rfl, rfl, rfl, rfl, rfl⟩ rfl rfl rfl rfl rfl (by kernel_rfl) Try.func3 (by kernel_rfl)
    (of_decide_eq_true (by kernel_rfl)) (by unfold Func.isWrapper; rw [if_neg (by decide +kernel)]; exact ⟨rfl, rfl⟩)
    (fun os started H enc _ => dismissalPossible_lifted os started H enc)
#print axioms dismissalPossible_holds


end Go.Proofs.Ytogdeefpidccmaa
