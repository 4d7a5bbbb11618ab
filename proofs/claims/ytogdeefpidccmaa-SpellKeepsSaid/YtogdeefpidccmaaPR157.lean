/- Texts of the mirror and contracts, put together. -/
import Derived.Test.YtogdeefpidccmaaPR156
import Derived.Test.YtogdeefpidccmaaPR153
import Derived.SizedLaws

/- Bowlers: the law of refusals, its loops together. -/
namespace Go.Proofs.Ytogdeefpidccmaa
open Go Go.Mir

theorem take_bowled (r : Rules) (y : Innings) (p : Int) : (takeY r y p).Bowled.length ≤ y.Bowled.length ∧ (takeY r y p).Before.length ≤ y.Before.length := by
  unfold takeY
  split <;> exact ⟨Nat.le_refl _, Nat.le_refl _⟩
theorem new_bowled (r : Rules) (y : Innings) : (newY r y).Bowled.length ≤ y.Bowled.length ∧ (newY r y).Before.length ≤ y.Before.length := by
  unfold newY
  split <;> exact ⟨Nat.le_refl _, Nat.le_refl _⟩
theorem bowlers_len (y : Innings) : (bowlersW y).length ≤ y.Bowlers.length + 1 := by
  unfold bowlersW
  split <;> simp
theorem ball_bowled {r : Rules} {y : Innings} (h : smallI y) (c : Bool) : (ballY r y c).Bowled.length ≤ 2000000 ∧ (ballY r y c).Before.length ≤ 2000000 := by
  have h1 := bowlers_len y
  have hb : y.Bowled.length ≤ 1000000 ∧ y.Before.length ≤ 1000000 ∧ y.Bowlers.length ≤ 1000000 := by
    unfold smallI at h; omega
  unfold ballY
  split
  · exact ⟨by omega, by omega⟩
  · split
    · unfold countW
      split
      · simp only [bumpW, List.length_set]; exact ⟨by omega, by omega⟩
      · exact ⟨by simp; omega, by simp; omega⟩
    · unfold overW countW
      split
      · simp only [bumpW, List.length_set]; exact ⟨by omega, by omega⟩
      · exact ⟨by simp; omega, by simp; omega⟩

theorem small_two {y : Innings} (h : smallI y) : y.Bowled.length ≤ 2000000 ∧ y.Before.length ≤ 2000000 := by
  unfold smallI at h; omega

def sum15 (r : Rules) (x : Innings) (p : Int) (k : Nat) : LoopSum := match Λ15L r x p k with
  | some L => L
  | none => ⟨fun _ => False, fun _ => .bad⟩

theorem loops15a (r : Rules) (x : Innings) (p : Int) : LoopOK Try.prog Try.f15.ntmps (loopIn Try.f15 0 0) (sum15 r x p 14) := by
  have hy := few_small x
  have ha := take_bowled (boundW r) (fewW x) p
  have hb := ball_bowled (r := boundW r) hy true
  have hc := new_bowled (boundW r) (fewW x)
  have h0 := small_two hy
  exact selSum_ok (pick3_ok (loop15B0 _ _ _ _ (by omega)) (loop15B1 _ _ _ _ hb.1) (loop15B2 _ _ _ _ (by omega)))
theorem loops15b (r : Rules) (x : Innings) (p : Int) : LoopOK Try.prog Try.f15.ntmps (loopIn Try.f15 0 1) (sum15 r x p 19) := by
  have hy := few_small x
  have ha := take_bowled (boundW r) (fewW x) p
  have hb := ball_bowled (r := boundW r) hy true
  have hc := new_bowled (boundW r) (fewW x)
  have h0 := small_two hy
  exact selSum_ok (pick3_ok (loop15F0 _ _ _ _ (by rw [doneB_before]; omega)) (loop15F1 _ _ _ _ (by rw [doneB_before]; exact hb.2)) (loop15F2 _ _ _ _ (by rw [doneB_before]; omega)))

end Go.Proofs.Ytogdeefpidccmaa

/- What all rows share. -/
namespace Go.Proofs.Ytogdeefpidccmaa
open Go Go.Mir Go.ChangeShapes Go.WideShapes Go.ChangeAt Go.RowKit

theorem own1 : ownKnob Try.prog.godebug = none := by kernel_rfl
theorem laid1 : laidOutB Try.prog = true := by kernel_rfl
theorem list1 {α : Type} {ds : List α} (h : ds.length = 1) : ∃ a, ds = [a] := by
  match ds, h with
  | [a], _ => exact ⟨a, rfl⟩
theorem list2 {α : Type} {ds : List α} (h : ds.length = 2) : ∃ a b, ds = [a, b] := by
  match ds, h with
  | [a, b], _ => exact ⟨a, b, rfl⟩
theorem list3 {α : Type} {ds : List α} (h : ds.length = 3) : ∃ a b c, ds = [a, b, c] := by
  match ds, h with
  | [a, b, c], _ => exact ⟨a, b, c, rfl⟩
theorem list4 {α : Type} {ds : List α} (h : ds.length = 4) : ∃ a b c d, ds = [a, b, c, d] := by
  match ds, h with
  | [a, b, c, d], _ => exact ⟨a, b, c, d, rfl⟩

end Go.Proofs.Ytogdeefpidccmaa
