/- The dismissal layer: the plain law of DismissalPossible. -/
import Derived.Test.YtogdeefpidccmaaFc
namespace Go.Proofs.Ytogdeefpidccmaa
open Go Go.Mir

theorem ofW_cases (h : Int) : (ofW h).either = (h == 6 || h == 8) ∧ (ofW h).fielder = oneR h := by
  by_cases h0 : h = 0; · subst h0; exact ⟨rfl, rfl⟩
  by_cases h1 : h = 1; · subst h1; exact ⟨rfl, rfl⟩
  by_cases h2 : h = 2; · subst h2; exact ⟨rfl, rfl⟩
  by_cases h3 : h = 3; · subst h3; exact ⟨rfl, rfl⟩
  by_cases h4 : h = 4; · subst h4; exact ⟨rfl, rfl⟩
  by_cases h5 : h = 5; · subst h5; exact ⟨rfl, rfl⟩
  by_cases h6 : h = 6; · subst h6; exact ⟨rfl, rfl⟩
  by_cases h7 : h = 7; · subst h7; exact ⟨rfl, rfl⟩
  by_cases h8 : h = 8; · subst h8; exact ⟨rfl, rfl⟩
  by_cases h9 : h = 9; · subst h9; exact ⟨rfl, rfl⟩
  by_cases h10 : h = 10; · subst h10; exact ⟨rfl, rfl⟩
  have e : ofW h = dismissal_way.zero := by
    unfold ofW
    rw [List.find?_eq_none.2]
    · rfl
    · intro x hx
      simp only [wtab, List.mem_cons, List.not_mem_nil, or_false] at hx
      rcases hx with rfl | rfl | rfl | rfl | rfl | rfl | rfl | rfl | rfl | rfl | rfl <;> simp <;> omega
  rw [e]
  constructor
  · simp [dismissal_way.zero, h6, h8]
  · simp [dismissal_way.zero, oneR, h2, h4, h6]

theorem ways_has (t h : Int) (free : Bool) : hasI (waysW t free) h = (onR h t && (!free || onFreeR h)) := by
  have key : ∀ t : Int, (t = 1 ∨ t = 2 ∨ t = 3) ∨ (t ≠ 1 ∧ t ≠ 2 ∧ t ≠ 3) := fun t => by omega
  rcases key t with (rfl | rfl | rfl) | ⟨h1, h2, h3⟩
  · have e : waysW 1 free = bif free then [6, 7, 8] else [1, 2, 3, 4, 5, 6, 7, 8] := by cases free <;> rfl
    rw [e]; cases free <;> simp [hasI, onR, onFreeR] <;> grind
  · have e : waysW 2 free = bif free then [6, 8] else [4, 5, 6, 8] := by cases free <;> rfl
    rw [e]; cases free <;> simp [hasI, onR, onFreeR] <;> grind
  · have e : waysW 3 free = bif free then [6, 7, 8] else [6, 7, 8] := by cases free <;> rfl
    rw [e]; cases free <;> simp [hasI, onR, onFreeR] <;> grind
  · have hn : ∀ w, freeW w t free = false := fun w => by simp [freeW, onW, h1, h2, h3]
    have e : waysW t free = [] := by unfold waysW; rw [List.filter_eq_nil_iff.2 (fun w _ => by rw [hn w]; simp)]; rfl
    rw [e]
    simp [hasI, onR, h1, h2, h3]

theorem possible_same (d : Delivery) (free : Bool) : possibleW d free = possibleR d free := by
  obtain ⟨h1, h2⟩ := ofW_cases d.How
  have h3 := ways_has d.Typ d.How free
  simp only [hasI] at h3
  simp only [possibleW, possibleR, fieldersW, player, h1, h2, h3]
  generalize onR d.How d.Typ = a
  generalize onFreeR d.How = b
  generalize oneR d.How = c
  by_cases h0 : d.How = 0
  · simp [h0]
  · by_cases h6 : d.How = 6
    · simp only [h6]; cases a <;> cases b <;> cases c <;> cases free <;> simp <;> grind
    · by_cases h8 : d.How = 8
      · simp only [h8]; cases a <;> cases b <;> cases c <;> cases free <;> simp <;> grind
      · simp only [beq_eq_false_iff_ne.2 h0, beq_eq_false_iff_ne.2 h6, beq_eq_false_iff_ne.2 h8]; cases a <;> cases b <;> cases c <;> cases free <;> simp <;> grind

end Go.Proofs.Ytogdeefpidccmaa
