/- Texts of the mirror and contracts, put together. -/
import Derived.Test.YtogdeefpidccmaaPR143
import Derived.Test.YtogdeefpidccmaaPR145
import Derived.Test.YtogdeefpidccmaaPR144
import Derived.SizedLaws

/- Rules and bowlers, second part: contracts. -/
namespace Go.Proofs.Ytogdeefpidccmaa
open Go Go.Mir
attribute [local irreducible] Go.Mir.RT.sat Go.Mir.evFn Go.Mir.stepObl
theorem arg_same (r : Rules) : (bif bif r.FollowOn != 0 then r.Innings == 1 else false then bif r.FollowOn != 0 then r.Innings == 1 else false else bif r.Quota != 0 then r.Overs == 0 else bif decide ((r.Power.length : Int) > 0) then r.Overs == 0 else false) = argBad r := by
  simp only [argBad]
  generalize (r.FollowOn != 0) = a
  generalize (r.Innings == 1) = b
  generalize (r.Quota != 0) = c
  generalize decide ((r.Power.length : Int) > 0) = d
  generalize (r.Overs == 0) = e
  cases a <;> cases b <;> cases c <;> cases d <;> cases e <;> rfl
theorem arg_same2 (r : Rules) : (bif r.FollowOn != 0 then bif r.Innings == 1 then true else bif r.Overs == 0 then bif r.Quota != 0 then true else decide ((r.Power.length : Int) > 0) else false else bif r.Overs == 0 then bif r.Quota != 0 then true else decide ((r.Power.length : Int) > 0) else false) = argBad r := by
  simp only [argBad]
  generalize (r.FollowOn != 0) = a
  generalize (r.Innings == 1) = b
  generalize (r.Quota != 0) = c
  generalize decide ((r.Power.length : Int) > 0) = d
  generalize (r.Overs == 0) = e
  cases a <;> cases b <;> cases c <;> cases d <;> cases e <;> rfl
theorem confl_same (r : Rules) : (bif r.Quota != 0 then decide (IntKind.i64.wrap (r.Quota * r.Side) < r.Overs) else false) = conflW r := by
  simp only [conflW, Bool.cond_false_right]

theorem step86 (r : Rules) (hx : r.Power.length ≤ lenB) (i : Nat) (hi : inv94 r i) : (stepObl (J86 r) (inv94 r) (fun i => r.Power.length - i) i (T94 r) (evCode (cf8 [k95, k96] Try.f86) (fun _ => none) (loopN Try.f86 0) (J86 r i)) (L94 i)).1 := by
  refine cast (by kernel_rfl) (?_ : (decide ((↑i : Int) < (↑r.14.length : Int)) = true → ((0 : Int) ≤ (↑i : Int) ∧ (↑i : Int) < (↑r.14.length : Int)) ∧ ((bif decide ((r.14.getD (↑i : Int).toNat (dflt (Ty.nm Nm.Phase))).1 < (1 : Int)) then true else bif decide ((r.14.getD (↑i : Int).toNat (dflt (Ty.nm Nm.Phase))).2 < (r.14.getD (↑i : Int).toNat (dflt (Ty.nm Nm.Phase))).1) then true else bif decide ((r.14.getD (↑i : Int).toNat (dflt (Ty.nm Nm.Phase))).2 > r.4) then true else !betweenW (r.14.getD (↑i : Int).toNat (dflt (Ty.nm Nm.Phase))).3 (0 : Int) (11 : Int)) = true → (scanW r (0 : Nat) r.14.length != (0 : Int)) = true ∧ ((2 : Int) = scanW r (0 : Nat) r.14.length ∧ True) ∧ True) ∧ ((bif decide ((r.14.getD (↑i : Int).toNat (dflt (Ty.nm Nm.Phase))).1 < (1 : Int)) then true else bif decide ((r.14.getD (↑i : Int).toNat (dflt (Ty.nm Nm.Phase))).2 < (r.14.getD (↑i : Int).toNat (dflt (Ty.nm Nm.Phase))).1) then true else bif decide ((r.14.getD (↑i : Int).toNat (dflt (Ty.nm Nm.Phase))).2 > r.4) then true else !betweenW (r.14.getD (↑i : Int).toNat (dflt (Ty.nm Nm.Phase))).3 (0 : Int) (11 : Int)) = false → ((decide ((↑i : Int) > (0 : Int)) = true → ((0 : Int) ≤ IntKind.i64.wrap ((↑i : Int) - (1 : Int)) ∧ IntKind.i64.wrap ((↑i : Int) - (1 : Int)) < (↑r.14.length : Int)) ∧ True) ∧ (decide ((↑i : Int) > (0 : Int)) = false → True)) ∧ (true = true → ((bif decide ((↑i : Int) > (0 : Int)) then decide ((r.14.getD (↑i : Int).toNat (dflt (Ty.nm Nm.Phase))).1 ≤ (r.14.getD (IntKind.i64.wrap ((↑i : Int) - (1 : Int))).toNat (dflt (Ty.nm Nm.Phase))).2) else false) = true → (scanW r (0 : Nat) r.14.length != (0 : Int)) = true ∧ ((8 : Int) = scanW r (0 : Nat) r.14.length ∧ True) ∧ True) ∧ ((bif decide ((↑i : Int) > (0 : Int)) then decide ((r.14.getD (↑i : Int).toNat (dflt (Ty.nm Nm.Phase))).1 ≤ (r.14.getD (IntKind.i64.wrap ((↑i : Int) - (1 : Int))).toNat (dflt (Ty.nm Nm.Phase))).2) else false) = false → inv94 r (i + (1 : Nat)) ∧ r.14.length - (i + (1 : Nat)) < r.14.length - i ∧ (True ∧ RowD.mk (Ty.nm Nm.Phase) r.14 = RowD.mk (Ty.nm Nm.Phase) r.14 ∧ (↑r.14.length : Int) = (↑r.14.length : Int) ∧ IntKind.i64.wrap ((↑i : Int) + (1 : Int)) = (↑(i + (1 : Nat)) : Int) ∧ True) ∧ (r.1 = r.1 ∧ r.2 = r.2 ∧ r.3 = r.3 ∧ r.4 = r.4 ∧ r.5 = r.5 ∧ r.6 = r.6 ∧ r.7 = r.7 ∧ r.8 = r.8 ∧ r.9 = r.9 ∧ r.10 = r.10 ∧ r.11 = r.11 ∧ r.12 = r.12 ∧ r.13 = r.13 ∧ RowD.mk (Ty.nm Nm.Phase) r.14 = RowD.mk (Ty.nm Nm.Phase) r.14 ∧ True) ∧ True)))) ∧ (decide ((↑i : Int) < (↑r.14.length : Int)) = false → (scanW r (0 : Nat) r.14.length != (0 : Int)) = false ∧ True ∧ True))
  have e : (i : Int).toNat = i := by simp
  rw [e]
  have hb : r.Power.length ≤ 140737488355328 := hx
  have hp : r.Power.getD i (dflt (Ty.nm Nm.Phase)) = phaseAt r i := rfl
  rw [hp]
  have hpb : (bif decide ((phaseAt r i).From < 1) then true else bif decide ((phaseAt r i).To < (phaseAt r i).From) then true else bif decide ((phaseAt r i).To > r.Overs) then true else !betweenW (phaseAt r i).Outside 0 11) = phaseBad r (phaseAt r i) := by
    simp only [phaseBad, Bool.cond_true_left, gt_iff_lt]
  rw [hpb]
  obtain ⟨hi1, hi2⟩ := hi
  refine ⟨fun h1 => ?_, fun h1 => ?_⟩
  · have h1 : i < r.Power.length := by simpa using h1
    have hn : r.Power.length - i = (r.Power.length - (i + 1)) + 1 := by omega
    rw [hn, scanW_succ] at hi2
    have hw1 : 0 < i → IntKind.i64.wrap ((i : Int) - 1) = ((i - 1 : Nat) : Int) := fun h => by rw [wrap64 (by omega) (by omega)]; omega
    refine ⟨⟨by omega, by omega⟩, fun h2 => ?_, fun h2 => ⟨⟨fun h3 => ?_, fun _ => trivial⟩, fun _ => ⟨fun h3 => ?_, fun h3 => ?_⟩⟩⟩
    · have hE : phErr r i = 2 := by simp only [phErr, h2]; rfl
      rw [hE] at hi2
      have hi2 : scanW r 0 r.Power.length = 2 := hi2
      rw [hi2]
      exact ⟨rfl, ⟨rfl, trivial⟩, trivial⟩
    · have h3 : 0 < i := by simpa using h3
      rw [hw1 h3]
      exact ⟨⟨by omega, by omega⟩, trivial⟩
    · have h4 : 0 < i := by
        by_cases h4 : 0 < i
        · exact h4
        · have : i = 0 := by omega
          subst this
          simp at h3
      rw [hw1 h4, Int.toNat_natCast] at h3
      have hq : r.Power.getD (i - 1) (dflt (Ty.nm Nm.Phase)) = phaseAt r (i - 1) := rfl
      rw [hq] at h3
      have h5 : (decide ((i : Int) > 0) && decide ((phaseAt r i).From ≤ (phaseAt r (i - 1)).To)) = true := by rw [← h3]; cases decide ((i : Int) > 0) <;> rfl
      have hE : phErr r i = 8 := by simp only [phErr, h2, h5]; rfl
      rw [hE] at hi2
      have hi2 : scanW r 0 r.Power.length = 8 := hi2
      rw [hi2]
      exact ⟨rfl, ⟨rfl, trivial⟩, trivial⟩
    · have h5 : (decide ((i : Int) > 0) && decide ((phaseAt r i).From ≤ (phaseAt r (i - 1)).To)) = false := by
        by_cases h4 : 0 < i
        · rw [hw1 h4, Int.toNat_natCast] at h3
          have hq : r.Power.getD (i - 1) (dflt (Ty.nm Nm.Phase)) = phaseAt r (i - 1) := rfl
          rw [hq] at h3
          rw [← h3]; cases decide ((i : Int) > 0) <;> rfl
        · have : i = 0 := by omega
          subst this; rfl
      have hE : phErr r i = 0 := by simp only [phErr, h2, h5]; rfl
      rw [hE] at hi2
      have hi2 : scanW r 0 r.Power.length = scanW r (i + 1) (r.Power.length - (i + 1)) := hi2
      exact ⟨⟨by omega, hi2⟩, by omega, ⟨trivial, rfl, rfl, by rw [wrap64 (by omega) (by omega)]; omega, trivial⟩, by simp⟩
  · have h1 : r.Power.length ≤ i := by simpa using h1
    have h2 : r.Power.length - i = 0 := by omega
    rw [h2] at hi2
    have hi2 : scanW r 0 r.Power.length = 0 := hi2
    rw [hi2]
    exact ⟨rfl, trivial, trivial⟩
theorem loop86 (r : Rules) (hx : r.Power.length ≤ lenB) : LoopOK Try.prog Try.f86.ntmps (loopN Try.f86 0) (loopSum ⟨[], [], 8⟩ (J86 r 0) (T94 r)) :=
  loop_by (cfg8OK (.cons ok95 (.cons ok96 .nil)) _) mixed (J86 r) (fun _ => rfl) (inv94 r) (fun i => r.Power.length - i) (fun _ _ => none) (fun _ _ _ _ _ h => by cases h) (T94 r) [] [] 0 (⟨Nat.zero_le _, rfl⟩) L94 (fun i hi => step86 r hx i hi)
theorem run86 (r : Rules) (hx : r.Power.length ≤ lenB) : (evFn (cf8 [k95, k96] Try.f86) (Λ86 r) Try.f86 (argsV psRu (r, ()))).sat fun v' rows => leV v' (spec85 (r, ())).v ∧ rows = (spec85 (r, ())).rows := by
  refine cast (by kernel_rfl) (?_ : ((!nameW r.1) = true → (5 : Int) = checkW r ∧ ([] : List RowD) = []) ∧ ((!nameW r.1) = false → ((bif !betweenW r.2 (2 : Int) (11 : Int) then true else bif !betweenW r.3 (1 : Int) (2 : Int) then true else bif !betweenW r.4 (0 : Int) (90 : Int) then true else bif !betweenW r.5 (4 : Int) (8 : Int) then true else bif !betweenW r.6 (0 : Int) (90 : Int) then true else bif !betweenW r.7 (1 : Int) (5 : Int) then true else bif !betweenW r.8 (1 : Int) (5 : Int) then true else bif !betweenW r.10 (0 : Int) (200 : Int) then true else bif !betweenW r.11 (0 : Int) (1000 : Int) then true else bif !betweenW r.12 (0 : Int) (9 : Int) then true else !betweenW r.13 (0 : Int) (11 : Int)) = true → (2 : Int) = checkW r ∧ ([] : List RowD) = []) ∧ ((bif !betweenW r.2 (2 : Int) (11 : Int) then true else bif !betweenW r.3 (1 : Int) (2 : Int) then true else bif !betweenW r.4 (0 : Int) (90 : Int) then true else bif !betweenW r.5 (4 : Int) (8 : Int) then true else bif !betweenW r.6 (0 : Int) (90 : Int) then true else bif !betweenW r.7 (1 : Int) (5 : Int) then true else bif !betweenW r.8 (1 : Int) (5 : Int) then true else bif !betweenW r.10 (0 : Int) (200 : Int) then true else bif !betweenW r.11 (0 : Int) (1000 : Int) then true else bif !betweenW r.12 (0 : Int) (9 : Int) then true else !betweenW r.13 (0 : Int) (11 : Int)) = false → ((bif r.11 != (0 : Int) then bif r.3 == (1 : Int) then true else bif r.4 == (0 : Int) then bif r.6 != (0 : Int) then true else decide ((↑r.14.length : Int) > (0 : Int)) else false else bif r.4 == (0 : Int) then bif r.6 != (0 : Int) then true else decide ((↑r.14.length : Int) > (0 : Int)) else false) = true → (1 : Int) = checkW r ∧ ([] : List RowD) = []) ∧ ((bif r.11 != (0 : Int) then bif r.3 == (1 : Int) then true else bif r.4 == (0 : Int) then bif r.6 != (0 : Int) then true else decide ((↑r.14.length : Int) > (0 : Int)) else false else bif r.4 == (0 : Int) then bif r.6 != (0 : Int) then true else decide ((↑r.14.length : Int) > (0 : Int)) else false) = false → ((bif r.6 != (0 : Int) then decide (IntKind.i64.wrap (r.6 * r.2) < r.4) else false) = true → (13 : Int) = checkW r ∧ ([] : List RowD) = []) ∧ ((bif r.6 != (0 : Int) then decide (IntKind.i64.wrap (r.6 * r.2) < r.4) else false) = false → (decide ((↑r.14.length : Int) > (8 : Int)) = true → (9 : Int) = checkW r ∧ ([] : List RowD) = []) ∧ (decide ((↑r.14.length : Int) > (8 : Int)) = false → ((noH0 fun x => none) ∧ (True ∧ RowD.mk (Ty.nm Nm.Phase) r.14 = RowD.mk (Ty.nm Nm.Phase) r.14 ∧ (↑r.14.length : Int) = (↑r.14.length : Int) ∧ (0 : Int) = (↑(0 : Nat) : Int) ∧ True) ∧ (r.1 = r.1 ∧ r.2 = r.2 ∧ r.3 = r.3 ∧ r.4 = r.4 ∧ r.5 = r.5 ∧ r.6 = r.6 ∧ r.7 = r.7 ∧ r.8 = r.8 ∧ r.9 = r.9 ∧ r.10 = r.10 ∧ r.11 = r.11 ∧ r.12 = r.12 ∧ r.13 = r.13 ∧ RowD.mk (Ty.nm Nm.Phase) r.14 = RowD.mk (Ty.nm Nm.Phase) r.14 ∧ True) ∧ True) ∧ ((scanW r (0 : Nat) r.14.length != (0 : Int)) = true → scanW r (0 : Nat) r.14.length = checkW r ∧ ([] : List RowD) = []) ∧ ((scanW r (0 : Nat) r.14.length != (0 : Int)) = false → (0 : Int) = checkW r ∧ ([] : List RowD) = [])))))))
  have hR : (bif !betweenW r.Side 2 11 then true else bif !betweenW r.Innings 1 2 then true else bif !betweenW r.Overs 0 90 then true else bif !betweenW r.Balls 4 8 then true else bif !betweenW r.Quota 0 90 then true else bif !betweenW r.Wide 1 5 then true else bif !betweenW r.NoBall 1 5 then true else bif !betweenW r.NewBall 0 200 then true else bif !betweenW r.FollowOn 0 1000 then true else bif !betweenW r.Reviews 0 9 then true else !betweenW r.Outside 0 11) = !inRangeW r := by
    simp only [inRangeW, Bool.cond_true_left, Bool.not_and]
  rw [hR, arg_same2, confl_same]
  have hP1 : (r.Power.length : Int) > 8 → phasesW r = 9 := fun h => by simp only [phasesW]; rw [if_pos h]
  have hP2 : ¬ (r.Power.length : Int) > 8 → phasesW r = scanW r 0 r.Power.length := fun h => by simp only [phasesW]; rw [if_neg h]
  refine ⟨fun h1 => ⟨?_, rfl⟩, fun h1 => ⟨fun h2 => ⟨?_, rfl⟩, fun h2 => ⟨fun h3 => ⟨?_, rfl⟩, fun h3 => ⟨fun h4 => ⟨?_, rfl⟩, fun h4 => ⟨fun h5 => ⟨?_, rfl⟩, fun h5 => ⟨⟨rfl, ⟨trivial, rfl, rfl, rfl, trivial⟩, by simp⟩, fun h6 => ⟨?_, rfl⟩, fun h6 => ⟨?_, rfl⟩⟩⟩⟩⟩⟩⟩
  · simp only [checkW, h1, if_true]
  · simp only [checkW, h1, h2, if_true]; rfl
  · simp only [checkW, h1, h2, h3, if_true]; rfl
  · simp only [checkW, h1, h2, h3, h4, if_true]; rfl
  · simp only [checkW, h1, h2, h3, h4]; rw [hP1 (of_decide_eq_true h5)]; rfl
  · simp only [checkW, h1, h2, h3, h4]; rw [hP2 (of_decide_eq_false h5)]; rfl
  · simp only [checkW, h1, h2, h3, h4]; rw [hP2 (of_decide_eq_false h5)]
    have h6 : scanW r 0 r.Power.length = 0 := by simpa using h6
    rw [h6]; rfl
theorem ok86 : CtrOK Try.prog K8 86 (pureCtr K8 psRu spec85) := by
  refine pure_ok (C := cf8 [k95, k96] Try.f86) (cfg8OK (.cons ok95 (.cons ok96 .nil)) _) mixed (fn := Try.f86) Try.func86 (by kernel_rfl) (by kernel_rfl) (by kernel_rfl) (Λ := fun x => Λ86 x.1) ?_ ?_ ?_
  · rintro ⟨r, ⟨⟩⟩ hw hn
    exact LoopsOK.at (by kernel_rfl) (.cons (by kernel_rfl) (loop86 r (wf_power (wf_fst hw))) .nil)
  · rintro ⟨r, ⟨⟩⟩
    exact of_decide_eq_true (by kernel_rfl)
  · rintro ⟨r, ⟨⟩⟩ hw hn
    exact run86 r (wf_power (wf_fst hw))
theorem run85 (r : Rules)  : (evFn (cf8 [k92, k93, k94] Try.f85) (fun _ => none) Try.f85 (argsV psRu (r, ()))).sat fun v' rows => leV v' (spec85 (r, ())).v ∧ rows = (spec85 (r, ())).rows := by
  refine cast (by kernel_rfl) (?_ : ((!nameW r.1) = true → (5 : Int) = checkW r ∧ ([] : List RowD) = []) ∧ ((!nameW r.1) = false → ((!inRangeW r) = true → (2 : Int) = checkW r ∧ ([] : List RowD) = []) ∧ ((!inRangeW r) = false → ((bif bif r.11 != (0 : Int) then r.3 == (1 : Int) else false then bif r.11 != (0 : Int) then r.3 == (1 : Int) else false else bif r.6 != (0 : Int) then r.4 == (0 : Int) else bif decide ((↑r.14.length : Int) > (0 : Int)) then r.4 == (0 : Int) else false) = true → (1 : Int) = checkW r ∧ ([] : List RowD) = []) ∧ ((bif bif r.11 != (0 : Int) then r.3 == (1 : Int) else false then bif r.11 != (0 : Int) then r.3 == (1 : Int) else false else bif r.6 != (0 : Int) then r.4 == (0 : Int) else bif decide ((↑r.14.length : Int) > (0 : Int)) then r.4 == (0 : Int) else false) = false → ((bif r.6 != (0 : Int) then decide (IntKind.i64.wrap (r.6 * r.2) < r.4) else false) = true → (13 : Int) = checkW r ∧ ([] : List RowD) = []) ∧ ((bif r.6 != (0 : Int) then decide (IntKind.i64.wrap (r.6 * r.2) < r.4) else false) = false → phasesW r = checkW r ∧ ([] : List RowD) = [])))))
  rw [arg_same, confl_same]
  simp only [checkW]
  repeat' first | refine And.intro ?_ ?_ | intro _
  all_goals first | rfl | (simp_all; done) | grind
theorem ok85 : CtrOK Try.prog K8 85 (pureCtr K8 psRu spec85) := by
  refine pure_ok (C := cf8 [k92, k93, k94] Try.f85) (cfg8OK (.cons ok92 (.cons ok93 (.cons ok94 .nil))) _) mixed (fn := Try.f85) Try.func85 (by kernel_rfl) (by kernel_rfl) (by kernel_rfl) (Λ := fun _ _ => none) ?_ ?_ ?_
  · exact fun _ _ _ _ _ _ _ _ h => by cases h
  · rintro ⟨r, ⟨⟩⟩
    exact of_decide_eq_true (by kernel_rfl)
  · rintro ⟨r, ⟨⟩⟩ hw hn
    exact run85 r
theorem idx_okB {x : Innings} {p : Int} (hp : i64R p) (h : knownB x p = true) : IntKind.i64.wrap (p - 1) = p - 1 ∧ 0 ≤ p - 1 ∧ p - 1 < (x.Bowled.length : Int) := by
  simp only [knownB, Bool.and_eq_true, decide_eq_true_eq] at h
  have := hp.2
  exact ⟨wrap64 (by omega) (by omega), by omega, by omega⟩

theorem run81 (r : Rules) (x : Innings) (p : Int) (hp : i64R p) : (evFn (cf8 [k84, k85] Try.f81) (fun _ => none) Try.f81 (argsV psRIP (r, x, p, ()))).sat fun v' rows => leV v' (spec81 (r, x, p, ())).v ∧ rows = (spec81 (r, x, p, ())).rows := by
  refine cast (by kernel_rfl) (?_ : ((bif !knownB x p then true else checkW r != (0 : Int)) = true → (0 : Int) = roomW r x p ∧ ([] : List RowD) = []) ∧ ((bif !knownB x p then true else checkW r != (0 : Int)) = false → ((r.6 == (0 : Int)) = true → (-1 : Int) = roomW r x p ∧ ([] : List RowD) = []) ∧ ((r.6 == (0 : Int)) = false → ((0 : Int) ≤ IntKind.i64.wrap (p - (1 : Int)) ∧ IntKind.i64.wrap (p - (1 : Int)) < (↑x.16.length : Int)) ∧ (if (0 : Int) > IntKind.i64.wrap (IntKind.i64.wrap (r.6 * r.5) - if (0 : Int) > x.16.getD (IntKind.i64.wrap (p - (1 : Int))).toNat (dflt (Ty.int IntKind.i64)) then (0 : Int) else x.16.getD (IntKind.i64.wrap (p - (1 : Int))).toNat (dflt (Ty.int IntKind.i64))) then (0 : Int) else IntKind.i64.wrap (IntKind.i64.wrap (r.6 * r.5) - if (0 : Int) > x.16.getD (IntKind.i64.wrap (p - (1 : Int))).toNat (dflt (Ty.int IntKind.i64)) then (0 : Int) else x.16.getD (IntKind.i64.wrap (p - (1 : Int))).toNat (dflt (Ty.int IntKind.i64)))) = roomW r x p ∧ ([] : List RowD) = [])))
  have h0 : (bif !knownB x p then true else checkW r != 0) = (!knownB x p || checkW r != 0) := by cases knownB x p <;> rfl
  rw [h0]
  refine ⟨fun h => ⟨?_, rfl⟩, fun h => ⟨fun h2 => ⟨?_, rfl⟩, fun h2 => ⟨?_, ?_, rfl⟩⟩⟩
  · simp only [roomW, h, if_true]
  · simp only [roomW, h, h2, if_true]; rfl
  · have hk : knownB x p = true := by
      cases hk : knownB x p with
      | true => rfl
      | false => rw [hk] at h; cases h
    obtain ⟨e, h3, h4⟩ := idx_okB hp hk
    rw [e]; exact ⟨h3, h4⟩
  · have hk : knownB x p = true := by
      cases hk : knownB x p with
      | true => rfl
      | false => rw [hk] at h; cases h
    obtain ⟨e, h3, h4⟩ := idx_okB hp hk
    rw [e]
    simp only [roomW, h, h2]
    rfl
theorem ok81 : CtrOK Try.prog K8 81 (pureCtr K8 psRIP spec81) := by
  refine pure_ok (C := cf8 [k84, k85] Try.f81) (cfg8OK (.cons ok84 (.cons ok85 .nil)) _) mixed (fn := Try.f81) Try.func81 (by kernel_rfl) (by kernel_rfl) (by kernel_rfl) (Λ := fun _ _ => none) ?_ ?_ ?_
  · exact fun _ _ _ _ _ _ _ _ h => by cases h
  · rintro ⟨r, x, p, ⟨⟩⟩
    exact of_decide_eq_true (by kernel_rfl)
  · rintro ⟨r, x, p, ⟨⟩⟩ hw hn
    exact run81 r x p (wf_i64 (wf_fst (wf_snd (wf_snd hw))))
end Go.Proofs.Ytogdeefpidccmaa

/- Bowlers: contracts. -/
namespace Go.Proofs.Ytogdeefpidccmaa
open Go Go.Mir
attribute [local irreducible] Go.Mir.RT.sat Go.Mir.evFn Go.Mir.stepObl
theorem run82 (r : Rules) (x : Innings) (p : Int) (hp : i64R p) : (evFn (cf8 [k47, k81, k84, k85] Try.f82) (fun _ => none) Try.f82 (argsV psRIP (r, x, p, ()))).sat fun v' rows => leV v' (spec82 (r, x, p, ())).v ∧ rows = (spec82 (r, x, p, ())).rows := by
  refine cast (by kernel_rfl) (?_ : ((bif !knownB x p then true else checkW r != (0 : Int)) = true → (3 : Int) = mayW r x p ∧ ([] : List RowD) = []) ∧ ((bif !knownB x p then true else checkW r != (0 : Int)) = false → ((decide (p ≤ (↑x.21.length : Int)) = true → ((0 : Int) ≤ IntKind.i64.wrap (p - (1 : Int)) ∧ IntKind.i64.wrap (p - (1 : Int)) < (↑x.21.length : Int)) ∧ True) ∧ (decide (p ≤ (↑x.21.length : Int)) = false → True)) ∧ (true = true → ((bif p == x.19 then true else bif p == x.12 then true else bif decide (p ≤ (↑x.21.length : Int)) then x.21.getD (IntKind.i64.wrap (p - (1 : Int))).toNat (dflt Ty.bool) else false) = true → (7 : Int) = mayW r x p ∧ ([] : List RowD) = []) ∧ ((bif p == x.19 then true else bif p == x.12 then true else bif decide (p ≤ (↑x.21.length : Int)) then x.21.getD (IntKind.i64.wrap (p - (1 : Int))).toNat (dflt Ty.bool) else false) = false → (hasLI x.14 p = true → (8 : Int) = mayW r x p ∧ ([] : List RowD) = []) ∧ (hasLI x.14 p = false → ((bif roomW r x p != (-1 : Int) then decide (x.8 < IntKind.i64.wrap (r.5 - roomW r x p)) else false) = true → (9 : Int) = mayW r x p ∧ ([] : List RowD) = []) ∧ ((bif roomW r x p != (-1 : Int) then decide (x.8 < IntKind.i64.wrap (r.5 - roomW r x p)) else false) = false → (0 : Int) = mayW r x p ∧ ([] : List RowD) = []))))))
  have h0 : (bif !knownB x p then true else checkW r != 0) = (!knownB x p || checkW r != 0) := by cases knownB x p <;> rfl
  rw [h0]
  refine ⟨fun h => ⟨?_, rfl⟩, fun h => ?_⟩
  · simp only [mayW, h, if_true]
  · have hk : knownB x p = true := by
      cases hk : knownB x p with
      | true => rfl
      | false => rw [hk] at h; cases h
    have hp1 : p ≥ 1 := by
      simp only [knownB, Bool.and_eq_true, decide_eq_true_eq] at hk
      exact hk.1
    have hw : IntKind.i64.wrap (p - 1) = p - 1 := by have := hp.2; exact wrap64 (by omega) (by omega)
    rw [hw]
    have hrep : (bif decide (p ≤ (x.Subs.length : Int)) then x.Subs.getD (p - 1).toNat (dflt Ty.bool) else false) = replacedW x p := by
      simp only [replacedW, knownW, decide_eq_true hp1, Bool.true_and]
      cases decide (p ≤ (x.Subs.length : Int)) <;> rfl
    rw [hrep]
    have hq : (bif p == x.Keeper then true else bif p == x.Bowler then true else replacedW x p) = (p == x.Keeper || (p == x.Bowler || replacedW x p)) := by simp only [Bool.cond_true_left]
    rw [hq, Bool.cond_false_right]
    refine ⟨⟨fun h1 => ⟨?_, trivial⟩, fun _ => trivial⟩, fun _ => ⟨fun h1 => ⟨?_, rfl⟩, fun h1 => ⟨fun h2 => ⟨?_, rfl⟩, fun h2 => ⟨fun h3 => ⟨?_, rfl⟩, fun h3 => ⟨?_, rfl⟩⟩⟩⟩⟩
    · have h1 : p ≤ (x.Subs.length : Int) := of_decide_eq_true h1
      exact ⟨by omega, by omega⟩
    · simp only [mayW, h, h1]; rfl
    · simp only [mayW, h, h1, h2]; rfl
    · simp only [mayW, h, h1, h2, h3]; rfl
    · simp only [mayW, h, h1, h2, h3]; rfl
theorem ok82 : CtrOK Try.prog K8 82 (pureCtr K8 psRIP spec82) := by
  refine pure_ok (C := cf8 [k47, k81, k84, k85] Try.f82) (cfg8OK (.cons ok47 (.cons ok81 (.cons ok84 (.cons ok85 .nil)))) _) mixed (fn := Try.f82) Try.func82 (by kernel_rfl) (by kernel_rfl) (by kernel_rfl) (Λ := fun _ _ => none) ?_ ?_ ?_
  · exact fun _ _ _ _ _ _ _ _ h => by cases h
  · rintro ⟨r, x, p, ⟨⟩⟩
    exact of_decide_eq_true (by kernel_rfl)
  · rintro ⟨r, x, p, ⟨⟩⟩ hw hn
    exact run82 r x p (wf_i64 (wf_fst (wf_snd (wf_snd hw))))
theorem run50 (r : Rules) (x : Innings) (p : Int) (hs : smallI x) : (evFn (cf8 [k82, k83] Try.f50) (fun _ => none) Try.f50 (argsV psRIP (r, x, p, ()))).sat fun v' rows => leV v' (spec50 (r, x, p, ())).v ∧ rows = (spec50 (r, x, p, ())).rows := by
  refine cast (by kernel_rfl) (?_ : smallI x ∧ (((bif mayW r x p == (0 : Int) then x.1 else x.1) = (takeY r x p).1 ∧ (bif mayW r x p == (0 : Int) then x.2 else x.2) = (takeY r x p).2 ∧ (bif mayW r x p == (0 : Int) then x.3 else x.3) = (takeY r x p).3 ∧ (bif mayW r x p == (0 : Int) then x.4 else x.4) = (takeY r x p).4 ∧ (bif mayW r x p == (0 : Int) then x.5 else x.5) = (takeY r x p).5 ∧ (bif mayW r x p == (0 : Int) then x.6.1 else x.6.1) = (takeY r x p).6.1 ∧ (bif mayW r x p == (0 : Int) then x.6.2 else x.6.2) = (takeY r x p).6.2 ∧ (bif mayW r x p == (0 : Int) then x.6.3 else x.6.3) = (takeY r x p).6.3 ∧ (bif mayW r x p == (0 : Int) then x.6.4 else x.6.4) = (takeY r x p).6.4 ∧ (bif mayW r x p == (0 : Int) then x.6.5 else x.6.5) = (takeY r x p).6.5 ∧ (bif mayW r x p == (0 : Int) then x.7 else x.7) = (takeY r x p).7 ∧ (bif mayW r x p == (0 : Int) then x.8 else x.8) = (takeY r x p).8 ∧ (bif mayW r x p == (0 : Int) then x.9 else x.9) = (takeY r x p).9 ∧ (bif mayW r x p == (0 : Int) then x.10 else x.10) = (takeY r x p).10 ∧ (nat_lit 0 = nat_lit 0 ∧ nat_lit 0 = nat_lit 0) ∧ (bif mayW r x p == (0 : Int) then p else x.12) = (takeY r x p).12 ∧ (nat_lit 1 = nat_lit 1 ∧ nat_lit 1 = nat_lit 1) ∧ (nat_lit 2 = nat_lit 2 ∧ nat_lit 2 = nat_lit 2) ∧ (bif mayW r x p == (0 : Int) then x.15 else x.15) = (takeY r x p).15 ∧ (nat_lit 3 = nat_lit 3 ∧ nat_lit 3 = nat_lit 3) ∧ (bif mayW r x p == (0 : Int) then x.17 else x.17) = (takeY r x p).17 ∧ (bif mayW r x p == (0 : Int) then x.18 else x.18) = (takeY r x p).18 ∧ (bif mayW r x p == (0 : Int) then x.19 else x.19) = (takeY r x p).19 ∧ (bif mayW r x p == (0 : Int) then x.20 else x.20) = (takeY r x p).20 ∧ (nat_lit 4 = nat_lit 4 ∧ nat_lit 4 = nat_lit 4) ∧ (bif mayW r x p == (0 : Int) then x.22.1 else x.22.1) = (takeY r x p).22.1 ∧ (bif mayW r x p == (0 : Int) then x.22.2.1 else x.22.2.1) = (takeY r x p).22.2.1 ∧ (bif mayW r x p == (0 : Int) then x.23 else x.23) = (takeY r x p).23 ∧ True) ∧ mayW r x p = mayW r x p ∧ True) ∧ [RowD.mk (Ty.int IntKind.u8) x.11, RowD.mk (Ty.int IntKind.i64) x.13, RowD.mk (Ty.int IntKind.i64) x.14, RowD.mk (Ty.int IntKind.i64) x.16, RowD.mk Ty.bool x.21] = [RowD.mk (Ty.int IntKind.u8) (takeY r x p).11, RowD.mk (Ty.int IntKind.i64) (takeY r x p).13, RowD.mk (Ty.int IntKind.i64) (takeY r x p).14, RowD.mk (Ty.int IntKind.i64) (takeY r x p).16, RowD.mk Ty.bool (takeY r x p).21])
  refine ⟨hs, ?_⟩
  cases hm : (mayW r x p == 0) with
  | false =>
    have e : takeY r x p = x := by simp only [takeY, hm]; rfl
    rw [e]; simp
  | true =>
    have e : takeY r x p = { x with Bowler := p } := by simp only [takeY, hm]; rfl
    rw [e]; simp
theorem ok50 : CtrOK Try.prog K8 50 (pureCtr K8 psRIP spec50) := by
  refine pure_ok (C := cf8 [k82, k83] Try.f50) (cfg8OK (.cons ok82 (.cons ok83 .nil)) _) mixed (fn := Try.f50) Try.func50 (by kernel_rfl) (by kernel_rfl) (by kernel_rfl) (Λ := fun _ _ => none) ?_ ?_ ?_
  · exact fun _ _ _ _ _ _ _ _ h => by cases h
  · rintro ⟨r, x, p, ⟨⟩⟩
    exact of_decide_eq_true (by kernel_rfl)
  · rintro ⟨r, x, p, ⟨⟩⟩ hw hn
    exact run50 r x p (hn _ (List.mem_singleton.2 rfl))
theorem run55 (r : Rules) (x : Innings) (hs : smallI x) : (evFn (cf8 [k83, k85] Try.f55) (fun _ => none) Try.f55 (argsV psRI (r, x, ()))).sat fun v' rows => leV v' (spec55 (r, x, ())).v ∧ rows = (spec55 (r, x, ())).rows := by
  refine cast (by kernel_rfl) (?_ : smallI x ∧ ((bif checkW r != (0 : Int) then true else bif r.10 == (0 : Int) then true else decide (x.18 < IntKind.i64.wrap (r.10 * r.5))) = true → ((x.1 = (newY r x).1 ∧ x.2 = (newY r x).2 ∧ x.3 = (newY r x).3 ∧ x.4 = (newY r x).4 ∧ x.5 = (newY r x).5 ∧ x.6.1 = (newY r x).6.1 ∧ x.6.2 = (newY r x).6.2 ∧ x.6.3 = (newY r x).6.3 ∧ x.6.4 = (newY r x).6.4 ∧ x.6.5 = (newY r x).6.5 ∧ x.7 = (newY r x).7 ∧ x.8 = (newY r x).8 ∧ x.9 = (newY r x).9 ∧ x.10 = (newY r x).10 ∧ (nat_lit 0 = nat_lit 0 ∧ nat_lit 0 = nat_lit 0) ∧ x.12 = (newY r x).12 ∧ (nat_lit 1 = nat_lit 1 ∧ nat_lit 1 = nat_lit 1) ∧ (nat_lit 2 = nat_lit 2 ∧ nat_lit 2 = nat_lit 2) ∧ x.15 = (newY r x).15 ∧ (nat_lit 3 = nat_lit 3 ∧ nat_lit 3 = nat_lit 3) ∧ x.17 = (newY r x).17 ∧ x.18 = (newY r x).18 ∧ x.19 = (newY r x).19 ∧ x.20 = (newY r x).20 ∧ (nat_lit 4 = nat_lit 4 ∧ nat_lit 4 = nat_lit 4) ∧ x.22.1 = (newY r x).22.1 ∧ x.22.2.1 = (newY r x).22.2.1 ∧ x.23 = (newY r x).23 ∧ True) ∧ (22 : Int) = newL r x ∧ True) ∧ [RowD.mk (Ty.int IntKind.u8) x.11, RowD.mk (Ty.int IntKind.i64) x.13, RowD.mk (Ty.int IntKind.i64) x.14, RowD.mk (Ty.int IntKind.i64) x.16, RowD.mk Ty.bool x.21] = [RowD.mk (Ty.int IntKind.u8) (newY r x).11, RowD.mk (Ty.int IntKind.i64) (newY r x).13, RowD.mk (Ty.int IntKind.i64) (newY r x).14, RowD.mk (Ty.int IntKind.i64) (newY r x).16, RowD.mk Ty.bool (newY r x).21]) ∧ ((bif checkW r != (0 : Int) then true else bif r.10 == (0 : Int) then true else decide (x.18 < IntKind.i64.wrap (r.10 * r.5))) = false → ((x.1 = (newY r x).1 ∧ x.2 = (newY r x).2 ∧ x.3 = (newY r x).3 ∧ x.4 = (newY r x).4 ∧ x.5 = (newY r x).5 ∧ x.6.1 = (newY r x).6.1 ∧ x.6.2 = (newY r x).6.2 ∧ x.6.3 = (newY r x).6.3 ∧ x.6.4 = (newY r x).6.4 ∧ x.6.5 = (newY r x).6.5 ∧ x.7 = (newY r x).7 ∧ x.8 = (newY r x).8 ∧ x.9 = (newY r x).9 ∧ x.10 = (newY r x).10 ∧ (nat_lit 0 = nat_lit 0 ∧ nat_lit 0 = nat_lit 0) ∧ x.12 = (newY r x).12 ∧ (nat_lit 1 = nat_lit 1 ∧ nat_lit 1 = nat_lit 1) ∧ (nat_lit 2 = nat_lit 2 ∧ nat_lit 2 = nat_lit 2) ∧ x.15 = (newY r x).15 ∧ (nat_lit 3 = nat_lit 3 ∧ nat_lit 3 = nat_lit 3) ∧ x.17 = (newY r x).17 ∧ (0 : Int) = (newY r x).18 ∧ x.19 = (newY r x).19 ∧ x.20 = (newY r x).20 ∧ (nat_lit 4 = nat_lit 4 ∧ nat_lit 4 = nat_lit 4) ∧ x.22.1 = (newY r x).22.1 ∧ x.22.2.1 = (newY r x).22.2.1 ∧ x.23 = (newY r x).23 ∧ True) ∧ (0 : Int) = newL r x ∧ True) ∧ [RowD.mk (Ty.int IntKind.u8) x.11, RowD.mk (Ty.int IntKind.i64) x.13, RowD.mk (Ty.int IntKind.i64) x.14, RowD.mk (Ty.int IntKind.i64) x.16, RowD.mk Ty.bool x.21] = [RowD.mk (Ty.int IntKind.u8) (newY r x).11, RowD.mk (Ty.int IntKind.i64) (newY r x).13, RowD.mk (Ty.int IntKind.i64) (newY r x).14, RowD.mk (Ty.int IntKind.i64) (newY r x).16, RowD.mk Ty.bool (newY r x).21]))
  have hc : (bif checkW r != 0 then true else bif r.NewBall == 0 then true else decide (x.BallAge < IntKind.i64.wrap (r.NewBall * r.Balls))) = noNew r x := by simp only [noNew, Bool.cond_true_left]
  rw [hc]
  refine ⟨hs, fun h => ?_, fun h => ?_⟩
  · have e : newY r x = x := by simp only [newY, h]; rfl
    have l : newL r x = 22 := by simp only [newL, h]; rfl
    rw [e, l]; simp
  · have e : newY r x = { x with BallAge := 0 } := by simp only [newY, h]; rfl
    have l : newL r x = 0 := by simp only [newL, h]; rfl
    rw [e, l]; simp
theorem ok55 : CtrOK Try.prog K8 55 (pureCtr K8 psRI spec55) := by
  refine pure_ok (C := cf8 [k83, k85] Try.f55) (cfg8OK (.cons ok83 (.cons ok85 .nil)) _) mixed (fn := Try.f55) Try.func55 (by kernel_rfl) (by kernel_rfl) (by kernel_rfl) (Λ := fun _ _ => none) ?_ ?_ ?_
  · exact fun _ _ _ _ _ _ _ _ h => by cases h
  · rintro ⟨r, x, ⟨⟩⟩
    exact of_decide_eq_true (by kernel_rfl)
  · rintro ⟨r, x, ⟨⟩⟩ hw hn
    exact run55 r x (hn _ (List.mem_singleton.2 rfl))
theorem run56 (r : Rules) (x : Innings) (hs : smallI x) : (evFn (cf8 [k44, k86] Try.f56) (fun _ => none) Try.f56 (argsV psRI (r, x, ()))).sat fun v' rows => leV v' (spec55 (r, x, ())).v ∧ rows = (spec55 (r, x, ())).rows := by
  refine cast (by kernel_rfl) (?_ : smallI x ∧ ((bif checkW r != (0 : Int) then true else bif r.10 == (0 : Int) then true else decide (x.18 < IntKind.i64.wrap (r.10 * r.5))) = true → ((x.1 = (newY r x).1 ∧ x.2 = (newY r x).2 ∧ x.3 = (newY r x).3 ∧ x.4 = (newY r x).4 ∧ x.5 = (newY r x).5 ∧ x.6.1 = (newY r x).6.1 ∧ x.6.2 = (newY r x).6.2 ∧ x.6.3 = (newY r x).6.3 ∧ x.6.4 = (newY r x).6.4 ∧ x.6.5 = (newY r x).6.5 ∧ x.7 = (newY r x).7 ∧ x.8 = (newY r x).8 ∧ x.9 = (newY r x).9 ∧ x.10 = (newY r x).10 ∧ (nat_lit 0 = nat_lit 0 ∧ nat_lit 0 = nat_lit 0) ∧ x.12 = (newY r x).12 ∧ (nat_lit 1 = nat_lit 1 ∧ nat_lit 1 = nat_lit 1) ∧ (nat_lit 2 = nat_lit 2 ∧ nat_lit 2 = nat_lit 2) ∧ x.15 = (newY r x).15 ∧ (nat_lit 3 = nat_lit 3 ∧ nat_lit 3 = nat_lit 3) ∧ x.17 = (newY r x).17 ∧ x.18 = (newY r x).18 ∧ x.19 = (newY r x).19 ∧ x.20 = (newY r x).20 ∧ (nat_lit 4 = nat_lit 4 ∧ nat_lit 4 = nat_lit 4) ∧ x.22.1 = (newY r x).22.1 ∧ x.22.2.1 = (newY r x).22.2.1 ∧ x.23 = (newY r x).23 ∧ True) ∧ (22 : Int) = newL r x ∧ True) ∧ [RowD.mk (Ty.int IntKind.u8) x.11, RowD.mk (Ty.int IntKind.i64) x.13, RowD.mk (Ty.int IntKind.i64) x.14, RowD.mk (Ty.int IntKind.i64) x.16, RowD.mk Ty.bool x.21] = [RowD.mk (Ty.int IntKind.u8) (newY r x).11, RowD.mk (Ty.int IntKind.i64) (newY r x).13, RowD.mk (Ty.int IntKind.i64) (newY r x).14, RowD.mk (Ty.int IntKind.i64) (newY r x).16, RowD.mk Ty.bool (newY r x).21]) ∧ ((bif checkW r != (0 : Int) then true else bif r.10 == (0 : Int) then true else decide (x.18 < IntKind.i64.wrap (r.10 * r.5))) = false → ((x.1 = (newY r x).1 ∧ x.2 = (newY r x).2 ∧ x.3 = (newY r x).3 ∧ x.4 = (newY r x).4 ∧ x.5 = (newY r x).5 ∧ x.6.1 = (newY r x).6.1 ∧ x.6.2 = (newY r x).6.2 ∧ x.6.3 = (newY r x).6.3 ∧ x.6.4 = (newY r x).6.4 ∧ x.6.5 = (newY r x).6.5 ∧ x.7 = (newY r x).7 ∧ x.8 = (newY r x).8 ∧ x.9 = (newY r x).9 ∧ x.10 = (newY r x).10 ∧ (nat_lit 0 = nat_lit 0 ∧ nat_lit 0 = nat_lit 0) ∧ x.12 = (newY r x).12 ∧ (nat_lit 1 = nat_lit 1 ∧ nat_lit 1 = nat_lit 1) ∧ (nat_lit 2 = nat_lit 2 ∧ nat_lit 2 = nat_lit 2) ∧ x.15 = (newY r x).15 ∧ (nat_lit 3 = nat_lit 3 ∧ nat_lit 3 = nat_lit 3) ∧ x.17 = (newY r x).17 ∧ (0 : Int) = (newY r x).18 ∧ x.19 = (newY r x).19 ∧ x.20 = (newY r x).20 ∧ (nat_lit 4 = nat_lit 4 ∧ nat_lit 4 = nat_lit 4) ∧ x.22.1 = (newY r x).22.1 ∧ x.22.2.1 = (newY r x).22.2.1 ∧ x.23 = (newY r x).23 ∧ True) ∧ (0 : Int) = newL r x ∧ True) ∧ [RowD.mk (Ty.int IntKind.u8) x.11, RowD.mk (Ty.int IntKind.i64) x.13, RowD.mk (Ty.int IntKind.i64) x.14, RowD.mk (Ty.int IntKind.i64) x.16, RowD.mk Ty.bool x.21] = [RowD.mk (Ty.int IntKind.u8) (newY r x).11, RowD.mk (Ty.int IntKind.i64) (newY r x).13, RowD.mk (Ty.int IntKind.i64) (newY r x).14, RowD.mk (Ty.int IntKind.i64) (newY r x).16, RowD.mk Ty.bool (newY r x).21]))
  have hc : (bif checkW r != 0 then true else bif r.NewBall == 0 then true else decide (x.BallAge < IntKind.i64.wrap (r.NewBall * r.Balls))) = noNew r x := by simp only [noNew, Bool.cond_true_left]
  rw [hc]
  refine ⟨hs, fun h => ?_, fun h => ?_⟩
  · have e : newY r x = x := by simp only [newY, h]; rfl
    have l : newL r x = 22 := by simp only [newL, h]; rfl
    rw [e, l]; simp
  · have e : newY r x = { x with BallAge := 0 } := by simp only [newY, h]; rfl
    have l : newL r x = 0 := by simp only [newL, h]; rfl
    rw [e, l]; simp
theorem ok56 : CtrOK Try.prog K8 56 (pureCtr K8 psRI spec55) := by
  refine pure_ok (C := cf8 [k44, k86] Try.f56) (cfg8OK (.cons ok44 (.cons ok86 .nil)) _) mixed (fn := Try.f56) Try.func56 (by kernel_rfl) (by kernel_rfl) (by kernel_rfl) (Λ := fun _ _ => none) ?_ ?_ ?_
  · exact fun _ _ _ _ _ _ _ _ h => by cases h
  · rintro ⟨r, x, ⟨⟩⟩
    exact of_decide_eq_true (by kernel_rfl)
  · rintro ⟨r, x, ⟨⟩⟩ hw hn
    exact run56 r x (hn _ (List.mem_singleton.2 rfl))
theorem wf_bowler {x : Innings} (h : wfD (.nm .Innings) x) : i64R x.Bowler :=
  wf_i64 (wf_fst (wf_snd (wf_snd (wf_snd (wf_snd (wf_snd (wf_snd (wf_snd (wf_snd (wf_snd (wf_snd (wf_snd (wf_nm h)))))))))))))

theorem count_in (x : Innings) (c : Bool) : (countW x c).InOver = (bif c then IntKind.i64.wrap (x.InOver + 1) else x.InOver) := by cases c <;> rfl
theorem ball_no {r : Rules} {x : Innings} (c : Bool) (h : noBall r x = true) : ballY r x c = x ∧ ballO r x c = false := by
  unfold ballY ballO
  rw [if_pos h, if_pos h]
  exact ⟨rfl, rfl⟩
theorem ball_on {r : Rules} {x : Innings} {c : Bool} (h : noBall r x = false) (h2 : decide ((bif c then IntKind.i64.wrap (x.InOver + 1) else x.InOver) < r.Balls) = true) : ballY r x c = countW x c ∧ ballO r x c = false := by
  have h3 : (countW x c).InOver < r.Balls := by rw [count_in]; exact of_decide_eq_true h2
  unfold ballY ballO
  simp only [h, h3, if_true, Bool.false_eq_true, if_false, and_self]
theorem ball_over {r : Rules} {x : Innings} {c : Bool} (h : noBall r x = false) (h2 : decide ((bif c then IntKind.i64.wrap (x.InOver + 1) else x.InOver) < r.Balls) = false) : ballY r x c = overW (countW x c) ∧ ballO r x c = true := by
  have h3 : ¬ (countW x c).InOver < r.Balls := by rw [count_in]; exact of_decide_eq_false h2
  unfold ballY ballO
  simp only [h, h3, Bool.false_eq_true, if_false, and_self]

theorem run51 (r : Rules) (x : Innings) (c : Bool) (hs : smallI x) (hb : i64R x.Bowler) : (evFn (cf8 [k47, k83, k84, k85] Try.f51) (fun _ => none) Try.f51 (argsV psRIB (r, x, c, ()))).sat fun v' rows => leV v' (spec51 (r, x, c, ())).v ∧ rows = (spec51 (r, x, c, ())).rows := by
  refine cast (by kernel_rfl) (?_ : smallI x ∧ ((bif !knownB x x.12 then true else checkW r != (0 : Int)) = true → ((x.1 = (ballY r x c).1 ∧ x.2 = (ballY r x c).2 ∧ x.3 = (ballY r x c).3 ∧ x.4 = (ballY r x c).4 ∧ x.5 = (ballY r x c).5 ∧ x.6.1 = (ballY r x c).6.1 ∧ x.6.2 = (ballY r x c).6.2 ∧ x.6.3 = (ballY r x c).6.3 ∧ x.6.4 = (ballY r x c).6.4 ∧ x.6.5 = (ballY r x c).6.5 ∧ x.7 = (ballY r x c).7 ∧ x.8 = (ballY r x c).8 ∧ x.9 = (ballY r x c).9 ∧ x.10 = (ballY r x c).10 ∧ (nat_lit 0 = nat_lit 0 ∧ nat_lit 0 = nat_lit 0) ∧ x.12 = (ballY r x c).12 ∧ (nat_lit 1 = nat_lit 1 ∧ nat_lit 1 = nat_lit 1) ∧ (nat_lit 2 = nat_lit 2 ∧ nat_lit 2 = nat_lit 2) ∧ x.15 = (ballY r x c).15 ∧ (nat_lit 3 = nat_lit 3 ∧ nat_lit 3 = nat_lit 3) ∧ x.17 = (ballY r x c).17 ∧ x.18 = (ballY r x c).18 ∧ x.19 = (ballY r x c).19 ∧ x.20 = (ballY r x c).20 ∧ (nat_lit 4 = nat_lit 4 ∧ nat_lit 4 = nat_lit 4) ∧ x.22.1 = (ballY r x c).22.1 ∧ x.22.2.1 = (ballY r x c).22.2.1 ∧ x.23 = (ballY r x c).23 ∧ True) ∧ false = ballO r x c ∧ True) ∧ [RowD.mk (Ty.int IntKind.u8) x.11, RowD.mk (Ty.int IntKind.i64) x.13, RowD.mk (Ty.int IntKind.i64) x.14, RowD.mk (Ty.int IntKind.i64) x.16, RowD.mk Ty.bool x.21] = [RowD.mk (Ty.int IntKind.u8) (ballY r x c).11, RowD.mk (Ty.int IntKind.i64) (ballY r x c).13, RowD.mk (Ty.int IntKind.i64) (ballY r x c).14, RowD.mk (Ty.int IntKind.i64) (ballY r x c).16, RowD.mk Ty.bool (ballY r x c).21]) ∧ ((bif !knownB x x.12 then true else checkW r != (0 : Int)) = false → ((!hasLI x.13 x.12) = true → (x.13.length + [x.12].length) * (8 : Nat) ≤ (70368744177664 : Nat) ∧ ((c = true → ((0 : Int) ≤ IntKind.i64.wrap (x.12 - (1 : Int)) ∧ IntKind.i64.wrap (x.12 - (1 : Int)) < (↑x.16.length : Int)) ∧ ((0 : Int) ≤ IntKind.i64.wrap (x.12 - (1 : Int)) ∧ IntKind.i64.wrap (x.12 - (1 : Int)) < (↑x.16.length : Int)) ∧ True) ∧ (c = false → True)) ∧ (true = true → (decide ((bif c then IntKind.i64.wrap (x.8 + (1 : Int)) else x.8) < r.5) = true → (((bif c then x.1 else x.1) = (ballY r x c).1 ∧ (bif c then x.2 else x.2) = (ballY r x c).2 ∧ (bif c then x.3 else x.3) = (ballY r x c).3 ∧ (bif c then x.4 else x.4) = (ballY r x c).4 ∧ (bif c then x.5 else x.5) = (ballY r x c).5 ∧ (bif c then x.6.1 else x.6.1) = (ballY r x c).6.1 ∧ (bif c then x.6.2 else x.6.2) = (ballY r x c).6.2 ∧ (bif c then x.6.3 else x.6.3) = (ballY r x c).6.3 ∧ (bif c then x.6.4 else x.6.4) = (ballY r x c).6.4 ∧ (bif c then x.6.5 else x.6.5) = (ballY r x c).6.5 ∧ (bif c then x.7 else x.7) = (ballY r x c).7 ∧ (bif c then IntKind.i64.wrap (x.8 + (1 : Int)) else x.8) = (ballY r x c).8 ∧ (bif c then x.9 else x.9) = (ballY r x c).9 ∧ (bif c then x.10 else x.10) = (ballY r x c).10 ∧ (nat_lit 0 = nat_lit 0 ∧ nat_lit 0 = nat_lit 0) ∧ (bif c then x.12 else x.12) = (ballY r x c).12 ∧ (nat_lit 1 = nat_lit 1 ∧ nat_lit 1 = nat_lit 1) ∧ (nat_lit 2 = nat_lit 2 ∧ nat_lit 2 = nat_lit 2) ∧ (bif c then x.15 else x.15) = (ballY r x c).15 ∧ (nat_lit 3 = nat_lit 3 ∧ nat_lit 3 = nat_lit 3) ∧ (bif c then x.17 else x.17) = (ballY r x c).17 ∧ (bif c then IntKind.i64.wrap (x.18 + (1 : Int)) else x.18) = (ballY r x c).18 ∧ (bif c then x.19 else x.19) = (ballY r x c).19 ∧ (bif c then x.20 else x.20) = (ballY r x c).20 ∧ (nat_lit 4 = nat_lit 4 ∧ nat_lit 4 = nat_lit 4) ∧ (bif c then x.22.1 else x.22.1) = (ballY r x c).22.1 ∧ (bif c then x.22.2.1 else x.22.2.1) = (ballY r x c).22.2.1 ∧ (bif c then x.23 else x.23) = (ballY r x c).23 ∧ True) ∧ false = ballO r x c ∧ True) ∧ [RowD.mk (Ty.int IntKind.u8) x.11, RowD.mk (Ty.int IntKind.i64) (x.13 ++ [x.12]), RowD.mk (Ty.int IntKind.i64) x.14, RowD.mk (Ty.int IntKind.i64) (bif c then x.16.set (IntKind.i64.wrap (x.12 - (1 : Int))).toNat (IntKind.i64.wrap (x.16.getD (IntKind.i64.wrap (x.12 - (1 : Int))).toNat (dflt (Ty.int IntKind.i64)) + (1 : Int))) else x.16), RowD.mk Ty.bool x.21] = [RowD.mk (Ty.int IntKind.u8) (ballY r x c).11, RowD.mk (Ty.int IntKind.i64) (ballY r x c).13, RowD.mk (Ty.int IntKind.i64) (ballY r x c).14, RowD.mk (Ty.int IntKind.i64) (ballY r x c).16, RowD.mk Ty.bool (ballY r x c).21]) ∧ (decide ((bif c then IntKind.i64.wrap (x.8 + (1 : Int)) else x.8) < r.5) = false → (((bif c then x.1 else x.1) = (ballY r x c).1 ∧ (bif c then x.2 else x.2) = (ballY r x c).2 ∧ (bif c then x.3 else x.3) = (ballY r x c).3 ∧ (bif c then x.4 else x.4) = (ballY r x c).4 ∧ (bif c then x.5 else x.5) = (ballY r x c).5 ∧ (bif c then x.6.1 else x.6.1) = (ballY r x c).6.1 ∧ (bif c then x.6.2 else x.6.2) = (ballY r x c).6.2 ∧ (bif c then x.6.3 else x.6.3) = (ballY r x c).6.3 ∧ (bif c then x.6.4 else x.6.4) = (ballY r x c).6.4 ∧ (bif c then x.6.5 else x.6.5) = (ballY r x c).6.5 ∧ IntKind.i64.wrap ((bif c then x.7 else x.7) + (1 : Int)) = (ballY r x c).7 ∧ (0 : Int) = (ballY r x c).8 ∧ (bif c then x.9 else x.9) = (ballY r x c).9 ∧ (bif c then x.10 else x.10) = (ballY r x c).10 ∧ (nat_lit 0 = nat_lit 0 ∧ nat_lit 0 = nat_lit 0) ∧ (0 : Int) = (ballY r x c).12 ∧ (nat_lit 1 = nat_lit 1 ∧ nat_lit 1 = nat_lit 1) ∧ (nat_lit 2 = nat_lit 2 ∧ nat_lit 2 = nat_lit 2) ∧ (bif c then x.15 else x.15) = (ballY r x c).15 ∧ (nat_lit 3 = nat_lit 3 ∧ nat_lit 3 = nat_lit 3) ∧ (bif c then x.17 else x.17) = (ballY r x c).17 ∧ (bif c then IntKind.i64.wrap (x.18 + (1 : Int)) else x.18) = (ballY r x c).18 ∧ (bif c then x.19 else x.19) = (ballY r x c).19 ∧ (bif c then x.20 else x.20) = (ballY r x c).20 ∧ (nat_lit 4 = nat_lit 4 ∧ nat_lit 4 = nat_lit 4) ∧ (bif c then x.22.1 else x.22.1) = (ballY r x c).22.1 ∧ (bif c then x.22.2.1 else x.22.2.1) = (ballY r x c).22.2.1 ∧ (bif c then x.23 else x.23) = (ballY r x c).23 ∧ True) ∧ true = ballO r x c ∧ True) ∧ [RowD.mk (Ty.int IntKind.u8) x.11, RowD.mk (Ty.int IntKind.i64) [], RowD.mk (Ty.int IntKind.i64) (x.13 ++ [x.12]), RowD.mk (Ty.int IntKind.i64) (bif c then x.16.set (IntKind.i64.wrap (x.12 - (1 : Int))).toNat (IntKind.i64.wrap (x.16.getD (IntKind.i64.wrap (x.12 - (1 : Int))).toNat (dflt (Ty.int IntKind.i64)) + (1 : Int))) else x.16), RowD.mk Ty.bool x.21] = [RowD.mk (Ty.int IntKind.u8) (ballY r x c).11, RowD.mk (Ty.int IntKind.i64) (ballY r x c).13, RowD.mk (Ty.int IntKind.i64) (ballY r x c).14, RowD.mk (Ty.int IntKind.i64) (ballY r x c).16, RowD.mk Ty.bool (ballY r x c).21]))) ∧ ((!hasLI x.13 x.12) = false → ((c = true → ((0 : Int) ≤ IntKind.i64.wrap (x.12 - (1 : Int)) ∧ IntKind.i64.wrap (x.12 - (1 : Int)) < (↑x.16.length : Int)) ∧ ((0 : Int) ≤ IntKind.i64.wrap (x.12 - (1 : Int)) ∧ IntKind.i64.wrap (x.12 - (1 : Int)) < (↑x.16.length : Int)) ∧ True) ∧ (c = false → True)) ∧ (true = true → (decide ((bif c then IntKind.i64.wrap (x.8 + (1 : Int)) else x.8) < r.5) = true → (((bif c then x.1 else x.1) = (ballY r x c).1 ∧ (bif c then x.2 else x.2) = (ballY r x c).2 ∧ (bif c then x.3 else x.3) = (ballY r x c).3 ∧ (bif c then x.4 else x.4) = (ballY r x c).4 ∧ (bif c then x.5 else x.5) = (ballY r x c).5 ∧ (bif c then x.6.1 else x.6.1) = (ballY r x c).6.1 ∧ (bif c then x.6.2 else x.6.2) = (ballY r x c).6.2 ∧ (bif c then x.6.3 else x.6.3) = (ballY r x c).6.3 ∧ (bif c then x.6.4 else x.6.4) = (ballY r x c).6.4 ∧ (bif c then x.6.5 else x.6.5) = (ballY r x c).6.5 ∧ (bif c then x.7 else x.7) = (ballY r x c).7 ∧ (bif c then IntKind.i64.wrap (x.8 + (1 : Int)) else x.8) = (ballY r x c).8 ∧ (bif c then x.9 else x.9) = (ballY r x c).9 ∧ (bif c then x.10 else x.10) = (ballY r x c).10 ∧ (nat_lit 0 = nat_lit 0 ∧ nat_lit 0 = nat_lit 0) ∧ (bif c then x.12 else x.12) = (ballY r x c).12 ∧ (nat_lit 1 = nat_lit 1 ∧ nat_lit 1 = nat_lit 1) ∧ (nat_lit 2 = nat_lit 2 ∧ nat_lit 2 = nat_lit 2) ∧ (bif c then x.15 else x.15) = (ballY r x c).15 ∧ (nat_lit 3 = nat_lit 3 ∧ nat_lit 3 = nat_lit 3) ∧ (bif c then x.17 else x.17) = (ballY r x c).17 ∧ (bif c then IntKind.i64.wrap (x.18 + (1 : Int)) else x.18) = (ballY r x c).18 ∧ (bif c then x.19 else x.19) = (ballY r x c).19 ∧ (bif c then x.20 else x.20) = (ballY r x c).20 ∧ (nat_lit 4 = nat_lit 4 ∧ nat_lit 4 = nat_lit 4) ∧ (bif c then x.22.1 else x.22.1) = (ballY r x c).22.1 ∧ (bif c then x.22.2.1 else x.22.2.1) = (ballY r x c).22.2.1 ∧ (bif c then x.23 else x.23) = (ballY r x c).23 ∧ True) ∧ false = ballO r x c ∧ True) ∧ [RowD.mk (Ty.int IntKind.u8) x.11, RowD.mk (Ty.int IntKind.i64) x.13, RowD.mk (Ty.int IntKind.i64) x.14, RowD.mk (Ty.int IntKind.i64) (bif c then x.16.set (IntKind.i64.wrap (x.12 - (1 : Int))).toNat (IntKind.i64.wrap (x.16.getD (IntKind.i64.wrap (x.12 - (1 : Int))).toNat (dflt (Ty.int IntKind.i64)) + (1 : Int))) else x.16), RowD.mk Ty.bool x.21] = [RowD.mk (Ty.int IntKind.u8) (ballY r x c).11, RowD.mk (Ty.int IntKind.i64) (ballY r x c).13, RowD.mk (Ty.int IntKind.i64) (ballY r x c).14, RowD.mk (Ty.int IntKind.i64) (ballY r x c).16, RowD.mk Ty.bool (ballY r x c).21]) ∧ (decide ((bif c then IntKind.i64.wrap (x.8 + (1 : Int)) else x.8) < r.5) = false → (((bif c then x.1 else x.1) = (ballY r x c).1 ∧ (bif c then x.2 else x.2) = (ballY r x c).2 ∧ (bif c then x.3 else x.3) = (ballY r x c).3 ∧ (bif c then x.4 else x.4) = (ballY r x c).4 ∧ (bif c then x.5 else x.5) = (ballY r x c).5 ∧ (bif c then x.6.1 else x.6.1) = (ballY r x c).6.1 ∧ (bif c then x.6.2 else x.6.2) = (ballY r x c).6.2 ∧ (bif c then x.6.3 else x.6.3) = (ballY r x c).6.3 ∧ (bif c then x.6.4 else x.6.4) = (ballY r x c).6.4 ∧ (bif c then x.6.5 else x.6.5) = (ballY r x c).6.5 ∧ IntKind.i64.wrap ((bif c then x.7 else x.7) + (1 : Int)) = (ballY r x c).7 ∧ (0 : Int) = (ballY r x c).8 ∧ (bif c then x.9 else x.9) = (ballY r x c).9 ∧ (bif c then x.10 else x.10) = (ballY r x c).10 ∧ (nat_lit 0 = nat_lit 0 ∧ nat_lit 0 = nat_lit 0) ∧ (0 : Int) = (ballY r x c).12 ∧ (nat_lit 1 = nat_lit 1 ∧ nat_lit 1 = nat_lit 1) ∧ (nat_lit 2 = nat_lit 2 ∧ nat_lit 2 = nat_lit 2) ∧ (bif c then x.15 else x.15) = (ballY r x c).15 ∧ (nat_lit 3 = nat_lit 3 ∧ nat_lit 3 = nat_lit 3) ∧ (bif c then x.17 else x.17) = (ballY r x c).17 ∧ (bif c then IntKind.i64.wrap (x.18 + (1 : Int)) else x.18) = (ballY r x c).18 ∧ (bif c then x.19 else x.19) = (ballY r x c).19 ∧ (bif c then x.20 else x.20) = (ballY r x c).20 ∧ (nat_lit 4 = nat_lit 4 ∧ nat_lit 4 = nat_lit 4) ∧ (bif c then x.22.1 else x.22.1) = (ballY r x c).22.1 ∧ (bif c then x.22.2.1 else x.22.2.1) = (ballY r x c).22.2.1 ∧ (bif c then x.23 else x.23) = (ballY r x c).23 ∧ True) ∧ true = ballO r x c ∧ True) ∧ [RowD.mk (Ty.int IntKind.u8) x.11, RowD.mk (Ty.int IntKind.i64) [], RowD.mk (Ty.int IntKind.i64) x.13, RowD.mk (Ty.int IntKind.i64) (bif c then x.16.set (IntKind.i64.wrap (x.12 - (1 : Int))).toNat (IntKind.i64.wrap (x.16.getD (IntKind.i64.wrap (x.12 - (1 : Int))).toNat (dflt (Ty.int IntKind.i64)) + (1 : Int))) else x.16), RowD.mk Ty.bool x.21] = [RowD.mk (Ty.int IntKind.u8) (ballY r x c).11, RowD.mk (Ty.int IntKind.i64) (ballY r x c).13, RowD.mk (Ty.int IntKind.i64) (ballY r x c).14, RowD.mk (Ty.int IntKind.i64) (ballY r x c).16, RowD.mk Ty.bool (ballY r x c).21])))))
  have h0 : (bif !knownB x x.Bowler then true else checkW r != 0) = noBall r x := by simp only [noBall]; cases knownB x x.Bowler <;> cases (checkW r != 0) <;> rfl
  rw [h0]
  have hk : noBall r x = false → IntKind.i64.wrap (x.Bowler - 1) = x.Bowler - 1 ∧ 0 ≤ x.Bowler - 1 ∧ x.Bowler - 1 < (x.Bowled.length : Int) := fun h => idx_okB hb (by
    cases hk : knownB x x.Bowler with
    | true => rfl
    | false => simp only [noBall, hk] at h; cases h)
  refine ⟨hs, fun h => ?_, fun h => ?_⟩
  · rw [(ball_no c h).1, (ball_no c h).2]; simp
  · obtain ⟨ew, k1, k2⟩ := hk h
    rw [ew]
    have hd : x.Bowled.getD (x.Bowler - 1).toNat (dflt (Ty.int IntKind.i64)) = x.Bowled.getD (x.Bowler - 1).toNat 0 := rfl
    refine ⟨fun h1 => ⟨?_, ⟨fun _ => ⟨⟨k1, k2⟩, ⟨k1, k2⟩, trivial⟩, fun _ => trivial⟩, fun _ => ⟨fun h2 => ?_, fun h2 => ?_⟩⟩, fun h1 => ⟨⟨fun _ => ⟨⟨k1, k2⟩, ⟨k1, k2⟩, trivial⟩, fun _ => trivial⟩, fun _ => ⟨fun h2 => ?_, fun h2 => ?_⟩⟩⟩
    · have := hs.2.1
      simp only [List.length_cons, List.length_nil]
      omega
    · have h1 : hasLI x.Bowlers x.Bowler = false := by simpa using h1
      rw [(ball_on h h2).1, (ball_on h h2).2]
      cases c <;> simp [countW, bowlersW, bumpW, h1] <;> first | rfl | exact ⟨rfl, rfl⟩
    · have h1 : hasLI x.Bowlers x.Bowler = false := by simpa using h1
      rw [(ball_over h h2).1, (ball_over h h2).2]
      cases c <;> simp [overW, countW, bowlersW, bumpW, h1] <;> first | rfl | exact ⟨rfl, rfl⟩
    · have h1 : hasLI x.Bowlers x.Bowler = true := by simpa using h1
      rw [(ball_on h h2).1, (ball_on h h2).2]
      cases c <;> simp [countW, bowlersW, bumpW, h1] <;> first | rfl | exact ⟨rfl, rfl⟩
    · have h1 : hasLI x.Bowlers x.Bowler = true := by simpa using h1
      rw [(ball_over h h2).1, (ball_over h h2).2]
      cases c <;> simp [overW, countW, bowlersW, bumpW, h1] <;> first | rfl | exact ⟨rfl, rfl⟩
theorem ok51 : CtrOK Try.prog K8 51 (pureCtr K8 psRIB spec51) := by
  refine pure_ok (C := cf8 [k47, k83, k84, k85] Try.f51) (cfg8OK (.cons ok47 (.cons ok83 (.cons ok84 (.cons ok85 .nil)))) _) mixed (fn := Try.f51) Try.func51 (by kernel_rfl) (by kernel_rfl) (by kernel_rfl) (Λ := fun _ _ => none) ?_ ?_ ?_
  · exact fun _ _ _ _ _ _ _ _ h => by cases h
  · rintro ⟨r, x, c, ⟨⟩⟩
    exact of_decide_eq_true (by kernel_rfl)
  · rintro ⟨r, x, c, ⟨⟩⟩ hw hn
    exact run51 r x c (hn _ (List.mem_singleton.2 rfl)) (wf_bowler (wf_fst (wf_snd hw)))
theorem run54 (r : Rules) (x : Innings) (c : Bool) (hs : smallI x) (hb : i64R x.Bowler) : (evFn (cf8 [k44, k86, k87, k88] Try.f54) (fun _ => none) Try.f54 (argsV psRIB (r, x, c, ()))).sat fun v' rows => leV v' (spec51 (r, x, c, ())).v ∧ rows = (spec51 (r, x, c, ())).rows := by
  refine cast (by kernel_rfl) (?_ : smallI x ∧ ((bif checkW r != (0 : Int) then true else !knownB x x.12) = true → ((x.1 = (ballY r x c).1 ∧ x.2 = (ballY r x c).2 ∧ x.3 = (ballY r x c).3 ∧ x.4 = (ballY r x c).4 ∧ x.5 = (ballY r x c).5 ∧ x.6.1 = (ballY r x c).6.1 ∧ x.6.2 = (ballY r x c).6.2 ∧ x.6.3 = (ballY r x c).6.3 ∧ x.6.4 = (ballY r x c).6.4 ∧ x.6.5 = (ballY r x c).6.5 ∧ x.7 = (ballY r x c).7 ∧ x.8 = (ballY r x c).8 ∧ x.9 = (ballY r x c).9 ∧ x.10 = (ballY r x c).10 ∧ (nat_lit 0 = nat_lit 0 ∧ nat_lit 0 = nat_lit 0) ∧ x.12 = (ballY r x c).12 ∧ (nat_lit 1 = nat_lit 1 ∧ nat_lit 1 = nat_lit 1) ∧ (nat_lit 2 = nat_lit 2 ∧ nat_lit 2 = nat_lit 2) ∧ x.15 = (ballY r x c).15 ∧ (nat_lit 3 = nat_lit 3 ∧ nat_lit 3 = nat_lit 3) ∧ x.17 = (ballY r x c).17 ∧ x.18 = (ballY r x c).18 ∧ x.19 = (ballY r x c).19 ∧ x.20 = (ballY r x c).20 ∧ (nat_lit 4 = nat_lit 4 ∧ nat_lit 4 = nat_lit 4) ∧ x.22.1 = (ballY r x c).22.1 ∧ x.22.2.1 = (ballY r x c).22.2.1 ∧ x.23 = (ballY r x c).23 ∧ True) ∧ false = ballO r x c ∧ True) ∧ [RowD.mk (Ty.int IntKind.u8) x.11, RowD.mk (Ty.int IntKind.i64) x.13, RowD.mk (Ty.int IntKind.i64) x.14, RowD.mk (Ty.int IntKind.i64) x.16, RowD.mk Ty.bool x.21] = [RowD.mk (Ty.int IntKind.u8) (ballY r x c).11, RowD.mk (Ty.int IntKind.i64) (ballY r x c).13, RowD.mk (Ty.int IntKind.i64) (ballY r x c).14, RowD.mk (Ty.int IntKind.i64) (ballY r x c).16, RowD.mk Ty.bool (ballY r x c).21]) ∧ ((bif checkW r != (0 : Int) then true else !knownB x x.12) = false → ((!hasLI x.13 x.12) = true → (x.13.length + [x.12].length) * (8 : Nat) ≤ (70368744177664 : Nat) ∧ ((c = true → ((0 : Int) ≤ IntKind.i64.wrap (x.12 - (1 : Int)) ∧ IntKind.i64.wrap (x.12 - (1 : Int)) < (↑x.16.length : Int)) ∧ ((0 : Int) ≤ IntKind.i64.wrap (x.12 - (1 : Int)) ∧ IntKind.i64.wrap (x.12 - (1 : Int)) < (↑x.16.length : Int)) ∧ True) ∧ (c = false → True)) ∧ (true = true → (decide ((bif c then IntKind.i64.wrap (x.8 + (1 : Int)) else x.8) < r.5) = true → (((bif c then x.1 else x.1) = (ballY r x c).1 ∧ (bif c then x.2 else x.2) = (ballY r x c).2 ∧ (bif c then x.3 else x.3) = (ballY r x c).3 ∧ (bif c then x.4 else x.4) = (ballY r x c).4 ∧ (bif c then x.5 else x.5) = (ballY r x c).5 ∧ (bif c then x.6.1 else x.6.1) = (ballY r x c).6.1 ∧ (bif c then x.6.2 else x.6.2) = (ballY r x c).6.2 ∧ (bif c then x.6.3 else x.6.3) = (ballY r x c).6.3 ∧ (bif c then x.6.4 else x.6.4) = (ballY r x c).6.4 ∧ (bif c then x.6.5 else x.6.5) = (ballY r x c).6.5 ∧ (bif c then x.7 else x.7) = (ballY r x c).7 ∧ (bif c then IntKind.i64.wrap (x.8 + (1 : Int)) else x.8) = (ballY r x c).8 ∧ (bif c then x.9 else x.9) = (ballY r x c).9 ∧ (bif c then x.10 else x.10) = (ballY r x c).10 ∧ (nat_lit 0 = nat_lit 0 ∧ nat_lit 0 = nat_lit 0) ∧ (bif c then x.12 else x.12) = (ballY r x c).12 ∧ (nat_lit 1 = nat_lit 1 ∧ nat_lit 1 = nat_lit 1) ∧ (nat_lit 2 = nat_lit 2 ∧ nat_lit 2 = nat_lit 2) ∧ (bif c then x.15 else x.15) = (ballY r x c).15 ∧ (nat_lit 3 = nat_lit 3 ∧ nat_lit 3 = nat_lit 3) ∧ (bif c then x.17 else x.17) = (ballY r x c).17 ∧ (bif c then IntKind.i64.wrap (x.18 + (1 : Int)) else x.18) = (ballY r x c).18 ∧ (bif c then x.19 else x.19) = (ballY r x c).19 ∧ (bif c then x.20 else x.20) = (ballY r x c).20 ∧ (nat_lit 4 = nat_lit 4 ∧ nat_lit 4 = nat_lit 4) ∧ (bif c then x.22.1 else x.22.1) = (ballY r x c).22.1 ∧ (bif c then x.22.2.1 else x.22.2.1) = (ballY r x c).22.2.1 ∧ (bif c then x.23 else x.23) = (ballY r x c).23 ∧ True) ∧ false = ballO r x c ∧ True) ∧ [RowD.mk (Ty.int IntKind.u8) x.11, RowD.mk (Ty.int IntKind.i64) (x.13 ++ [x.12]), RowD.mk (Ty.int IntKind.i64) x.14, RowD.mk (Ty.int IntKind.i64) (bif c then x.16.set (IntKind.i64.wrap (x.12 - (1 : Int))).toNat (IntKind.i64.wrap (x.16.getD (IntKind.i64.wrap (x.12 - (1 : Int))).toNat (dflt (Ty.int IntKind.i64)) + (1 : Int))) else x.16), RowD.mk Ty.bool x.21] = [RowD.mk (Ty.int IntKind.u8) (ballY r x c).11, RowD.mk (Ty.int IntKind.i64) (ballY r x c).13, RowD.mk (Ty.int IntKind.i64) (ballY r x c).14, RowD.mk (Ty.int IntKind.i64) (ballY r x c).16, RowD.mk Ty.bool (ballY r x c).21]) ∧ (decide ((bif c then IntKind.i64.wrap (x.8 + (1 : Int)) else x.8) < r.5) = false → (((bif c then x.1 else x.1) = (ballY r x c).1 ∧ (bif c then x.2 else x.2) = (ballY r x c).2 ∧ (bif c then x.3 else x.3) = (ballY r x c).3 ∧ (bif c then x.4 else x.4) = (ballY r x c).4 ∧ (bif c then x.5 else x.5) = (ballY r x c).5 ∧ (bif c then x.6.1 else x.6.1) = (ballY r x c).6.1 ∧ (bif c then x.6.2 else x.6.2) = (ballY r x c).6.2 ∧ (bif c then x.6.3 else x.6.3) = (ballY r x c).6.3 ∧ (bif c then x.6.4 else x.6.4) = (ballY r x c).6.4 ∧ (bif c then x.6.5 else x.6.5) = (ballY r x c).6.5 ∧ IntKind.i64.wrap ((bif c then x.7 else x.7) + (1 : Int)) = (ballY r x c).7 ∧ (0 : Int) = (ballY r x c).8 ∧ (bif c then x.9 else x.9) = (ballY r x c).9 ∧ (bif c then x.10 else x.10) = (ballY r x c).10 ∧ (nat_lit 0 = nat_lit 0 ∧ nat_lit 0 = nat_lit 0) ∧ (0 : Int) = (ballY r x c).12 ∧ (nat_lit 1 = nat_lit 1 ∧ nat_lit 1 = nat_lit 1) ∧ (nat_lit 2 = nat_lit 2 ∧ nat_lit 2 = nat_lit 2) ∧ (bif c then x.15 else x.15) = (ballY r x c).15 ∧ (nat_lit 3 = nat_lit 3 ∧ nat_lit 3 = nat_lit 3) ∧ (bif c then x.17 else x.17) = (ballY r x c).17 ∧ (bif c then IntKind.i64.wrap (x.18 + (1 : Int)) else x.18) = (ballY r x c).18 ∧ (bif c then x.19 else x.19) = (ballY r x c).19 ∧ (bif c then x.20 else x.20) = (ballY r x c).20 ∧ (nat_lit 4 = nat_lit 4 ∧ nat_lit 4 = nat_lit 4) ∧ (bif c then x.22.1 else x.22.1) = (ballY r x c).22.1 ∧ (bif c then x.22.2.1 else x.22.2.1) = (ballY r x c).22.2.1 ∧ (bif c then x.23 else x.23) = (ballY r x c).23 ∧ True) ∧ true = ballO r x c ∧ True) ∧ [RowD.mk (Ty.int IntKind.u8) x.11, RowD.mk (Ty.int IntKind.i64) [], RowD.mk (Ty.int IntKind.i64) (x.13 ++ [x.12]), RowD.mk (Ty.int IntKind.i64) (bif c then x.16.set (IntKind.i64.wrap (x.12 - (1 : Int))).toNat (IntKind.i64.wrap (x.16.getD (IntKind.i64.wrap (x.12 - (1 : Int))).toNat (dflt (Ty.int IntKind.i64)) + (1 : Int))) else x.16), RowD.mk Ty.bool x.21] = [RowD.mk (Ty.int IntKind.u8) (ballY r x c).11, RowD.mk (Ty.int IntKind.i64) (ballY r x c).13, RowD.mk (Ty.int IntKind.i64) (ballY r x c).14, RowD.mk (Ty.int IntKind.i64) (ballY r x c).16, RowD.mk Ty.bool (ballY r x c).21]))) ∧ ((!hasLI x.13 x.12) = false → ((c = true → ((0 : Int) ≤ IntKind.i64.wrap (x.12 - (1 : Int)) ∧ IntKind.i64.wrap (x.12 - (1 : Int)) < (↑x.16.length : Int)) ∧ ((0 : Int) ≤ IntKind.i64.wrap (x.12 - (1 : Int)) ∧ IntKind.i64.wrap (x.12 - (1 : Int)) < (↑x.16.length : Int)) ∧ True) ∧ (c = false → True)) ∧ (true = true → (decide ((bif c then IntKind.i64.wrap (x.8 + (1 : Int)) else x.8) < r.5) = true → (((bif c then x.1 else x.1) = (ballY r x c).1 ∧ (bif c then x.2 else x.2) = (ballY r x c).2 ∧ (bif c then x.3 else x.3) = (ballY r x c).3 ∧ (bif c then x.4 else x.4) = (ballY r x c).4 ∧ (bif c then x.5 else x.5) = (ballY r x c).5 ∧ (bif c then x.6.1 else x.6.1) = (ballY r x c).6.1 ∧ (bif c then x.6.2 else x.6.2) = (ballY r x c).6.2 ∧ (bif c then x.6.3 else x.6.3) = (ballY r x c).6.3 ∧ (bif c then x.6.4 else x.6.4) = (ballY r x c).6.4 ∧ (bif c then x.6.5 else x.6.5) = (ballY r x c).6.5 ∧ (bif c then x.7 else x.7) = (ballY r x c).7 ∧ (bif c then IntKind.i64.wrap (x.8 + (1 : Int)) else x.8) = (ballY r x c).8 ∧ (bif c then x.9 else x.9) = (ballY r x c).9 ∧ (bif c then x.10 else x.10) = (ballY r x c).10 ∧ (nat_lit 0 = nat_lit 0 ∧ nat_lit 0 = nat_lit 0) ∧ (bif c then x.12 else x.12) = (ballY r x c).12 ∧ (nat_lit 1 = nat_lit 1 ∧ nat_lit 1 = nat_lit 1) ∧ (nat_lit 2 = nat_lit 2 ∧ nat_lit 2 = nat_lit 2) ∧ (bif c then x.15 else x.15) = (ballY r x c).15 ∧ (nat_lit 3 = nat_lit 3 ∧ nat_lit 3 = nat_lit 3) ∧ (bif c then x.17 else x.17) = (ballY r x c).17 ∧ (bif c then IntKind.i64.wrap (x.18 + (1 : Int)) else x.18) = (ballY r x c).18 ∧ (bif c then x.19 else x.19) = (ballY r x c).19 ∧ (bif c then x.20 else x.20) = (ballY r x c).20 ∧ (nat_lit 4 = nat_lit 4 ∧ nat_lit 4 = nat_lit 4) ∧ (bif c then x.22.1 else x.22.1) = (ballY r x c).22.1 ∧ (bif c then x.22.2.1 else x.22.2.1) = (ballY r x c).22.2.1 ∧ (bif c then x.23 else x.23) = (ballY r x c).23 ∧ True) ∧ false = ballO r x c ∧ True) ∧ [RowD.mk (Ty.int IntKind.u8) x.11, RowD.mk (Ty.int IntKind.i64) x.13, RowD.mk (Ty.int IntKind.i64) x.14, RowD.mk (Ty.int IntKind.i64) (bif c then x.16.set (IntKind.i64.wrap (x.12 - (1 : Int))).toNat (IntKind.i64.wrap (x.16.getD (IntKind.i64.wrap (x.12 - (1 : Int))).toNat (dflt (Ty.int IntKind.i64)) + (1 : Int))) else x.16), RowD.mk Ty.bool x.21] = [RowD.mk (Ty.int IntKind.u8) (ballY r x c).11, RowD.mk (Ty.int IntKind.i64) (ballY r x c).13, RowD.mk (Ty.int IntKind.i64) (ballY r x c).14, RowD.mk (Ty.int IntKind.i64) (ballY r x c).16, RowD.mk Ty.bool (ballY r x c).21]) ∧ (decide ((bif c then IntKind.i64.wrap (x.8 + (1 : Int)) else x.8) < r.5) = false → (((bif c then x.1 else x.1) = (ballY r x c).1 ∧ (bif c then x.2 else x.2) = (ballY r x c).2 ∧ (bif c then x.3 else x.3) = (ballY r x c).3 ∧ (bif c then x.4 else x.4) = (ballY r x c).4 ∧ (bif c then x.5 else x.5) = (ballY r x c).5 ∧ (bif c then x.6.1 else x.6.1) = (ballY r x c).6.1 ∧ (bif c then x.6.2 else x.6.2) = (ballY r x c).6.2 ∧ (bif c then x.6.3 else x.6.3) = (ballY r x c).6.3 ∧ (bif c then x.6.4 else x.6.4) = (ballY r x c).6.4 ∧ (bif c then x.6.5 else x.6.5) = (ballY r x c).6.5 ∧ IntKind.i64.wrap ((bif c then x.7 else x.7) + (1 : Int)) = (ballY r x c).7 ∧ (0 : Int) = (ballY r x c).8 ∧ (bif c then x.9 else x.9) = (ballY r x c).9 ∧ (bif c then x.10 else x.10) = (ballY r x c).10 ∧ (nat_lit 0 = nat_lit 0 ∧ nat_lit 0 = nat_lit 0) ∧ (0 : Int) = (ballY r x c).12 ∧ (nat_lit 1 = nat_lit 1 ∧ nat_lit 1 = nat_lit 1) ∧ (nat_lit 2 = nat_lit 2 ∧ nat_lit 2 = nat_lit 2) ∧ (bif c then x.15 else x.15) = (ballY r x c).15 ∧ (nat_lit 3 = nat_lit 3 ∧ nat_lit 3 = nat_lit 3) ∧ (bif c then x.17 else x.17) = (ballY r x c).17 ∧ (bif c then IntKind.i64.wrap (x.18 + (1 : Int)) else x.18) = (ballY r x c).18 ∧ (bif c then x.19 else x.19) = (ballY r x c).19 ∧ (bif c then x.20 else x.20) = (ballY r x c).20 ∧ (nat_lit 4 = nat_lit 4 ∧ nat_lit 4 = nat_lit 4) ∧ (bif c then x.22.1 else x.22.1) = (ballY r x c).22.1 ∧ (bif c then x.22.2.1 else x.22.2.1) = (ballY r x c).22.2.1 ∧ (bif c then x.23 else x.23) = (ballY r x c).23 ∧ True) ∧ true = ballO r x c ∧ True) ∧ [RowD.mk (Ty.int IntKind.u8) x.11, RowD.mk (Ty.int IntKind.i64) [], RowD.mk (Ty.int IntKind.i64) x.13, RowD.mk (Ty.int IntKind.i64) (bif c then x.16.set (IntKind.i64.wrap (x.12 - (1 : Int))).toNat (IntKind.i64.wrap (x.16.getD (IntKind.i64.wrap (x.12 - (1 : Int))).toNat (dflt (Ty.int IntKind.i64)) + (1 : Int))) else x.16), RowD.mk Ty.bool x.21] = [RowD.mk (Ty.int IntKind.u8) (ballY r x c).11, RowD.mk (Ty.int IntKind.i64) (ballY r x c).13, RowD.mk (Ty.int IntKind.i64) (ballY r x c).14, RowD.mk (Ty.int IntKind.i64) (ballY r x c).16, RowD.mk Ty.bool (ballY r x c).21])))))
  have h0 : (bif checkW r != 0 then true else !knownB x x.Bowler) = noBall r x := by simp only [noBall]; cases knownB x x.Bowler <;> cases (checkW r != 0) <;> rfl
  rw [h0]
  have hk : noBall r x = false → IntKind.i64.wrap (x.Bowler - 1) = x.Bowler - 1 ∧ 0 ≤ x.Bowler - 1 ∧ x.Bowler - 1 < (x.Bowled.length : Int) := fun h => idx_okB hb (by
    cases hk : knownB x x.Bowler with
    | true => rfl
    | false => simp only [noBall, hk] at h; cases h)
  refine ⟨hs, fun h => ?_, fun h => ?_⟩
  · rw [(ball_no c h).1, (ball_no c h).2]; simp
  · obtain ⟨ew, k1, k2⟩ := hk h
    rw [ew]
    have hd : x.Bowled.getD (x.Bowler - 1).toNat (dflt (Ty.int IntKind.i64)) = x.Bowled.getD (x.Bowler - 1).toNat 0 := rfl
    refine ⟨fun h1 => ⟨?_, ⟨fun _ => ⟨⟨k1, k2⟩, ⟨k1, k2⟩, trivial⟩, fun _ => trivial⟩, fun _ => ⟨fun h2 => ?_, fun h2 => ?_⟩⟩, fun h1 => ⟨⟨fun _ => ⟨⟨k1, k2⟩, ⟨k1, k2⟩, trivial⟩, fun _ => trivial⟩, fun _ => ⟨fun h2 => ?_, fun h2 => ?_⟩⟩⟩
    · have := hs.2.1
      simp only [List.length_cons, List.length_nil]
      omega
    · have h1 : hasLI x.Bowlers x.Bowler = false := by simpa using h1
      rw [(ball_on h h2).1, (ball_on h h2).2]
      cases c <;> simp [countW, bowlersW, bumpW, h1] <;> first | rfl | exact ⟨rfl, rfl⟩
    · have h1 : hasLI x.Bowlers x.Bowler = false := by simpa using h1
      rw [(ball_over h h2).1, (ball_over h h2).2]
      cases c <;> simp [overW, countW, bowlersW, bumpW, h1] <;> first | rfl | exact ⟨rfl, rfl⟩
    · have h1 : hasLI x.Bowlers x.Bowler = true := by simpa using h1
      rw [(ball_on h h2).1, (ball_on h h2).2]
      cases c <;> simp [countW, bowlersW, bumpW, h1] <;> first | rfl | exact ⟨rfl, rfl⟩
    · have h1 : hasLI x.Bowlers x.Bowler = true := by simpa using h1
      rw [(ball_over h h2).1, (ball_over h h2).2]
      cases c <;> simp [overW, countW, bowlersW, bumpW, h1] <;> first | rfl | exact ⟨rfl, rfl⟩
theorem ok54 : CtrOK Try.prog K8 54 (pureCtr K8 psRIB spec51) := by
  refine pure_ok (C := cf8 [k44, k86, k87, k88] Try.f54) (cfg8OK (.cons ok44 (.cons ok86 (.cons ok87 (.cons ok88 .nil)))) _) mixed (fn := Try.f54) Try.func54 (by kernel_rfl) (by kernel_rfl) (by kernel_rfl) (Λ := fun _ _ => none) ?_ ?_ ?_
  · exact fun _ _ _ _ _ _ _ _ h => by cases h
  · rintro ⟨r, x, c, ⟨⟩⟩
    exact of_decide_eq_true (by kernel_rfl)
  · rintro ⟨r, x, c, ⟨⟩⟩ hw hn
    exact run54 r x c (hn _ (List.mem_singleton.2 rfl)) (wf_bowler (wf_fst (wf_snd hw)))
end Go.Proofs.Ytogdeefpidccmaa

/- Bowlers, second part: contracts. -/
namespace Go.Proofs.Ytogdeefpidccmaa
open Go Go.Mir
attribute [local irreducible] Go.Mir.RT.sat Go.Mir.evFn Go.Mir.stepObl
theorem run49   : (evFn (cf8 [] Try.f49) (fun _ => none) Try.f49 (argsV ps0 ())).sat fun v' rows => leV v' (spec49 ()).v ∧ rows = (spec49 ()).rows := by
  refine cast (by kernel_rfl) (?_ : (ByteArray.mk #[(82 : UInt8)] = ByteArray.mk #[(82 : UInt8)] ∧ (4 : Int) = (4 : Int) ∧ (1 : Int) = (1 : Int) ∧ (8 : Int) = (8 : Int) ∧ (6 : Int) = (6 : Int) ∧ (2 : Int) = (2 : Int) ∧ (1 : Int) = (1 : Int) ∧ (1 : Int) = (1 : Int) ∧ false = false ∧ (0 : Int) = (0 : Int) ∧ (0 : Int) = (0 : Int) ∧ (0 : Int) = (0 : Int) ∧ (0 : Int) = (0 : Int) ∧ (nat_lit 0 = nat_lit 0 ∧ nat_lit 0 = nat_lit 0) ∧ True) ∧ [RowD.mk (Ty.nm Nm.Phase) []] = [RowD.mk (Ty.nm Nm.Phase) []])
  exact ⟨⟨rfl, rfl, rfl, rfl, rfl, rfl, rfl, rfl, rfl, rfl, rfl, rfl, rfl, ⟨rfl, rfl⟩, trivial⟩, rfl⟩
theorem ok49 : CtrOK Try.prog K8 49 (pureCtr K8 ps0 spec49) := by
  refine pure_ok (C := cf8 [] Try.f49) (cfg8OK (CtrsOK.nil) _) mixed (fn := Try.f49) Try.func49 (by kernel_rfl) (by kernel_rfl) (by kernel_rfl) (Λ := fun _ _ => none) ?_ ?_ ?_
  · exact fun _ _ _ _ _ _ _ _ h => by cases h
  · rintro ⟨⟩
    exact of_decide_eq_true (by kernel_rfl)
  · rintro ⟨⟩ hw hn
    exact run49 
theorem run52 (r : Rules)  : (evFn (cf8 [] Try.f52) (fun _ => none) Try.f52 (argsV psRu (r, ()))).sat fun v' rows => leV v' (spec52 (r, ())).v ∧ rows = (spec52 (r, ())).rows := by
  refine cast (by kernel_rfl) (?_ : ((0 : Int) ≤ (0 : Int) ∧ ((0 : Int) ≤ if (20 : Int) < (↑r.1.size : Int) then (20 : Int) else (↑r.1.size : Int)) ∧ (if (20 : Int) < (↑r.1.size : Int) then (20 : Int) else (↑r.1.size : Int)) ≤ (↑r.1.size : Int)) ∧ ((0 : Int) ≤ (0 : Int) ∧ ((0 : Int) ≤ if (10 : Int) < (↑r.14.length : Int) then (10 : Int) else (↑r.14.length : Int)) ∧ (if (10 : Int) < (↑r.14.length : Int) then (10 : Int) else (↑r.14.length : Int)) ≤ (↑r.14.length : Int)) ∧ (r.1.extract (Int.toNat (0 : Int)) (if (20 : Int) < (↑r.1.size : Int) then (20 : Int) else (↑r.1.size : Int)).toNat = name20 r.1 ∧ r.2 = r.2 ∧ r.3 = r.3 ∧ r.4 = r.4 ∧ r.5 = r.5 ∧ r.6 = r.6 ∧ r.7 = r.7 ∧ r.8 = r.8 ∧ r.9 = r.9 ∧ r.10 = r.10 ∧ r.11 = r.11 ∧ r.12 = r.12 ∧ r.13 = r.13 ∧ RowD.mk (Ty.nm Nm.Phase) (List.drop (Int.toNat (0 : Int)) (List.take (if (10 : Int) < (↑r.14.length : Int) then (10 : Int) else (↑r.14.length : Int)).toNat r.14)) = RowD.mk (Ty.nm Nm.Phase) (List.take (10 : Nat) r.14) ∧ True) ∧ ([] : List RowD) = [])
  have hb : ∀ (n m : Int), 0 ≤ n → 0 ≤ m → (0 : Int) ≤ 0 ∧ ((0 : Int) ≤ if m < n then m else n) ∧ (if m < n then m else n) ≤ n := fun n m h1 h2 => ⟨Int.le_refl 0, by split <;> omega, by split <;> omega⟩
  have ht : ∀ xs : List Phase, List.drop (Int.toNat 0) (List.take (if (10 : Int) < (xs.length : Int) then (10 : Int) else (xs.length : Int)).toNat xs) = List.take 10 xs := fun xs => by
    simp only [Int.toNat_zero, List.drop_zero]
    split
    · rfl
    · rename_i h
      have : xs.length ≤ 10 := by omega
      rw [Int.toNat_natCast, List.take_of_length_le (Nat.le_refl _), List.take_of_length_le this]
  exact ⟨hb _ 20 (Int.natCast_nonneg _) (by decide), hb _ 10 (Int.natCast_nonneg _) (by decide), ⟨rfl, rfl, rfl, rfl, rfl, rfl, rfl, rfl, rfl, rfl, rfl, rfl, rfl, congrArg (RowD.mk (Ty.nm Nm.Phase)) (ht r.Power), trivial⟩, rfl⟩
theorem ok52 : CtrOK Try.prog K8 52 (pureCtr K8 psRu spec52) := by
  refine pure_ok (C := cf8 [] Try.f52) (cfg8OK (CtrsOK.nil) _) mixed (fn := Try.f52) Try.func52 (by kernel_rfl) (by kernel_rfl) (by kernel_rfl) (Λ := fun _ _ => none) ?_ ?_ ?_
  · exact fun _ _ _ _ _ _ _ _ h => by cases h
  · rintro ⟨r, ⟨⟩⟩
    exact of_decide_eq_true (by kernel_rfl)
  · rintro ⟨r, ⟨⟩⟩ hw hn
    exact run52 r
theorem run53 (x : Innings)  : (evFn (cf8 [] Try.f53) (fun _ => none) Try.f53 (argsV psI (x, ()))).sat fun v' rows => leV v' (spec33 (x, ())).v ∧ rows = (spec33 (x, ())).rows := by
  refine cast (by kernel_rfl) (?_ : ((0 : Int) ≤ (0 : Int) ∧ ((0 : Int) ≤ if (13 : Int) < (↑x.11.length : Int) then (13 : Int) else (↑x.11.length : Int)) ∧ (if (13 : Int) < (↑x.11.length : Int) then (13 : Int) else (↑x.11.length : Int)) ≤ (↑x.11.length : Int)) ∧ ((0 : Int) ≤ (0 : Int) ∧ ((0 : Int) ≤ if (13 : Int) < (↑x.16.length : Int) then (13 : Int) else (↑x.16.length : Int)) ∧ (if (13 : Int) < (↑x.16.length : Int) then (13 : Int) else (↑x.16.length : Int)) ≤ (↑x.16.length : Int)) ∧ ((0 : Int) ≤ (0 : Int) ∧ ((0 : Int) ≤ if (13 : Int) < (↑x.21.length : Int) then (13 : Int) else (↑x.21.length : Int)) ∧ (if (13 : Int) < (↑x.21.length : Int) then (13 : Int) else (↑x.21.length : Int)) ≤ (↑x.21.length : Int)) ∧ ((0 : Int) ≤ (0 : Int) ∧ ((0 : Int) ≤ if (13 : Int) < (↑x.13.length : Int) then (13 : Int) else (↑x.13.length : Int)) ∧ (if (13 : Int) < (↑x.13.length : Int) then (13 : Int) else (↑x.13.length : Int)) ≤ (↑x.13.length : Int)) ∧ ((0 : Int) ≤ (0 : Int) ∧ ((0 : Int) ≤ if (13 : Int) < (↑x.14.length : Int) then (13 : Int) else (↑x.14.length : Int)) ∧ (if (13 : Int) < (↑x.14.length : Int) then (13 : Int) else (↑x.14.length : Int)) ≤ (↑x.14.length : Int)) ∧ (x.1 = x.1 ∧ x.2 = x.2 ∧ x.3 = x.3 ∧ x.4 = x.4 ∧ x.5 = x.5 ∧ x.6.1 = x.6.1 ∧ x.6.2 = x.6.2 ∧ x.6.3 = x.6.3 ∧ x.6.4 = x.6.4 ∧ x.6.5 = x.6.5 ∧ x.7 = x.7 ∧ x.8 = x.8 ∧ x.9 = x.9 ∧ x.10 = x.10 ∧ RowD.mk (Ty.int IntKind.u8) (List.drop (Int.toNat (0 : Int)) (List.take (if (13 : Int) < (↑x.11.length : Int) then (13 : Int) else (↑x.11.length : Int)).toNat x.11)) = RowD.mk (Ty.int IntKind.u8) (List.take (13 : Nat) x.11) ∧ x.12 = x.12 ∧ RowD.mk (Ty.int IntKind.i64) (List.drop (Int.toNat (0 : Int)) (List.take (if (13 : Int) < (↑x.13.length : Int) then (13 : Int) else (↑x.13.length : Int)).toNat x.13)) = RowD.mk (Ty.int IntKind.i64) (List.take (13 : Nat) x.13) ∧ RowD.mk (Ty.int IntKind.i64) (List.drop (Int.toNat (0 : Int)) (List.take (if (13 : Int) < (↑x.14.length : Int) then (13 : Int) else (↑x.14.length : Int)).toNat x.14)) = RowD.mk (Ty.int IntKind.i64) (List.take (13 : Nat) x.14) ∧ x.15 = x.15 ∧ RowD.mk (Ty.int IntKind.i64) (List.drop (Int.toNat (0 : Int)) (List.take (if (13 : Int) < (↑x.16.length : Int) then (13 : Int) else (↑x.16.length : Int)).toNat x.16)) = RowD.mk (Ty.int IntKind.i64) (List.take (13 : Nat) x.16) ∧ x.17 = x.17 ∧ x.18 = x.18 ∧ x.19 = x.19 ∧ x.20 = x.20 ∧ RowD.mk Ty.bool (List.drop (Int.toNat (0 : Int)) (List.take (if (13 : Int) < (↑x.21.length : Int) then (13 : Int) else (↑x.21.length : Int)).toNat x.21)) = RowD.mk Ty.bool (List.take (13 : Nat) x.21) ∧ x.22.1 = x.22.1 ∧ x.22.2.1 = x.22.2.1 ∧ x.23 = x.23 ∧ True) ∧ ([] : List RowD) = [])
  have hb : ∀ {α : Type} (xs : List α), (0 : Int) ≤ 0 ∧ ((0 : Int) ≤ if (13 : Int) < (xs.length : Int) then (13 : Int) else (xs.length : Int)) ∧ (if (13 : Int) < (xs.length : Int) then (13 : Int) else (xs.length : Int)) ≤ (xs.length : Int) := fun xs => ⟨Int.le_refl 0, by split <;> omega, by split <;> omega⟩
  refine ⟨hb _, hb _, hb _, hb _, hb _, ?_, rfl⟩
  refine ⟨rfl, rfl, rfl, rfl, rfl, rfl, rfl, rfl, rfl, rfl, rfl, rfl, rfl, rfl, ?_, rfl, ?_, ?_, rfl, ?_, rfl, rfl, rfl, rfl, ?_, rfl, rfl, rfl, trivial⟩
  · exact congrArg (RowD.mk (Ty.int IntKind.u8)) (few_take x.Batters)
  · exact congrArg (RowD.mk (Ty.int IntKind.i64)) (few_take x.Bowlers)
  · exact congrArg (RowD.mk (Ty.int IntKind.i64)) (few_take x.Before)
  · exact congrArg (RowD.mk (Ty.int IntKind.i64)) (few_take x.Bowled)
  · exact congrArg (RowD.mk Ty.bool) (few_take x.Subs)
theorem ok53 : CtrOK Try.prog K8 53 (pureCtr K8 psI spec33) := by
  refine pure_ok (C := cf8 [] Try.f53) (cfg8OK (CtrsOK.nil) _) mixed (fn := Try.f53) Try.func53 (by kernel_rfl) (by kernel_rfl) (by kernel_rfl) (Λ := fun _ _ => none) ?_ ?_ ?_
  · exact fun _ _ _ _ _ _ _ _ h => by cases h
  · rintro ⟨x, ⟨⟩⟩
    exact of_decide_eq_true (by kernel_rfl)
  · rintro ⟨x, ⟨⟩⟩ hw hn
    exact run53 x
theorem ableN_succ (r : Rules) (x : Innings) (i : Nat) : ableN r x (i + 1) = ableN r x i ++ (bif mayW r x ((i : Int) + 1) == 0 then [(i : Int) + 1] else []) := by
  unfold ableN
  rw [List.range_succ, List.filter_append, List.map_append]
  congr 1
  cases h : mayW r x ((i : Int) + 1) == 0 <;> simp [h]
theorem ableN_len (r : Rules) (x : Innings) (i : Nat) : (ableN r x i).length ≤ i := by
  unfold ableN
  rw [List.length_map]
  refine Nat.le_trans (List.length_filter_le _ _) ?_
  simp

theorem step80 (r : Rules) (x : Innings) (hx : x.Bowled.length ≤ 1000000) (i : Nat) (hi : inv80 x i) : (stepObl (J80 r x) (inv80 x) (fun i => x.Bowled.length - i) i (T80 r x) (evCode (cf8 [k82] Try.f80) (fun _ => none) (loopN Try.f80 0) (J80 r x i)) (L80 i)).1 := by
  refine cast (by kernel_rfl) (?_ : (decide ((↑i : Int) < (↑x.16.length : Int)) = true → ((mayW r x (IntKind.i64.wrap ((↑i : Int) + (1 : Int))) == (0 : Int)) = true → ((ableN r x i).length + [IntKind.i64.wrap ((↑i : Int) + (1 : Int))].length) * (8 : Nat) ≤ (70368744177664 : Nat) ∧ inv80 x (i + (1 : Nat)) ∧ x.16.length - (i + (1 : Nat)) < x.16.length - i ∧ (True ∧ True ∧ True ∧ (↑x.16.length : Int) = (↑x.16.length : Int) ∧ IntKind.i64.wrap ((↑i : Int) + (1 : Int)) = (↑(i + (1 : Nat)) : Int) ∧ True) ∧ RowD.mk (Ty.int IntKind.i64) (ableN r x i ++ [IntKind.i64.wrap ((↑i : Int) + (1 : Int))]) = RowD.mk (Ty.int IntKind.i64) (ableN r x (i + (1 : Nat))) ∧ (r.1 = r.1 ∧ r.2 = r.2 ∧ r.3 = r.3 ∧ r.4 = r.4 ∧ r.5 = r.5 ∧ r.6 = r.6 ∧ r.7 = r.7 ∧ r.8 = r.8 ∧ r.9 = r.9 ∧ r.10 = r.10 ∧ r.11 = r.11 ∧ r.12 = r.12 ∧ r.13 = r.13 ∧ RowD.mk (Ty.nm Nm.Phase) r.14 = RowD.mk (Ty.nm Nm.Phase) r.14 ∧ True) ∧ (x.1 = x.1 ∧ x.2 = x.2 ∧ x.3 = x.3 ∧ x.4 = x.4 ∧ x.5 = x.5 ∧ x.6.1 = x.6.1 ∧ x.6.2 = x.6.2 ∧ x.6.3 = x.6.3 ∧ x.6.4 = x.6.4 ∧ x.6.5 = x.6.5 ∧ x.7 = x.7 ∧ x.8 = x.8 ∧ x.9 = x.9 ∧ x.10 = x.10 ∧ RowD.mk (Ty.int IntKind.u8) x.11 = RowD.mk (Ty.int IntKind.u8) x.11 ∧ x.12 = x.12 ∧ RowD.mk (Ty.int IntKind.i64) x.13 = RowD.mk (Ty.int IntKind.i64) x.13 ∧ RowD.mk (Ty.int IntKind.i64) x.14 = RowD.mk (Ty.int IntKind.i64) x.14 ∧ x.15 = x.15 ∧ RowD.mk (Ty.int IntKind.i64) x.16 = RowD.mk (Ty.int IntKind.i64) x.16 ∧ x.17 = x.17 ∧ x.18 = x.18 ∧ x.19 = x.19 ∧ x.20 = x.20 ∧ RowD.mk Ty.bool x.21 = RowD.mk Ty.bool x.21 ∧ x.22.1 = x.22.1 ∧ x.22.2.1 = x.22.2.1 ∧ x.23 = x.23 ∧ True) ∧ True) ∧ ((mayW r x (IntKind.i64.wrap ((↑i : Int) + (1 : Int))) == (0 : Int)) = false → inv80 x (i + (1 : Nat)) ∧ x.16.length - (i + (1 : Nat)) < x.16.length - i ∧ (True ∧ True ∧ True ∧ (↑x.16.length : Int) = (↑x.16.length : Int) ∧ IntKind.i64.wrap ((↑i : Int) + (1 : Int)) = (↑(i + (1 : Nat)) : Int) ∧ True) ∧ RowD.mk (Ty.int IntKind.i64) (ableN r x i) = RowD.mk (Ty.int IntKind.i64) (ableN r x (i + (1 : Nat))) ∧ (r.1 = r.1 ∧ r.2 = r.2 ∧ r.3 = r.3 ∧ r.4 = r.4 ∧ r.5 = r.5 ∧ r.6 = r.6 ∧ r.7 = r.7 ∧ r.8 = r.8 ∧ r.9 = r.9 ∧ r.10 = r.10 ∧ r.11 = r.11 ∧ r.12 = r.12 ∧ r.13 = r.13 ∧ RowD.mk (Ty.nm Nm.Phase) r.14 = RowD.mk (Ty.nm Nm.Phase) r.14 ∧ True) ∧ (x.1 = x.1 ∧ x.2 = x.2 ∧ x.3 = x.3 ∧ x.4 = x.4 ∧ x.5 = x.5 ∧ x.6.1 = x.6.1 ∧ x.6.2 = x.6.2 ∧ x.6.3 = x.6.3 ∧ x.6.4 = x.6.4 ∧ x.6.5 = x.6.5 ∧ x.7 = x.7 ∧ x.8 = x.8 ∧ x.9 = x.9 ∧ x.10 = x.10 ∧ RowD.mk (Ty.int IntKind.u8) x.11 = RowD.mk (Ty.int IntKind.u8) x.11 ∧ x.12 = x.12 ∧ RowD.mk (Ty.int IntKind.i64) x.13 = RowD.mk (Ty.int IntKind.i64) x.13 ∧ RowD.mk (Ty.int IntKind.i64) x.14 = RowD.mk (Ty.int IntKind.i64) x.14 ∧ x.15 = x.15 ∧ RowD.mk (Ty.int IntKind.i64) x.16 = RowD.mk (Ty.int IntKind.i64) x.16 ∧ x.17 = x.17 ∧ x.18 = x.18 ∧ x.19 = x.19 ∧ x.20 = x.20 ∧ RowD.mk Ty.bool x.21 = RowD.mk Ty.bool x.21 ∧ x.22.1 = x.22.1 ∧ x.22.2.1 = x.22.2.1 ∧ x.23 = x.23 ∧ True) ∧ True)) ∧ (decide ((↑i : Int) < (↑x.16.length : Int)) = false → True ∧ (True ∧ True) ∧ RowD.mk (Ty.int IntKind.i64) (ableN r x i) = RowD.mk (Ty.int IntKind.i64) (ableW r x) ∧ True))
  have hu := ableN_succ r x i
  have hl := ableN_len r x i
  have hi : i ≤ x.Bowled.length := hi
  have hwr : IntKind.i64.wrap ((i : Int) + 1) = ((i + 1 : Nat) : Int) := by rw [wrap64 (by omega) (by omega)]; omega
  have hw2 : IntKind.i64.wrap ((i : Int) + 1) = (i : Int) + 1 := by rw [hwr]; omega
  refine ⟨fun h1 => ?_, fun h1 => ?_⟩
  · have h1 : i < x.Bowled.length := by simpa using h1
    have hin : inv80 x (i + 1) := by unfold inv80; omega
    refine ⟨fun h2 => ?_, fun h2 => ?_⟩
    · have h3 : (mayW r x ((i : Int) + 1) == 0) = true := by rw [← hw2]; exact h2
      rw [h3] at hu
      refine ⟨?_, hin, by omega, ⟨trivial, trivial, trivial, rfl, hwr, trivial⟩, ?_⟩
      · simp only [List.length_cons, List.length_nil]
        omega
      · rw [hw2, hu]; simp
    · have h3 : (mayW r x ((i : Int) + 1) == 0) = false := by rw [← hw2]; exact h2
      rw [h3] at hu
      refine ⟨hin, by omega, ⟨trivial, trivial, trivial, rfl, hwr, trivial⟩, ?_⟩
      rw [hu]; simp
  · have h1 : x.Bowled.length ≤ i := by simpa using h1
    have h2 : i = x.Bowled.length := by omega
    subst h2
    exact ⟨trivial, ⟨trivial, trivial⟩, rfl, trivial⟩
theorem loop80 (r : Rules) (x : Innings) (hx : x.Bowled.length ≤ 1000000) : LoopOK Try.prog Try.f80.ntmps (loopN Try.f80 0) (loopSum ⟨[], [64], 72⟩ (J80 r x 0) (T80 r x)) :=
  loop_by (cfg8OK (.cons ok82 .nil) _) mixed (J80 r x) (fun _ => rfl) (inv80 x) (fun i => x.Bowled.length - i) (fun _ _ => none) (fun _ _ _ _ _ h => by cases h) (T80 r x) [] [64] 0 (Nat.zero_le _) L80 (fun i hi => step80 r x hx i hi)
theorem run80 (r : Rules) (x : Innings) (hx : x.Bowled.length ≤ 1000000) : (evFn (cf8 [k82] Try.f80) (Λ80 r x) Try.f80 (argsV psRI (r, x, ()))).sat fun v' rows => leV v' (spec80 (r, x, ())).v ∧ rows = (spec80 (r, x, ())).rows := by
  refine cast (by kernel_rfl) (?_ : ((noH0 fun x => none) ∧ (True ∧ True ∧ True ∧ (↑x.16.length : Int) = (↑x.16.length : Int) ∧ (0 : Int) = (↑(0 : Nat) : Int) ∧ True) ∧ ableN r x (0 : Nat) = [] ∧ (r.1 = r.1 ∧ r.2 = r.2 ∧ r.3 = r.3 ∧ r.4 = r.4 ∧ r.5 = r.5 ∧ r.6 = r.6 ∧ r.7 = r.7 ∧ r.8 = r.8 ∧ r.9 = r.9 ∧ r.10 = r.10 ∧ r.11 = r.11 ∧ r.12 = r.12 ∧ r.13 = r.13 ∧ RowD.mk (Ty.nm Nm.Phase) r.14 = RowD.mk (Ty.nm Nm.Phase) r.14 ∧ True) ∧ (x.1 = x.1 ∧ x.2 = x.2 ∧ x.3 = x.3 ∧ x.4 = x.4 ∧ x.5 = x.5 ∧ x.6.1 = x.6.1 ∧ x.6.2 = x.6.2 ∧ x.6.3 = x.6.3 ∧ x.6.4 = x.6.4 ∧ x.6.5 = x.6.5 ∧ x.7 = x.7 ∧ x.8 = x.8 ∧ x.9 = x.9 ∧ x.10 = x.10 ∧ RowD.mk (Ty.int IntKind.u8) x.11 = RowD.mk (Ty.int IntKind.u8) x.11 ∧ x.12 = x.12 ∧ RowD.mk (Ty.int IntKind.i64) x.13 = RowD.mk (Ty.int IntKind.i64) x.13 ∧ RowD.mk (Ty.int IntKind.i64) x.14 = RowD.mk (Ty.int IntKind.i64) x.14 ∧ x.15 = x.15 ∧ RowD.mk (Ty.int IntKind.i64) x.16 = RowD.mk (Ty.int IntKind.i64) x.16 ∧ x.17 = x.17 ∧ x.18 = x.18 ∧ x.19 = x.19 ∧ x.20 = x.20 ∧ RowD.mk Ty.bool x.21 = RowD.mk Ty.bool x.21 ∧ x.22.1 = x.22.1 ∧ x.22.2.1 = x.22.2.1 ∧ x.23 = x.23 ∧ True) ∧ True) ∧ (nat_lit 0 = nat_lit 0 ∧ nat_lit 0 = nat_lit 0) ∧ [RowD.mk (Ty.int IntKind.i64) (ableW r x)] = [RowD.mk (Ty.int IntKind.i64) (ableW r x)])
  refine ⟨⟨rfl, ⟨trivial, trivial, trivial, rfl, rfl, trivial⟩, ?_⟩, ⟨rfl, rfl⟩, rfl⟩
  have : ableN r x 0 = [] := rfl
  simp [this]
theorem ok80 : CtrOK Try.prog K8 80 (pureCtr K8 psRI spec80) := by
  refine pure_ok (C := cf8 [k82] Try.f80) (cfg8OK (.cons ok82 .nil) _) mixed (fn := Try.f80) Try.func80 (by kernel_rfl) (by kernel_rfl) (by kernel_rfl) (Λ := fun x => Λ80 x.1 x.2.1) ?_ ?_ ?_
  · rintro ⟨r, x, ⟨⟩⟩ hw hn
    exact LoopsOK.at (by kernel_rfl) (.cons (by kernel_rfl) (loop80 r x (hn _ (List.mem_singleton.2 rfl))) .nil)
  · rintro ⟨r, x, ⟨⟩⟩
    exact of_decide_eq_true (by kernel_rfl)
  · rintro ⟨r, x, ⟨⟩⟩ hw hn
    exact run80 r x (hn _ (List.mem_singleton.2 rfl))
end Go.Proofs.Ytogdeefpidccmaa

/- The field layer: equal states, acts: contracts. -/
namespace Go.Proofs.Ytogdeefpidccmaa
open Go Go.Mir
attribute [local irreducible] Go.Mir.RT.sat Go.Mir.evFn Go.Mir.stepObl
theorem wf_inn {x : Innings} (h : wfD (.nm .Innings) x) : x.Batters.length ≤ lenB ∧ x.Subs.length ≤ lenB :=
  ⟨wf_slice (wf_fst (wf_snd (wf_snd (wf_snd (wf_snd (wf_snd (wf_snd (wf_snd (wf_snd (wf_snd (wf_snd (wf_nm h)))))))))))), wf_slice (wf_fst (wf_snd (wf_snd (wf_snd (wf_snd (wf_snd (wf_snd (wf_snd (wf_snd (wf_snd (wf_snd (wf_snd (wf_snd (wf_snd (wf_snd (wf_snd (wf_snd (wf_snd (wf_snd (wf_snd (wf_snd (wf_nm h))))))))))))))))))))))⟩

theorem step36 (a : Innings) (b : Innings) (hx : a.Batters.length ≤ lenB) (hl : a.Batters.length = b.Batters.length) (i : Nat) (hi : inv36 a b i) : (stepObl (J36 a b) (inv36 a b) (fun i => a.Batters.length - i) i (T36 a b) (evCode (cf8 [k71] Try.f36) (fun _ => none) (loopN Try.f36 0) (J36 a b i)) (LE i)).1 := by
  refine cast (by kernel_rfl) (?_ : (decide ((↑i : Int) < (↑a.11.length : Int)) = true → ((0 : Int) ≤ (↑i : Int) ∧ (↑i : Int) < (↑a.11.length : Int)) ∧ ((0 : Int) ≤ (↑i : Int) ∧ (↑i : Int) < (↑b.11.length : Int)) ∧ ((a.11.getD (↑i : Int).toNat (dflt (Ty.int IntKind.u8)) != b.11.getD (↑i : Int).toNat (dflt (Ty.int IntKind.u8))) = true → eqLI a.11 b.11 = false ∧ (false = false ∧ True) ∧ True) ∧ ((a.11.getD (↑i : Int).toNat (dflt (Ty.int IntKind.u8)) != b.11.getD (↑i : Int).toNat (dflt (Ty.int IntKind.u8))) = false → inv36 a b (i + (1 : Nat)) ∧ a.11.length - (i + (1 : Nat)) < a.11.length - i ∧ (True ∧ True ∧ (↑a.11.length : Int) = (↑a.11.length : Int) ∧ IntKind.i64.wrap ((↑i : Int) + (1 : Int)) = (↑(i + (1 : Nat)) : Int) ∧ True) ∧ (a.1 = a.1 ∧ a.2 = a.2 ∧ a.3 = a.3 ∧ a.4 = a.4 ∧ a.5 = a.5 ∧ a.6.1 = a.6.1 ∧ a.6.2 = a.6.2 ∧ a.6.3 = a.6.3 ∧ a.6.4 = a.6.4 ∧ a.6.5 = a.6.5 ∧ a.7 = a.7 ∧ a.8 = a.8 ∧ a.9 = a.9 ∧ a.10 = a.10 ∧ RowD.mk (Ty.int IntKind.u8) a.11 = RowD.mk (Ty.int IntKind.u8) a.11 ∧ a.12 = a.12 ∧ RowD.mk (Ty.int IntKind.i64) a.13 = RowD.mk (Ty.int IntKind.i64) a.13 ∧ RowD.mk (Ty.int IntKind.i64) a.14 = RowD.mk (Ty.int IntKind.i64) a.14 ∧ a.15 = a.15 ∧ RowD.mk (Ty.int IntKind.i64) a.16 = RowD.mk (Ty.int IntKind.i64) a.16 ∧ a.17 = a.17 ∧ a.18 = a.18 ∧ a.19 = a.19 ∧ a.20 = a.20 ∧ RowD.mk Ty.bool a.21 = RowD.mk Ty.bool a.21 ∧ a.22.1 = a.22.1 ∧ a.22.2.1 = a.22.2.1 ∧ a.23 = a.23 ∧ True) ∧ (b.1 = b.1 ∧ b.2 = b.2 ∧ b.3 = b.3 ∧ b.4 = b.4 ∧ b.5 = b.5 ∧ b.6.1 = b.6.1 ∧ b.6.2 = b.6.2 ∧ b.6.3 = b.6.3 ∧ b.6.4 = b.6.4 ∧ b.6.5 = b.6.5 ∧ b.7 = b.7 ∧ b.8 = b.8 ∧ b.9 = b.9 ∧ b.10 = b.10 ∧ RowD.mk (Ty.int IntKind.u8) b.11 = RowD.mk (Ty.int IntKind.u8) b.11 ∧ b.12 = b.12 ∧ RowD.mk (Ty.int IntKind.i64) b.13 = RowD.mk (Ty.int IntKind.i64) b.13 ∧ RowD.mk (Ty.int IntKind.i64) b.14 = RowD.mk (Ty.int IntKind.i64) b.14 ∧ b.15 = b.15 ∧ RowD.mk (Ty.int IntKind.i64) b.16 = RowD.mk (Ty.int IntKind.i64) b.16 ∧ b.17 = b.17 ∧ b.18 = b.18 ∧ b.19 = b.19 ∧ b.20 = b.20 ∧ RowD.mk Ty.bool b.21 = RowD.mk Ty.bool b.21 ∧ b.22.1 = b.22.1 ∧ b.22.2.1 = b.22.2.1 ∧ b.23 = b.23 ∧ True) ∧ True)) ∧ (decide ((↑i : Int) < (↑a.11.length : Int)) = false → eqLI a.11 b.11 = true ∧ (True ∧ True ∧ True) ∧ (a.1 = a.1 ∧ a.2 = a.2 ∧ a.3 = a.3 ∧ a.4 = a.4 ∧ a.5 = a.5 ∧ a.6.1 = a.6.1 ∧ a.6.2 = a.6.2 ∧ a.6.3 = a.6.3 ∧ a.6.4 = a.6.4 ∧ a.6.5 = a.6.5 ∧ a.7 = a.7 ∧ a.8 = a.8 ∧ a.9 = a.9 ∧ a.10 = a.10 ∧ RowD.mk (Ty.int IntKind.u8) a.11 = RowD.mk (Ty.int IntKind.u8) a.11 ∧ a.12 = a.12 ∧ RowD.mk (Ty.int IntKind.i64) a.13 = RowD.mk (Ty.int IntKind.i64) a.13 ∧ RowD.mk (Ty.int IntKind.i64) a.14 = RowD.mk (Ty.int IntKind.i64) a.14 ∧ a.15 = a.15 ∧ RowD.mk (Ty.int IntKind.i64) a.16 = RowD.mk (Ty.int IntKind.i64) a.16 ∧ a.17 = a.17 ∧ a.18 = a.18 ∧ a.19 = a.19 ∧ a.20 = a.20 ∧ RowD.mk Ty.bool a.21 = RowD.mk Ty.bool a.21 ∧ a.22.1 = a.22.1 ∧ a.22.2.1 = a.22.2.1 ∧ a.23 = a.23 ∧ True) ∧ (b.1 = b.1 ∧ b.2 = b.2 ∧ b.3 = b.3 ∧ b.4 = b.4 ∧ b.5 = b.5 ∧ b.6.1 = b.6.1 ∧ b.6.2 = b.6.2 ∧ b.6.3 = b.6.3 ∧ b.6.4 = b.6.4 ∧ b.6.5 = b.6.5 ∧ b.7 = b.7 ∧ b.8 = b.8 ∧ b.9 = b.9 ∧ b.10 = b.10 ∧ RowD.mk (Ty.int IntKind.u8) b.11 = RowD.mk (Ty.int IntKind.u8) b.11 ∧ b.12 = b.12 ∧ RowD.mk (Ty.int IntKind.i64) b.13 = RowD.mk (Ty.int IntKind.i64) b.13 ∧ RowD.mk (Ty.int IntKind.i64) b.14 = RowD.mk (Ty.int IntKind.i64) b.14 ∧ b.15 = b.15 ∧ RowD.mk (Ty.int IntKind.i64) b.16 = RowD.mk (Ty.int IntKind.i64) b.16 ∧ b.17 = b.17 ∧ b.18 = b.18 ∧ b.19 = b.19 ∧ b.20 = b.20 ∧ RowD.mk Ty.bool b.21 = RowD.mk Ty.bool b.21 ∧ b.22.1 = b.22.1 ∧ b.22.2.1 = b.22.2.1 ∧ b.23 = b.23 ∧ True) ∧ True))
  have e : (i : Int).toNat = i := by simp
  rw [e]
  have hd : ∀ zs : List Int, i < zs.length → zs[i]? = some (zs.getD i ((0 : Int))) := fun zs h => getD_at _ h
  obtain ⟨hi1, hi2, hi3⟩ := hi
  refine ⟨fun h1 => ?_, fun h1 => ?_⟩
  · have h1 : i < a.Batters.length := by simpa using h1
    have hdx := hd a.Batters h1
    have hdy := hd b.Batters (by omega)
    refine ⟨⟨by omega, by omega⟩, ⟨by omega, by omega⟩, fun h2 => ?_, fun h2 => ?_⟩
    · have h2 : ¬ a.Batters.getD i (dflt (Ty.int IntKind.u8)) = b.Batters.getD i (dflt (Ty.int IntKind.u8)) := by simpa using h2
      have : eqLI a.Batters b.Batters = false := decide_eq_false fun he => h2 (by rw [he])
      exact ⟨this, ⟨rfl, trivial⟩, trivial⟩
    · have h2 : a.Batters.getD i (dflt (Ty.int IntKind.u8)) = b.Batters.getD i (dflt (Ty.int IntKind.u8)) := by simpa using h2
      have h2 : a.Batters.getD i ((0 : Int)) = b.Batters.getD i ((0 : Int)) := h2
      have hb : a.Batters.length ≤ 140737488355328 := hx
      refine ⟨⟨by omega, hl, ?_⟩, by omega, ⟨trivial, trivial, rfl, by rw [wrap64 (by omega) (by omega)]; omega, trivial⟩, by simp⟩
      rw [List.take_add_one, List.take_add_one, hi3, hdx, hdy, h2]
  · have h1 : a.Batters.length ≤ i := by simpa using h1
    have : eqLI a.Batters b.Batters = true := decide_eq_true (by
      rwa [List.take_of_length_le h1, List.take_of_length_le (by omega)] at hi3)
    exact ⟨this, ⟨trivial, trivial, trivial⟩, by simp⟩
theorem loop36 (a : Innings) (b : Innings) (hx : a.Batters.length ≤ lenB) (hl : a.Batters.length = b.Batters.length) : LoopOK Try.prog Try.f36.ntmps (loopN Try.f36 0) (loopSum ⟨[], [], 376⟩ (J36 a b 0) (T36 a b)) :=
  loop_by (cfg8OK (.cons ok71 .nil) _) mixed (J36 a b) (fun _ => rfl) (inv36 a b) (fun i => a.Batters.length - i) (fun _ _ => none) (fun _ _ _ _ _ h => by cases h) (T36 a b) [] [] 0 (⟨Nat.zero_le _, hl, by simp⟩) LE (fun i hi => step36 a b hx hl i hi)
theorem step36x1 (a : Innings) (b : Innings) (hx : a.Subs.length ≤ lenB) (hl : a.Subs.length = b.Subs.length) (i : Nat) (hi : inv36b a b i) : (stepObl (J36b a b) (inv36b a b) (fun i => a.Subs.length - i) i (T36b a b) (evCode (cf8 [k71] Try.f36) (fun _ => none) (loopN Try.f36 1) (J36b a b i)) (LE i)).1 := by
  refine cast (by kernel_rfl) (?_ : (decide ((↑i : Int) < (↑a.21.length : Int)) = true → ((0 : Int) ≤ (↑i : Int) ∧ (↑i : Int) < (↑a.21.length : Int)) ∧ ((0 : Int) ≤ (↑i : Int) ∧ (↑i : Int) < (↑b.21.length : Int)) ∧ ((!a.21.getD (↑i : Int).toNat (dflt Ty.bool) == b.21.getD (↑i : Int).toNat (dflt Ty.bool)) = true → eqLB a.21 b.21 = false ∧ (false = false ∧ True) ∧ True) ∧ ((!a.21.getD (↑i : Int).toNat (dflt Ty.bool) == b.21.getD (↑i : Int).toNat (dflt Ty.bool)) = false → inv36b a b (i + (1 : Nat)) ∧ a.21.length - (i + (1 : Nat)) < a.21.length - i ∧ (True ∧ True ∧ (↑a.21.length : Int) = (↑a.21.length : Int) ∧ IntKind.i64.wrap ((↑i : Int) + (1 : Int)) = (↑(i + (1 : Nat)) : Int) ∧ True) ∧ (a.1 = a.1 ∧ a.2 = a.2 ∧ a.3 = a.3 ∧ a.4 = a.4 ∧ a.5 = a.5 ∧ a.6.1 = a.6.1 ∧ a.6.2 = a.6.2 ∧ a.6.3 = a.6.3 ∧ a.6.4 = a.6.4 ∧ a.6.5 = a.6.5 ∧ a.7 = a.7 ∧ a.8 = a.8 ∧ a.9 = a.9 ∧ a.10 = a.10 ∧ RowD.mk (Ty.int IntKind.u8) a.11 = RowD.mk (Ty.int IntKind.u8) a.11 ∧ a.12 = a.12 ∧ RowD.mk (Ty.int IntKind.i64) a.13 = RowD.mk (Ty.int IntKind.i64) a.13 ∧ RowD.mk (Ty.int IntKind.i64) a.14 = RowD.mk (Ty.int IntKind.i64) a.14 ∧ a.15 = a.15 ∧ RowD.mk (Ty.int IntKind.i64) a.16 = RowD.mk (Ty.int IntKind.i64) a.16 ∧ a.17 = a.17 ∧ a.18 = a.18 ∧ a.19 = a.19 ∧ a.20 = a.20 ∧ RowD.mk Ty.bool a.21 = RowD.mk Ty.bool a.21 ∧ a.22.1 = a.22.1 ∧ a.22.2.1 = a.22.2.1 ∧ a.23 = a.23 ∧ True) ∧ (b.1 = b.1 ∧ b.2 = b.2 ∧ b.3 = b.3 ∧ b.4 = b.4 ∧ b.5 = b.5 ∧ b.6.1 = b.6.1 ∧ b.6.2 = b.6.2 ∧ b.6.3 = b.6.3 ∧ b.6.4 = b.6.4 ∧ b.6.5 = b.6.5 ∧ b.7 = b.7 ∧ b.8 = b.8 ∧ b.9 = b.9 ∧ b.10 = b.10 ∧ RowD.mk (Ty.int IntKind.u8) b.11 = RowD.mk (Ty.int IntKind.u8) b.11 ∧ b.12 = b.12 ∧ RowD.mk (Ty.int IntKind.i64) b.13 = RowD.mk (Ty.int IntKind.i64) b.13 ∧ RowD.mk (Ty.int IntKind.i64) b.14 = RowD.mk (Ty.int IntKind.i64) b.14 ∧ b.15 = b.15 ∧ RowD.mk (Ty.int IntKind.i64) b.16 = RowD.mk (Ty.int IntKind.i64) b.16 ∧ b.17 = b.17 ∧ b.18 = b.18 ∧ b.19 = b.19 ∧ b.20 = b.20 ∧ RowD.mk Ty.bool b.21 = RowD.mk Ty.bool b.21 ∧ b.22.1 = b.22.1 ∧ b.22.2.1 = b.22.2.1 ∧ b.23 = b.23 ∧ True) ∧ True)) ∧ (decide ((↑i : Int) < (↑a.21.length : Int)) = false → eqLB a.21 b.21 = true ∧ (True ∧ True ∧ True) ∧ (a.1 = a.1 ∧ a.2 = a.2 ∧ a.3 = a.3 ∧ a.4 = a.4 ∧ a.5 = a.5 ∧ a.6.1 = a.6.1 ∧ a.6.2 = a.6.2 ∧ a.6.3 = a.6.3 ∧ a.6.4 = a.6.4 ∧ a.6.5 = a.6.5 ∧ a.7 = a.7 ∧ a.8 = a.8 ∧ a.9 = a.9 ∧ a.10 = a.10 ∧ RowD.mk (Ty.int IntKind.u8) a.11 = RowD.mk (Ty.int IntKind.u8) a.11 ∧ a.12 = a.12 ∧ RowD.mk (Ty.int IntKind.i64) a.13 = RowD.mk (Ty.int IntKind.i64) a.13 ∧ RowD.mk (Ty.int IntKind.i64) a.14 = RowD.mk (Ty.int IntKind.i64) a.14 ∧ a.15 = a.15 ∧ RowD.mk (Ty.int IntKind.i64) a.16 = RowD.mk (Ty.int IntKind.i64) a.16 ∧ a.17 = a.17 ∧ a.18 = a.18 ∧ a.19 = a.19 ∧ a.20 = a.20 ∧ RowD.mk Ty.bool a.21 = RowD.mk Ty.bool a.21 ∧ a.22.1 = a.22.1 ∧ a.22.2.1 = a.22.2.1 ∧ a.23 = a.23 ∧ True) ∧ (b.1 = b.1 ∧ b.2 = b.2 ∧ b.3 = b.3 ∧ b.4 = b.4 ∧ b.5 = b.5 ∧ b.6.1 = b.6.1 ∧ b.6.2 = b.6.2 ∧ b.6.3 = b.6.3 ∧ b.6.4 = b.6.4 ∧ b.6.5 = b.6.5 ∧ b.7 = b.7 ∧ b.8 = b.8 ∧ b.9 = b.9 ∧ b.10 = b.10 ∧ RowD.mk (Ty.int IntKind.u8) b.11 = RowD.mk (Ty.int IntKind.u8) b.11 ∧ b.12 = b.12 ∧ RowD.mk (Ty.int IntKind.i64) b.13 = RowD.mk (Ty.int IntKind.i64) b.13 ∧ RowD.mk (Ty.int IntKind.i64) b.14 = RowD.mk (Ty.int IntKind.i64) b.14 ∧ b.15 = b.15 ∧ RowD.mk (Ty.int IntKind.i64) b.16 = RowD.mk (Ty.int IntKind.i64) b.16 ∧ b.17 = b.17 ∧ b.18 = b.18 ∧ b.19 = b.19 ∧ b.20 = b.20 ∧ RowD.mk Ty.bool b.21 = RowD.mk Ty.bool b.21 ∧ b.22.1 = b.22.1 ∧ b.22.2.1 = b.22.2.1 ∧ b.23 = b.23 ∧ True) ∧ True))
  have e : (i : Int).toNat = i := by simp
  rw [e]
  have hd : ∀ zs : List Bool, i < zs.length → zs[i]? = some (zs.getD i (false)) := fun zs h => getD_at _ h
  obtain ⟨hi1, hi2, hi3⟩ := hi
  refine ⟨fun h1 => ?_, fun h1 => ?_⟩
  · have h1 : i < a.Subs.length := by simpa using h1
    have hdx := hd a.Subs h1
    have hdy := hd b.Subs (by omega)
    refine ⟨⟨by omega, by omega⟩, ⟨by omega, by omega⟩, fun h2 => ?_, fun h2 => ?_⟩
    · have h2 : ¬ a.Subs.getD i (dflt Ty.bool) = b.Subs.getD i (dflt Ty.bool) := by simpa using h2
      have : eqLB a.Subs b.Subs = false := decide_eq_false fun he => h2 (by rw [he])
      exact ⟨this, ⟨rfl, trivial⟩, trivial⟩
    · have h2 : a.Subs.getD i (dflt Ty.bool) = b.Subs.getD i (dflt Ty.bool) := by simpa using h2
      have h2 : a.Subs.getD i (false) = b.Subs.getD i (false) := h2
      have hb : a.Subs.length ≤ 140737488355328 := hx
      refine ⟨⟨by omega, hl, ?_⟩, by omega, ⟨trivial, trivial, rfl, by rw [wrap64 (by omega) (by omega)]; omega, trivial⟩, by simp⟩
      rw [List.take_add_one, List.take_add_one, hi3, hdx, hdy, h2]
  · have h1 : a.Subs.length ≤ i := by simpa using h1
    have : eqLB a.Subs b.Subs = true := decide_eq_true (by
      rwa [List.take_of_length_le h1, List.take_of_length_le (by omega)] at hi3)
    exact ⟨this, ⟨trivial, trivial, trivial⟩, by simp⟩
theorem loop36x1 (a : Innings) (b : Innings) (hx : a.Subs.length ≤ lenB) (hl : a.Subs.length = b.Subs.length) : LoopOK Try.prog Try.f36.ntmps (loopN Try.f36 1) (loopSum ⟨[], [], 408⟩ (J36b a b 0) (T36b a b)) :=
  loop_by (cfg8OK (.cons ok71 .nil) _) mixed (J36b a b) (fun _ => rfl) (inv36b a b) (fun i => a.Subs.length - i) (fun _ _ => none) (fun _ _ _ _ _ h => by cases h) (T36b a b) [] [] 0 (⟨Nat.zero_le _, hl, by simp⟩) LE (fun i hi => step36x1 a b hx hl i hi)
theorem run36 (a : Innings) (b : Innings) (hx : True) : (evFn (cf8 [k71] Try.f36) (Λ36 a b) Try.f36 (argsV psSS (a, b, ()))).sat fun v' rows => leV v' (spec36 (a, b, ())).v ∧ rows = (spec36 (a, b, ())).rows := by
  refine cast (by kernel_rfl) (?_ : ((bif (↑a.11.length : Int) != (↑b.11.length : Int) then true else bif (↑a.21.length : Int) != (↑b.21.length : Int) then true else bif !eqLI a.13 b.13 then true else bif !eqLI a.14 b.14 then true else !eqLI a.16 b.16) = true → false = sameW a b ∧ ([] : List RowD) = []) ∧ ((bif (↑a.11.length : Int) != (↑b.11.length : Int) then true else bif (↑a.21.length : Int) != (↑b.21.length : Int) then true else bif !eqLI a.13 b.13 then true else bif !eqLI a.14 b.14 then true else !eqLI a.16 b.16) = false → (a.11.length = b.11.length ∧ (noH0 fun x => none) ∧ (True ∧ True ∧ (↑a.11.length : Int) = (↑a.11.length : Int) ∧ (0 : Int) = (↑(0 : Nat) : Int) ∧ True) ∧ (a.1 = a.1 ∧ a.2 = a.2 ∧ a.3 = a.3 ∧ a.4 = a.4 ∧ a.5 = a.5 ∧ a.6.1 = a.6.1 ∧ a.6.2 = a.6.2 ∧ a.6.3 = a.6.3 ∧ a.6.4 = a.6.4 ∧ a.6.5 = a.6.5 ∧ a.7 = a.7 ∧ a.8 = a.8 ∧ a.9 = a.9 ∧ a.10 = a.10 ∧ RowD.mk (Ty.int IntKind.u8) a.11 = RowD.mk (Ty.int IntKind.u8) a.11 ∧ a.12 = a.12 ∧ RowD.mk (Ty.int IntKind.i64) a.13 = RowD.mk (Ty.int IntKind.i64) a.13 ∧ RowD.mk (Ty.int IntKind.i64) a.14 = RowD.mk (Ty.int IntKind.i64) a.14 ∧ a.15 = a.15 ∧ RowD.mk (Ty.int IntKind.i64) a.16 = RowD.mk (Ty.int IntKind.i64) a.16 ∧ a.17 = a.17 ∧ a.18 = a.18 ∧ a.19 = a.19 ∧ a.20 = a.20 ∧ RowD.mk Ty.bool a.21 = RowD.mk Ty.bool a.21 ∧ a.22.1 = a.22.1 ∧ a.22.2.1 = a.22.2.1 ∧ a.23 = a.23 ∧ True) ∧ (b.1 = b.1 ∧ b.2 = b.2 ∧ b.3 = b.3 ∧ b.4 = b.4 ∧ b.5 = b.5 ∧ b.6.1 = b.6.1 ∧ b.6.2 = b.6.2 ∧ b.6.3 = b.6.3 ∧ b.6.4 = b.6.4 ∧ b.6.5 = b.6.5 ∧ b.7 = b.7 ∧ b.8 = b.8 ∧ b.9 = b.9 ∧ b.10 = b.10 ∧ RowD.mk (Ty.int IntKind.u8) b.11 = RowD.mk (Ty.int IntKind.u8) b.11 ∧ b.12 = b.12 ∧ RowD.mk (Ty.int IntKind.i64) b.13 = RowD.mk (Ty.int IntKind.i64) b.13 ∧ RowD.mk (Ty.int IntKind.i64) b.14 = RowD.mk (Ty.int IntKind.i64) b.14 ∧ b.15 = b.15 ∧ RowD.mk (Ty.int IntKind.i64) b.16 = RowD.mk (Ty.int IntKind.i64) b.16 ∧ b.17 = b.17 ∧ b.18 = b.18 ∧ b.19 = b.19 ∧ b.20 = b.20 ∧ RowD.mk Ty.bool b.21 = RowD.mk Ty.bool b.21 ∧ b.22.1 = b.22.1 ∧ b.22.2.1 = b.22.2.1 ∧ b.23 = b.23 ∧ True) ∧ True) ∧ (eqLI a.11 b.11 = true → (a.21.length = b.21.length ∧ (noH0 fun x => none) ∧ (True ∧ True ∧ (↑a.21.length : Int) = (↑a.21.length : Int) ∧ (0 : Int) = (↑(0 : Nat) : Int) ∧ True) ∧ (a.1 = a.1 ∧ a.2 = a.2 ∧ a.3 = a.3 ∧ a.4 = a.4 ∧ a.5 = a.5 ∧ a.6.1 = a.6.1 ∧ a.6.2 = a.6.2 ∧ a.6.3 = a.6.3 ∧ a.6.4 = a.6.4 ∧ a.6.5 = a.6.5 ∧ a.7 = a.7 ∧ a.8 = a.8 ∧ a.9 = a.9 ∧ a.10 = a.10 ∧ RowD.mk (Ty.int IntKind.u8) a.11 = RowD.mk (Ty.int IntKind.u8) a.11 ∧ a.12 = a.12 ∧ RowD.mk (Ty.int IntKind.i64) a.13 = RowD.mk (Ty.int IntKind.i64) a.13 ∧ RowD.mk (Ty.int IntKind.i64) a.14 = RowD.mk (Ty.int IntKind.i64) a.14 ∧ a.15 = a.15 ∧ RowD.mk (Ty.int IntKind.i64) a.16 = RowD.mk (Ty.int IntKind.i64) a.16 ∧ a.17 = a.17 ∧ a.18 = a.18 ∧ a.19 = a.19 ∧ a.20 = a.20 ∧ RowD.mk Ty.bool a.21 = RowD.mk Ty.bool a.21 ∧ a.22.1 = a.22.1 ∧ a.22.2.1 = a.22.2.1 ∧ a.23 = a.23 ∧ True) ∧ (b.1 = b.1 ∧ b.2 = b.2 ∧ b.3 = b.3 ∧ b.4 = b.4 ∧ b.5 = b.5 ∧ b.6.1 = b.6.1 ∧ b.6.2 = b.6.2 ∧ b.6.3 = b.6.3 ∧ b.6.4 = b.6.4 ∧ b.6.5 = b.6.5 ∧ b.7 = b.7 ∧ b.8 = b.8 ∧ b.9 = b.9 ∧ b.10 = b.10 ∧ RowD.mk (Ty.int IntKind.u8) b.11 = RowD.mk (Ty.int IntKind.u8) b.11 ∧ b.12 = b.12 ∧ RowD.mk (Ty.int IntKind.i64) b.13 = RowD.mk (Ty.int IntKind.i64) b.13 ∧ RowD.mk (Ty.int IntKind.i64) b.14 = RowD.mk (Ty.int IntKind.i64) b.14 ∧ b.15 = b.15 ∧ RowD.mk (Ty.int IntKind.i64) b.16 = RowD.mk (Ty.int IntKind.i64) b.16 ∧ b.17 = b.17 ∧ b.18 = b.18 ∧ b.19 = b.19 ∧ b.20 = b.20 ∧ RowD.mk Ty.bool b.21 = RowD.mk Ty.bool b.21 ∧ b.22.1 = b.22.1 ∧ b.22.2.1 = b.22.2.1 ∧ b.23 = b.23 ∧ True) ∧ True) ∧ (eqLB a.21 b.21 = true → (((a.1 == b.1) = true → ((a.2 == b.2) = true → ((a.3 == b.3) = true → ((a.4 == b.4) = true → ((a.5 == b.5) = true → ((a.6.1 == b.6.1 && (a.6.2 == b.6.2 && (a.6.3 == b.6.3 && (a.6.4 == b.6.4 && (a.6.5 == b.6.5 && true))))) = true → ((a.7 == b.7) = true → ((a.8 == b.8) = true → ((a.9 == b.9) = true → ((a.10 == b.10) = true → ((a.12 == b.12) = true → ((a.15 == b.15) = true → ((a.17 == b.17) = true → ((a.18 == b.18) = true → ((a.19 == b.19) = true → ((a.20 == b.20) = true → ((0 : Int) ≤ (0 : Int) ∧ (0 : Int) < (↑(2 : Nat) : Int)) ∧ ((0 : Int) ≤ (0 : Int) ∧ (0 : Int) < (↑(2 : Nat) : Int)) ∧ ((a.22.1 == b.22.1) = true → ((0 : Int) ≤ (1 : Int) ∧ (1 : Int) < (↑(2 : Nat) : Int)) ∧ ((0 : Int) ≤ (1 : Int) ∧ (1 : Int) < (↑(2 : Nat) : Int)) ∧ ((a.22.2.1 == b.22.2.1) = true → True) ∧ ((a.22.2.1 == b.22.2.1) = false → True)) ∧ ((a.22.1 == b.22.1) = false → True)) ∧ ((a.20 == b.20) = false → True)) ∧ ((a.19 == b.19) = false → True)) ∧ ((a.18 == b.18) = false → True)) ∧ ((a.17 == b.17) = false → True)) ∧ ((a.15 == b.15) = false → True)) ∧ ((a.12 == b.12) = false → True)) ∧ ((a.10 == b.10) = false → True)) ∧ ((a.9 == b.9) = false → True)) ∧ ((a.8 == b.8) = false → True)) ∧ ((a.7 == b.7) = false → True)) ∧ ((a.6.1 == b.6.1 && (a.6.2 == b.6.2 && (a.6.3 == b.6.3 && (a.6.4 == b.6.4 && (a.6.5 == b.6.5 && true))))) = false → True)) ∧ ((a.5 == b.5) = false → True)) ∧ ((a.4 == b.4) = false → True)) ∧ ((a.3 == b.3) = false → True)) ∧ ((a.2 == b.2) = false → True)) ∧ ((a.1 == b.1) = false → True)) ∧ (true = true → (bif a.1 == b.1 then bif a.2 == b.2 then bif a.3 == b.3 then bif a.4 == b.4 then bif a.5 == b.5 then bif a.6.1 == b.6.1 && (a.6.2 == b.6.2 && (a.6.3 == b.6.3 && (a.6.4 == b.6.4 && (a.6.5 == b.6.5 && true)))) then bif a.7 == b.7 then bif a.8 == b.8 then bif a.9 == b.9 then bif a.10 == b.10 then bif a.12 == b.12 then bif a.15 == b.15 then bif a.17 == b.17 then bif a.18 == b.18 then bif a.19 == b.19 then bif a.20 == b.20 then bif a.22.1 == b.22.1 then bif a.22.2.1 == b.22.2.1 then a.23 == b.23 else false else false else false else false else false else false else false else false else false else false else false else false else false else false else false else false else false else false) = sameW a b ∧ ([] : List RowD) = [])) ∧ (eqLB a.21 b.21 = false → false = sameW a b ∧ ([] : List RowD) = [])) ∧ (eqLI a.11 b.11 = false → false = sameW a b ∧ ([] : List RowD) = [])))
  refine ⟨fun h => ⟨?_, rfl⟩, fun h => ?_⟩
  · cases hs : sameW a b with
    | false => rfl
    | true =>
      exfalso
      simp only [sameW, Bool.and_eq_true] at hs
      obtain ⟨h1, h2, h3, h4, h5, _⟩ := hs
      have e4 : a.Batters = b.Batters := of_decide_eq_true h4
      have e5 : a.Subs = b.Subs := of_decide_eq_true h5
      simp [h1, h2, h3, e4, e5] at h
  · simp only [Bool.cond_true_left, Bool.or_eq_false_iff, bne_eq_false_iff_eq, Bool.not_eq_false'] at h
    obtain ⟨h1, h2, h3, h4, h5⟩ := h
    refine ⟨⟨by omega, rfl, ⟨trivial, trivial, rfl, rfl, trivial⟩, by simp⟩, fun hb => ⟨⟨by omega, rfl, ⟨trivial, trivial, rfl, rfl, trivial⟩, by simp⟩, fun hs => ⟨?_, fun _ => ⟨?_, rfl⟩⟩, fun hs => ⟨?_, rfl⟩⟩, fun hb => ⟨?_, rfl⟩⟩
    · repeat' first | refine And.intro ?_ ?_ | intro _
      all_goals first | trivial | omega
    · simp only [sameW, h3, h4, h5, hb, hs, Bool.true_and, restW, Bool.cond_false_right]
    · simp [sameW, hs]
    · simp [sameW, hb]
theorem ok36 : CtrOK Try.prog K8 36 (pureCtr K8 psSS spec36) := by
  refine pure_ok (C := cf8 [k71] Try.f36) (cfg8OK (.cons ok71 .nil) _) mixed (fn := Try.f36) Try.func36 (by kernel_rfl) (by kernel_rfl) (by kernel_rfl) (Λ := fun x => Λ36 x.1 x.2.1) ?_ ?_ ?_
  · rintro ⟨a, b, ⟨⟩⟩ hw hn
    exact LoopsOK.at (by kernel_rfl) (.cons (by kernel_rfl) (LoopOK.under fun hp => loop36 a b (wf_inn (wf_fst hw)).1 hp) (.cons (by kernel_rfl) (LoopOK.under fun hp => loop36x1 a b (wf_inn (wf_fst hw)).2 hp) .nil))
  · rintro ⟨a, b, ⟨⟩⟩
    exact of_decide_eq_true (by kernel_rfl)
  · rintro ⟨a, b, ⟨⟩⟩ hw hn
    exact run36 a b trivial
theorem run34 (x : Innings) (a : law11_Act) (hs : smallI x) : (evFn (cf8 [k46, k66, k67] Try.f34) (fun _ => none) Try.f34 (argsV psIA (x, a, ()))).sat fun v' rows => leV v' (spec34 (x, a, ())).v ∧ rows = (spec34 (x, a, ())).rows := by
  refine cast (by kernel_rfl) (?_ : (3 : Int) ≠ (0 : Int) ∧ ((a.1.tmod (3 : Int) == (0 : Int)) = true → smallI x ∧ (((keeperY x a.2).1 = (actY x a).1 ∧ (keeperY x a.2).2 = (actY x a).2 ∧ (keeperY x a.2).3 = (actY x a).3 ∧ (keeperY x a.2).4 = (actY x a).4 ∧ (keeperY x a.2).5 = (actY x a).5 ∧ (keeperY x a.2).6.1 = (actY x a).6.1 ∧ (keeperY x a.2).6.2 = (actY x a).6.2 ∧ (keeperY x a.2).6.3 = (actY x a).6.3 ∧ (keeperY x a.2).6.4 = (actY x a).6.4 ∧ (keeperY x a.2).6.5 = (actY x a).6.5 ∧ (keeperY x a.2).7 = (actY x a).7 ∧ (keeperY x a.2).8 = (actY x a).8 ∧ (keeperY x a.2).9 = (actY x a).9 ∧ (keeperY x a.2).10 = (actY x a).10 ∧ (nat_lit 0 = nat_lit 0 ∧ nat_lit 0 = nat_lit 0) ∧ (keeperY x a.2).12 = (actY x a).12 ∧ (nat_lit 1 = nat_lit 1 ∧ nat_lit 1 = nat_lit 1) ∧ (nat_lit 2 = nat_lit 2 ∧ nat_lit 2 = nat_lit 2) ∧ (keeperY x a.2).15 = (actY x a).15 ∧ (nat_lit 3 = nat_lit 3 ∧ nat_lit 3 = nat_lit 3) ∧ (keeperY x a.2).17 = (actY x a).17 ∧ (keeperY x a.2).18 = (actY x a).18 ∧ (keeperY x a.2).19 = (actY x a).19 ∧ (keeperY x a.2).20 = (actY x a).20 ∧ (nat_lit 4 = nat_lit 4 ∧ nat_lit 4 = nat_lit 4) ∧ (keeperY x a.2).22.1 = (actY x a).22.1 ∧ (keeperY x a.2).22.2.1 = (actY x a).22.2.1 ∧ (keeperY x a.2).23 = (actY x a).23 ∧ True) ∧ keeperL x a.2 = actL x a ∧ True) ∧ [RowD.mk (Ty.int IntKind.u8) (keeperY x a.2).11, RowD.mk (Ty.int IntKind.i64) (keeperY x a.2).13, RowD.mk (Ty.int IntKind.i64) (keeperY x a.2).14, RowD.mk (Ty.int IntKind.i64) (keeperY x a.2).16, RowD.mk Ty.bool (keeperY x a.2).21] = [RowD.mk (Ty.int IntKind.u8) (actY x a).11, RowD.mk (Ty.int IntKind.i64) (actY x a).13, RowD.mk (Ty.int IntKind.i64) (actY x a).14, RowD.mk (Ty.int IntKind.i64) (actY x a).16, RowD.mk Ty.bool (actY x a).21]) ∧ ((a.1.tmod (3 : Int) == (0 : Int)) = false → ((a.1.tmod (3 : Int) == (1 : Int)) = true → smallI x ∧ (((substY x a.2 a.3).1 = (actY x a).1 ∧ (substY x a.2 a.3).2 = (actY x a).2 ∧ (substY x a.2 a.3).3 = (actY x a).3 ∧ (substY x a.2 a.3).4 = (actY x a).4 ∧ (substY x a.2 a.3).5 = (actY x a).5 ∧ (substY x a.2 a.3).6.1 = (actY x a).6.1 ∧ (substY x a.2 a.3).6.2 = (actY x a).6.2 ∧ (substY x a.2 a.3).6.3 = (actY x a).6.3 ∧ (substY x a.2 a.3).6.4 = (actY x a).6.4 ∧ (substY x a.2 a.3).6.5 = (actY x a).6.5 ∧ (substY x a.2 a.3).7 = (actY x a).7 ∧ (substY x a.2 a.3).8 = (actY x a).8 ∧ (substY x a.2 a.3).9 = (actY x a).9 ∧ (substY x a.2 a.3).10 = (actY x a).10 ∧ (nat_lit 0 = nat_lit 0 ∧ nat_lit 0 = nat_lit 0) ∧ (substY x a.2 a.3).12 = (actY x a).12 ∧ (nat_lit 1 = nat_lit 1 ∧ nat_lit 1 = nat_lit 1) ∧ (nat_lit 2 = nat_lit 2 ∧ nat_lit 2 = nat_lit 2) ∧ (substY x a.2 a.3).15 = (actY x a).15 ∧ (nat_lit 3 = nat_lit 3 ∧ nat_lit 3 = nat_lit 3) ∧ (substY x a.2 a.3).17 = (actY x a).17 ∧ (substY x a.2 a.3).18 = (actY x a).18 ∧ (substY x a.2 a.3).19 = (actY x a).19 ∧ (substY x a.2 a.3).20 = (actY x a).20 ∧ (nat_lit 4 = nat_lit 4 ∧ nat_lit 4 = nat_lit 4) ∧ (substY x a.2 a.3).22.1 = (actY x a).22.1 ∧ (substY x a.2 a.3).22.2.1 = (actY x a).22.2.1 ∧ (substY x a.2 a.3).23 = (actY x a).23 ∧ True) ∧ substL x a.2 a.3 = actL x a ∧ True) ∧ [RowD.mk (Ty.int IntKind.u8) (substY x a.2 a.3).11, RowD.mk (Ty.int IntKind.i64) (substY x a.2 a.3).13, RowD.mk (Ty.int IntKind.i64) (substY x a.2 a.3).14, RowD.mk (Ty.int IntKind.i64) (substY x a.2 a.3).16, RowD.mk Ty.bool (substY x a.2 a.3).21] = [RowD.mk (Ty.int IntKind.u8) (actY x a).11, RowD.mk (Ty.int IntKind.i64) (actY x a).13, RowD.mk (Ty.int IntKind.i64) (actY x a).14, RowD.mk (Ty.int IntKind.i64) (actY x a).16, RowD.mk Ty.bool (actY x a).21]) ∧ ((a.1.tmod (3 : Int) == (1 : Int)) = false → smallI x ∧ (((outsideY x a.2).1 = (actY x a).1 ∧ (outsideY x a.2).2 = (actY x a).2 ∧ (outsideY x a.2).3 = (actY x a).3 ∧ (outsideY x a.2).4 = (actY x a).4 ∧ (outsideY x a.2).5 = (actY x a).5 ∧ (outsideY x a.2).6.1 = (actY x a).6.1 ∧ (outsideY x a.2).6.2 = (actY x a).6.2 ∧ (outsideY x a.2).6.3 = (actY x a).6.3 ∧ (outsideY x a.2).6.4 = (actY x a).6.4 ∧ (outsideY x a.2).6.5 = (actY x a).6.5 ∧ (outsideY x a.2).7 = (actY x a).7 ∧ (outsideY x a.2).8 = (actY x a).8 ∧ (outsideY x a.2).9 = (actY x a).9 ∧ (outsideY x a.2).10 = (actY x a).10 ∧ (nat_lit 0 = nat_lit 0 ∧ nat_lit 0 = nat_lit 0) ∧ (outsideY x a.2).12 = (actY x a).12 ∧ (nat_lit 1 = nat_lit 1 ∧ nat_lit 1 = nat_lit 1) ∧ (nat_lit 2 = nat_lit 2 ∧ nat_lit 2 = nat_lit 2) ∧ (outsideY x a.2).15 = (actY x a).15 ∧ (nat_lit 3 = nat_lit 3 ∧ nat_lit 3 = nat_lit 3) ∧ (outsideY x a.2).17 = (actY x a).17 ∧ (outsideY x a.2).18 = (actY x a).18 ∧ (outsideY x a.2).19 = (actY x a).19 ∧ (outsideY x a.2).20 = (actY x a).20 ∧ (nat_lit 4 = nat_lit 4 ∧ nat_lit 4 = nat_lit 4) ∧ (outsideY x a.2).22.1 = (actY x a).22.1 ∧ (outsideY x a.2).22.2.1 = (actY x a).22.2.1 ∧ (outsideY x a.2).23 = (actY x a).23 ∧ True) ∧ outsideL x a.2 = actL x a ∧ True) ∧ [RowD.mk (Ty.int IntKind.u8) (outsideY x a.2).11, RowD.mk (Ty.int IntKind.i64) (outsideY x a.2).13, RowD.mk (Ty.int IntKind.i64) (outsideY x a.2).14, RowD.mk (Ty.int IntKind.i64) (outsideY x a.2).16, RowD.mk Ty.bool (outsideY x a.2).21] = [RowD.mk (Ty.int IntKind.u8) (actY x a).11, RowD.mk (Ty.int IntKind.i64) (actY x a).13, RowD.mk (Ty.int IntKind.i64) (actY x a).14, RowD.mk (Ty.int IntKind.i64) (actY x a).16, RowD.mk Ty.bool (actY x a).21])))
  refine ⟨by decide, fun h1 => ⟨hs, ?_⟩, fun h1 => ⟨fun h2 => ⟨hs, ?_⟩, fun h2 => ⟨hs, ?_⟩⟩⟩
  · have e : actY x a = keeperY x a.N := by simp only [actY, h1, if_true]
    have l : actL x a = keeperL x a.N := by simp only [actL, h1, if_true]
    rw [e, l]; simp
  · have e : actY x a = substY x a.N a.On := by simp only [actY, h1, h2]; simp
    have l : actL x a = substL x a.N a.On := by simp only [actL, h1, h2]; simp
    rw [e, l]; simp
  · have e : actY x a = outsideY x a.N := by simp only [actY, h1, h2]; simp
    have l : actL x a = outsideL x a.N := by simp only [actL, h1, h2]; simp
    rw [e, l]; simp
theorem ok34 : CtrOK Try.prog K8 34 (pureCtr K8 psIA spec34) := by
  refine pure_ok (C := cf8 [k46, k66, k67] Try.f34) (cfg8OK (.cons ok46 (.cons ok66 (.cons ok67 .nil))) _) mixed (fn := Try.f34) Try.func34 (by kernel_rfl) (by kernel_rfl) (by kernel_rfl) (Λ := fun _ _ => none) ?_ ?_ ?_
  · exact fun _ _ _ _ _ _ _ _ h => by cases h
  · rintro ⟨x, a, ⟨⟩⟩
    exact of_decide_eq_true (by kernel_rfl)
  · rintro ⟨x, a, ⟨⟩⟩ hw hn
    exact run34 x a (hn _ (List.mem_singleton.2 rfl))
theorem run35 (x : Innings) (a : law11_Act) (hs : smallI x) : (evFn (cf8 [k68, k69, k70] Try.f35) (fun _ => none) Try.f35 (argsV psIA (x, a, ()))).sat fun v' rows => leV v' (spec34 (x, a, ())).v ∧ rows = (spec34 (x, a, ())).rows := by
  refine cast (by kernel_rfl) (?_ : (3 : Int) ≠ (0 : Int) ∧ ((a.1.tmod (3 : Int) == (0 : Int)) = true → smallI x ∧ (((keeperY x a.2).1 = (actY x a).1 ∧ (keeperY x a.2).2 = (actY x a).2 ∧ (keeperY x a.2).3 = (actY x a).3 ∧ (keeperY x a.2).4 = (actY x a).4 ∧ (keeperY x a.2).5 = (actY x a).5 ∧ (keeperY x a.2).6.1 = (actY x a).6.1 ∧ (keeperY x a.2).6.2 = (actY x a).6.2 ∧ (keeperY x a.2).6.3 = (actY x a).6.3 ∧ (keeperY x a.2).6.4 = (actY x a).6.4 ∧ (keeperY x a.2).6.5 = (actY x a).6.5 ∧ (keeperY x a.2).7 = (actY x a).7 ∧ (keeperY x a.2).8 = (actY x a).8 ∧ (keeperY x a.2).9 = (actY x a).9 ∧ (keeperY x a.2).10 = (actY x a).10 ∧ (nat_lit 0 = nat_lit 0 ∧ nat_lit 0 = nat_lit 0) ∧ (keeperY x a.2).12 = (actY x a).12 ∧ (nat_lit 1 = nat_lit 1 ∧ nat_lit 1 = nat_lit 1) ∧ (nat_lit 2 = nat_lit 2 ∧ nat_lit 2 = nat_lit 2) ∧ (keeperY x a.2).15 = (actY x a).15 ∧ (nat_lit 3 = nat_lit 3 ∧ nat_lit 3 = nat_lit 3) ∧ (keeperY x a.2).17 = (actY x a).17 ∧ (keeperY x a.2).18 = (actY x a).18 ∧ (keeperY x a.2).19 = (actY x a).19 ∧ (keeperY x a.2).20 = (actY x a).20 ∧ (nat_lit 4 = nat_lit 4 ∧ nat_lit 4 = nat_lit 4) ∧ (keeperY x a.2).22.1 = (actY x a).22.1 ∧ (keeperY x a.2).22.2.1 = (actY x a).22.2.1 ∧ (keeperY x a.2).23 = (actY x a).23 ∧ True) ∧ keeperL x a.2 = actL x a ∧ True) ∧ [RowD.mk (Ty.int IntKind.u8) (keeperY x a.2).11, RowD.mk (Ty.int IntKind.i64) (keeperY x a.2).13, RowD.mk (Ty.int IntKind.i64) (keeperY x a.2).14, RowD.mk (Ty.int IntKind.i64) (keeperY x a.2).16, RowD.mk Ty.bool (keeperY x a.2).21] = [RowD.mk (Ty.int IntKind.u8) (actY x a).11, RowD.mk (Ty.int IntKind.i64) (actY x a).13, RowD.mk (Ty.int IntKind.i64) (actY x a).14, RowD.mk (Ty.int IntKind.i64) (actY x a).16, RowD.mk Ty.bool (actY x a).21]) ∧ ((a.1.tmod (3 : Int) == (0 : Int)) = false → ((a.1.tmod (3 : Int) == (1 : Int)) = true → smallI x ∧ (((substY x a.2 a.3).1 = (actY x a).1 ∧ (substY x a.2 a.3).2 = (actY x a).2 ∧ (substY x a.2 a.3).3 = (actY x a).3 ∧ (substY x a.2 a.3).4 = (actY x a).4 ∧ (substY x a.2 a.3).5 = (actY x a).5 ∧ (substY x a.2 a.3).6.1 = (actY x a).6.1 ∧ (substY x a.2 a.3).6.2 = (actY x a).6.2 ∧ (substY x a.2 a.3).6.3 = (actY x a).6.3 ∧ (substY x a.2 a.3).6.4 = (actY x a).6.4 ∧ (substY x a.2 a.3).6.5 = (actY x a).6.5 ∧ (substY x a.2 a.3).7 = (actY x a).7 ∧ (substY x a.2 a.3).8 = (actY x a).8 ∧ (substY x a.2 a.3).9 = (actY x a).9 ∧ (substY x a.2 a.3).10 = (actY x a).10 ∧ (nat_lit 0 = nat_lit 0 ∧ nat_lit 0 = nat_lit 0) ∧ (substY x a.2 a.3).12 = (actY x a).12 ∧ (nat_lit 1 = nat_lit 1 ∧ nat_lit 1 = nat_lit 1) ∧ (nat_lit 2 = nat_lit 2 ∧ nat_lit 2 = nat_lit 2) ∧ (substY x a.2 a.3).15 = (actY x a).15 ∧ (nat_lit 3 = nat_lit 3 ∧ nat_lit 3 = nat_lit 3) ∧ (substY x a.2 a.3).17 = (actY x a).17 ∧ (substY x a.2 a.3).18 = (actY x a).18 ∧ (substY x a.2 a.3).19 = (actY x a).19 ∧ (substY x a.2 a.3).20 = (actY x a).20 ∧ (nat_lit 4 = nat_lit 4 ∧ nat_lit 4 = nat_lit 4) ∧ (substY x a.2 a.3).22.1 = (actY x a).22.1 ∧ (substY x a.2 a.3).22.2.1 = (actY x a).22.2.1 ∧ (substY x a.2 a.3).23 = (actY x a).23 ∧ True) ∧ substL x a.2 a.3 = actL x a ∧ True) ∧ [RowD.mk (Ty.int IntKind.u8) (substY x a.2 a.3).11, RowD.mk (Ty.int IntKind.i64) (substY x a.2 a.3).13, RowD.mk (Ty.int IntKind.i64) (substY x a.2 a.3).14, RowD.mk (Ty.int IntKind.i64) (substY x a.2 a.3).16, RowD.mk Ty.bool (substY x a.2 a.3).21] = [RowD.mk (Ty.int IntKind.u8) (actY x a).11, RowD.mk (Ty.int IntKind.i64) (actY x a).13, RowD.mk (Ty.int IntKind.i64) (actY x a).14, RowD.mk (Ty.int IntKind.i64) (actY x a).16, RowD.mk Ty.bool (actY x a).21]) ∧ ((a.1.tmod (3 : Int) == (1 : Int)) = false → smallI x ∧ (((outsideY x a.2).1 = (actY x a).1 ∧ (outsideY x a.2).2 = (actY x a).2 ∧ (outsideY x a.2).3 = (actY x a).3 ∧ (outsideY x a.2).4 = (actY x a).4 ∧ (outsideY x a.2).5 = (actY x a).5 ∧ (outsideY x a.2).6.1 = (actY x a).6.1 ∧ (outsideY x a.2).6.2 = (actY x a).6.2 ∧ (outsideY x a.2).6.3 = (actY x a).6.3 ∧ (outsideY x a.2).6.4 = (actY x a).6.4 ∧ (outsideY x a.2).6.5 = (actY x a).6.5 ∧ (outsideY x a.2).7 = (actY x a).7 ∧ (outsideY x a.2).8 = (actY x a).8 ∧ (outsideY x a.2).9 = (actY x a).9 ∧ (outsideY x a.2).10 = (actY x a).10 ∧ (nat_lit 0 = nat_lit 0 ∧ nat_lit 0 = nat_lit 0) ∧ (outsideY x a.2).12 = (actY x a).12 ∧ (nat_lit 1 = nat_lit 1 ∧ nat_lit 1 = nat_lit 1) ∧ (nat_lit 2 = nat_lit 2 ∧ nat_lit 2 = nat_lit 2) ∧ (outsideY x a.2).15 = (actY x a).15 ∧ (nat_lit 3 = nat_lit 3 ∧ nat_lit 3 = nat_lit 3) ∧ (outsideY x a.2).17 = (actY x a).17 ∧ (outsideY x a.2).18 = (actY x a).18 ∧ (outsideY x a.2).19 = (actY x a).19 ∧ (outsideY x a.2).20 = (actY x a).20 ∧ (nat_lit 4 = nat_lit 4 ∧ nat_lit 4 = nat_lit 4) ∧ (outsideY x a.2).22.1 = (actY x a).22.1 ∧ (outsideY x a.2).22.2.1 = (actY x a).22.2.1 ∧ (outsideY x a.2).23 = (actY x a).23 ∧ True) ∧ outsideL x a.2 = actL x a ∧ True) ∧ [RowD.mk (Ty.int IntKind.u8) (outsideY x a.2).11, RowD.mk (Ty.int IntKind.i64) (outsideY x a.2).13, RowD.mk (Ty.int IntKind.i64) (outsideY x a.2).14, RowD.mk (Ty.int IntKind.i64) (outsideY x a.2).16, RowD.mk Ty.bool (outsideY x a.2).21] = [RowD.mk (Ty.int IntKind.u8) (actY x a).11, RowD.mk (Ty.int IntKind.i64) (actY x a).13, RowD.mk (Ty.int IntKind.i64) (actY x a).14, RowD.mk (Ty.int IntKind.i64) (actY x a).16, RowD.mk Ty.bool (actY x a).21])))
  refine ⟨by decide, fun h1 => ⟨hs, ?_⟩, fun h1 => ⟨fun h2 => ⟨hs, ?_⟩, fun h2 => ⟨hs, ?_⟩⟩⟩
  · have e : actY x a = keeperY x a.N := by simp only [actY, h1, if_true]
    have l : actL x a = keeperL x a.N := by simp only [actL, h1, if_true]
    rw [e, l]; simp
  · have e : actY x a = substY x a.N a.On := by simp only [actY, h1, h2]; simp
    have l : actL x a = substL x a.N a.On := by simp only [actL, h1, h2]; simp
    rw [e, l]; simp
  · have e : actY x a = outsideY x a.N := by simp only [actY, h1, h2]; simp
    have l : actL x a = outsideL x a.N := by simp only [actL, h1, h2]; simp
    rw [e, l]; simp
theorem ok35 : CtrOK Try.prog K8 35 (pureCtr K8 psIA spec34) := by
  refine pure_ok (C := cf8 [k68, k69, k70] Try.f35) (cfg8OK (.cons ok68 (.cons ok69 (.cons ok70 .nil))) _) mixed (fn := Try.f35) Try.func35 (by kernel_rfl) (by kernel_rfl) (by kernel_rfl) (Λ := fun _ _ => none) ?_ ?_ ?_
  · exact fun _ _ _ _ _ _ _ _ h => by cases h
  · rintro ⟨x, a, ⟨⟩⟩
    exact of_decide_eq_true (by kernel_rfl)
  · rintro ⟨x, a, ⟨⟩⟩ hw hn
    exact run35 x a (hn _ (List.mem_singleton.2 rfl))
end Go.Proofs.Ytogdeefpidccmaa

/- Bowlers: the law of balls. -/
namespace Go.Proofs.Ytogdeefpidccmaa
open Go Go.Mir
attribute [local irreducible] Go.Mir.RT.sat Go.Mir.evFn Go.Mir.stepObl
theorem run14 (r : Rules) (x : Innings) (c : Bool)  : (evFn (cf8 [k36, k48, k51, k52, k53, k54, k55, k56] Try.f14) (fun _ => none) Try.f14 (argsV (.prod (.nm .Rules) (.prod (.nm .Innings) (.prod .bool .unit))) (r, x, c, ()))).sat fun v _ => isTrue v := by
  refine cast (by kernel_rfl) (?_ : ((!true) = true → false = true) ∧ ((!true) = false → smallI (fewW x) ∧ smallI (fewW x) ∧ smallI (fewW x) ∧ smallI (fewW x) ∧ (bif ballO (boundW r) (fewW x) c == ballO (boundW r) (fewW x) c then bif sameW (ballY (boundW r) (fewW x) c) (ballY (boundW r) (fewW x) c) then bif newL (boundW r) (fewW x) == newL (boundW r) (fewW x) then sameW (newY (boundW r) (fewW x)) (newY (boundW r) (fewW x)) else false else false else false) = true))
  have hsm := few_small x
  refine ⟨fun h => (by cases h), fun _ => ⟨hsm, hsm, hsm, hsm, ?_⟩⟩
  simp [sameW, restW, eqLI, eqLB]
end Go.Proofs.Ytogdeefpidccmaa

/- What all rows share. -/
namespace Go.Proofs.Ytogdeefpidccmaa
open Go Go.Mir Go.ChangeShapes Go.WideShapes Go.ChangeAt Go.RowKit

theorem own1 : ownKnob Try.prog.godebug = none := by kernel_rfl
theorem laid1 : laidOutB Try.prog = true := by kernel_rfl
theorem list1 {α : Type} {ds : List α} (h : ds.length = 1) : ∃ a, ds = [a] := by
  match ds, h with
  | [a], _ => exact ⟨a, rfl⟩
theorem list2 {α : Type} {ds : List α} (h : ds.length = 2) : ∃ a b, ds = [a, b] := by
  match ds, h with
  | [a, b], _ => exact ⟨a, b, rfl⟩
theorem list3 {α : Type} {ds : List α} (h : ds.length = 3) : ∃ a b c, ds = [a, b, c] := by
  match ds, h with
  | [a, b, c], _ => exact ⟨a, b, c, rfl⟩
theorem list4 {α : Type} {ds : List α} (h : ds.length = 4) : ∃ a b c d, ds = [a, b, c, d] := by
  match ds, h with
  | [a, b, c, d], _ => exact ⟨a, b, c, d, rfl⟩

end Go.Proofs.Ytogdeefpidccmaa
