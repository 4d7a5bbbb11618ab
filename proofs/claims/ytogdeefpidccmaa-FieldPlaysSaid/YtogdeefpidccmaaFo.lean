/- The field layer: FieldKeeps. -/
import Derived.Test.YtogdeefpidccmaaFp
import Derived.Test.YtogdeefpidccmaaFn
namespace Go.Proofs.Ytogdeefpidccmaa
open Go Go.Mir
attribute [local irreducible] Go.Mir.RT.sat Go.Mir.evFn Go.Mir.stepObl
theorem flip_len (l : List Bool) (i : Nat) : (flipN l i).length = l.length := by
  simp only [flipN, List.length_append, List.length_map, List.length_take, List.length_drop]
  omega

theorem flip_step (l : List Bool) (i : Nat) (h : i < l.length) : (flipN l i).set i (!(flipN l i).getD i false) = flipN l (i + 1) := by
  have hA : ((l.take i).map (fun b => !b)).length = i := by simp; omega
  have hg : (flipN l i).getD i false = l[i] := by
    unfold flipN
    rw [List.getD_eq_getElem?_getD, List.getElem?_append_right (by omega), hA, Nat.sub_self, List.drop_eq_getElem_cons h]
    rfl
  rw [hg]
  unfold flipN
  rw [List.set_append_right _ _ (by omega), hA, Nat.sub_self, List.drop_eq_getElem_cons h, List.take_succ_eq_append_getElem h, List.map_append, List.append_assoc]
  rfl

theorem same_refl (x : Innings) : sameW x x = true := by simp [sameW, restW, eqLI, eqLB]

theorem act_refused (x : Innings) (a : law11_Act) (h : actL x a ≠ 0) : actY x a = x := by
  unfold actL at h
  unfold actY
  split at h
  · rename_i h1
    rw [if_pos h1]
    unfold keeperL at h
    unfold keeperY
    repeat' split at h
    all_goals simp_all
  · rename_i h1
    rw [if_neg h1]
    split at h
    · rename_i h2
      rw [if_pos h2]
      unfold substL at h
      unfold substY
      repeat' split at h
      all_goals simp_all
    · rename_i h2
      rw [if_neg h2]
      unfold outsideL at h
      unfold outsideY
      split at h
      · simp_all
      · exact absurd rfl h

theorem act_kept (y : Innings) (a : law11_Act) : { actY y a with Keeper := y.Keeper, Outside := y.Outside, Subs := y.Subs, Bowler := y.Bowler } = y := by
  unfold actY keeperY substY outsideY putSub
  repeat' split
  all_goals rfl

theorem act_subs (y : Innings) (a : law11_Act) : (actY y a).Subs.length = y.Subs.length := by
  unfold actY keeperY substY outsideY putSub
  repeat' split
  all_goals simp

theorem step11 (y : Innings) (z : Innings) (hx : z.Subs.length ≤ 1000000) (i : Nat) (hi : inv11 z i) : (stepObl (J11 y z) (inv11 z) (fun i => z.Subs.length - i) i (T11 y z) (evCode (cf8 [k32, k33, k34, k36, k44, k45] Try.f11) (fun _ => none) (loopN Try.f11 0) (J11 y z i)) (L11 i)).1 := by
  refine cast (by kernel_rfl) (?_ : (decide ((↑i : Int) < (↑z.21.length : Int)) = true → ((0 : Int) ≤ (↑i : Int) ∧ (↑i : Int) < (↑(flipN z.21 i).length : Int)) ∧ ((0 : Int) ≤ (↑i : Int) ∧ (↑i : Int) < (↑(flipN z.21 i).length : Int)) ∧ inv11 z (i + (1 : Nat)) ∧ z.21.length - (i + (1 : Nat)) < z.21.length - i ∧ (True ∧ True ∧ True ∧ True ∧ (↑z.21.length : Int) = (↑z.21.length : Int) ∧ IntKind.i64.wrap ((↑i : Int) + (1 : Int)) = (↑(i + (1 : Nat)) : Int) ∧ True) ∧ RowD.mk Ty.bool z.21 = RowD.mk Ty.bool z.21 ∧ (z.1 = z.1 ∧ z.2 = z.2 ∧ z.3 = z.3 ∧ z.4 = z.4 ∧ z.5 = z.5 ∧ z.6.1 = z.6.1 ∧ z.6.2 = z.6.2 ∧ z.6.3 = z.6.3 ∧ z.6.4 = z.6.4 ∧ z.6.5 = z.6.5 ∧ z.7 = z.7 ∧ z.8 = z.8 ∧ z.9 = z.9 ∧ z.10 = z.10 ∧ True ∧ z.12 = z.12 ∧ True ∧ True ∧ z.15 = z.15 ∧ True ∧ z.17 = z.17 ∧ z.18 = z.18 ∧ z.19 = z.19 ∧ z.20 = z.20 ∧ True ∧ z.22.1 = z.22.1 ∧ z.22.2.1 = z.22.2.1 ∧ z.23 = z.23 ∧ True) ∧ RowD.mk (Ty.int IntKind.u8) z.11 = RowD.mk (Ty.int IntKind.u8) z.11 ∧ RowD.mk (Ty.int IntKind.i64) z.13 = RowD.mk (Ty.int IntKind.i64) z.13 ∧ RowD.mk (Ty.int IntKind.i64) z.14 = RowD.mk (Ty.int IntKind.i64) z.14 ∧ RowD.mk (Ty.int IntKind.i64) z.16 = RowD.mk (Ty.int IntKind.i64) z.16 ∧ RowD.mk Ty.bool ((flipN z.21 i).set (↑i : Int).toNat !(flipN z.21 i).getD (↑i : Int).toNat (dflt Ty.bool)) = RowD.mk Ty.bool (flipN z.21 (i + (1 : Nat))) ∧ (y.1 = y.1 ∧ y.2 = y.2 ∧ y.3 = y.3 ∧ y.4 = y.4 ∧ y.5 = y.5 ∧ y.6.1 = y.6.1 ∧ y.6.2 = y.6.2 ∧ y.6.3 = y.6.3 ∧ y.6.4 = y.6.4 ∧ y.6.5 = y.6.5 ∧ y.7 = y.7 ∧ y.8 = y.8 ∧ y.9 = y.9 ∧ y.10 = y.10 ∧ True ∧ y.12 = y.12 ∧ True ∧ True ∧ y.15 = y.15 ∧ True ∧ y.17 = y.17 ∧ y.18 = y.18 ∧ y.19 = y.19 ∧ y.20 = y.20 ∧ True ∧ y.22.1 = y.22.1 ∧ y.22.2.1 = y.22.2.1 ∧ y.23 = y.23 ∧ True) ∧ RowD.mk (Ty.int IntKind.u8) y.11 = RowD.mk (Ty.int IntKind.u8) y.11 ∧ RowD.mk (Ty.int IntKind.i64) y.13 = RowD.mk (Ty.int IntKind.i64) y.13 ∧ RowD.mk (Ty.int IntKind.i64) y.14 = RowD.mk (Ty.int IntKind.i64) y.14 ∧ RowD.mk (Ty.int IntKind.i64) y.16 = RowD.mk (Ty.int IntKind.i64) y.16 ∧ RowD.mk Ty.bool y.21 = RowD.mk Ty.bool y.21 ∧ (y.1 = y.1 ∧ y.2 = y.2 ∧ y.3 = y.3 ∧ y.4 = y.4 ∧ y.5 = y.5 ∧ y.6.1 = y.6.1 ∧ y.6.2 = y.6.2 ∧ y.6.3 = y.6.3 ∧ y.6.4 = y.6.4 ∧ y.6.5 = y.6.5 ∧ y.7 = y.7 ∧ y.8 = y.8 ∧ y.9 = y.9 ∧ y.10 = y.10 ∧ RowD.mk (Ty.int IntKind.u8) y.11 = RowD.mk (Ty.int IntKind.u8) y.11 ∧ y.12 = y.12 ∧ RowD.mk (Ty.int IntKind.i64) y.13 = RowD.mk (Ty.int IntKind.i64) y.13 ∧ RowD.mk (Ty.int IntKind.i64) y.14 = RowD.mk (Ty.int IntKind.i64) y.14 ∧ y.15 = y.15 ∧ RowD.mk (Ty.int IntKind.i64) y.16 = RowD.mk (Ty.int IntKind.i64) y.16 ∧ y.17 = y.17 ∧ y.18 = y.18 ∧ y.19 = y.19 ∧ y.20 = y.20 ∧ RowD.mk Ty.bool y.21 = RowD.mk Ty.bool y.21 ∧ y.22.1 = y.22.1 ∧ y.22.2.1 = y.22.2.1 ∧ y.23 = y.23 ∧ True) ∧ True) ∧ (decide ((↑i : Int) < (↑z.21.length : Int)) = false → True ∧ (True ∧ True ∧ True ∧ True ∧ True) ∧ RowD.mk Ty.bool z.21 = RowD.mk Ty.bool z.21 ∧ (z.1 = z.1 ∧ z.2 = z.2 ∧ z.3 = z.3 ∧ z.4 = z.4 ∧ z.5 = z.5 ∧ z.6.1 = z.6.1 ∧ z.6.2 = z.6.2 ∧ z.6.3 = z.6.3 ∧ z.6.4 = z.6.4 ∧ z.6.5 = z.6.5 ∧ z.7 = z.7 ∧ z.8 = z.8 ∧ z.9 = z.9 ∧ z.10 = z.10 ∧ True ∧ z.12 = z.12 ∧ True ∧ True ∧ z.15 = z.15 ∧ True ∧ z.17 = z.17 ∧ z.18 = z.18 ∧ z.19 = z.19 ∧ z.20 = z.20 ∧ True ∧ z.22.1 = z.22.1 ∧ z.22.2.1 = z.22.2.1 ∧ z.23 = z.23 ∧ True) ∧ RowD.mk (Ty.int IntKind.u8) z.11 = RowD.mk (Ty.int IntKind.u8) z.11 ∧ RowD.mk (Ty.int IntKind.i64) z.13 = RowD.mk (Ty.int IntKind.i64) z.13 ∧ RowD.mk (Ty.int IntKind.i64) z.14 = RowD.mk (Ty.int IntKind.i64) z.14 ∧ RowD.mk (Ty.int IntKind.i64) z.16 = RowD.mk (Ty.int IntKind.i64) z.16 ∧ RowD.mk Ty.bool (flipN z.21 i) = RowD.mk Ty.bool (flipN z.21 z.21.length) ∧ (y.1 = y.1 ∧ y.2 = y.2 ∧ y.3 = y.3 ∧ y.4 = y.4 ∧ y.5 = y.5 ∧ y.6.1 = y.6.1 ∧ y.6.2 = y.6.2 ∧ y.6.3 = y.6.3 ∧ y.6.4 = y.6.4 ∧ y.6.5 = y.6.5 ∧ y.7 = y.7 ∧ y.8 = y.8 ∧ y.9 = y.9 ∧ y.10 = y.10 ∧ True ∧ y.12 = y.12 ∧ True ∧ True ∧ y.15 = y.15 ∧ True ∧ y.17 = y.17 ∧ y.18 = y.18 ∧ y.19 = y.19 ∧ y.20 = y.20 ∧ True ∧ y.22.1 = y.22.1 ∧ y.22.2.1 = y.22.2.1 ∧ y.23 = y.23 ∧ True) ∧ RowD.mk (Ty.int IntKind.u8) y.11 = RowD.mk (Ty.int IntKind.u8) y.11 ∧ RowD.mk (Ty.int IntKind.i64) y.13 = RowD.mk (Ty.int IntKind.i64) y.13 ∧ RowD.mk (Ty.int IntKind.i64) y.14 = RowD.mk (Ty.int IntKind.i64) y.14 ∧ RowD.mk (Ty.int IntKind.i64) y.16 = RowD.mk (Ty.int IntKind.i64) y.16 ∧ RowD.mk Ty.bool y.21 = RowD.mk Ty.bool y.21 ∧ (y.1 = y.1 ∧ y.2 = y.2 ∧ y.3 = y.3 ∧ y.4 = y.4 ∧ y.5 = y.5 ∧ y.6.1 = y.6.1 ∧ y.6.2 = y.6.2 ∧ y.6.3 = y.6.3 ∧ y.6.4 = y.6.4 ∧ y.6.5 = y.6.5 ∧ y.7 = y.7 ∧ y.8 = y.8 ∧ y.9 = y.9 ∧ y.10 = y.10 ∧ RowD.mk (Ty.int IntKind.u8) y.11 = RowD.mk (Ty.int IntKind.u8) y.11 ∧ y.12 = y.12 ∧ RowD.mk (Ty.int IntKind.i64) y.13 = RowD.mk (Ty.int IntKind.i64) y.13 ∧ RowD.mk (Ty.int IntKind.i64) y.14 = RowD.mk (Ty.int IntKind.i64) y.14 ∧ y.15 = y.15 ∧ RowD.mk (Ty.int IntKind.i64) y.16 = RowD.mk (Ty.int IntKind.i64) y.16 ∧ y.17 = y.17 ∧ y.18 = y.18 ∧ y.19 = y.19 ∧ y.20 = y.20 ∧ RowD.mk Ty.bool y.21 = RowD.mk Ty.bool y.21 ∧ y.22.1 = y.22.1 ∧ y.22.2.1 = y.22.2.1 ∧ y.23 = y.23 ∧ True) ∧ True))
  have e : (i : Int).toNat = i := by simp
  rw [e]
  have hl := flip_len z.Subs i
  refine ⟨fun h1 => ?_, fun h1 => ?_⟩
  · have h1 : i < z.Subs.length := by simpa using h1
    have hs : (flipN z.Subs i).set i (!(flipN z.Subs i).getD i (dflt Ty.bool)) = flipN z.Subs (i + 1) := flip_step z.Subs i h1
    have hin : inv11 z (i + 1) := by unfold inv11; omega
    refine ⟨⟨by omega, by omega⟩, ⟨by omega, by omega⟩, hin, by omega, ⟨trivial, trivial, trivial, trivial, rfl, by rw [wrap64 (by omega) (by omega)]; omega, trivial⟩, ?_⟩
    rw [hs]
    simp
  · have h1 : z.Subs.length ≤ i := by simpa using h1
    have h2 : i = z.Subs.length := by unfold inv11 at hi; omega
    rw [h2]
    simp
theorem loop11 (y : Innings) (z : Innings) (hx : z.Subs.length ≤ 1000000) : LoopOK Try.prog Try.f11.ntmps (loopN Try.f11 0) (loopSum ⟨[], [], 288⟩ (J11 y z 0) (T11 y z)) :=
  loop_by (cfg8OK (.cons ok32 (.cons ok33 (.cons ok34 (.cons ok36 (.cons ok44 (.cons ok45 .nil)))))) _) mixed (J11 y z) (fun _ => rfl) (inv11 z) (fun i => z.Subs.length - i) (fun _ _ => none) (fun _ _ _ _ _ h => by cases h) (T11 y z) [] [] 0 (Nat.zero_le _) L11 (fun i hi => step11 y z hx i hi)
theorem few_act_subs (x : Innings) (a : law11_Act) : (actY (fewW x) a).Subs.length ≤ 1000000 := by rw [act_subs]; exact (few_small x).2.2.2.2

theorem run11 (x : Innings) (a : law11_Act)  : (evFn (cf8 [k32, k33, k34, k36, k44, k45] Try.f11) (Λ11 x a) Try.f11 (argsV psIA (x, a, ()))).sat fun v _ => isTrue v := by
  refine cast (by kernel_rfl) (?_ : ((!true) = true → false = true) ∧ ((!true) = false → smallI (fewW x) ∧ smallI (fewW x) ∧ ((bif !sameW (fewW x) (fewW x) then true else actL (fewW x) a != (0 : Int)) = true → (bif sameW (fewW x) (fewW x) then sameW (actY (fewW x) a) (fewW x) else false) = true) ∧ ((bif !sameW (fewW x) (fewW x) then true else actL (fewW x) a != (0 : Int)) = false → (actY (fewW x) a).21.length ≤ (1000000 : Nat) ∧ ((noH0 fun x => none) ∧ (True ∧ True ∧ True ∧ True ∧ (↑(actY (fewW x) a).21.length : Int) = (↑(actY (fewW x) a).21.length : Int) ∧ (0 : Int) = (↑(0 : Nat) : Int) ∧ True) ∧ RowD.mk Ty.bool (actY (fewW x) a).21 = RowD.mk Ty.bool (actY (fewW x) a).21 ∧ ((actY (fewW x) a).1 = (actY (fewW x) a).1 ∧ (actY (fewW x) a).2 = (actY (fewW x) a).2 ∧ (actY (fewW x) a).3 = (actY (fewW x) a).3 ∧ (actY (fewW x) a).4 = (actY (fewW x) a).4 ∧ (actY (fewW x) a).5 = (actY (fewW x) a).5 ∧ (actY (fewW x) a).6.1 = (actY (fewW x) a).6.1 ∧ (actY (fewW x) a).6.2 = (actY (fewW x) a).6.2 ∧ (actY (fewW x) a).6.3 = (actY (fewW x) a).6.3 ∧ (actY (fewW x) a).6.4 = (actY (fewW x) a).6.4 ∧ (actY (fewW x) a).6.5 = (actY (fewW x) a).6.5 ∧ (actY (fewW x) a).7 = (actY (fewW x) a).7 ∧ (actY (fewW x) a).8 = (actY (fewW x) a).8 ∧ (actY (fewW x) a).9 = (actY (fewW x) a).9 ∧ (actY (fewW x) a).10 = (actY (fewW x) a).10 ∧ True ∧ (actY (fewW x) a).12 = (actY (fewW x) a).12 ∧ True ∧ True ∧ (actY (fewW x) a).15 = (actY (fewW x) a).15 ∧ True ∧ (actY (fewW x) a).17 = (actY (fewW x) a).17 ∧ (actY (fewW x) a).18 = (actY (fewW x) a).18 ∧ (actY (fewW x) a).19 = (actY (fewW x) a).19 ∧ (actY (fewW x) a).20 = (actY (fewW x) a).20 ∧ True ∧ (actY (fewW x) a).22.1 = (actY (fewW x) a).22.1 ∧ (actY (fewW x) a).22.2.1 = (actY (fewW x) a).22.2.1 ∧ (actY (fewW x) a).23 = (actY (fewW x) a).23 ∧ True) ∧ RowD.mk (Ty.int IntKind.u8) (actY (fewW x) a).11 = RowD.mk (Ty.int IntKind.u8) (actY (fewW x) a).11 ∧ RowD.mk (Ty.int IntKind.i64) (actY (fewW x) a).13 = RowD.mk (Ty.int IntKind.i64) (actY (fewW x) a).13 ∧ RowD.mk (Ty.int IntKind.i64) (actY (fewW x) a).14 = RowD.mk (Ty.int IntKind.i64) (actY (fewW x) a).14 ∧ RowD.mk (Ty.int IntKind.i64) (actY (fewW x) a).16 = RowD.mk (Ty.int IntKind.i64) (actY (fewW x) a).16 ∧ RowD.mk Ty.bool (actY (fewW x) a).21 = RowD.mk Ty.bool (flipN (actY (fewW x) a).21 (0 : Nat)) ∧ (x.1 = x.1 ∧ x.2 = x.2 ∧ x.3 = x.3 ∧ x.4 = x.4 ∧ x.5 = x.5 ∧ x.6.1 = x.6.1 ∧ x.6.2 = x.6.2 ∧ x.6.3 = x.6.3 ∧ x.6.4 = x.6.4 ∧ x.6.5 = x.6.5 ∧ x.7 = x.7 ∧ x.8 = x.8 ∧ x.9 = x.9 ∧ x.10 = x.10 ∧ True ∧ x.12 = x.12 ∧ True ∧ True ∧ x.15 = x.15 ∧ True ∧ x.17 = x.17 ∧ x.18 = x.18 ∧ x.19 = x.19 ∧ x.20 = x.20 ∧ True ∧ x.22.1 = x.22.1 ∧ x.22.2.1 = x.22.2.1 ∧ x.23 = x.23 ∧ True) ∧ RowD.mk (Ty.int IntKind.u8) (List.take (13 : Nat) x.11) = RowD.mk (Ty.int IntKind.u8) (List.take (13 : Nat) x.11) ∧ RowD.mk (Ty.int IntKind.i64) (List.take (13 : Nat) x.13) = RowD.mk (Ty.int IntKind.i64) (List.take (13 : Nat) x.13) ∧ RowD.mk (Ty.int IntKind.i64) (List.take (13 : Nat) x.14) = RowD.mk (Ty.int IntKind.i64) (List.take (13 : Nat) x.14) ∧ RowD.mk (Ty.int IntKind.i64) (List.take (13 : Nat) x.16) = RowD.mk (Ty.int IntKind.i64) (List.take (13 : Nat) x.16) ∧ RowD.mk Ty.bool (List.take (13 : Nat) x.21) = RowD.mk Ty.bool (List.take (13 : Nat) x.21) ∧ (x.1 = x.1 ∧ x.2 = x.2 ∧ x.3 = x.3 ∧ x.4 = x.4 ∧ x.5 = x.5 ∧ x.6.1 = x.6.1 ∧ x.6.2 = x.6.2 ∧ x.6.3 = x.6.3 ∧ x.6.4 = x.6.4 ∧ x.6.5 = x.6.5 ∧ x.7 = x.7 ∧ x.8 = x.8 ∧ x.9 = x.9 ∧ x.10 = x.10 ∧ RowD.mk (Ty.int IntKind.u8) (List.take (13 : Nat) x.11) = RowD.mk (Ty.int IntKind.u8) (List.take (13 : Nat) x.11) ∧ x.12 = x.12 ∧ RowD.mk (Ty.int IntKind.i64) (List.take (13 : Nat) x.13) = RowD.mk (Ty.int IntKind.i64) (List.take (13 : Nat) x.13) ∧ RowD.mk (Ty.int IntKind.i64) (List.take (13 : Nat) x.14) = RowD.mk (Ty.int IntKind.i64) (List.take (13 : Nat) x.14) ∧ x.15 = x.15 ∧ RowD.mk (Ty.int IntKind.i64) (List.take (13 : Nat) x.16) = RowD.mk (Ty.int IntKind.i64) (List.take (13 : Nat) x.16) ∧ x.17 = x.17 ∧ x.18 = x.18 ∧ x.19 = x.19 ∧ x.20 = x.20 ∧ RowD.mk Ty.bool (List.take (13 : Nat) x.21) = RowD.mk Ty.bool (List.take (13 : Nat) x.21) ∧ x.22.1 = x.22.1 ∧ x.22.2.1 = x.22.2.1 ∧ x.23 = x.23 ∧ True) ∧ True) ∧ ((!sameW (fewW x) (fewW x)) = true → false = true) ∧ ((!sameW (fewW x) (fewW x)) = false → sameW (Innings.mk (actY (fewW x) a).1 (actY (fewW x) a).2 (actY (fewW x) a).3 (actY (fewW x) a).4 (actY (fewW x) a).5 (actY (fewW x) a).6 (actY (fewW x) a).7 (actY (fewW x) a).8 (actY (fewW x) a).9 (actY (fewW x) a).10 (actY (fewW x) a).11 x.12 (actY (fewW x) a).13 (actY (fewW x) a).14 (actY (fewW x) a).15 (actY (fewW x) a).16 (actY (fewW x) a).17 (actY (fewW x) a).18 x.19 x.20 (List.take (13 : Nat) x.21) (actY (fewW x) a).22 (actY (fewW x) a).23) (fewW x) = true))))
  have hsm := few_small x
  have hsub : (actY (fewW x) a).Subs.length ≤ 1000000 := by rw [act_subs]; exact hsm.2.2.2.2
  have hf : flipN (actY (fewW x) a).Subs 0 = (actY (fewW x) a).Subs := by simp [flipN]
  have hk : sameW _ (fewW x) = true := (congrArg (fun q => sameW q (fewW x)) (act_kept (fewW x) a)).trans (same_refl _)
  refine ⟨fun h => (by cases h), fun _ => ⟨hsm, hsm, fun h => ?_, fun h => ⟨hsub, ?_, fun h => ?_, fun _ => hk⟩⟩⟩
  · rw [same_refl] at h ⊢
    have h : actL (fewW x) a ≠ 0 := by simpa using h
    rw [act_refused _ _ h, same_refl]; rfl
  · rw [hf]
    refine ⟨rfl, ⟨trivial, trivial, trivial, trivial, rfl, rfl, trivial⟩, ?_⟩
    simp
  · rw [same_refl] at h; cases h
end Go.Proofs.Ytogdeefpidccmaa
