/- Texts of the mirror and contracts, put together. -/
import Derived.Test.YtogdeefpidccmaaPR154
import Derived.Test.YtogdeefpidccmaaPR153
import Derived.Test.YtogdeefpidccmaaPR152

/- Bowlers: the inner loops of the law of refusals. -/
namespace Go.Proofs.Ytogdeefpidccmaa
open Go Go.Mir
attribute [local irreducible] Go.Mir.RT.sat Go.Mir.evFn Go.Mir.stepObl
theorem step15B0 (y : Innings) (u : Innings) (v : Innings) (z : Innings) (hz : z.Bowled.length ≤ 2000000) (i : Nat) (hi : invB z i) : (stepObl (JB0 y u v z) (invB z) (fun i => z.Bowled.length - i) i (TB0 y u v z) (evCode (cf8 [] Try.f15) (fun _ => none) (loopIn Try.f15 0 0) (JB0 y u v z i)) (L15 i)).1 := by
  refine cast (by kernel_rfl) (?_ : (decide ((↑i : Int) < (↑z.16.length : Int)) = true → ((0 : Int) ≤ (↑i : Int) ∧ (↑i : Int) < (↑(incN z.16 i).length : Int)) ∧ ((0 : Int) ≤ (↑i : Int) ∧ (↑i : Int) < (↑(incN z.16 i).length : Int)) ∧ invB z (i + (1 : Nat)) ∧ z.16.length - (i + (1 : Nat)) < z.16.length - i ∧ ((↑z.16.length : Int) = (↑z.16.length : Int) ∧ IntKind.i64.wrap ((↑i : Int) + (1 : Int)) = (↑(i + (1 : Nat)) : Int) ∧ True ∧ True ∧ True ∧ (3 : Int) = (3 : Int) ∧ (0 : Int) = (0 : Int) ∧ True ∧ True) ∧ (z.1 = z.1 ∧ z.2 = z.2 ∧ z.3 = z.3 ∧ z.4 = z.4 ∧ z.5 = z.5 ∧ z.6.1 = z.6.1 ∧ z.6.2 = z.6.2 ∧ z.6.3 = z.6.3 ∧ z.6.4 = z.6.4 ∧ z.6.5 = z.6.5 ∧ z.7 = z.7 ∧ z.8 = z.8 ∧ z.9 = z.9 ∧ z.10 = z.10 ∧ True ∧ z.12 = z.12 ∧ True ∧ True ∧ z.15 = z.15 ∧ True ∧ z.17 = z.17 ∧ z.18 = z.18 ∧ z.19 = z.19 ∧ z.20 = z.20 ∧ True ∧ z.22.1 = z.22.1 ∧ z.22.2.1 = z.22.2.1 ∧ z.23 = z.23 ∧ True) ∧ (z.1 = z.1 ∧ z.2 = z.2 ∧ z.3 = z.3 ∧ z.4 = z.4 ∧ z.5 = z.5 ∧ z.6.1 = z.6.1 ∧ z.6.2 = z.6.2 ∧ z.6.3 = z.6.3 ∧ z.6.4 = z.6.4 ∧ z.6.5 = z.6.5 ∧ z.7 = z.7 ∧ z.8 = z.8 ∧ z.9 = z.9 ∧ z.10 = z.10 ∧ True ∧ z.12 = z.12 ∧ True ∧ True ∧ z.15 = z.15 ∧ True ∧ z.17 = z.17 ∧ z.18 = z.18 ∧ z.19 = z.19 ∧ z.20 = z.20 ∧ True ∧ z.22.1 = z.22.1 ∧ z.22.2.1 = z.22.2.1 ∧ z.23 = z.23 ∧ u.1 = u.1 ∧ u.2 = u.2 ∧ u.3 = u.3 ∧ u.4 = u.4 ∧ u.5 = u.5 ∧ u.6.1 = u.6.1 ∧ u.6.2 = u.6.2 ∧ u.6.3 = u.6.3 ∧ u.6.4 = u.6.4 ∧ u.6.5 = u.6.5 ∧ u.7 = u.7 ∧ u.8 = u.8 ∧ u.9 = u.9 ∧ u.10 = u.10 ∧ True ∧ u.12 = u.12 ∧ True ∧ True ∧ u.15 = u.15 ∧ True ∧ u.17 = u.17 ∧ u.18 = u.18 ∧ u.19 = u.19 ∧ u.20 = u.20 ∧ True ∧ u.22.1 = u.22.1 ∧ u.22.2.1 = u.22.2.1 ∧ u.23 = u.23 ∧ v.1 = v.1 ∧ v.2 = v.2 ∧ v.3 = v.3 ∧ v.4 = v.4 ∧ v.5 = v.5 ∧ v.6.1 = v.6.1 ∧ v.6.2 = v.6.2 ∧ v.6.3 = v.6.3 ∧ v.6.4 = v.6.4 ∧ v.6.5 = v.6.5 ∧ v.7 = v.7 ∧ v.8 = v.8 ∧ v.9 = v.9 ∧ v.10 = v.10 ∧ True ∧ v.12 = v.12 ∧ True ∧ True ∧ v.15 = v.15 ∧ True ∧ v.17 = v.17 ∧ v.18 = v.18 ∧ v.19 = v.19 ∧ v.20 = v.20 ∧ True ∧ v.22.1 = v.22.1 ∧ v.22.2.1 = v.22.2.1 ∧ v.23 = v.23 ∧ True) ∧ (y.1 = y.1 ∧ y.2 = y.2 ∧ y.3 = y.3 ∧ y.4 = y.4 ∧ y.5 = y.5 ∧ y.6.1 = y.6.1 ∧ y.6.2 = y.6.2 ∧ y.6.3 = y.6.3 ∧ y.6.4 = y.6.4 ∧ y.6.5 = y.6.5 ∧ y.7 = y.7 ∧ y.8 = y.8 ∧ y.9 = y.9 ∧ y.10 = y.10 ∧ True ∧ y.12 = y.12 ∧ True ∧ True ∧ y.15 = y.15 ∧ True ∧ y.17 = y.17 ∧ y.18 = y.18 ∧ y.19 = y.19 ∧ y.20 = y.20 ∧ True ∧ y.22.1 = y.22.1 ∧ y.22.2.1 = y.22.2.1 ∧ y.23 = y.23 ∧ True) ∧ (y.1 = y.1 ∧ y.2 = y.2 ∧ y.3 = y.3 ∧ y.4 = y.4 ∧ y.5 = y.5 ∧ y.6.1 = y.6.1 ∧ y.6.2 = y.6.2 ∧ y.6.3 = y.6.3 ∧ y.6.4 = y.6.4 ∧ y.6.5 = y.6.5 ∧ y.7 = y.7 ∧ y.8 = y.8 ∧ y.9 = y.9 ∧ y.10 = y.10 ∧ RowD.mk (Ty.int IntKind.u8) y.11 = RowD.mk (Ty.int IntKind.u8) y.11 ∧ y.12 = y.12 ∧ RowD.mk (Ty.int IntKind.i64) y.13 = RowD.mk (Ty.int IntKind.i64) y.13 ∧ RowD.mk (Ty.int IntKind.i64) y.14 = RowD.mk (Ty.int IntKind.i64) y.14 ∧ y.15 = y.15 ∧ RowD.mk (Ty.int IntKind.i64) y.16 = RowD.mk (Ty.int IntKind.i64) y.16 ∧ y.17 = y.17 ∧ y.18 = y.18 ∧ y.19 = y.19 ∧ y.20 = y.20 ∧ RowD.mk Ty.bool y.21 = RowD.mk Ty.bool y.21 ∧ y.22.1 = y.22.1 ∧ y.22.2.1 = y.22.2.1 ∧ y.23 = y.23 ∧ True) ∧ RowD.mk (Ty.int IntKind.u8) y.11 = RowD.mk (Ty.int IntKind.u8) y.11 ∧ RowD.mk (Ty.int IntKind.i64) y.13 = RowD.mk (Ty.int IntKind.i64) y.13 ∧ RowD.mk (Ty.int IntKind.i64) y.14 = RowD.mk (Ty.int IntKind.i64) y.14 ∧ RowD.mk (Ty.int IntKind.i64) y.16 = RowD.mk (Ty.int IntKind.i64) y.16 ∧ RowD.mk Ty.bool y.21 = RowD.mk Ty.bool y.21 ∧ RowD.mk (Ty.int IntKind.u8) z.11 = RowD.mk (Ty.int IntKind.u8) z.11 ∧ RowD.mk (Ty.int IntKind.i64) z.13 = RowD.mk (Ty.int IntKind.i64) z.13 ∧ RowD.mk (Ty.int IntKind.i64) z.14 = RowD.mk (Ty.int IntKind.i64) z.14 ∧ RowD.mk (Ty.int IntKind.i64) ((incN z.16 i).set (↑i : Int).toNat (IntKind.i64.wrap ((incN z.16 i).getD (↑i : Int).toNat (dflt (Ty.int IntKind.i64)) + (1 : Int)))) = RowD.mk (Ty.int IntKind.i64) (incN z.16 (i + (1 : Nat))) ∧ RowD.mk Ty.bool z.21 = RowD.mk Ty.bool z.21 ∧ RowD.mk (Ty.int IntKind.u8) u.11 = RowD.mk (Ty.int IntKind.u8) u.11 ∧ RowD.mk (Ty.int IntKind.i64) u.13 = RowD.mk (Ty.int IntKind.i64) u.13 ∧ RowD.mk (Ty.int IntKind.i64) u.14 = RowD.mk (Ty.int IntKind.i64) u.14 ∧ RowD.mk (Ty.int IntKind.i64) u.16 = RowD.mk (Ty.int IntKind.i64) u.16 ∧ RowD.mk Ty.bool u.21 = RowD.mk Ty.bool u.21 ∧ RowD.mk (Ty.int IntKind.u8) v.11 = RowD.mk (Ty.int IntKind.u8) v.11 ∧ RowD.mk (Ty.int IntKind.i64) v.13 = RowD.mk (Ty.int IntKind.i64) v.13 ∧ RowD.mk (Ty.int IntKind.i64) v.14 = RowD.mk (Ty.int IntKind.i64) v.14 ∧ RowD.mk (Ty.int IntKind.i64) v.16 = RowD.mk (Ty.int IntKind.i64) v.16 ∧ RowD.mk Ty.bool v.21 = RowD.mk Ty.bool v.21 ∧ True) ∧ (decide ((↑i : Int) < (↑z.16.length : Int)) = false → True ∧ (True ∧ True ∧ True ∧ (3 : Int) = (3 : Int) ∧ (0 : Int) = (0 : Int) ∧ True ∧ True) ∧ (z.1 = z.1 ∧ z.2 = z.2 ∧ z.3 = z.3 ∧ z.4 = z.4 ∧ z.5 = z.5 ∧ z.6.1 = z.6.1 ∧ z.6.2 = z.6.2 ∧ z.6.3 = z.6.3 ∧ z.6.4 = z.6.4 ∧ z.6.5 = z.6.5 ∧ z.7 = z.7 ∧ z.8 = z.8 ∧ z.9 = z.9 ∧ z.10 = z.10 ∧ True ∧ z.12 = z.12 ∧ True ∧ True ∧ z.15 = z.15 ∧ True ∧ z.17 = z.17 ∧ z.18 = z.18 ∧ z.19 = z.19 ∧ z.20 = z.20 ∧ True ∧ z.22.1 = z.22.1 ∧ z.22.2.1 = z.22.2.1 ∧ z.23 = z.23 ∧ True) ∧ (z.1 = z.1 ∧ z.2 = z.2 ∧ z.3 = z.3 ∧ z.4 = z.4 ∧ z.5 = z.5 ∧ z.6.1 = z.6.1 ∧ z.6.2 = z.6.2 ∧ z.6.3 = z.6.3 ∧ z.6.4 = z.6.4 ∧ z.6.5 = z.6.5 ∧ z.7 = z.7 ∧ z.8 = z.8 ∧ z.9 = z.9 ∧ z.10 = z.10 ∧ True ∧ z.12 = z.12 ∧ True ∧ True ∧ z.15 = z.15 ∧ True ∧ z.17 = z.17 ∧ z.18 = z.18 ∧ z.19 = z.19 ∧ z.20 = z.20 ∧ True ∧ z.22.1 = z.22.1 ∧ z.22.2.1 = z.22.2.1 ∧ z.23 = z.23 ∧ u.1 = u.1 ∧ u.2 = u.2 ∧ u.3 = u.3 ∧ u.4 = u.4 ∧ u.5 = u.5 ∧ u.6.1 = u.6.1 ∧ u.6.2 = u.6.2 ∧ u.6.3 = u.6.3 ∧ u.6.4 = u.6.4 ∧ u.6.5 = u.6.5 ∧ u.7 = u.7 ∧ u.8 = u.8 ∧ u.9 = u.9 ∧ u.10 = u.10 ∧ True ∧ u.12 = u.12 ∧ True ∧ True ∧ u.15 = u.15 ∧ True ∧ u.17 = u.17 ∧ u.18 = u.18 ∧ u.19 = u.19 ∧ u.20 = u.20 ∧ True ∧ u.22.1 = u.22.1 ∧ u.22.2.1 = u.22.2.1 ∧ u.23 = u.23 ∧ v.1 = v.1 ∧ v.2 = v.2 ∧ v.3 = v.3 ∧ v.4 = v.4 ∧ v.5 = v.5 ∧ v.6.1 = v.6.1 ∧ v.6.2 = v.6.2 ∧ v.6.3 = v.6.3 ∧ v.6.4 = v.6.4 ∧ v.6.5 = v.6.5 ∧ v.7 = v.7 ∧ v.8 = v.8 ∧ v.9 = v.9 ∧ v.10 = v.10 ∧ True ∧ v.12 = v.12 ∧ True ∧ True ∧ v.15 = v.15 ∧ True ∧ v.17 = v.17 ∧ v.18 = v.18 ∧ v.19 = v.19 ∧ v.20 = v.20 ∧ True ∧ v.22.1 = v.22.1 ∧ v.22.2.1 = v.22.2.1 ∧ v.23 = v.23 ∧ True) ∧ (y.1 = y.1 ∧ y.2 = y.2 ∧ y.3 = y.3 ∧ y.4 = y.4 ∧ y.5 = y.5 ∧ y.6.1 = y.6.1 ∧ y.6.2 = y.6.2 ∧ y.6.3 = y.6.3 ∧ y.6.4 = y.6.4 ∧ y.6.5 = y.6.5 ∧ y.7 = y.7 ∧ y.8 = y.8 ∧ y.9 = y.9 ∧ y.10 = y.10 ∧ True ∧ y.12 = y.12 ∧ True ∧ True ∧ y.15 = y.15 ∧ True ∧ y.17 = y.17 ∧ y.18 = y.18 ∧ y.19 = y.19 ∧ y.20 = y.20 ∧ True ∧ y.22.1 = y.22.1 ∧ y.22.2.1 = y.22.2.1 ∧ y.23 = y.23 ∧ True) ∧ (y.1 = y.1 ∧ y.2 = y.2 ∧ y.3 = y.3 ∧ y.4 = y.4 ∧ y.5 = y.5 ∧ y.6.1 = y.6.1 ∧ y.6.2 = y.6.2 ∧ y.6.3 = y.6.3 ∧ y.6.4 = y.6.4 ∧ y.6.5 = y.6.5 ∧ y.7 = y.7 ∧ y.8 = y.8 ∧ y.9 = y.9 ∧ y.10 = y.10 ∧ RowD.mk (Ty.int IntKind.u8) y.11 = RowD.mk (Ty.int IntKind.u8) y.11 ∧ y.12 = y.12 ∧ RowD.mk (Ty.int IntKind.i64) y.13 = RowD.mk (Ty.int IntKind.i64) y.13 ∧ RowD.mk (Ty.int IntKind.i64) y.14 = RowD.mk (Ty.int IntKind.i64) y.14 ∧ y.15 = y.15 ∧ RowD.mk (Ty.int IntKind.i64) y.16 = RowD.mk (Ty.int IntKind.i64) y.16 ∧ y.17 = y.17 ∧ y.18 = y.18 ∧ y.19 = y.19 ∧ y.20 = y.20 ∧ RowD.mk Ty.bool y.21 = RowD.mk Ty.bool y.21 ∧ y.22.1 = y.22.1 ∧ y.22.2.1 = y.22.2.1 ∧ y.23 = y.23 ∧ True) ∧ RowD.mk (Ty.int IntKind.u8) y.11 = RowD.mk (Ty.int IntKind.u8) y.11 ∧ RowD.mk (Ty.int IntKind.i64) y.13 = RowD.mk (Ty.int IntKind.i64) y.13 ∧ RowD.mk (Ty.int IntKind.i64) y.14 = RowD.mk (Ty.int IntKind.i64) y.14 ∧ RowD.mk (Ty.int IntKind.i64) y.16 = RowD.mk (Ty.int IntKind.i64) y.16 ∧ RowD.mk Ty.bool y.21 = RowD.mk Ty.bool y.21 ∧ RowD.mk (Ty.int IntKind.u8) z.11 = RowD.mk (Ty.int IntKind.u8) z.11 ∧ RowD.mk (Ty.int IntKind.i64) z.13 = RowD.mk (Ty.int IntKind.i64) z.13 ∧ RowD.mk (Ty.int IntKind.i64) z.14 = RowD.mk (Ty.int IntKind.i64) z.14 ∧ RowD.mk (Ty.int IntKind.i64) (incN z.16 i) = RowD.mk (Ty.int IntKind.i64) (incN z.16 z.16.length) ∧ RowD.mk Ty.bool z.21 = RowD.mk Ty.bool z.21 ∧ RowD.mk (Ty.int IntKind.u8) u.11 = RowD.mk (Ty.int IntKind.u8) u.11 ∧ RowD.mk (Ty.int IntKind.i64) u.13 = RowD.mk (Ty.int IntKind.i64) u.13 ∧ RowD.mk (Ty.int IntKind.i64) u.14 = RowD.mk (Ty.int IntKind.i64) u.14 ∧ RowD.mk (Ty.int IntKind.i64) u.16 = RowD.mk (Ty.int IntKind.i64) u.16 ∧ RowD.mk Ty.bool u.21 = RowD.mk Ty.bool u.21 ∧ RowD.mk (Ty.int IntKind.u8) v.11 = RowD.mk (Ty.int IntKind.u8) v.11 ∧ RowD.mk (Ty.int IntKind.i64) v.13 = RowD.mk (Ty.int IntKind.i64) v.13 ∧ RowD.mk (Ty.int IntKind.i64) v.14 = RowD.mk (Ty.int IntKind.i64) v.14 ∧ RowD.mk (Ty.int IntKind.i64) v.16 = RowD.mk (Ty.int IntKind.i64) v.16 ∧ RowD.mk Ty.bool v.21 = RowD.mk Ty.bool v.21 ∧ True))
  have hi : i ≤ z.Bowled.length := hi
  have hl := incN_len z.Bowled i
  refine ⟨fun h1 => ?_, fun h1 => ?_⟩
  · have h1 : i < z.Bowled.length := by simpa using h1
    have hw : IntKind.i64.wrap ((i : Int) + 1) = ((i + 1 : Nat) : Int) := by rw [wrap64 (by omega) (by omega)]; omega
    have hs : (incN z.Bowled i).set (i : Int).toNat (IntKind.i64.wrap ((incN z.Bowled i).getD (i : Int).toNat (dflt (.int .i64)) + 1)) = incN z.Bowled (i + 1) := incN_succ z.Bowled i h1
    refine ⟨⟨by omega, by rw [hl]; omega⟩, ⟨by omega, by rw [hl]; omega⟩, (by unfold invB; omega), by omega, ?_⟩
    simp only [hw, hs, and_self]
  · have h1 : z.Bowled.length ≤ i := by simpa using h1
    obtain rfl : i = z.Bowled.length := by omega
    simp only [and_self]
theorem loop15B0 (y : Innings) (u : Innings) (v : Innings) (z : Innings) (hz : z.Bowled.length ≤ 2000000) : LoopOK Try.prog Try.f15.ntmps (loopIn Try.f15 0 0) (loopSum ⟨[(560, 560)], [], 608⟩ (JB0 y u v z 0) (TB0 y u v z)) :=
  loop_by (cfg8OK (CtrsOK.nil) _) mixed (JB0 y u v z) (fun _ => rfl) (invB z) (fun i => z.Bowled.length - i) (fun _ _ => none) (fun _ _ _ _ _ h => by cases h) (TB0 y u v z) [(560, 560)] [] 0 (Nat.zero_le _) L15 (fun i hi => step15B0 y u v z hz i hi)
theorem step15F0 (y : Innings) (u : Innings) (v : Innings) (z : Innings) (hz : z.Before.length ≤ 2000000) (i : Nat) (hi : invF z i) : (stepObl (JF0 y u v z) (invF z) (fun i => z.Before.length - i) i (TF0 y u v z) (evCode (cf8 [] Try.f15) (fun _ => none) (loopIn Try.f15 0 1) (JF0 y u v z i)) (L15 i)).1 := by
  refine cast (by kernel_rfl) (?_ : (decide ((↑i : Int) < (↑z.14.length : Int)) = true → ((0 : Int) ≤ (↑i : Int) ∧ (↑i : Int) < (↑(incN z.14 i).length : Int)) ∧ ((0 : Int) ≤ (↑i : Int) ∧ (↑i : Int) < (↑(incN z.14 i).length : Int)) ∧ invF z (i + (1 : Nat)) ∧ z.14.length - (i + (1 : Nat)) < z.14.length - i ∧ ((↑z.14.length : Int) = (↑z.14.length : Int) ∧ IntKind.i64.wrap ((↑i : Int) + (1 : Int)) = (↑(i + (1 : Nat)) : Int) ∧ True ∧ True ∧ True ∧ (3 : Int) = (3 : Int) ∧ (0 : Int) = (0 : Int) ∧ True ∧ True) ∧ (z.1 = z.1 ∧ z.2 = z.2 ∧ z.3 = z.3 ∧ z.4 = z.4 ∧ z.5 = z.5 ∧ z.6.1 = z.6.1 ∧ z.6.2 = z.6.2 ∧ z.6.3 = z.6.3 ∧ z.6.4 = z.6.4 ∧ z.6.5 = z.6.5 ∧ z.7 = z.7 ∧ z.8 = z.8 ∧ z.9 = z.9 ∧ z.10 = z.10 ∧ True ∧ z.12 = z.12 ∧ True ∧ True ∧ z.15 = z.15 ∧ True ∧ z.17 = z.17 ∧ z.18 = z.18 ∧ z.19 = z.19 ∧ z.20 = z.20 ∧ True ∧ z.22.1 = z.22.1 ∧ z.22.2.1 = z.22.2.1 ∧ z.23 = z.23 ∧ True) ∧ (z.1 = z.1 ∧ z.2 = z.2 ∧ z.3 = z.3 ∧ z.4 = z.4 ∧ z.5 = z.5 ∧ z.6.1 = z.6.1 ∧ z.6.2 = z.6.2 ∧ z.6.3 = z.6.3 ∧ z.6.4 = z.6.4 ∧ z.6.5 = z.6.5 ∧ z.7 = z.7 ∧ z.8 = z.8 ∧ z.9 = z.9 ∧ z.10 = z.10 ∧ True ∧ z.12 = z.12 ∧ True ∧ True ∧ z.15 = z.15 ∧ True ∧ z.17 = z.17 ∧ z.18 = z.18 ∧ z.19 = z.19 ∧ z.20 = z.20 ∧ True ∧ z.22.1 = z.22.1 ∧ z.22.2.1 = z.22.2.1 ∧ z.23 = z.23 ∧ u.1 = u.1 ∧ u.2 = u.2 ∧ u.3 = u.3 ∧ u.4 = u.4 ∧ u.5 = u.5 ∧ u.6.1 = u.6.1 ∧ u.6.2 = u.6.2 ∧ u.6.3 = u.6.3 ∧ u.6.4 = u.6.4 ∧ u.6.5 = u.6.5 ∧ u.7 = u.7 ∧ u.8 = u.8 ∧ u.9 = u.9 ∧ u.10 = u.10 ∧ True ∧ u.12 = u.12 ∧ True ∧ True ∧ u.15 = u.15 ∧ True ∧ u.17 = u.17 ∧ u.18 = u.18 ∧ u.19 = u.19 ∧ u.20 = u.20 ∧ True ∧ u.22.1 = u.22.1 ∧ u.22.2.1 = u.22.2.1 ∧ u.23 = u.23 ∧ v.1 = v.1 ∧ v.2 = v.2 ∧ v.3 = v.3 ∧ v.4 = v.4 ∧ v.5 = v.5 ∧ v.6.1 = v.6.1 ∧ v.6.2 = v.6.2 ∧ v.6.3 = v.6.3 ∧ v.6.4 = v.6.4 ∧ v.6.5 = v.6.5 ∧ v.7 = v.7 ∧ v.8 = v.8 ∧ v.9 = v.9 ∧ v.10 = v.10 ∧ True ∧ v.12 = v.12 ∧ True ∧ True ∧ v.15 = v.15 ∧ True ∧ v.17 = v.17 ∧ v.18 = v.18 ∧ v.19 = v.19 ∧ v.20 = v.20 ∧ True ∧ v.22.1 = v.22.1 ∧ v.22.2.1 = v.22.2.1 ∧ v.23 = v.23 ∧ True) ∧ (y.1 = y.1 ∧ y.2 = y.2 ∧ y.3 = y.3 ∧ y.4 = y.4 ∧ y.5 = y.5 ∧ y.6.1 = y.6.1 ∧ y.6.2 = y.6.2 ∧ y.6.3 = y.6.3 ∧ y.6.4 = y.6.4 ∧ y.6.5 = y.6.5 ∧ y.7 = y.7 ∧ y.8 = y.8 ∧ y.9 = y.9 ∧ y.10 = y.10 ∧ True ∧ y.12 = y.12 ∧ True ∧ True ∧ y.15 = y.15 ∧ True ∧ y.17 = y.17 ∧ y.18 = y.18 ∧ y.19 = y.19 ∧ y.20 = y.20 ∧ True ∧ y.22.1 = y.22.1 ∧ y.22.2.1 = y.22.2.1 ∧ y.23 = y.23 ∧ True) ∧ (y.1 = y.1 ∧ y.2 = y.2 ∧ y.3 = y.3 ∧ y.4 = y.4 ∧ y.5 = y.5 ∧ y.6.1 = y.6.1 ∧ y.6.2 = y.6.2 ∧ y.6.3 = y.6.3 ∧ y.6.4 = y.6.4 ∧ y.6.5 = y.6.5 ∧ y.7 = y.7 ∧ y.8 = y.8 ∧ y.9 = y.9 ∧ y.10 = y.10 ∧ RowD.mk (Ty.int IntKind.u8) y.11 = RowD.mk (Ty.int IntKind.u8) y.11 ∧ y.12 = y.12 ∧ RowD.mk (Ty.int IntKind.i64) y.13 = RowD.mk (Ty.int IntKind.i64) y.13 ∧ RowD.mk (Ty.int IntKind.i64) y.14 = RowD.mk (Ty.int IntKind.i64) y.14 ∧ y.15 = y.15 ∧ RowD.mk (Ty.int IntKind.i64) y.16 = RowD.mk (Ty.int IntKind.i64) y.16 ∧ y.17 = y.17 ∧ y.18 = y.18 ∧ y.19 = y.19 ∧ y.20 = y.20 ∧ RowD.mk Ty.bool y.21 = RowD.mk Ty.bool y.21 ∧ y.22.1 = y.22.1 ∧ y.22.2.1 = y.22.2.1 ∧ y.23 = y.23 ∧ True) ∧ RowD.mk (Ty.int IntKind.u8) y.11 = RowD.mk (Ty.int IntKind.u8) y.11 ∧ RowD.mk (Ty.int IntKind.i64) y.13 = RowD.mk (Ty.int IntKind.i64) y.13 ∧ RowD.mk (Ty.int IntKind.i64) y.14 = RowD.mk (Ty.int IntKind.i64) y.14 ∧ RowD.mk (Ty.int IntKind.i64) y.16 = RowD.mk (Ty.int IntKind.i64) y.16 ∧ RowD.mk Ty.bool y.21 = RowD.mk Ty.bool y.21 ∧ RowD.mk (Ty.int IntKind.u8) z.11 = RowD.mk (Ty.int IntKind.u8) z.11 ∧ RowD.mk (Ty.int IntKind.i64) z.13 = RowD.mk (Ty.int IntKind.i64) z.13 ∧ RowD.mk (Ty.int IntKind.i64) ((incN z.14 i).set (↑i : Int).toNat (IntKind.i64.wrap ((incN z.14 i).getD (↑i : Int).toNat (dflt (Ty.int IntKind.i64)) + (1 : Int)))) = RowD.mk (Ty.int IntKind.i64) (incN z.14 (i + (1 : Nat))) ∧ RowD.mk (Ty.int IntKind.i64) z.16 = RowD.mk (Ty.int IntKind.i64) z.16 ∧ RowD.mk Ty.bool z.21 = RowD.mk Ty.bool z.21 ∧ RowD.mk (Ty.int IntKind.u8) u.11 = RowD.mk (Ty.int IntKind.u8) u.11 ∧ RowD.mk (Ty.int IntKind.i64) u.13 = RowD.mk (Ty.int IntKind.i64) u.13 ∧ RowD.mk (Ty.int IntKind.i64) u.14 = RowD.mk (Ty.int IntKind.i64) u.14 ∧ RowD.mk (Ty.int IntKind.i64) u.16 = RowD.mk (Ty.int IntKind.i64) u.16 ∧ RowD.mk Ty.bool u.21 = RowD.mk Ty.bool u.21 ∧ RowD.mk (Ty.int IntKind.u8) v.11 = RowD.mk (Ty.int IntKind.u8) v.11 ∧ RowD.mk (Ty.int IntKind.i64) v.13 = RowD.mk (Ty.int IntKind.i64) v.13 ∧ RowD.mk (Ty.int IntKind.i64) v.14 = RowD.mk (Ty.int IntKind.i64) v.14 ∧ RowD.mk (Ty.int IntKind.i64) v.16 = RowD.mk (Ty.int IntKind.i64) v.16 ∧ RowD.mk Ty.bool v.21 = RowD.mk Ty.bool v.21 ∧ True) ∧ (decide ((↑i : Int) < (↑z.14.length : Int)) = false → True ∧ (True ∧ True ∧ True ∧ (3 : Int) = (3 : Int) ∧ (0 : Int) = (0 : Int) ∧ True ∧ True) ∧ (z.1 = z.1 ∧ z.2 = z.2 ∧ z.3 = z.3 ∧ z.4 = z.4 ∧ z.5 = z.5 ∧ z.6.1 = z.6.1 ∧ z.6.2 = z.6.2 ∧ z.6.3 = z.6.3 ∧ z.6.4 = z.6.4 ∧ z.6.5 = z.6.5 ∧ z.7 = z.7 ∧ z.8 = z.8 ∧ z.9 = z.9 ∧ z.10 = z.10 ∧ True ∧ z.12 = z.12 ∧ True ∧ True ∧ z.15 = z.15 ∧ True ∧ z.17 = z.17 ∧ z.18 = z.18 ∧ z.19 = z.19 ∧ z.20 = z.20 ∧ True ∧ z.22.1 = z.22.1 ∧ z.22.2.1 = z.22.2.1 ∧ z.23 = z.23 ∧ True) ∧ (z.1 = z.1 ∧ z.2 = z.2 ∧ z.3 = z.3 ∧ z.4 = z.4 ∧ z.5 = z.5 ∧ z.6.1 = z.6.1 ∧ z.6.2 = z.6.2 ∧ z.6.3 = z.6.3 ∧ z.6.4 = z.6.4 ∧ z.6.5 = z.6.5 ∧ z.7 = z.7 ∧ z.8 = z.8 ∧ z.9 = z.9 ∧ z.10 = z.10 ∧ True ∧ z.12 = z.12 ∧ True ∧ True ∧ z.15 = z.15 ∧ True ∧ z.17 = z.17 ∧ z.18 = z.18 ∧ z.19 = z.19 ∧ z.20 = z.20 ∧ True ∧ z.22.1 = z.22.1 ∧ z.22.2.1 = z.22.2.1 ∧ z.23 = z.23 ∧ u.1 = u.1 ∧ u.2 = u.2 ∧ u.3 = u.3 ∧ u.4 = u.4 ∧ u.5 = u.5 ∧ u.6.1 = u.6.1 ∧ u.6.2 = u.6.2 ∧ u.6.3 = u.6.3 ∧ u.6.4 = u.6.4 ∧ u.6.5 = u.6.5 ∧ u.7 = u.7 ∧ u.8 = u.8 ∧ u.9 = u.9 ∧ u.10 = u.10 ∧ True ∧ u.12 = u.12 ∧ True ∧ True ∧ u.15 = u.15 ∧ True ∧ u.17 = u.17 ∧ u.18 = u.18 ∧ u.19 = u.19 ∧ u.20 = u.20 ∧ True ∧ u.22.1 = u.22.1 ∧ u.22.2.1 = u.22.2.1 ∧ u.23 = u.23 ∧ v.1 = v.1 ∧ v.2 = v.2 ∧ v.3 = v.3 ∧ v.4 = v.4 ∧ v.5 = v.5 ∧ v.6.1 = v.6.1 ∧ v.6.2 = v.6.2 ∧ v.6.3 = v.6.3 ∧ v.6.4 = v.6.4 ∧ v.6.5 = v.6.5 ∧ v.7 = v.7 ∧ v.8 = v.8 ∧ v.9 = v.9 ∧ v.10 = v.10 ∧ True ∧ v.12 = v.12 ∧ True ∧ True ∧ v.15 = v.15 ∧ True ∧ v.17 = v.17 ∧ v.18 = v.18 ∧ v.19 = v.19 ∧ v.20 = v.20 ∧ True ∧ v.22.1 = v.22.1 ∧ v.22.2.1 = v.22.2.1 ∧ v.23 = v.23 ∧ True) ∧ (y.1 = y.1 ∧ y.2 = y.2 ∧ y.3 = y.3 ∧ y.4 = y.4 ∧ y.5 = y.5 ∧ y.6.1 = y.6.1 ∧ y.6.2 = y.6.2 ∧ y.6.3 = y.6.3 ∧ y.6.4 = y.6.4 ∧ y.6.5 = y.6.5 ∧ y.7 = y.7 ∧ y.8 = y.8 ∧ y.9 = y.9 ∧ y.10 = y.10 ∧ True ∧ y.12 = y.12 ∧ True ∧ True ∧ y.15 = y.15 ∧ True ∧ y.17 = y.17 ∧ y.18 = y.18 ∧ y.19 = y.19 ∧ y.20 = y.20 ∧ True ∧ y.22.1 = y.22.1 ∧ y.22.2.1 = y.22.2.1 ∧ y.23 = y.23 ∧ True) ∧ (y.1 = y.1 ∧ y.2 = y.2 ∧ y.3 = y.3 ∧ y.4 = y.4 ∧ y.5 = y.5 ∧ y.6.1 = y.6.1 ∧ y.6.2 = y.6.2 ∧ y.6.3 = y.6.3 ∧ y.6.4 = y.6.4 ∧ y.6.5 = y.6.5 ∧ y.7 = y.7 ∧ y.8 = y.8 ∧ y.9 = y.9 ∧ y.10 = y.10 ∧ RowD.mk (Ty.int IntKind.u8) y.11 = RowD.mk (Ty.int IntKind.u8) y.11 ∧ y.12 = y.12 ∧ RowD.mk (Ty.int IntKind.i64) y.13 = RowD.mk (Ty.int IntKind.i64) y.13 ∧ RowD.mk (Ty.int IntKind.i64) y.14 = RowD.mk (Ty.int IntKind.i64) y.14 ∧ y.15 = y.15 ∧ RowD.mk (Ty.int IntKind.i64) y.16 = RowD.mk (Ty.int IntKind.i64) y.16 ∧ y.17 = y.17 ∧ y.18 = y.18 ∧ y.19 = y.19 ∧ y.20 = y.20 ∧ RowD.mk Ty.bool y.21 = RowD.mk Ty.bool y.21 ∧ y.22.1 = y.22.1 ∧ y.22.2.1 = y.22.2.1 ∧ y.23 = y.23 ∧ True) ∧ RowD.mk (Ty.int IntKind.u8) y.11 = RowD.mk (Ty.int IntKind.u8) y.11 ∧ RowD.mk (Ty.int IntKind.i64) y.13 = RowD.mk (Ty.int IntKind.i64) y.13 ∧ RowD.mk (Ty.int IntKind.i64) y.14 = RowD.mk (Ty.int IntKind.i64) y.14 ∧ RowD.mk (Ty.int IntKind.i64) y.16 = RowD.mk (Ty.int IntKind.i64) y.16 ∧ RowD.mk Ty.bool y.21 = RowD.mk Ty.bool y.21 ∧ RowD.mk (Ty.int IntKind.u8) z.11 = RowD.mk (Ty.int IntKind.u8) z.11 ∧ RowD.mk (Ty.int IntKind.i64) z.13 = RowD.mk (Ty.int IntKind.i64) z.13 ∧ RowD.mk (Ty.int IntKind.i64) (incN z.14 i) = RowD.mk (Ty.int IntKind.i64) (incN z.14 z.14.length) ∧ RowD.mk (Ty.int IntKind.i64) z.16 = RowD.mk (Ty.int IntKind.i64) z.16 ∧ RowD.mk Ty.bool z.21 = RowD.mk Ty.bool z.21 ∧ RowD.mk (Ty.int IntKind.u8) u.11 = RowD.mk (Ty.int IntKind.u8) u.11 ∧ RowD.mk (Ty.int IntKind.i64) u.13 = RowD.mk (Ty.int IntKind.i64) u.13 ∧ RowD.mk (Ty.int IntKind.i64) u.14 = RowD.mk (Ty.int IntKind.i64) u.14 ∧ RowD.mk (Ty.int IntKind.i64) u.16 = RowD.mk (Ty.int IntKind.i64) u.16 ∧ RowD.mk Ty.bool u.21 = RowD.mk Ty.bool u.21 ∧ RowD.mk (Ty.int IntKind.u8) v.11 = RowD.mk (Ty.int IntKind.u8) v.11 ∧ RowD.mk (Ty.int IntKind.i64) v.13 = RowD.mk (Ty.int IntKind.i64) v.13 ∧ RowD.mk (Ty.int IntKind.i64) v.14 = RowD.mk (Ty.int IntKind.i64) v.14 ∧ RowD.mk (Ty.int IntKind.i64) v.16 = RowD.mk (Ty.int IntKind.i64) v.16 ∧ RowD.mk Ty.bool v.21 = RowD.mk Ty.bool v.21 ∧ True))
  have hi : i ≤ z.Before.length := hi
  have hl := incN_len z.Before i
  refine ⟨fun h1 => ?_, fun h1 => ?_⟩
  · have h1 : i < z.Before.length := by simpa using h1
    have hw : IntKind.i64.wrap ((i : Int) + 1) = ((i + 1 : Nat) : Int) := by rw [wrap64 (by omega) (by omega)]; omega
    have hs : (incN z.Before i).set (i : Int).toNat (IntKind.i64.wrap ((incN z.Before i).getD (i : Int).toNat (dflt (.int .i64)) + 1)) = incN z.Before (i + 1) := incN_succ z.Before i h1
    refine ⟨⟨by omega, by rw [hl]; omega⟩, ⟨by omega, by rw [hl]; omega⟩, (by unfold invF; omega), by omega, ?_⟩
    simp only [hw, hs, and_self]
  · have h1 : z.Before.length ≤ i := by simpa using h1
    obtain rfl : i = z.Before.length := by omega
    simp only [and_self]
theorem loop15F0 (y : Innings) (u : Innings) (v : Innings) (z : Innings) (hz : z.Before.length ≤ 2000000) : LoopOK Try.prog Try.f15.ntmps (loopIn Try.f15 0 1) (loopSum ⟨[(560, 560)], [], 608⟩ (JF0 y u v z 0) (TF0 y u v z)) :=
  loop_by (cfg8OK (CtrsOK.nil) _) mixed (JF0 y u v z) (fun _ => rfl) (invF z) (fun i => z.Before.length - i) (fun _ _ => none) (fun _ _ _ _ _ h => by cases h) (TF0 y u v z) [(560, 560)] [] 0 (Nat.zero_le _) L15 (fun i hi => step15F0 y u v z hz i hi)
theorem step15B1 (y : Innings) (u : Innings) (v : Innings) (z : Innings) (hz : z.Bowled.length ≤ 2000000) (i : Nat) (hi : invB z i) : (stepObl (JB1 y u v z) (invB z) (fun i => z.Bowled.length - i) i (TB1 y u v z) (evCode (cf8 [] Try.f15) (fun _ => none) (loopIn Try.f15 0 0) (JB1 y u v z i)) (L15 i)).1 := by
  refine cast (by kernel_rfl) (?_ : (decide ((↑i : Int) < (↑z.16.length : Int)) = true → ((0 : Int) ≤ (↑i : Int) ∧ (↑i : Int) < (↑(incN z.16 i).length : Int)) ∧ ((0 : Int) ≤ (↑i : Int) ∧ (↑i : Int) < (↑(incN z.16 i).length : Int)) ∧ invB z (i + (1 : Nat)) ∧ z.16.length - (i + (1 : Nat)) < z.16.length - i ∧ ((↑z.16.length : Int) = (↑z.16.length : Int) ∧ IntKind.i64.wrap ((↑i : Int) + (1 : Int)) = (↑(i + (1 : Nat)) : Int) ∧ True ∧ True ∧ True ∧ (3 : Int) = (3 : Int) ∧ (1 : Int) = (1 : Int) ∧ True ∧ True) ∧ (z.1 = z.1 ∧ z.2 = z.2 ∧ z.3 = z.3 ∧ z.4 = z.4 ∧ z.5 = z.5 ∧ z.6.1 = z.6.1 ∧ z.6.2 = z.6.2 ∧ z.6.3 = z.6.3 ∧ z.6.4 = z.6.4 ∧ z.6.5 = z.6.5 ∧ z.7 = z.7 ∧ z.8 = z.8 ∧ z.9 = z.9 ∧ z.10 = z.10 ∧ True ∧ z.12 = z.12 ∧ True ∧ True ∧ z.15 = z.15 ∧ True ∧ z.17 = z.17 ∧ z.18 = z.18 ∧ z.19 = z.19 ∧ z.20 = z.20 ∧ True ∧ z.22.1 = z.22.1 ∧ z.22.2.1 = z.22.2.1 ∧ z.23 = z.23 ∧ True) ∧ (u.1 = u.1 ∧ u.2 = u.2 ∧ u.3 = u.3 ∧ u.4 = u.4 ∧ u.5 = u.5 ∧ u.6.1 = u.6.1 ∧ u.6.2 = u.6.2 ∧ u.6.3 = u.6.3 ∧ u.6.4 = u.6.4 ∧ u.6.5 = u.6.5 ∧ u.7 = u.7 ∧ u.8 = u.8 ∧ u.9 = u.9 ∧ u.10 = u.10 ∧ True ∧ u.12 = u.12 ∧ True ∧ True ∧ u.15 = u.15 ∧ True ∧ u.17 = u.17 ∧ u.18 = u.18 ∧ u.19 = u.19 ∧ u.20 = u.20 ∧ True ∧ u.22.1 = u.22.1 ∧ u.22.2.1 = u.22.2.1 ∧ u.23 = u.23 ∧ z.1 = z.1 ∧ z.2 = z.2 ∧ z.3 = z.3 ∧ z.4 = z.4 ∧ z.5 = z.5 ∧ z.6.1 = z.6.1 ∧ z.6.2 = z.6.2 ∧ z.6.3 = z.6.3 ∧ z.6.4 = z.6.4 ∧ z.6.5 = z.6.5 ∧ z.7 = z.7 ∧ z.8 = z.8 ∧ z.9 = z.9 ∧ z.10 = z.10 ∧ True ∧ z.12 = z.12 ∧ True ∧ True ∧ z.15 = z.15 ∧ True ∧ z.17 = z.17 ∧ z.18 = z.18 ∧ z.19 = z.19 ∧ z.20 = z.20 ∧ True ∧ z.22.1 = z.22.1 ∧ z.22.2.1 = z.22.2.1 ∧ z.23 = z.23 ∧ v.1 = v.1 ∧ v.2 = v.2 ∧ v.3 = v.3 ∧ v.4 = v.4 ∧ v.5 = v.5 ∧ v.6.1 = v.6.1 ∧ v.6.2 = v.6.2 ∧ v.6.3 = v.6.3 ∧ v.6.4 = v.6.4 ∧ v.6.5 = v.6.5 ∧ v.7 = v.7 ∧ v.8 = v.8 ∧ v.9 = v.9 ∧ v.10 = v.10 ∧ True ∧ v.12 = v.12 ∧ True ∧ True ∧ v.15 = v.15 ∧ True ∧ v.17 = v.17 ∧ v.18 = v.18 ∧ v.19 = v.19 ∧ v.20 = v.20 ∧ True ∧ v.22.1 = v.22.1 ∧ v.22.2.1 = v.22.2.1 ∧ v.23 = v.23 ∧ True) ∧ (y.1 = y.1 ∧ y.2 = y.2 ∧ y.3 = y.3 ∧ y.4 = y.4 ∧ y.5 = y.5 ∧ y.6.1 = y.6.1 ∧ y.6.2 = y.6.2 ∧ y.6.3 = y.6.3 ∧ y.6.4 = y.6.4 ∧ y.6.5 = y.6.5 ∧ y.7 = y.7 ∧ y.8 = y.8 ∧ y.9 = y.9 ∧ y.10 = y.10 ∧ True ∧ y.12 = y.12 ∧ True ∧ True ∧ y.15 = y.15 ∧ True ∧ y.17 = y.17 ∧ y.18 = y.18 ∧ y.19 = y.19 ∧ y.20 = y.20 ∧ True ∧ y.22.1 = y.22.1 ∧ y.22.2.1 = y.22.2.1 ∧ y.23 = y.23 ∧ True) ∧ (y.1 = y.1 ∧ y.2 = y.2 ∧ y.3 = y.3 ∧ y.4 = y.4 ∧ y.5 = y.5 ∧ y.6.1 = y.6.1 ∧ y.6.2 = y.6.2 ∧ y.6.3 = y.6.3 ∧ y.6.4 = y.6.4 ∧ y.6.5 = y.6.5 ∧ y.7 = y.7 ∧ y.8 = y.8 ∧ y.9 = y.9 ∧ y.10 = y.10 ∧ RowD.mk (Ty.int IntKind.u8) y.11 = RowD.mk (Ty.int IntKind.u8) y.11 ∧ y.12 = y.12 ∧ RowD.mk (Ty.int IntKind.i64) y.13 = RowD.mk (Ty.int IntKind.i64) y.13 ∧ RowD.mk (Ty.int IntKind.i64) y.14 = RowD.mk (Ty.int IntKind.i64) y.14 ∧ y.15 = y.15 ∧ RowD.mk (Ty.int IntKind.i64) y.16 = RowD.mk (Ty.int IntKind.i64) y.16 ∧ y.17 = y.17 ∧ y.18 = y.18 ∧ y.19 = y.19 ∧ y.20 = y.20 ∧ RowD.mk Ty.bool y.21 = RowD.mk Ty.bool y.21 ∧ y.22.1 = y.22.1 ∧ y.22.2.1 = y.22.2.1 ∧ y.23 = y.23 ∧ True) ∧ RowD.mk (Ty.int IntKind.u8) y.11 = RowD.mk (Ty.int IntKind.u8) y.11 ∧ RowD.mk (Ty.int IntKind.i64) y.13 = RowD.mk (Ty.int IntKind.i64) y.13 ∧ RowD.mk (Ty.int IntKind.i64) y.14 = RowD.mk (Ty.int IntKind.i64) y.14 ∧ RowD.mk (Ty.int IntKind.i64) y.16 = RowD.mk (Ty.int IntKind.i64) y.16 ∧ RowD.mk Ty.bool y.21 = RowD.mk Ty.bool y.21 ∧ RowD.mk (Ty.int IntKind.u8) u.11 = RowD.mk (Ty.int IntKind.u8) u.11 ∧ RowD.mk (Ty.int IntKind.i64) u.13 = RowD.mk (Ty.int IntKind.i64) u.13 ∧ RowD.mk (Ty.int IntKind.i64) u.14 = RowD.mk (Ty.int IntKind.i64) u.14 ∧ RowD.mk (Ty.int IntKind.i64) u.16 = RowD.mk (Ty.int IntKind.i64) u.16 ∧ RowD.mk Ty.bool u.21 = RowD.mk Ty.bool u.21 ∧ RowD.mk (Ty.int IntKind.u8) z.11 = RowD.mk (Ty.int IntKind.u8) z.11 ∧ RowD.mk (Ty.int IntKind.i64) z.13 = RowD.mk (Ty.int IntKind.i64) z.13 ∧ RowD.mk (Ty.int IntKind.i64) z.14 = RowD.mk (Ty.int IntKind.i64) z.14 ∧ RowD.mk (Ty.int IntKind.i64) ((incN z.16 i).set (↑i : Int).toNat (IntKind.i64.wrap ((incN z.16 i).getD (↑i : Int).toNat (dflt (Ty.int IntKind.i64)) + (1 : Int)))) = RowD.mk (Ty.int IntKind.i64) (incN z.16 (i + (1 : Nat))) ∧ RowD.mk Ty.bool z.21 = RowD.mk Ty.bool z.21 ∧ RowD.mk (Ty.int IntKind.u8) v.11 = RowD.mk (Ty.int IntKind.u8) v.11 ∧ RowD.mk (Ty.int IntKind.i64) v.13 = RowD.mk (Ty.int IntKind.i64) v.13 ∧ RowD.mk (Ty.int IntKind.i64) v.14 = RowD.mk (Ty.int IntKind.i64) v.14 ∧ RowD.mk (Ty.int IntKind.i64) v.16 = RowD.mk (Ty.int IntKind.i64) v.16 ∧ RowD.mk Ty.bool v.21 = RowD.mk Ty.bool v.21 ∧ True) ∧ (decide ((↑i : Int) < (↑z.16.length : Int)) = false → True ∧ (True ∧ True ∧ True ∧ (3 : Int) = (3 : Int) ∧ (1 : Int) = (1 : Int) ∧ True ∧ True) ∧ (z.1 = z.1 ∧ z.2 = z.2 ∧ z.3 = z.3 ∧ z.4 = z.4 ∧ z.5 = z.5 ∧ z.6.1 = z.6.1 ∧ z.6.2 = z.6.2 ∧ z.6.3 = z.6.3 ∧ z.6.4 = z.6.4 ∧ z.6.5 = z.6.5 ∧ z.7 = z.7 ∧ z.8 = z.8 ∧ z.9 = z.9 ∧ z.10 = z.10 ∧ True ∧ z.12 = z.12 ∧ True ∧ True ∧ z.15 = z.15 ∧ True ∧ z.17 = z.17 ∧ z.18 = z.18 ∧ z.19 = z.19 ∧ z.20 = z.20 ∧ True ∧ z.22.1 = z.22.1 ∧ z.22.2.1 = z.22.2.1 ∧ z.23 = z.23 ∧ True) ∧ (u.1 = u.1 ∧ u.2 = u.2 ∧ u.3 = u.3 ∧ u.4 = u.4 ∧ u.5 = u.5 ∧ u.6.1 = u.6.1 ∧ u.6.2 = u.6.2 ∧ u.6.3 = u.6.3 ∧ u.6.4 = u.6.4 ∧ u.6.5 = u.6.5 ∧ u.7 = u.7 ∧ u.8 = u.8 ∧ u.9 = u.9 ∧ u.10 = u.10 ∧ True ∧ u.12 = u.12 ∧ True ∧ True ∧ u.15 = u.15 ∧ True ∧ u.17 = u.17 ∧ u.18 = u.18 ∧ u.19 = u.19 ∧ u.20 = u.20 ∧ True ∧ u.22.1 = u.22.1 ∧ u.22.2.1 = u.22.2.1 ∧ u.23 = u.23 ∧ z.1 = z.1 ∧ z.2 = z.2 ∧ z.3 = z.3 ∧ z.4 = z.4 ∧ z.5 = z.5 ∧ z.6.1 = z.6.1 ∧ z.6.2 = z.6.2 ∧ z.6.3 = z.6.3 ∧ z.6.4 = z.6.4 ∧ z.6.5 = z.6.5 ∧ z.7 = z.7 ∧ z.8 = z.8 ∧ z.9 = z.9 ∧ z.10 = z.10 ∧ True ∧ z.12 = z.12 ∧ True ∧ True ∧ z.15 = z.15 ∧ True ∧ z.17 = z.17 ∧ z.18 = z.18 ∧ z.19 = z.19 ∧ z.20 = z.20 ∧ True ∧ z.22.1 = z.22.1 ∧ z.22.2.1 = z.22.2.1 ∧ z.23 = z.23 ∧ v.1 = v.1 ∧ v.2 = v.2 ∧ v.3 = v.3 ∧ v.4 = v.4 ∧ v.5 = v.5 ∧ v.6.1 = v.6.1 ∧ v.6.2 = v.6.2 ∧ v.6.3 = v.6.3 ∧ v.6.4 = v.6.4 ∧ v.6.5 = v.6.5 ∧ v.7 = v.7 ∧ v.8 = v.8 ∧ v.9 = v.9 ∧ v.10 = v.10 ∧ True ∧ v.12 = v.12 ∧ True ∧ True ∧ v.15 = v.15 ∧ True ∧ v.17 = v.17 ∧ v.18 = v.18 ∧ v.19 = v.19 ∧ v.20 = v.20 ∧ True ∧ v.22.1 = v.22.1 ∧ v.22.2.1 = v.22.2.1 ∧ v.23 = v.23 ∧ True) ∧ (y.1 = y.1 ∧ y.2 = y.2 ∧ y.3 = y.3 ∧ y.4 = y.4 ∧ y.5 = y.5 ∧ y.6.1 = y.6.1 ∧ y.6.2 = y.6.2 ∧ y.6.3 = y.6.3 ∧ y.6.4 = y.6.4 ∧ y.6.5 = y.6.5 ∧ y.7 = y.7 ∧ y.8 = y.8 ∧ y.9 = y.9 ∧ y.10 = y.10 ∧ True ∧ y.12 = y.12 ∧ True ∧ True ∧ y.15 = y.15 ∧ True ∧ y.17 = y.17 ∧ y.18 = y.18 ∧ y.19 = y.19 ∧ y.20 = y.20 ∧ True ∧ y.22.1 = y.22.1 ∧ y.22.2.1 = y.22.2.1 ∧ y.23 = y.23 ∧ True) ∧ (y.1 = y.1 ∧ y.2 = y.2 ∧ y.3 = y.3 ∧ y.4 = y.4 ∧ y.5 = y.5 ∧ y.6.1 = y.6.1 ∧ y.6.2 = y.6.2 ∧ y.6.3 = y.6.3 ∧ y.6.4 = y.6.4 ∧ y.6.5 = y.6.5 ∧ y.7 = y.7 ∧ y.8 = y.8 ∧ y.9 = y.9 ∧ y.10 = y.10 ∧ RowD.mk (Ty.int IntKind.u8) y.11 = RowD.mk (Ty.int IntKind.u8) y.11 ∧ y.12 = y.12 ∧ RowD.mk (Ty.int IntKind.i64) y.13 = RowD.mk (Ty.int IntKind.i64) y.13 ∧ RowD.mk (Ty.int IntKind.i64) y.14 = RowD.mk (Ty.int IntKind.i64) y.14 ∧ y.15 = y.15 ∧ RowD.mk (Ty.int IntKind.i64) y.16 = RowD.mk (Ty.int IntKind.i64) y.16 ∧ y.17 = y.17 ∧ y.18 = y.18 ∧ y.19 = y.19 ∧ y.20 = y.20 ∧ RowD.mk Ty.bool y.21 = RowD.mk Ty.bool y.21 ∧ y.22.1 = y.22.1 ∧ y.22.2.1 = y.22.2.1 ∧ y.23 = y.23 ∧ True) ∧ RowD.mk (Ty.int IntKind.u8) y.11 = RowD.mk (Ty.int IntKind.u8) y.11 ∧ RowD.mk (Ty.int IntKind.i64) y.13 = RowD.mk (Ty.int IntKind.i64) y.13 ∧ RowD.mk (Ty.int IntKind.i64) y.14 = RowD.mk (Ty.int IntKind.i64) y.14 ∧ RowD.mk (Ty.int IntKind.i64) y.16 = RowD.mk (Ty.int IntKind.i64) y.16 ∧ RowD.mk Ty.bool y.21 = RowD.mk Ty.bool y.21 ∧ RowD.mk (Ty.int IntKind.u8) u.11 = RowD.mk (Ty.int IntKind.u8) u.11 ∧ RowD.mk (Ty.int IntKind.i64) u.13 = RowD.mk (Ty.int IntKind.i64) u.13 ∧ RowD.mk (Ty.int IntKind.i64) u.14 = RowD.mk (Ty.int IntKind.i64) u.14 ∧ RowD.mk (Ty.int IntKind.i64) u.16 = RowD.mk (Ty.int IntKind.i64) u.16 ∧ RowD.mk Ty.bool u.21 = RowD.mk Ty.bool u.21 ∧ RowD.mk (Ty.int IntKind.u8) z.11 = RowD.mk (Ty.int IntKind.u8) z.11 ∧ RowD.mk (Ty.int IntKind.i64) z.13 = RowD.mk (Ty.int IntKind.i64) z.13 ∧ RowD.mk (Ty.int IntKind.i64) z.14 = RowD.mk (Ty.int IntKind.i64) z.14 ∧ RowD.mk (Ty.int IntKind.i64) (incN z.16 i) = RowD.mk (Ty.int IntKind.i64) (incN z.16 z.16.length) ∧ RowD.mk Ty.bool z.21 = RowD.mk Ty.bool z.21 ∧ RowD.mk (Ty.int IntKind.u8) v.11 = RowD.mk (Ty.int IntKind.u8) v.11 ∧ RowD.mk (Ty.int IntKind.i64) v.13 = RowD.mk (Ty.int IntKind.i64) v.13 ∧ RowD.mk (Ty.int IntKind.i64) v.14 = RowD.mk (Ty.int IntKind.i64) v.14 ∧ RowD.mk (Ty.int IntKind.i64) v.16 = RowD.mk (Ty.int IntKind.i64) v.16 ∧ RowD.mk Ty.bool v.21 = RowD.mk Ty.bool v.21 ∧ True))
  have hi : i ≤ z.Bowled.length := hi
  have hl := incN_len z.Bowled i
  refine ⟨fun h1 => ?_, fun h1 => ?_⟩
  · have h1 : i < z.Bowled.length := by simpa using h1
    have hw : IntKind.i64.wrap ((i : Int) + 1) = ((i + 1 : Nat) : Int) := by rw [wrap64 (by omega) (by omega)]; omega
    have hs : (incN z.Bowled i).set (i : Int).toNat (IntKind.i64.wrap ((incN z.Bowled i).getD (i : Int).toNat (dflt (.int .i64)) + 1)) = incN z.Bowled (i + 1) := incN_succ z.Bowled i h1
    refine ⟨⟨by omega, by rw [hl]; omega⟩, ⟨by omega, by rw [hl]; omega⟩, (by unfold invB; omega), by omega, ?_⟩
    simp only [hw, hs, and_self]
  · have h1 : z.Bowled.length ≤ i := by simpa using h1
    obtain rfl : i = z.Bowled.length := by omega
    simp only [and_self]
theorem loop15B1 (y : Innings) (u : Innings) (v : Innings) (z : Innings) (hz : z.Bowled.length ≤ 2000000) : LoopOK Try.prog Try.f15.ntmps (loopIn Try.f15 0 0) (loopSum ⟨[(560, 682)], [], 608⟩ (JB1 y u v z 0) (TB1 y u v z)) :=
  loop_by (cfg8OK (CtrsOK.nil) _) mixed (JB1 y u v z) (fun _ => rfl) (invB z) (fun i => z.Bowled.length - i) (fun _ _ => none) (fun _ _ _ _ _ h => by cases h) (TB1 y u v z) [(560, 682)] [] 0 (Nat.zero_le _) L15 (fun i hi => step15B1 y u v z hz i hi)
theorem step15F1 (y : Innings) (u : Innings) (v : Innings) (z : Innings) (hz : z.Before.length ≤ 2000000) (i : Nat) (hi : invF z i) : (stepObl (JF1 y u v z) (invF z) (fun i => z.Before.length - i) i (TF1 y u v z) (evCode (cf8 [] Try.f15) (fun _ => none) (loopIn Try.f15 0 1) (JF1 y u v z i)) (L15 i)).1 := by
  refine cast (by kernel_rfl) (?_ : (decide ((↑i : Int) < (↑z.14.length : Int)) = true → ((0 : Int) ≤ (↑i : Int) ∧ (↑i : Int) < (↑(incN z.14 i).length : Int)) ∧ ((0 : Int) ≤ (↑i : Int) ∧ (↑i : Int) < (↑(incN z.14 i).length : Int)) ∧ invF z (i + (1 : Nat)) ∧ z.14.length - (i + (1 : Nat)) < z.14.length - i ∧ ((↑z.14.length : Int) = (↑z.14.length : Int) ∧ IntKind.i64.wrap ((↑i : Int) + (1 : Int)) = (↑(i + (1 : Nat)) : Int) ∧ True ∧ True ∧ True ∧ (3 : Int) = (3 : Int) ∧ (1 : Int) = (1 : Int) ∧ True ∧ True) ∧ (z.1 = z.1 ∧ z.2 = z.2 ∧ z.3 = z.3 ∧ z.4 = z.4 ∧ z.5 = z.5 ∧ z.6.1 = z.6.1 ∧ z.6.2 = z.6.2 ∧ z.6.3 = z.6.3 ∧ z.6.4 = z.6.4 ∧ z.6.5 = z.6.5 ∧ z.7 = z.7 ∧ z.8 = z.8 ∧ z.9 = z.9 ∧ z.10 = z.10 ∧ True ∧ z.12 = z.12 ∧ True ∧ True ∧ z.15 = z.15 ∧ True ∧ z.17 = z.17 ∧ z.18 = z.18 ∧ z.19 = z.19 ∧ z.20 = z.20 ∧ True ∧ z.22.1 = z.22.1 ∧ z.22.2.1 = z.22.2.1 ∧ z.23 = z.23 ∧ True) ∧ (u.1 = u.1 ∧ u.2 = u.2 ∧ u.3 = u.3 ∧ u.4 = u.4 ∧ u.5 = u.5 ∧ u.6.1 = u.6.1 ∧ u.6.2 = u.6.2 ∧ u.6.3 = u.6.3 ∧ u.6.4 = u.6.4 ∧ u.6.5 = u.6.5 ∧ u.7 = u.7 ∧ u.8 = u.8 ∧ u.9 = u.9 ∧ u.10 = u.10 ∧ True ∧ u.12 = u.12 ∧ True ∧ True ∧ u.15 = u.15 ∧ True ∧ u.17 = u.17 ∧ u.18 = u.18 ∧ u.19 = u.19 ∧ u.20 = u.20 ∧ True ∧ u.22.1 = u.22.1 ∧ u.22.2.1 = u.22.2.1 ∧ u.23 = u.23 ∧ z.1 = z.1 ∧ z.2 = z.2 ∧ z.3 = z.3 ∧ z.4 = z.4 ∧ z.5 = z.5 ∧ z.6.1 = z.6.1 ∧ z.6.2 = z.6.2 ∧ z.6.3 = z.6.3 ∧ z.6.4 = z.6.4 ∧ z.6.5 = z.6.5 ∧ z.7 = z.7 ∧ z.8 = z.8 ∧ z.9 = z.9 ∧ z.10 = z.10 ∧ True ∧ z.12 = z.12 ∧ True ∧ True ∧ z.15 = z.15 ∧ True ∧ z.17 = z.17 ∧ z.18 = z.18 ∧ z.19 = z.19 ∧ z.20 = z.20 ∧ True ∧ z.22.1 = z.22.1 ∧ z.22.2.1 = z.22.2.1 ∧ z.23 = z.23 ∧ v.1 = v.1 ∧ v.2 = v.2 ∧ v.3 = v.3 ∧ v.4 = v.4 ∧ v.5 = v.5 ∧ v.6.1 = v.6.1 ∧ v.6.2 = v.6.2 ∧ v.6.3 = v.6.3 ∧ v.6.4 = v.6.4 ∧ v.6.5 = v.6.5 ∧ v.7 = v.7 ∧ v.8 = v.8 ∧ v.9 = v.9 ∧ v.10 = v.10 ∧ True ∧ v.12 = v.12 ∧ True ∧ True ∧ v.15 = v.15 ∧ True ∧ v.17 = v.17 ∧ v.18 = v.18 ∧ v.19 = v.19 ∧ v.20 = v.20 ∧ True ∧ v.22.1 = v.22.1 ∧ v.22.2.1 = v.22.2.1 ∧ v.23 = v.23 ∧ True) ∧ (y.1 = y.1 ∧ y.2 = y.2 ∧ y.3 = y.3 ∧ y.4 = y.4 ∧ y.5 = y.5 ∧ y.6.1 = y.6.1 ∧ y.6.2 = y.6.2 ∧ y.6.3 = y.6.3 ∧ y.6.4 = y.6.4 ∧ y.6.5 = y.6.5 ∧ y.7 = y.7 ∧ y.8 = y.8 ∧ y.9 = y.9 ∧ y.10 = y.10 ∧ True ∧ y.12 = y.12 ∧ True ∧ True ∧ y.15 = y.15 ∧ True ∧ y.17 = y.17 ∧ y.18 = y.18 ∧ y.19 = y.19 ∧ y.20 = y.20 ∧ True ∧ y.22.1 = y.22.1 ∧ y.22.2.1 = y.22.2.1 ∧ y.23 = y.23 ∧ True) ∧ (y.1 = y.1 ∧ y.2 = y.2 ∧ y.3 = y.3 ∧ y.4 = y.4 ∧ y.5 = y.5 ∧ y.6.1 = y.6.1 ∧ y.6.2 = y.6.2 ∧ y.6.3 = y.6.3 ∧ y.6.4 = y.6.4 ∧ y.6.5 = y.6.5 ∧ y.7 = y.7 ∧ y.8 = y.8 ∧ y.9 = y.9 ∧ y.10 = y.10 ∧ RowD.mk (Ty.int IntKind.u8) y.11 = RowD.mk (Ty.int IntKind.u8) y.11 ∧ y.12 = y.12 ∧ RowD.mk (Ty.int IntKind.i64) y.13 = RowD.mk (Ty.int IntKind.i64) y.13 ∧ RowD.mk (Ty.int IntKind.i64) y.14 = RowD.mk (Ty.int IntKind.i64) y.14 ∧ y.15 = y.15 ∧ RowD.mk (Ty.int IntKind.i64) y.16 = RowD.mk (Ty.int IntKind.i64) y.16 ∧ y.17 = y.17 ∧ y.18 = y.18 ∧ y.19 = y.19 ∧ y.20 = y.20 ∧ RowD.mk Ty.bool y.21 = RowD.mk Ty.bool y.21 ∧ y.22.1 = y.22.1 ∧ y.22.2.1 = y.22.2.1 ∧ y.23 = y.23 ∧ True) ∧ RowD.mk (Ty.int IntKind.u8) y.11 = RowD.mk (Ty.int IntKind.u8) y.11 ∧ RowD.mk (Ty.int IntKind.i64) y.13 = RowD.mk (Ty.int IntKind.i64) y.13 ∧ RowD.mk (Ty.int IntKind.i64) y.14 = RowD.mk (Ty.int IntKind.i64) y.14 ∧ RowD.mk (Ty.int IntKind.i64) y.16 = RowD.mk (Ty.int IntKind.i64) y.16 ∧ RowD.mk Ty.bool y.21 = RowD.mk Ty.bool y.21 ∧ RowD.mk (Ty.int IntKind.u8) u.11 = RowD.mk (Ty.int IntKind.u8) u.11 ∧ RowD.mk (Ty.int IntKind.i64) u.13 = RowD.mk (Ty.int IntKind.i64) u.13 ∧ RowD.mk (Ty.int IntKind.i64) u.14 = RowD.mk (Ty.int IntKind.i64) u.14 ∧ RowD.mk (Ty.int IntKind.i64) u.16 = RowD.mk (Ty.int IntKind.i64) u.16 ∧ RowD.mk Ty.bool u.21 = RowD.mk Ty.bool u.21 ∧ RowD.mk (Ty.int IntKind.u8) z.11 = RowD.mk (Ty.int IntKind.u8) z.11 ∧ RowD.mk (Ty.int IntKind.i64) z.13 = RowD.mk (Ty.int IntKind.i64) z.13 ∧ RowD.mk (Ty.int IntKind.i64) ((incN z.14 i).set (↑i : Int).toNat (IntKind.i64.wrap ((incN z.14 i).getD (↑i : Int).toNat (dflt (Ty.int IntKind.i64)) + (1 : Int)))) = RowD.mk (Ty.int IntKind.i64) (incN z.14 (i + (1 : Nat))) ∧ RowD.mk (Ty.int IntKind.i64) z.16 = RowD.mk (Ty.int IntKind.i64) z.16 ∧ RowD.mk Ty.bool z.21 = RowD.mk Ty.bool z.21 ∧ RowD.mk (Ty.int IntKind.u8) v.11 = RowD.mk (Ty.int IntKind.u8) v.11 ∧ RowD.mk (Ty.int IntKind.i64) v.13 = RowD.mk (Ty.int IntKind.i64) v.13 ∧ RowD.mk (Ty.int IntKind.i64) v.14 = RowD.mk (Ty.int IntKind.i64) v.14 ∧ RowD.mk (Ty.int IntKind.i64) v.16 = RowD.mk (Ty.int IntKind.i64) v.16 ∧ RowD.mk Ty.bool v.21 = RowD.mk Ty.bool v.21 ∧ True) ∧ (decide ((↑i : Int) < (↑z.14.length : Int)) = false → True ∧ (True ∧ True ∧ True ∧ (3 : Int) = (3 : Int) ∧ (1 : Int) = (1 : Int) ∧ True ∧ True) ∧ (z.1 = z.1 ∧ z.2 = z.2 ∧ z.3 = z.3 ∧ z.4 = z.4 ∧ z.5 = z.5 ∧ z.6.1 = z.6.1 ∧ z.6.2 = z.6.2 ∧ z.6.3 = z.6.3 ∧ z.6.4 = z.6.4 ∧ z.6.5 = z.6.5 ∧ z.7 = z.7 ∧ z.8 = z.8 ∧ z.9 = z.9 ∧ z.10 = z.10 ∧ True ∧ z.12 = z.12 ∧ True ∧ True ∧ z.15 = z.15 ∧ True ∧ z.17 = z.17 ∧ z.18 = z.18 ∧ z.19 = z.19 ∧ z.20 = z.20 ∧ True ∧ z.22.1 = z.22.1 ∧ z.22.2.1 = z.22.2.1 ∧ z.23 = z.23 ∧ True) ∧ (u.1 = u.1 ∧ u.2 = u.2 ∧ u.3 = u.3 ∧ u.4 = u.4 ∧ u.5 = u.5 ∧ u.6.1 = u.6.1 ∧ u.6.2 = u.6.2 ∧ u.6.3 = u.6.3 ∧ u.6.4 = u.6.4 ∧ u.6.5 = u.6.5 ∧ u.7 = u.7 ∧ u.8 = u.8 ∧ u.9 = u.9 ∧ u.10 = u.10 ∧ True ∧ u.12 = u.12 ∧ True ∧ True ∧ u.15 = u.15 ∧ True ∧ u.17 = u.17 ∧ u.18 = u.18 ∧ u.19 = u.19 ∧ u.20 = u.20 ∧ True ∧ u.22.1 = u.22.1 ∧ u.22.2.1 = u.22.2.1 ∧ u.23 = u.23 ∧ z.1 = z.1 ∧ z.2 = z.2 ∧ z.3 = z.3 ∧ z.4 = z.4 ∧ z.5 = z.5 ∧ z.6.1 = z.6.1 ∧ z.6.2 = z.6.2 ∧ z.6.3 = z.6.3 ∧ z.6.4 = z.6.4 ∧ z.6.5 = z.6.5 ∧ z.7 = z.7 ∧ z.8 = z.8 ∧ z.9 = z.9 ∧ z.10 = z.10 ∧ True ∧ z.12 = z.12 ∧ True ∧ True ∧ z.15 = z.15 ∧ True ∧ z.17 = z.17 ∧ z.18 = z.18 ∧ z.19 = z.19 ∧ z.20 = z.20 ∧ True ∧ z.22.1 = z.22.1 ∧ z.22.2.1 = z.22.2.1 ∧ z.23 = z.23 ∧ v.1 = v.1 ∧ v.2 = v.2 ∧ v.3 = v.3 ∧ v.4 = v.4 ∧ v.5 = v.5 ∧ v.6.1 = v.6.1 ∧ v.6.2 = v.6.2 ∧ v.6.3 = v.6.3 ∧ v.6.4 = v.6.4 ∧ v.6.5 = v.6.5 ∧ v.7 = v.7 ∧ v.8 = v.8 ∧ v.9 = v.9 ∧ v.10 = v.10 ∧ True ∧ v.12 = v.12 ∧ True ∧ True ∧ v.15 = v.15 ∧ True ∧ v.17 = v.17 ∧ v.18 = v.18 ∧ v.19 = v.19 ∧ v.20 = v.20 ∧ True ∧ v.22.1 = v.22.1 ∧ v.22.2.1 = v.22.2.1 ∧ v.23 = v.23 ∧ True) ∧ (y.1 = y.1 ∧ y.2 = y.2 ∧ y.3 = y.3 ∧ y.4 = y.4 ∧ y.5 = y.5 ∧ y.6.1 = y.6.1 ∧ y.6.2 = y.6.2 ∧ y.6.3 = y.6.3 ∧ y.6.4 = y.6.4 ∧ y.6.5 = y.6.5 ∧ y.7 = y.7 ∧ y.8 = y.8 ∧ y.9 = y.9 ∧ y.10 = y.10 ∧ True ∧ y.12 = y.12 ∧ True ∧ True ∧ y.15 = y.15 ∧ True ∧ y.17 = y.17 ∧ y.18 = y.18 ∧ y.19 = y.19 ∧ y.20 = y.20 ∧ True ∧ y.22.1 = y.22.1 ∧ y.22.2.1 = y.22.2.1 ∧ y.23 = y.23 ∧ True) ∧ (y.1 = y.1 ∧ y.2 = y.2 ∧ y.3 = y.3 ∧ y.4 = y.4 ∧ y.5 = y.5 ∧ y.6.1 = y.6.1 ∧ y.6.2 = y.6.2 ∧ y.6.3 = y.6.3 ∧ y.6.4 = y.6.4 ∧ y.6.5 = y.6.5 ∧ y.7 = y.7 ∧ y.8 = y.8 ∧ y.9 = y.9 ∧ y.10 = y.10 ∧ RowD.mk (Ty.int IntKind.u8) y.11 = RowD.mk (Ty.int IntKind.u8) y.11 ∧ y.12 = y.12 ∧ RowD.mk (Ty.int IntKind.i64) y.13 = RowD.mk (Ty.int IntKind.i64) y.13 ∧ RowD.mk (Ty.int IntKind.i64) y.14 = RowD.mk (Ty.int IntKind.i64) y.14 ∧ y.15 = y.15 ∧ RowD.mk (Ty.int IntKind.i64) y.16 = RowD.mk (Ty.int IntKind.i64) y.16 ∧ y.17 = y.17 ∧ y.18 = y.18 ∧ y.19 = y.19 ∧ y.20 = y.20 ∧ RowD.mk Ty.bool y.21 = RowD.mk Ty.bool y.21 ∧ y.22.1 = y.22.1 ∧ y.22.2.1 = y.22.2.1 ∧ y.23 = y.23 ∧ True) ∧ RowD.mk (Ty.int IntKind.u8) y.11 = RowD.mk (Ty.int IntKind.u8) y.11 ∧ RowD.mk (Ty.int IntKind.i64) y.13 = RowD.mk (Ty.int IntKind.i64) y.13 ∧ RowD.mk (Ty.int IntKind.i64) y.14 = RowD.mk (Ty.int IntKind.i64) y.14 ∧ RowD.mk (Ty.int IntKind.i64) y.16 = RowD.mk (Ty.int IntKind.i64) y.16 ∧ RowD.mk Ty.bool y.21 = RowD.mk Ty.bool y.21 ∧ RowD.mk (Ty.int IntKind.u8) u.11 = RowD.mk (Ty.int IntKind.u8) u.11 ∧ RowD.mk (Ty.int IntKind.i64) u.13 = RowD.mk (Ty.int IntKind.i64) u.13 ∧ RowD.mk (Ty.int IntKind.i64) u.14 = RowD.mk (Ty.int IntKind.i64) u.14 ∧ RowD.mk (Ty.int IntKind.i64) u.16 = RowD.mk (Ty.int IntKind.i64) u.16 ∧ RowD.mk Ty.bool u.21 = RowD.mk Ty.bool u.21 ∧ RowD.mk (Ty.int IntKind.u8) z.11 = RowD.mk (Ty.int IntKind.u8) z.11 ∧ RowD.mk (Ty.int IntKind.i64) z.13 = RowD.mk (Ty.int IntKind.i64) z.13 ∧ RowD.mk (Ty.int IntKind.i64) (incN z.14 i) = RowD.mk (Ty.int IntKind.i64) (incN z.14 z.14.length) ∧ RowD.mk (Ty.int IntKind.i64) z.16 = RowD.mk (Ty.int IntKind.i64) z.16 ∧ RowD.mk Ty.bool z.21 = RowD.mk Ty.bool z.21 ∧ RowD.mk (Ty.int IntKind.u8) v.11 = RowD.mk (Ty.int IntKind.u8) v.11 ∧ RowD.mk (Ty.int IntKind.i64) v.13 = RowD.mk (Ty.int IntKind.i64) v.13 ∧ RowD.mk (Ty.int IntKind.i64) v.14 = RowD.mk (Ty.int IntKind.i64) v.14 ∧ RowD.mk (Ty.int IntKind.i64) v.16 = RowD.mk (Ty.int IntKind.i64) v.16 ∧ RowD.mk Ty.bool v.21 = RowD.mk Ty.bool v.21 ∧ True))
  have hi : i ≤ z.Before.length := hi
  have hl := incN_len z.Before i
  refine ⟨fun h1 => ?_, fun h1 => ?_⟩
  · have h1 : i < z.Before.length := by simpa using h1
    have hw : IntKind.i64.wrap ((i : Int) + 1) = ((i + 1 : Nat) : Int) := by rw [wrap64 (by omega) (by omega)]; omega
    have hs : (incN z.Before i).set (i : Int).toNat (IntKind.i64.wrap ((incN z.Before i).getD (i : Int).toNat (dflt (.int .i64)) + 1)) = incN z.Before (i + 1) := incN_succ z.Before i h1
    refine ⟨⟨by omega, by rw [hl]; omega⟩, ⟨by omega, by rw [hl]; omega⟩, (by unfold invF; omega), by omega, ?_⟩
    simp only [hw, hs, and_self]
  · have h1 : z.Before.length ≤ i := by simpa using h1
    obtain rfl : i = z.Before.length := by omega
    simp only [and_self]
theorem loop15F1 (y : Innings) (u : Innings) (v : Innings) (z : Innings) (hz : z.Before.length ≤ 2000000) : LoopOK Try.prog Try.f15.ntmps (loopIn Try.f15 0 1) (loopSum ⟨[(560, 560)], [], 608⟩ (JF1 y u v z 0) (TF1 y u v z)) :=
  loop_by (cfg8OK (CtrsOK.nil) _) mixed (JF1 y u v z) (fun _ => rfl) (invF z) (fun i => z.Before.length - i) (fun _ _ => none) (fun _ _ _ _ _ h => by cases h) (TF1 y u v z) [(560, 560)] [] 0 (Nat.zero_le _) L15 (fun i hi => step15F1 y u v z hz i hi)
theorem step15B2 (y : Innings) (u : Innings) (v : Innings) (z : Innings) (hz : z.Bowled.length ≤ 2000000) (i : Nat) (hi : invB z i) : (stepObl (JB2 y u v z) (invB z) (fun i => z.Bowled.length - i) i (TB2 y u v z) (evCode (cf8 [] Try.f15) (fun _ => none) (loopIn Try.f15 0 0) (JB2 y u v z i)) (L15 i)).1 := by
  refine cast (by kernel_rfl) (?_ : (decide ((↑i : Int) < (↑z.16.length : Int)) = true → ((0 : Int) ≤ (↑i : Int) ∧ (↑i : Int) < (↑(incN z.16 i).length : Int)) ∧ ((0 : Int) ≤ (↑i : Int) ∧ (↑i : Int) < (↑(incN z.16 i).length : Int)) ∧ invB z (i + (1 : Nat)) ∧ z.16.length - (i + (1 : Nat)) < z.16.length - i ∧ ((↑z.16.length : Int) = (↑z.16.length : Int) ∧ IntKind.i64.wrap ((↑i : Int) + (1 : Int)) = (↑(i + (1 : Nat)) : Int) ∧ True ∧ True ∧ True ∧ (3 : Int) = (3 : Int) ∧ (2 : Int) = (2 : Int) ∧ True ∧ True) ∧ (z.1 = z.1 ∧ z.2 = z.2 ∧ z.3 = z.3 ∧ z.4 = z.4 ∧ z.5 = z.5 ∧ z.6.1 = z.6.1 ∧ z.6.2 = z.6.2 ∧ z.6.3 = z.6.3 ∧ z.6.4 = z.6.4 ∧ z.6.5 = z.6.5 ∧ z.7 = z.7 ∧ z.8 = z.8 ∧ z.9 = z.9 ∧ z.10 = z.10 ∧ True ∧ z.12 = z.12 ∧ True ∧ True ∧ z.15 = z.15 ∧ True ∧ z.17 = z.17 ∧ z.18 = z.18 ∧ z.19 = z.19 ∧ z.20 = z.20 ∧ True ∧ z.22.1 = z.22.1 ∧ z.22.2.1 = z.22.2.1 ∧ z.23 = z.23 ∧ True) ∧ (u.1 = u.1 ∧ u.2 = u.2 ∧ u.3 = u.3 ∧ u.4 = u.4 ∧ u.5 = u.5 ∧ u.6.1 = u.6.1 ∧ u.6.2 = u.6.2 ∧ u.6.3 = u.6.3 ∧ u.6.4 = u.6.4 ∧ u.6.5 = u.6.5 ∧ u.7 = u.7 ∧ u.8 = u.8 ∧ u.9 = u.9 ∧ u.10 = u.10 ∧ True ∧ u.12 = u.12 ∧ True ∧ True ∧ u.15 = u.15 ∧ True ∧ u.17 = u.17 ∧ u.18 = u.18 ∧ u.19 = u.19 ∧ u.20 = u.20 ∧ True ∧ u.22.1 = u.22.1 ∧ u.22.2.1 = u.22.2.1 ∧ u.23 = u.23 ∧ v.1 = v.1 ∧ v.2 = v.2 ∧ v.3 = v.3 ∧ v.4 = v.4 ∧ v.5 = v.5 ∧ v.6.1 = v.6.1 ∧ v.6.2 = v.6.2 ∧ v.6.3 = v.6.3 ∧ v.6.4 = v.6.4 ∧ v.6.5 = v.6.5 ∧ v.7 = v.7 ∧ v.8 = v.8 ∧ v.9 = v.9 ∧ v.10 = v.10 ∧ True ∧ v.12 = v.12 ∧ True ∧ True ∧ v.15 = v.15 ∧ True ∧ v.17 = v.17 ∧ v.18 = v.18 ∧ v.19 = v.19 ∧ v.20 = v.20 ∧ True ∧ v.22.1 = v.22.1 ∧ v.22.2.1 = v.22.2.1 ∧ v.23 = v.23 ∧ z.1 = z.1 ∧ z.2 = z.2 ∧ z.3 = z.3 ∧ z.4 = z.4 ∧ z.5 = z.5 ∧ z.6.1 = z.6.1 ∧ z.6.2 = z.6.2 ∧ z.6.3 = z.6.3 ∧ z.6.4 = z.6.4 ∧ z.6.5 = z.6.5 ∧ z.7 = z.7 ∧ z.8 = z.8 ∧ z.9 = z.9 ∧ z.10 = z.10 ∧ True ∧ z.12 = z.12 ∧ True ∧ True ∧ z.15 = z.15 ∧ True ∧ z.17 = z.17 ∧ z.18 = z.18 ∧ z.19 = z.19 ∧ z.20 = z.20 ∧ True ∧ z.22.1 = z.22.1 ∧ z.22.2.1 = z.22.2.1 ∧ z.23 = z.23 ∧ True) ∧ (y.1 = y.1 ∧ y.2 = y.2 ∧ y.3 = y.3 ∧ y.4 = y.4 ∧ y.5 = y.5 ∧ y.6.1 = y.6.1 ∧ y.6.2 = y.6.2 ∧ y.6.3 = y.6.3 ∧ y.6.4 = y.6.4 ∧ y.6.5 = y.6.5 ∧ y.7 = y.7 ∧ y.8 = y.8 ∧ y.9 = y.9 ∧ y.10 = y.10 ∧ True ∧ y.12 = y.12 ∧ True ∧ True ∧ y.15 = y.15 ∧ True ∧ y.17 = y.17 ∧ y.18 = y.18 ∧ y.19 = y.19 ∧ y.20 = y.20 ∧ True ∧ y.22.1 = y.22.1 ∧ y.22.2.1 = y.22.2.1 ∧ y.23 = y.23 ∧ True) ∧ (y.1 = y.1 ∧ y.2 = y.2 ∧ y.3 = y.3 ∧ y.4 = y.4 ∧ y.5 = y.5 ∧ y.6.1 = y.6.1 ∧ y.6.2 = y.6.2 ∧ y.6.3 = y.6.3 ∧ y.6.4 = y.6.4 ∧ y.6.5 = y.6.5 ∧ y.7 = y.7 ∧ y.8 = y.8 ∧ y.9 = y.9 ∧ y.10 = y.10 ∧ RowD.mk (Ty.int IntKind.u8) y.11 = RowD.mk (Ty.int IntKind.u8) y.11 ∧ y.12 = y.12 ∧ RowD.mk (Ty.int IntKind.i64) y.13 = RowD.mk (Ty.int IntKind.i64) y.13 ∧ RowD.mk (Ty.int IntKind.i64) y.14 = RowD.mk (Ty.int IntKind.i64) y.14 ∧ y.15 = y.15 ∧ RowD.mk (Ty.int IntKind.i64) y.16 = RowD.mk (Ty.int IntKind.i64) y.16 ∧ y.17 = y.17 ∧ y.18 = y.18 ∧ y.19 = y.19 ∧ y.20 = y.20 ∧ RowD.mk Ty.bool y.21 = RowD.mk Ty.bool y.21 ∧ y.22.1 = y.22.1 ∧ y.22.2.1 = y.22.2.1 ∧ y.23 = y.23 ∧ True) ∧ RowD.mk (Ty.int IntKind.u8) y.11 = RowD.mk (Ty.int IntKind.u8) y.11 ∧ RowD.mk (Ty.int IntKind.i64) y.13 = RowD.mk (Ty.int IntKind.i64) y.13 ∧ RowD.mk (Ty.int IntKind.i64) y.14 = RowD.mk (Ty.int IntKind.i64) y.14 ∧ RowD.mk (Ty.int IntKind.i64) y.16 = RowD.mk (Ty.int IntKind.i64) y.16 ∧ RowD.mk Ty.bool y.21 = RowD.mk Ty.bool y.21 ∧ RowD.mk (Ty.int IntKind.u8) u.11 = RowD.mk (Ty.int IntKind.u8) u.11 ∧ RowD.mk (Ty.int IntKind.i64) u.13 = RowD.mk (Ty.int IntKind.i64) u.13 ∧ RowD.mk (Ty.int IntKind.i64) u.14 = RowD.mk (Ty.int IntKind.i64) u.14 ∧ RowD.mk (Ty.int IntKind.i64) u.16 = RowD.mk (Ty.int IntKind.i64) u.16 ∧ RowD.mk Ty.bool u.21 = RowD.mk Ty.bool u.21 ∧ RowD.mk (Ty.int IntKind.u8) v.11 = RowD.mk (Ty.int IntKind.u8) v.11 ∧ RowD.mk (Ty.int IntKind.i64) v.13 = RowD.mk (Ty.int IntKind.i64) v.13 ∧ RowD.mk (Ty.int IntKind.i64) v.14 = RowD.mk (Ty.int IntKind.i64) v.14 ∧ RowD.mk (Ty.int IntKind.i64) v.16 = RowD.mk (Ty.int IntKind.i64) v.16 ∧ RowD.mk Ty.bool v.21 = RowD.mk Ty.bool v.21 ∧ RowD.mk (Ty.int IntKind.u8) z.11 = RowD.mk (Ty.int IntKind.u8) z.11 ∧ RowD.mk (Ty.int IntKind.i64) z.13 = RowD.mk (Ty.int IntKind.i64) z.13 ∧ RowD.mk (Ty.int IntKind.i64) z.14 = RowD.mk (Ty.int IntKind.i64) z.14 ∧ RowD.mk (Ty.int IntKind.i64) ((incN z.16 i).set (↑i : Int).toNat (IntKind.i64.wrap ((incN z.16 i).getD (↑i : Int).toNat (dflt (Ty.int IntKind.i64)) + (1 : Int)))) = RowD.mk (Ty.int IntKind.i64) (incN z.16 (i + (1 : Nat))) ∧ RowD.mk Ty.bool z.21 = RowD.mk Ty.bool z.21 ∧ True) ∧ (decide ((↑i : Int) < (↑z.16.length : Int)) = false → True ∧ (True ∧ True ∧ True ∧ (3 : Int) = (3 : Int) ∧ (2 : Int) = (2 : Int) ∧ True ∧ True) ∧ (z.1 = z.1 ∧ z.2 = z.2 ∧ z.3 = z.3 ∧ z.4 = z.4 ∧ z.5 = z.5 ∧ z.6.1 = z.6.1 ∧ z.6.2 = z.6.2 ∧ z.6.3 = z.6.3 ∧ z.6.4 = z.6.4 ∧ z.6.5 = z.6.5 ∧ z.7 = z.7 ∧ z.8 = z.8 ∧ z.9 = z.9 ∧ z.10 = z.10 ∧ True ∧ z.12 = z.12 ∧ True ∧ True ∧ z.15 = z.15 ∧ True ∧ z.17 = z.17 ∧ z.18 = z.18 ∧ z.19 = z.19 ∧ z.20 = z.20 ∧ True ∧ z.22.1 = z.22.1 ∧ z.22.2.1 = z.22.2.1 ∧ z.23 = z.23 ∧ True) ∧ (u.1 = u.1 ∧ u.2 = u.2 ∧ u.3 = u.3 ∧ u.4 = u.4 ∧ u.5 = u.5 ∧ u.6.1 = u.6.1 ∧ u.6.2 = u.6.2 ∧ u.6.3 = u.6.3 ∧ u.6.4 = u.6.4 ∧ u.6.5 = u.6.5 ∧ u.7 = u.7 ∧ u.8 = u.8 ∧ u.9 = u.9 ∧ u.10 = u.10 ∧ True ∧ u.12 = u.12 ∧ True ∧ True ∧ u.15 = u.15 ∧ True ∧ u.17 = u.17 ∧ u.18 = u.18 ∧ u.19 = u.19 ∧ u.20 = u.20 ∧ True ∧ u.22.1 = u.22.1 ∧ u.22.2.1 = u.22.2.1 ∧ u.23 = u.23 ∧ v.1 = v.1 ∧ v.2 = v.2 ∧ v.3 = v.3 ∧ v.4 = v.4 ∧ v.5 = v.5 ∧ v.6.1 = v.6.1 ∧ v.6.2 = v.6.2 ∧ v.6.3 = v.6.3 ∧ v.6.4 = v.6.4 ∧ v.6.5 = v.6.5 ∧ v.7 = v.7 ∧ v.8 = v.8 ∧ v.9 = v.9 ∧ v.10 = v.10 ∧ True ∧ v.12 = v.12 ∧ True ∧ True ∧ v.15 = v.15 ∧ True ∧ v.17 = v.17 ∧ v.18 = v.18 ∧ v.19 = v.19 ∧ v.20 = v.20 ∧ True ∧ v.22.1 = v.22.1 ∧ v.22.2.1 = v.22.2.1 ∧ v.23 = v.23 ∧ z.1 = z.1 ∧ z.2 = z.2 ∧ z.3 = z.3 ∧ z.4 = z.4 ∧ z.5 = z.5 ∧ z.6.1 = z.6.1 ∧ z.6.2 = z.6.2 ∧ z.6.3 = z.6.3 ∧ z.6.4 = z.6.4 ∧ z.6.5 = z.6.5 ∧ z.7 = z.7 ∧ z.8 = z.8 ∧ z.9 = z.9 ∧ z.10 = z.10 ∧ True ∧ z.12 = z.12 ∧ True ∧ True ∧ z.15 = z.15 ∧ True ∧ z.17 = z.17 ∧ z.18 = z.18 ∧ z.19 = z.19 ∧ z.20 = z.20 ∧ True ∧ z.22.1 = z.22.1 ∧ z.22.2.1 = z.22.2.1 ∧ z.23 = z.23 ∧ True) ∧ (y.1 = y.1 ∧ y.2 = y.2 ∧ y.3 = y.3 ∧ y.4 = y.4 ∧ y.5 = y.5 ∧ y.6.1 = y.6.1 ∧ y.6.2 = y.6.2 ∧ y.6.3 = y.6.3 ∧ y.6.4 = y.6.4 ∧ y.6.5 = y.6.5 ∧ y.7 = y.7 ∧ y.8 = y.8 ∧ y.9 = y.9 ∧ y.10 = y.10 ∧ True ∧ y.12 = y.12 ∧ True ∧ True ∧ y.15 = y.15 ∧ True ∧ y.17 = y.17 ∧ y.18 = y.18 ∧ y.19 = y.19 ∧ y.20 = y.20 ∧ True ∧ y.22.1 = y.22.1 ∧ y.22.2.1 = y.22.2.1 ∧ y.23 = y.23 ∧ True) ∧ (y.1 = y.1 ∧ y.2 = y.2 ∧ y.3 = y.3 ∧ y.4 = y.4 ∧ y.5 = y.5 ∧ y.6.1 = y.6.1 ∧ y.6.2 = y.6.2 ∧ y.6.3 = y.6.3 ∧ y.6.4 = y.6.4 ∧ y.6.5 = y.6.5 ∧ y.7 = y.7 ∧ y.8 = y.8 ∧ y.9 = y.9 ∧ y.10 = y.10 ∧ RowD.mk (Ty.int IntKind.u8) y.11 = RowD.mk (Ty.int IntKind.u8) y.11 ∧ y.12 = y.12 ∧ RowD.mk (Ty.int IntKind.i64) y.13 = RowD.mk (Ty.int IntKind.i64) y.13 ∧ RowD.mk (Ty.int IntKind.i64) y.14 = RowD.mk (Ty.int IntKind.i64) y.14 ∧ y.15 = y.15 ∧ RowD.mk (Ty.int IntKind.i64) y.16 = RowD.mk (Ty.int IntKind.i64) y.16 ∧ y.17 = y.17 ∧ y.18 = y.18 ∧ y.19 = y.19 ∧ y.20 = y.20 ∧ RowD.mk Ty.bool y.21 = RowD.mk Ty.bool y.21 ∧ y.22.1 = y.22.1 ∧ y.22.2.1 = y.22.2.1 ∧ y.23 = y.23 ∧ True) ∧ RowD.mk (Ty.int IntKind.u8) y.11 = RowD.mk (Ty.int IntKind.u8) y.11 ∧ RowD.mk (Ty.int IntKind.i64) y.13 = RowD.mk (Ty.int IntKind.i64) y.13 ∧ RowD.mk (Ty.int IntKind.i64) y.14 = RowD.mk (Ty.int IntKind.i64) y.14 ∧ RowD.mk (Ty.int IntKind.i64) y.16 = RowD.mk (Ty.int IntKind.i64) y.16 ∧ RowD.mk Ty.bool y.21 = RowD.mk Ty.bool y.21 ∧ RowD.mk (Ty.int IntKind.u8) u.11 = RowD.mk (Ty.int IntKind.u8) u.11 ∧ RowD.mk (Ty.int IntKind.i64) u.13 = RowD.mk (Ty.int IntKind.i64) u.13 ∧ RowD.mk (Ty.int IntKind.i64) u.14 = RowD.mk (Ty.int IntKind.i64) u.14 ∧ RowD.mk (Ty.int IntKind.i64) u.16 = RowD.mk (Ty.int IntKind.i64) u.16 ∧ RowD.mk Ty.bool u.21 = RowD.mk Ty.bool u.21 ∧ RowD.mk (Ty.int IntKind.u8) v.11 = RowD.mk (Ty.int IntKind.u8) v.11 ∧ RowD.mk (Ty.int IntKind.i64) v.13 = RowD.mk (Ty.int IntKind.i64) v.13 ∧ RowD.mk (Ty.int IntKind.i64) v.14 = RowD.mk (Ty.int IntKind.i64) v.14 ∧ RowD.mk (Ty.int IntKind.i64) v.16 = RowD.mk (Ty.int IntKind.i64) v.16 ∧ RowD.mk Ty.bool v.21 = RowD.mk Ty.bool v.21 ∧ RowD.mk (Ty.int IntKind.u8) z.11 = RowD.mk (Ty.int IntKind.u8) z.11 ∧ RowD.mk (Ty.int IntKind.i64) z.13 = RowD.mk (Ty.int IntKind.i64) z.13 ∧ RowD.mk (Ty.int IntKind.i64) z.14 = RowD.mk (Ty.int IntKind.i64) z.14 ∧ RowD.mk (Ty.int IntKind.i64) (incN z.16 i) = RowD.mk (Ty.int IntKind.i64) (incN z.16 z.16.length) ∧ RowD.mk Ty.bool z.21 = RowD.mk Ty.bool z.21 ∧ True))
  have hi : i ≤ z.Bowled.length := hi
  have hl := incN_len z.Bowled i
  refine ⟨fun h1 => ?_, fun h1 => ?_⟩
  · have h1 : i < z.Bowled.length := by simpa using h1
    have hw : IntKind.i64.wrap ((i : Int) + 1) = ((i + 1 : Nat) : Int) := by rw [wrap64 (by omega) (by omega)]; omega
    have hs : (incN z.Bowled i).set (i : Int).toNat (IntKind.i64.wrap ((incN z.Bowled i).getD (i : Int).toNat (dflt (.int .i64)) + 1)) = incN z.Bowled (i + 1) := incN_succ z.Bowled i h1
    refine ⟨⟨by omega, by rw [hl]; omega⟩, ⟨by omega, by rw [hl]; omega⟩, (by unfold invB; omega), by omega, ?_⟩
    simp only [hw, hs, and_self]
  · have h1 : z.Bowled.length ≤ i := by simpa using h1
    obtain rfl : i = z.Bowled.length := by omega
    simp only [and_self]
theorem loop15B2 (y : Innings) (u : Innings) (v : Innings) (z : Innings) (hz : z.Bowled.length ≤ 2000000) : LoopOK Try.prog Try.f15.ntmps (loopIn Try.f15 0 0) (loopSum ⟨[(560, 804)], [], 608⟩ (JB2 y u v z 0) (TB2 y u v z)) :=
  loop_by (cfg8OK (CtrsOK.nil) _) mixed (JB2 y u v z) (fun _ => rfl) (invB z) (fun i => z.Bowled.length - i) (fun _ _ => none) (fun _ _ _ _ _ h => by cases h) (TB2 y u v z) [(560, 804)] [] 0 (Nat.zero_le _) L15 (fun i hi => step15B2 y u v z hz i hi)
theorem step15F2 (y : Innings) (u : Innings) (v : Innings) (z : Innings) (hz : z.Before.length ≤ 2000000) (i : Nat) (hi : invF z i) : (stepObl (JF2 y u v z) (invF z) (fun i => z.Before.length - i) i (TF2 y u v z) (evCode (cf8 [] Try.f15) (fun _ => none) (loopIn Try.f15 0 1) (JF2 y u v z i)) (L15 i)).1 := by
  refine cast (by kernel_rfl) (?_ : (decide ((↑i : Int) < (↑z.14.length : Int)) = true → ((0 : Int) ≤ (↑i : Int) ∧ (↑i : Int) < (↑(incN z.14 i).length : Int)) ∧ ((0 : Int) ≤ (↑i : Int) ∧ (↑i : Int) < (↑(incN z.14 i).length : Int)) ∧ invF z (i + (1 : Nat)) ∧ z.14.length - (i + (1 : Nat)) < z.14.length - i ∧ ((↑z.14.length : Int) = (↑z.14.length : Int) ∧ IntKind.i64.wrap ((↑i : Int) + (1 : Int)) = (↑(i + (1 : Nat)) : Int) ∧ True ∧ True ∧ True ∧ (3 : Int) = (3 : Int) ∧ (2 : Int) = (2 : Int) ∧ True ∧ True) ∧ (z.1 = z.1 ∧ z.2 = z.2 ∧ z.3 = z.3 ∧ z.4 = z.4 ∧ z.5 = z.5 ∧ z.6.1 = z.6.1 ∧ z.6.2 = z.6.2 ∧ z.6.3 = z.6.3 ∧ z.6.4 = z.6.4 ∧ z.6.5 = z.6.5 ∧ z.7 = z.7 ∧ z.8 = z.8 ∧ z.9 = z.9 ∧ z.10 = z.10 ∧ True ∧ z.12 = z.12 ∧ True ∧ True ∧ z.15 = z.15 ∧ True ∧ z.17 = z.17 ∧ z.18 = z.18 ∧ z.19 = z.19 ∧ z.20 = z.20 ∧ True ∧ z.22.1 = z.22.1 ∧ z.22.2.1 = z.22.2.1 ∧ z.23 = z.23 ∧ True) ∧ (u.1 = u.1 ∧ u.2 = u.2 ∧ u.3 = u.3 ∧ u.4 = u.4 ∧ u.5 = u.5 ∧ u.6.1 = u.6.1 ∧ u.6.2 = u.6.2 ∧ u.6.3 = u.6.3 ∧ u.6.4 = u.6.4 ∧ u.6.5 = u.6.5 ∧ u.7 = u.7 ∧ u.8 = u.8 ∧ u.9 = u.9 ∧ u.10 = u.10 ∧ True ∧ u.12 = u.12 ∧ True ∧ True ∧ u.15 = u.15 ∧ True ∧ u.17 = u.17 ∧ u.18 = u.18 ∧ u.19 = u.19 ∧ u.20 = u.20 ∧ True ∧ u.22.1 = u.22.1 ∧ u.22.2.1 = u.22.2.1 ∧ u.23 = u.23 ∧ v.1 = v.1 ∧ v.2 = v.2 ∧ v.3 = v.3 ∧ v.4 = v.4 ∧ v.5 = v.5 ∧ v.6.1 = v.6.1 ∧ v.6.2 = v.6.2 ∧ v.6.3 = v.6.3 ∧ v.6.4 = v.6.4 ∧ v.6.5 = v.6.5 ∧ v.7 = v.7 ∧ v.8 = v.8 ∧ v.9 = v.9 ∧ v.10 = v.10 ∧ True ∧ v.12 = v.12 ∧ True ∧ True ∧ v.15 = v.15 ∧ True ∧ v.17 = v.17 ∧ v.18 = v.18 ∧ v.19 = v.19 ∧ v.20 = v.20 ∧ True ∧ v.22.1 = v.22.1 ∧ v.22.2.1 = v.22.2.1 ∧ v.23 = v.23 ∧ z.1 = z.1 ∧ z.2 = z.2 ∧ z.3 = z.3 ∧ z.4 = z.4 ∧ z.5 = z.5 ∧ z.6.1 = z.6.1 ∧ z.6.2 = z.6.2 ∧ z.6.3 = z.6.3 ∧ z.6.4 = z.6.4 ∧ z.6.5 = z.6.5 ∧ z.7 = z.7 ∧ z.8 = z.8 ∧ z.9 = z.9 ∧ z.10 = z.10 ∧ True ∧ z.12 = z.12 ∧ True ∧ True ∧ z.15 = z.15 ∧ True ∧ z.17 = z.17 ∧ z.18 = z.18 ∧ z.19 = z.19 ∧ z.20 = z.20 ∧ True ∧ z.22.1 = z.22.1 ∧ z.22.2.1 = z.22.2.1 ∧ z.23 = z.23 ∧ True) ∧ (y.1 = y.1 ∧ y.2 = y.2 ∧ y.3 = y.3 ∧ y.4 = y.4 ∧ y.5 = y.5 ∧ y.6.1 = y.6.1 ∧ y.6.2 = y.6.2 ∧ y.6.3 = y.6.3 ∧ y.6.4 = y.6.4 ∧ y.6.5 = y.6.5 ∧ y.7 = y.7 ∧ y.8 = y.8 ∧ y.9 = y.9 ∧ y.10 = y.10 ∧ True ∧ y.12 = y.12 ∧ True ∧ True ∧ y.15 = y.15 ∧ True ∧ y.17 = y.17 ∧ y.18 = y.18 ∧ y.19 = y.19 ∧ y.20 = y.20 ∧ True ∧ y.22.1 = y.22.1 ∧ y.22.2.1 = y.22.2.1 ∧ y.23 = y.23 ∧ True) ∧ (y.1 = y.1 ∧ y.2 = y.2 ∧ y.3 = y.3 ∧ y.4 = y.4 ∧ y.5 = y.5 ∧ y.6.1 = y.6.1 ∧ y.6.2 = y.6.2 ∧ y.6.3 = y.6.3 ∧ y.6.4 = y.6.4 ∧ y.6.5 = y.6.5 ∧ y.7 = y.7 ∧ y.8 = y.8 ∧ y.9 = y.9 ∧ y.10 = y.10 ∧ RowD.mk (Ty.int IntKind.u8) y.11 = RowD.mk (Ty.int IntKind.u8) y.11 ∧ y.12 = y.12 ∧ RowD.mk (Ty.int IntKind.i64) y.13 = RowD.mk (Ty.int IntKind.i64) y.13 ∧ RowD.mk (Ty.int IntKind.i64) y.14 = RowD.mk (Ty.int IntKind.i64) y.14 ∧ y.15 = y.15 ∧ RowD.mk (Ty.int IntKind.i64) y.16 = RowD.mk (Ty.int IntKind.i64) y.16 ∧ y.17 = y.17 ∧ y.18 = y.18 ∧ y.19 = y.19 ∧ y.20 = y.20 ∧ RowD.mk Ty.bool y.21 = RowD.mk Ty.bool y.21 ∧ y.22.1 = y.22.1 ∧ y.22.2.1 = y.22.2.1 ∧ y.23 = y.23 ∧ True) ∧ RowD.mk (Ty.int IntKind.u8) y.11 = RowD.mk (Ty.int IntKind.u8) y.11 ∧ RowD.mk (Ty.int IntKind.i64) y.13 = RowD.mk (Ty.int IntKind.i64) y.13 ∧ RowD.mk (Ty.int IntKind.i64) y.14 = RowD.mk (Ty.int IntKind.i64) y.14 ∧ RowD.mk (Ty.int IntKind.i64) y.16 = RowD.mk (Ty.int IntKind.i64) y.16 ∧ RowD.mk Ty.bool y.21 = RowD.mk Ty.bool y.21 ∧ RowD.mk (Ty.int IntKind.u8) u.11 = RowD.mk (Ty.int IntKind.u8) u.11 ∧ RowD.mk (Ty.int IntKind.i64) u.13 = RowD.mk (Ty.int IntKind.i64) u.13 ∧ RowD.mk (Ty.int IntKind.i64) u.14 = RowD.mk (Ty.int IntKind.i64) u.14 ∧ RowD.mk (Ty.int IntKind.i64) u.16 = RowD.mk (Ty.int IntKind.i64) u.16 ∧ RowD.mk Ty.bool u.21 = RowD.mk Ty.bool u.21 ∧ RowD.mk (Ty.int IntKind.u8) v.11 = RowD.mk (Ty.int IntKind.u8) v.11 ∧ RowD.mk (Ty.int IntKind.i64) v.13 = RowD.mk (Ty.int IntKind.i64) v.13 ∧ RowD.mk (Ty.int IntKind.i64) v.14 = RowD.mk (Ty.int IntKind.i64) v.14 ∧ RowD.mk (Ty.int IntKind.i64) v.16 = RowD.mk (Ty.int IntKind.i64) v.16 ∧ RowD.mk Ty.bool v.21 = RowD.mk Ty.bool v.21 ∧ RowD.mk (Ty.int IntKind.u8) z.11 = RowD.mk (Ty.int IntKind.u8) z.11 ∧ RowD.mk (Ty.int IntKind.i64) z.13 = RowD.mk (Ty.int IntKind.i64) z.13 ∧ RowD.mk (Ty.int IntKind.i64) ((incN z.14 i).set (↑i : Int).toNat (IntKind.i64.wrap ((incN z.14 i).getD (↑i : Int).toNat (dflt (Ty.int IntKind.i64)) + (1 : Int)))) = RowD.mk (Ty.int IntKind.i64) (incN z.14 (i + (1 : Nat))) ∧ RowD.mk (Ty.int IntKind.i64) z.16 = RowD.mk (Ty.int IntKind.i64) z.16 ∧ RowD.mk Ty.bool z.21 = RowD.mk Ty.bool z.21 ∧ True) ∧ (decide ((↑i : Int) < (↑z.14.length : Int)) = false → True ∧ (True ∧ True ∧ True ∧ (3 : Int) = (3 : Int) ∧ (2 : Int) = (2 : Int) ∧ True ∧ True) ∧ (z.1 = z.1 ∧ z.2 = z.2 ∧ z.3 = z.3 ∧ z.4 = z.4 ∧ z.5 = z.5 ∧ z.6.1 = z.6.1 ∧ z.6.2 = z.6.2 ∧ z.6.3 = z.6.3 ∧ z.6.4 = z.6.4 ∧ z.6.5 = z.6.5 ∧ z.7 = z.7 ∧ z.8 = z.8 ∧ z.9 = z.9 ∧ z.10 = z.10 ∧ True ∧ z.12 = z.12 ∧ True ∧ True ∧ z.15 = z.15 ∧ True ∧ z.17 = z.17 ∧ z.18 = z.18 ∧ z.19 = z.19 ∧ z.20 = z.20 ∧ True ∧ z.22.1 = z.22.1 ∧ z.22.2.1 = z.22.2.1 ∧ z.23 = z.23 ∧ True) ∧ (u.1 = u.1 ∧ u.2 = u.2 ∧ u.3 = u.3 ∧ u.4 = u.4 ∧ u.5 = u.5 ∧ u.6.1 = u.6.1 ∧ u.6.2 = u.6.2 ∧ u.6.3 = u.6.3 ∧ u.6.4 = u.6.4 ∧ u.6.5 = u.6.5 ∧ u.7 = u.7 ∧ u.8 = u.8 ∧ u.9 = u.9 ∧ u.10 = u.10 ∧ True ∧ u.12 = u.12 ∧ True ∧ True ∧ u.15 = u.15 ∧ True ∧ u.17 = u.17 ∧ u.18 = u.18 ∧ u.19 = u.19 ∧ u.20 = u.20 ∧ True ∧ u.22.1 = u.22.1 ∧ u.22.2.1 = u.22.2.1 ∧ u.23 = u.23 ∧ v.1 = v.1 ∧ v.2 = v.2 ∧ v.3 = v.3 ∧ v.4 = v.4 ∧ v.5 = v.5 ∧ v.6.1 = v.6.1 ∧ v.6.2 = v.6.2 ∧ v.6.3 = v.6.3 ∧ v.6.4 = v.6.4 ∧ v.6.5 = v.6.5 ∧ v.7 = v.7 ∧ v.8 = v.8 ∧ v.9 = v.9 ∧ v.10 = v.10 ∧ True ∧ v.12 = v.12 ∧ True ∧ True ∧ v.15 = v.15 ∧ True ∧ v.17 = v.17 ∧ v.18 = v.18 ∧ v.19 = v.19 ∧ v.20 = v.20 ∧ True ∧ v.22.1 = v.22.1 ∧ v.22.2.1 = v.22.2.1 ∧ v.23 = v.23 ∧ z.1 = z.1 ∧ z.2 = z.2 ∧ z.3 = z.3 ∧ z.4 = z.4 ∧ z.5 = z.5 ∧ z.6.1 = z.6.1 ∧ z.6.2 = z.6.2 ∧ z.6.3 = z.6.3 ∧ z.6.4 = z.6.4 ∧ z.6.5 = z.6.5 ∧ z.7 = z.7 ∧ z.8 = z.8 ∧ z.9 = z.9 ∧ z.10 = z.10 ∧ True ∧ z.12 = z.12 ∧ True ∧ True ∧ z.15 = z.15 ∧ True ∧ z.17 = z.17 ∧ z.18 = z.18 ∧ z.19 = z.19 ∧ z.20 = z.20 ∧ True ∧ z.22.1 = z.22.1 ∧ z.22.2.1 = z.22.2.1 ∧ z.23 = z.23 ∧ True) ∧ (y.1 = y.1 ∧ y.2 = y.2 ∧ y.3 = y.3 ∧ y.4 = y.4 ∧ y.5 = y.5 ∧ y.6.1 = y.6.1 ∧ y.6.2 = y.6.2 ∧ y.6.3 = y.6.3 ∧ y.6.4 = y.6.4 ∧ y.6.5 = y.6.5 ∧ y.7 = y.7 ∧ y.8 = y.8 ∧ y.9 = y.9 ∧ y.10 = y.10 ∧ True ∧ y.12 = y.12 ∧ True ∧ True ∧ y.15 = y.15 ∧ True ∧ y.17 = y.17 ∧ y.18 = y.18 ∧ y.19 = y.19 ∧ y.20 = y.20 ∧ True ∧ y.22.1 = y.22.1 ∧ y.22.2.1 = y.22.2.1 ∧ y.23 = y.23 ∧ True) ∧ (y.1 = y.1 ∧ y.2 = y.2 ∧ y.3 = y.3 ∧ y.4 = y.4 ∧ y.5 = y.5 ∧ y.6.1 = y.6.1 ∧ y.6.2 = y.6.2 ∧ y.6.3 = y.6.3 ∧ y.6.4 = y.6.4 ∧ y.6.5 = y.6.5 ∧ y.7 = y.7 ∧ y.8 = y.8 ∧ y.9 = y.9 ∧ y.10 = y.10 ∧ RowD.mk (Ty.int IntKind.u8) y.11 = RowD.mk (Ty.int IntKind.u8) y.11 ∧ y.12 = y.12 ∧ RowD.mk (Ty.int IntKind.i64) y.13 = RowD.mk (Ty.int IntKind.i64) y.13 ∧ RowD.mk (Ty.int IntKind.i64) y.14 = RowD.mk (Ty.int IntKind.i64) y.14 ∧ y.15 = y.15 ∧ RowD.mk (Ty.int IntKind.i64) y.16 = RowD.mk (Ty.int IntKind.i64) y.16 ∧ y.17 = y.17 ∧ y.18 = y.18 ∧ y.19 = y.19 ∧ y.20 = y.20 ∧ RowD.mk Ty.bool y.21 = RowD.mk Ty.bool y.21 ∧ y.22.1 = y.22.1 ∧ y.22.2.1 = y.22.2.1 ∧ y.23 = y.23 ∧ True) ∧ RowD.mk (Ty.int IntKind.u8) y.11 = RowD.mk (Ty.int IntKind.u8) y.11 ∧ RowD.mk (Ty.int IntKind.i64) y.13 = RowD.mk (Ty.int IntKind.i64) y.13 ∧ RowD.mk (Ty.int IntKind.i64) y.14 = RowD.mk (Ty.int IntKind.i64) y.14 ∧ RowD.mk (Ty.int IntKind.i64) y.16 = RowD.mk (Ty.int IntKind.i64) y.16 ∧ RowD.mk Ty.bool y.21 = RowD.mk Ty.bool y.21 ∧ RowD.mk (Ty.int IntKind.u8) u.11 = RowD.mk (Ty.int IntKind.u8) u.11 ∧ RowD.mk (Ty.int IntKind.i64) u.13 = RowD.mk (Ty.int IntKind.i64) u.13 ∧ RowD.mk (Ty.int IntKind.i64) u.14 = RowD.mk (Ty.int IntKind.i64) u.14 ∧ RowD.mk (Ty.int IntKind.i64) u.16 = RowD.mk (Ty.int IntKind.i64) u.16 ∧ RowD.mk Ty.bool u.21 = RowD.mk Ty.bool u.21 ∧ RowD.mk (Ty.int IntKind.u8) v.11 = RowD.mk (Ty.int IntKind.u8) v.11 ∧ RowD.mk (Ty.int IntKind.i64) v.13 = RowD.mk (Ty.int IntKind.i64) v.13 ∧ RowD.mk (Ty.int IntKind.i64) v.14 = RowD.mk (Ty.int IntKind.i64) v.14 ∧ RowD.mk (Ty.int IntKind.i64) v.16 = RowD.mk (Ty.int IntKind.i64) v.16 ∧ RowD.mk Ty.bool v.21 = RowD.mk Ty.bool v.21 ∧ RowD.mk (Ty.int IntKind.u8) z.11 = RowD.mk (Ty.int IntKind.u8) z.11 ∧ RowD.mk (Ty.int IntKind.i64) z.13 = RowD.mk (Ty.int IntKind.i64) z.13 ∧ RowD.mk (Ty.int IntKind.i64) (incN z.14 i) = RowD.mk (Ty.int IntKind.i64) (incN z.14 z.14.length) ∧ RowD.mk (Ty.int IntKind.i64) z.16 = RowD.mk (Ty.int IntKind.i64) z.16 ∧ RowD.mk Ty.bool z.21 = RowD.mk Ty.bool z.21 ∧ True))
  have hi : i ≤ z.Before.length := hi
  have hl := incN_len z.Before i
  refine ⟨fun h1 => ?_, fun h1 => ?_⟩
  · have h1 : i < z.Before.length := by simpa using h1
    have hw : IntKind.i64.wrap ((i : Int) + 1) = ((i + 1 : Nat) : Int) := by rw [wrap64 (by omega) (by omega)]; omega
    have hs : (incN z.Before i).set (i : Int).toNat (IntKind.i64.wrap ((incN z.Before i).getD (i : Int).toNat (dflt (.int .i64)) + 1)) = incN z.Before (i + 1) := incN_succ z.Before i h1
    refine ⟨⟨by omega, by rw [hl]; omega⟩, ⟨by omega, by rw [hl]; omega⟩, (by unfold invF; omega), by omega, ?_⟩
    simp only [hw, hs, and_self]
  · have h1 : z.Before.length ≤ i := by simpa using h1
    obtain rfl : i = z.Before.length := by omega
    simp only [and_self]
theorem loop15F2 (y : Innings) (u : Innings) (v : Innings) (z : Innings) (hz : z.Before.length ≤ 2000000) : LoopOK Try.prog Try.f15.ntmps (loopIn Try.f15 0 1) (loopSum ⟨[(560, 560)], [], 608⟩ (JF2 y u v z 0) (TF2 y u v z)) :=
  loop_by (cfg8OK (CtrsOK.nil) _) mixed (JF2 y u v z) (fun _ => rfl) (invF z) (fun i => z.Before.length - i) (fun _ _ => none) (fun _ _ _ _ _ h => by cases h) (TF2 y u v z) [(560, 560)] [] 0 (Nat.zero_le _) L15 (fun i hi => step15F2 y u v z hz i hi)
end Go.Proofs.Ytogdeefpidccmaa

/- Bowlers: the example's specification. -/
namespace Go.Proofs.Ytogdeefpidccmaa
open Go Go.Mir

def spec48 : Den ps0 → PRes := fun _ => ⟨[], .bool true, []⟩
def k48 : FuncId × Ctr := (48, pureCtr K8 ps0 spec48)

end Go.Proofs.Ytogdeefpidccmaa

/- The mirror, part 23: tries, and values written out in full (for runs by the kernel). -/
namespace Go.Mir
open Go.RowKit

/-- an end, or where it broke off -/
inductive Rn (γ : Type) where
  | ok (r : γ)
  | no (w : List Nat)

inductive Tri (α : Type) where
  | lf
  | nd (l : Tri α) (v : Option α) (r : Tri α)

def Tri.get {α : Type} (t : Tri α) : Nat → Option α :=
  match t with
  | .lf => fun _ => none
  | .nd l v r => fun k => Nat.casesOn (motive := fun _ => Option α) k v fun k => Bool.casesOn (motive := fun _ => Option α) (Nat.beq (Nat.mod k 2) 0) (r.get (Nat.div k 2)) (l.get (Nat.div k 2))

def Tri.inL {α γ : Type} (κ : Tri α → Rn γ) (w : Option α) (r l : Tri α) : Rn γ := κ (.nd l w r)
def Tri.inR {α γ : Type} (κ : Tri α → Rn γ) (l : Tri α) (w : Option α) (r : Tri α) : Rn γ := κ (.nd l w r)

/-- put, then go on -/
def Tri.setK {α γ : Type} (f : Nat) : Tri α → Nat → α → (Tri α → Rn γ) → Rn γ :=
  match f with
  | 0 => fun _ _ _ _ => .no [1]
  | f + 1 => fun t => Tri.casesOn (motive := fun _ => Nat → α → (Tri α → Rn γ) → Rn γ) t
    (fun k v κ => Nat.casesOn (motive := fun _ => Rn γ) k (κ (.nd .lf (some v) .lf)) fun k => Bool.casesOn (motive := fun _ => Rn γ) (Nat.beq (Nat.mod k 2) 0) (Tri.setK f .lf (Nat.div k 2) v (Tri.inR κ .lf none)) (Tri.setK f .lf (Nat.div k 2) v (Tri.inL κ none .lf)))
    (fun l w r k v κ => Nat.casesOn (motive := fun _ => Rn γ) k (κ (.nd l (some v) r)) fun k => Bool.casesOn (motive := fun _ => Rn γ) (Nat.beq (Nat.mod k 2) 0) (Tri.setK f r (Nat.div k 2) v (Tri.inR κ l w)) (Tri.setK f l (Nat.div k 2) v (Tri.inL κ w r)))

theorem Tri.get_lf {α : Type} (k : Nat) : (Tri.lf : Tri α).get k = none := rfl
theorem Tri.get_zero {α : Type} (l : Tri α) (v : Option α) (r : Tri α) : (Tri.nd l v r).get 0 = v := rfl
theorem Tri.get_succ {α : Type} (l : Tri α) (v : Option α) (r : Tri α) (k : Nat) : (Tri.nd l v r).get (k + 1) = bif Nat.beq (Nat.mod k 2) 0 then l.get (Nat.div k 2) else r.get (Nat.div k 2) := by
  show Bool.casesOn (motive := fun _ => Option α) (Nat.beq (Nat.mod k 2) 0) (r.get (Nat.div k 2)) (l.get (Nat.div k 2)) = _
  cases Nat.beq (Nat.mod k 2) 0 <;> rfl
theorem Tri.setK_lf {α γ : Type} (f k : Nat) (v : α) (κ : Tri α → Rn γ) : Tri.setK (f + 1) .lf k v κ = match k with
    | 0 => κ (.nd .lf (some v) .lf)
    | k + 1 => bif Nat.beq (Nat.mod k 2) 0 then Tri.setK f .lf (Nat.div k 2) v fun l => κ (.nd l none .lf) else Tri.setK f .lf (Nat.div k 2) v fun r => κ (.nd .lf none r) := by
  cases k with
  | zero => rfl
  | succ k =>
    show Bool.casesOn (motive := fun _ => Rn γ) (Nat.beq (Nat.mod k 2) 0) (Tri.setK f .lf (Nat.div k 2) v (Tri.inR κ .lf none)) (Tri.setK f .lf (Nat.div k 2) v (Tri.inL κ none .lf)) = bif Nat.beq (Nat.mod k 2) 0 then Tri.setK f .lf (Nat.div k 2) v fun l => κ (.nd l none .lf) else Tri.setK f .lf (Nat.div k 2) v fun r => κ (.nd .lf none r)
    cases Nat.beq (Nat.mod k 2) 0 <;> rfl
theorem Tri.setK_nd {α γ : Type} (f k : Nat) (v : α) (κ : Tri α → Rn γ) (l : Tri α) (w : Option α) (r : Tri α) : Tri.setK (f + 1) (.nd l w r) k v κ = match k with
    | 0 => κ (.nd l (some v) r)
    | k + 1 => bif Nat.beq (Nat.mod k 2) 0 then Tri.setK f l (Nat.div k 2) v fun l => κ (.nd l w r) else Tri.setK f r (Nat.div k 2) v fun r => κ (.nd l w r) := by
  cases k with
  | zero => rfl
  | succ k =>
    show Bool.casesOn (motive := fun _ => Rn γ) (Nat.beq (Nat.mod k 2) 0) (Tri.setK f r (Nat.div k 2) v (Tri.inR κ l w)) (Tri.setK f l (Nat.div k 2) v (Tri.inL κ w r)) = bif Nat.beq (Nat.mod k 2) 0 then Tri.setK f l (Nat.div k 2) v fun l => κ (.nd l w r) else Tri.setK f r (Nat.div k 2) v fun r => κ (.nd l w r)
    cases Nat.beq (Nat.mod k 2) 0 <;> rfl

theorem half_inj {i j : Nat} (h : i % 2 = j % 2) (h2 : i / 2 = j / 2) : i = j := by omega

theorem Tri.setK_some {α γ : Type} : ∀ {f : Nat} {t : Tri α} {k : Nat} {v : α} {κ : Tri α → Rn γ} {r : γ}, Tri.setK f t k v κ = .ok r → ∃ t', κ t' = .ok r ∧ ∀ j, t'.get j = if j = k then some v else t.get j
  | 0, _, _, _, _, _, h => by cases h
  | f + 1, .lf, k, v, κ, r, h => by
    rw [Tri.setK_lf] at h
    cases k with
    | zero =>
      refine ⟨_, h, fun j => ?_⟩
      cases j with
      | zero => simp [Tri.get_zero, Tri.get_lf]
      | succ j => simp only [Tri.get_succ, Tri.get_lf]; cases Nat.beq (Nat.mod j 2) 0 <;> simp
    | succ k =>
      simp only at h
      cases hb : Nat.beq (Nat.mod k 2) 0 with
      | true =>
        rw [hb] at h
        obtain ⟨l, h1, h2⟩ := Tri.setK_some h
        refine ⟨_, h1, fun j => ?_⟩
        have hk : k % 2 = 0 := Nat.eq_of_beq_eq_true hb
        cases j with
        | zero => simp [Tri.get_zero, Tri.get_lf]
        | succ j =>
          simp only [Tri.get_succ, Tri.get_lf]
          cases hj : Nat.beq (Nat.mod j 2) 0 with
          | true =>
            have hj' : j % 2 = 0 := Nat.eq_of_beq_eq_true hj
            simp only [cond_true, h2]
            by_cases e : j = k
            · subst e; simp
            · have : ¬ Nat.div j 2 = Nat.div k 2 := fun e2 => e (half_inj (by omega) e2)
              simp [this, e, Tri.get_lf]
          | false =>
            have : ¬ j = k := fun e => by subst e; rw [hb] at hj; cases hj
            simp [this, Tri.get_lf]
      | false =>
        rw [hb] at h
        obtain ⟨l, h1, h2⟩ := Tri.setK_some h
        refine ⟨_, h1, fun j => ?_⟩
        have hk : ¬ k % 2 = 0 := fun e => by
          have : Nat.beq (Nat.mod k 2) 0 = true := by rw [Nat.beq_eq]; exact e
          rw [this] at hb; cases hb
        cases j with
        | zero => simp [Tri.get_zero, Tri.get_lf]
        | succ j =>
          simp only [Tri.get_succ, Tri.get_lf]
          cases hj : Nat.beq (Nat.mod j 2) 0 with
          | false =>
            have hj' : ¬ j % 2 = 0 := fun e => by
              have : Nat.beq (Nat.mod j 2) 0 = true := by rw [Nat.beq_eq]; exact e
              rw [this] at hj; cases hj
            simp only [cond_false, h2]
            by_cases e : j = k
            · subst e; simp
            · have : ¬ Nat.div j 2 = Nat.div k 2 := fun e2 => e (half_inj (by omega) e2)
              simp [this, e, Tri.get_lf]
          | true =>
            have : ¬ j = k := fun e => by subst e; rw [hb] at hj; cases hj
            simp [this, Tri.get_lf]
  | f + 1, .nd l0 w r0, k, v, κ, r, h => by
    rw [Tri.setK_nd] at h
    cases k with
    | zero =>
      refine ⟨_, h, fun j => ?_⟩
      cases j with
      | zero => simp [Tri.get_zero, Tri.get_lf]
      | succ j => simp only [Tri.get_succ, Tri.get_lf]; simp
    | succ k =>
      simp only at h
      cases hb : Nat.beq (Nat.mod k 2) 0 with
      | true =>
        rw [hb] at h
        obtain ⟨l, h1, h2⟩ := Tri.setK_some h
        refine ⟨_, h1, fun j => ?_⟩
        have hk : k % 2 = 0 := Nat.eq_of_beq_eq_true hb
        cases j with
        | zero => simp [Tri.get_zero, Tri.get_lf]
        | succ j =>
          simp only [Tri.get_succ, Tri.get_lf]
          cases hj : Nat.beq (Nat.mod j 2) 0 with
          | true =>
            have hj' : j % 2 = 0 := Nat.eq_of_beq_eq_true hj
            simp only [cond_true, h2]
            by_cases e : j = k
            · subst e; simp
            · have : ¬ Nat.div j 2 = Nat.div k 2 := fun e2 => e (half_inj (by omega) e2)
              simp [this, e]
          | false =>
            have : ¬ j = k := fun e => by subst e; rw [hb] at hj; cases hj
            simp [this]
      | false =>
        rw [hb] at h
        obtain ⟨l, h1, h2⟩ := Tri.setK_some h
        refine ⟨_, h1, fun j => ?_⟩
        have hk : ¬ k % 2 = 0 := fun e => by
          have : Nat.beq (Nat.mod k 2) 0 = true := by rw [Nat.beq_eq]; exact e
          rw [this] at hb; cases hb
        cases j with
        | zero => simp [Tri.get_zero, Tri.get_lf]
        | succ j =>
          simp only [Tri.get_succ, Tri.get_lf]
          cases hj : Nat.beq (Nat.mod j 2) 0 with
          | false =>
            have hj' : ¬ j % 2 = 0 := fun e => by
              have : Nat.beq (Nat.mod j 2) 0 = true := by rw [Nat.beq_eq]; exact e
              rw [this] at hj; cases hj
            simp only [cond_false, h2]
            by_cases e : j = k
            · subst e; simp
            · have : ¬ Nat.div j 2 = Nat.div k 2 := fun e2 => e (half_inj (by omega) e2)
              simp [this, e]
          | true =>
            have : ¬ j = k := fun e => by subst e; rw [hb] at hj; cases hj
            simp [this]

/-! ## written out in full -/

def forceN {γ : Type} (n : Nat) (κ : Nat → Rn γ) : Rn γ := Nat.casesOn (motive := fun _ => Rn γ) n (κ 0) fun m => κ (Nat.succ m)
theorem forceN_eq {γ : Type} (n : Nat) (κ : Nat → Rn γ) : forceN n κ = κ n := by cases n <;> rfl

def forceI {γ : Type} (n : Int) (κ : Int → Rn γ) : Rn γ := Int.casesOn (motive := fun _ => Rn γ) n (fun m => forceN m fun m => κ (.ofNat m)) fun m => forceN m fun m => κ (.negSucc m)
theorem forceI_eq {γ : Type} (n : Int) (κ : Int → Rn γ) : forceI n κ = κ n := by cases n <;> simp [forceI, forceN_eq]

def forceB {γ : Type} (b : Bool) (κ : Bool → Rn γ) : Rn γ := Bool.casesOn (motive := fun _ => Rn γ) b (κ false) (κ true)
theorem forceB_eq {γ : Type} (b : Bool) (κ : Bool → Rn γ) : forceB b κ = κ b := by cases b <;> rfl

def forceIK {γ : Type} (k : IntKind) (κ : IntKind → Rn γ) : Rn γ := IntKind.casesOn (motive := fun _ => Rn γ) k (κ .i8) (κ .i16) (κ .i32) (κ .i64) (κ .u8) (κ .u16) (κ .u32) (κ .u64)
theorem forceIK_eq {γ : Type} (k : IntKind) (κ : IntKind → Rn γ) : forceIK k κ = κ k := by cases k <;> rfl

def forceBs {γ : Type} : List UInt8 → (List UInt8 → Rn γ) → Rn γ
  | [], κ => κ []
  | b :: r, κ => forceN b.toNat fun n => forceBs r fun r => κ (UInt8.ofNat n :: r)
theorem forceBs_eq {γ : Type} : ∀ (l : List UInt8) (κ : List UInt8 → Rn γ), forceBs l κ = κ l
  | [], _ => rfl
  | b :: r, κ => by simp [forceBs, forceN_eq, forceBs_eq r]

def forceS {γ : Type} (s : ByteArray) (κ : ByteArray → Rn γ) : Rn γ := forceBs s.data.toList fun l => κ ⟨⟨l⟩⟩
theorem forceS_eq {γ : Type} (s : ByteArray) (κ : ByteArray → Rn γ) : forceS s κ = κ s := by simp [forceS, forceBs_eq]

def fInt {γ : Type} (k : IntKind) (n : Int) (κ : V → Rn γ) : Rn γ := forceI n fun n => κ (.int k n)
def fGsl {γ : Type} (h v e o l : Nat) (κ : V → Rn γ) : Rn γ := forceN h fun h => forceN v fun v => forceN e fun e => forceN o fun o => forceN l fun l => κ (.gsl h v e o l)
def fGp {γ : Type} (h v o : Nat) (κ : V → Rn γ) : Rn γ := forceN h fun h => forceN v fun v => forceN o fun o => κ (.gp h v o)
def fPtr {γ : Type} (h o : Nat) (κ : V → Rn γ) : Rn γ := forceN h fun h => forceN o fun o => κ (.ptr h o)
def fStr {γ : Type} (s : ByteArray) (κ : V → Rn γ) : Rn γ := forceS s fun s => κ (.str s)
def fFsl {γ : Type} (t : Ty) (xs : List (Den t)) (κ : V → Rn γ) : Rn γ := match xs with
  | [] => κ (.fsl t [])
  | _ :: _ => .no [2]

mutual
def forceV {γ : Type} : V → (V → Rn γ) → Rn γ
  | .any, κ => κ .any
  | .int k n, κ => fInt k n κ
  | .bool b, κ => forceB b fun b => κ (.bool b)
  | .kb b, κ => forceB b fun b => κ (.kb b)
  | .hint _ _, _ => .no [2]
  | .str s, κ => fStr s κ
  | .nilptr, κ => κ .nilptr
  | .ptr h o, κ => fPtr h o κ
  | .fp _ _ _ _, _ => .no [2]
  | .rp _ _ _ _, _ => .no [2]
  | .nilsl, κ => κ .nilsl
  | .esl, κ => κ .esl
  | .osl _ _, _ => .no [2]
  | .fsl t xs, κ => fFsl t xs κ
  | .gsl h v e o l, κ => fGsl h v e o l κ
  | .gp h v o, κ => fGp h v o κ
  | .mpv h, κ => forceN h fun h => κ (.mpv h)
  | .nilfn, κ => κ .nilfn
  | .nilmap, κ => κ .nilmap
  | .fn f cs, κ => forceN f fun f => forceVs cs fun cs => κ (.fn f cs)
  | .agg cs, κ => forceVs cs fun cs => κ (.agg cs)
  | .tup cs, κ => forceVs cs fun cs => κ (.tup cs)
def forceVs {γ : Type} : List V → (List V → Rn γ) → Rn γ
  | [], κ => κ []
  | v :: vs, κ => forceV v fun v => forceVs vs fun vs => κ (v :: vs)
end

mutual
theorem forceV_some {γ : Type} : ∀ (v : V) (κ : V → Rn γ) (r : γ), forceV v κ = .ok r → κ v = .ok r
  | .any, κ, r, h => h
  | .int k n, κ, r, h => by simpa only [forceV, fInt, forceI_eq] using h
  | .bool b, κ, r, h => by simpa only [forceV, forceB_eq] using h
  | .kb b, κ, r, h => by simpa only [forceV, forceB_eq] using h
  | .hint _ _, κ, r, h => by simp [forceV] at h
  | .str s, κ, r, h => by simpa only [forceV, fStr, forceS_eq] using h
  | .nilptr, κ, r, h => h
  | .ptr _ _, κ, r, h => by simpa only [forceV, fPtr, fGsl, fGp, forceN_eq] using h
  | .fp _ _ _ _, κ, r, h => by simp [forceV] at h
  | .rp _ _ _ _, κ, r, h => by simp [forceV] at h
  | .nilsl, κ, r, h => h
  | .esl, κ, r, h => h
  | .osl _ _, κ, r, h => by simp [forceV] at h
  | .fsl _ [], κ, r, h => h
  | .fsl _ (_ :: _), κ, r, h => by simp [forceV, fFsl] at h
  | .gsl _ _ _ _ _, κ, r, h => by simpa only [forceV, fPtr, fGsl, fGp, forceN_eq] using h
  | .gp _ _ _, κ, r, h => by simpa only [forceV, fPtr, fGsl, fGp, forceN_eq] using h
  | .mpv _, κ, r, h => by simpa only [forceV, fPtr, fGsl, fGp, forceN_eq] using h
  | .nilfn, κ, r, h => h
  | .nilmap, κ, r, h => h
  | .fn f cs, κ, r, h => by
    simp only [forceV, forceN_eq] at h
    exact forceVs_some cs (fun cs => κ (.fn f cs)) r h
  | .agg cs, κ, r, h => by
    simp only [forceV] at h
    exact forceVs_some cs (fun cs => κ (.agg cs)) r h
  | .tup cs, κ, r, h => by
    simp only [forceV] at h
    exact forceVs_some cs (fun cs => κ (.tup cs)) r h
theorem forceVs_some {γ : Type} : ∀ (vs : List V) (κ : List V → Rn γ) (r : γ), forceVs vs κ = .ok r → κ vs = .ok r
  | [], κ, r, h => h
  | v :: vs, κ, r, h => by
    simp only [forceVs] at h
    exact forceVs_some vs (fun vs => κ (v :: vs)) r (forceV_some v (fun v => forceVs vs fun vs => κ (v :: vs)) r h)
end

def forceEs {γ : Type} : List (V × V) → (List (V × V) → Rn γ) → Rn γ
  | [], κ => κ []
  | (a, b) :: r, κ => forceV a fun a => forceV b fun b => forceEs r fun r => κ ((a, b) :: r)
theorem forceEs_some {γ : Type} : ∀ (es : List (V × V)) (κ : List (V × V) → Rn γ) (r : γ), forceEs es κ = .ok r → κ es = .ok r
  | [], _, _, h => h
  | (a, b) :: es, κ, r, h => by
    simp only [forceEs] at h
    exact forceEs_some es (fun es => κ ((a, b) :: es)) r (forceV_some _ _ _ (forceV_some _ _ _ h))

def forceBlk {γ : Type} : Blk → (Blk → Rn γ) → Rn γ
  | .cells cs, κ => forceVs cs fun cs => κ (.cells cs)
  | .grow v e cs, κ => forceN v fun v => forceN e fun e => forceVs cs fun cs => κ (.grow v e cs)
  | .mp es, κ => forceEs es fun es => κ (.mp es)
  | .row _ _ _ _, _ => .no [2]
theorem forceBlk_some {γ : Type} : ∀ (b : Blk) (κ : Blk → Rn γ) (r : γ), forceBlk b κ = .ok r → κ b = .ok r
  | .cells cs, κ, r, h => forceVs_some cs (fun cs => κ (.cells cs)) r h
  | .grow v e cs, κ, r, h => by
    simp only [forceBlk, forceN_eq] at h
    exact forceVs_some cs (fun cs => κ (.grow v e cs)) r h
  | .mp es, κ, r, h => forceEs_some es (fun es => κ (.mp es)) r h
  | .row _ _ _ _, κ, r, h => by simp [forceBlk] at h

def setsK {γ : Type} : List (Nat × Blk) → Tri Blk → (Tri Blk → Rn γ) → Rn γ
  | [], t, κ => κ t
  | (h, b) :: r, t, κ => setsK r t fun t => forceN h fun h => forceBlk b fun b => Tri.setK 64 t h b κ
theorem setsK_some {γ : Type} : ∀ (l : List (Nat × Blk)) (t : Tri Blk) (κ : Tri Blk → Rn γ) (r : γ), setsK l t κ = .ok r → ∃ t', κ t' = .ok r ∧ t'.get = hset t.get l
  | [], t, κ, r, h => ⟨t, h, rfl⟩
  | (a, b) :: l, t, κ, r, h => by
    simp only [setsK] at h
    obtain ⟨t1, h1, h2⟩ := setsK_some l t _ r h
    rw [forceN_eq] at h1
    have h3 := forceBlk_some b _ r h1
    obtain ⟨t2, h4, h5⟩ := Tri.setK_some h3
    refine ⟨t2, h4, ?_⟩
    funext j
    rw [h5, h2]
    simp only [hset, find]
    cases hb : Nat.beq a j with
    | true => rw [if_pos (Nat.eq_of_beq_eq_true hb).symm]; rfl
    | false =>
      rw [if_neg (fun e => by subst e; rw [Nat.beq_refl] at hb; cases hb)]
      rfl

/-! ## the same -/

def IntKind.eqb (a b : IntKind) : Bool := decide (a = b)

mutual
def V.eqb : V → V → Bool
  | .any, .any => true
  | .int k n, .int k' n' => decide (k = k') && decide (n = n')
  | .bool a, .bool b => decide (a = b)
  | .kb a, .kb b => decide (a = b)
  | .str s, .str t => decide (s.data.toList = t.data.toList)
  | .nilptr, .nilptr => true
  | .ptr h o, .ptr h' o' => Nat.beq h h' && Nat.beq o o'
  | .nilsl, .nilsl => true
  | .esl, .esl => true
  | .gsl h v e o l, .gsl h' v' e' o' l' => Nat.beq h h' && Nat.beq v v' && Nat.beq e e' && Nat.beq o o' && Nat.beq l l'
  | .gp h v o, .gp h' v' o' => Nat.beq h h' && Nat.beq v v' && Nat.beq o o'
  | .mpv h, .mpv h' => Nat.beq h h'
  | .nilfn, .nilfn => true
  | .nilmap, .nilmap => true
  | .fn f cs, .fn f' cs' => Nat.beq f f' && eqbs cs cs'
  | .agg cs, .agg cs' => eqbs cs cs'
  | .tup cs, .tup cs' => eqbs cs cs'
  | _, _ => false
def eqbs : List V → List V → Bool
  | [], [] => true
  | x :: xs, y :: ys => V.eqb x y && eqbs xs ys
  | _, _ => false
end

mutual
theorem V.eqb_eq : ∀ (x y : V), V.eqb x y = true → x = y
  | .any, y, h => by cases y <;> simp_all [V.eqb]
  | .int k n, y, h => by cases y <;> simp_all [V.eqb]
  | .bool _, y, h => by cases y <;> simp_all [V.eqb]
  | .kb _, y, h => by cases y <;> simp_all [V.eqb]
  | .hint _ _, y, h => by cases y <;> simp [V.eqb] at h
  | .str s, y, h => by
    cases y <;> simp only [V.eqb, Bool.false_eq_true, decide_eq_true_eq] at h
    rename_i t
    have : s = t := ByteArray.ext (Array.toList_inj.1 h)
    rw [this]
  | .nilptr, y, h => by cases y <;> simp_all [V.eqb]
  | .ptr _ _, y, h => by cases y <;> simp_all [V.eqb]
  | .fp _ _ _ _, y, h => by cases y <;> simp [V.eqb] at h
  | .rp _ _ _ _, y, h => by cases y <;> simp [V.eqb] at h
  | .nilsl, y, h => by cases y <;> simp_all [V.eqb]
  | .esl, y, h => by cases y <;> simp_all [V.eqb]
  | .osl _ _, y, h => by cases y <;> simp [V.eqb] at h
  | .fsl _ _, y, h => by cases y <;> simp [V.eqb] at h
  | .gsl _ _ _ _ _, y, h => by cases y <;> simp_all [V.eqb]
  | .gp _ _ _, y, h => by cases y <;> simp_all [V.eqb]
  | .mpv _, y, h => by cases y <;> simp_all [V.eqb]
  | .nilfn, y, h => by cases y <;> simp_all [V.eqb]
  | .nilmap, y, h => by cases y <;> simp_all [V.eqb]
  | .fn f cs, y, h => by
    cases y <;> simp only [V.eqb, Bool.false_eq_true, Bool.and_eq_true, Nat.beq_eq] at h
    rw [h.1, eqbs_eq _ _ h.2]
  | .agg cs, y, h => by
    cases y <;> simp only [V.eqb, Bool.false_eq_true] at h
    rw [eqbs_eq _ _ h]
  | .tup cs, y, h => by
    cases y <;> simp only [V.eqb, Bool.false_eq_true] at h
    rw [eqbs_eq _ _ h]
theorem eqbs_eq : ∀ (xs ys : List V), eqbs xs ys = true → xs = ys
  | [], [], _ => rfl
  | [], _ :: _, h => by simp [eqbs] at h
  | _ :: _, [], h => by simp [eqbs] at h
  | x :: xs, y :: ys, h => by
    simp only [eqbs, Bool.and_eq_true] at h
    rw [V.eqb_eq _ _ h.1, eqbs_eq _ _ h.2]
end

def eqbE : List (V × V) → List (V × V) → Bool
  | [], [] => true
  | (a, b) :: xs, (c, d) :: ys => V.eqb a c && V.eqb b d && eqbE xs ys
  | _, _ => false
theorem eqbE_eq : ∀ (xs ys : List (V × V)), eqbE xs ys = true → xs = ys
  | [], [], _ => rfl
  | [], _ :: _, h => by simp [eqbE] at h
  | _ :: _, [], h => by simp [eqbE] at h
  | (a, b) :: xs, (c, d) :: ys, h => by
    simp only [eqbE, Bool.and_eq_true] at h
    rw [V.eqb_eq _ _ h.1.1, V.eqb_eq _ _ h.1.2, eqbE_eq _ _ h.2]

def eqbB : Option Blk → Option Blk → Bool
  | some (.cells a), some (.cells b) => eqbs a b
  | some (.grow v e a), some (.grow v' e' b) => Nat.beq v v' && Nat.beq e e' && eqbs a b
  | some (.mp a), some (.mp b) => eqbE a b
  | _, _ => false
theorem eqbB_eq : ∀ (x y : Option Blk), eqbB x y = true → x = y
  | some (.cells a), some (.cells b), h => by simp only [eqbB] at h; rw [eqbs_eq _ _ h]
  | some (.grow v e a), some (.grow v' e' b), h => by simp only [eqbB, Bool.and_eq_true, Nat.beq_eq] at h; rw [h.1.1, h.1.2, eqbs_eq _ _ h.2]
  | some (.mp a), some (.mp b), h => by simp only [eqbB] at h; rw [eqbE_eq _ _ h]
  | none, y, h => by simp [eqbB] at h
  | some (.row _ _ _ _), y, h => by simp [eqbB] at h
  | some (.cells _), none, h => by simp [eqbB] at h
  | some (.grow _ _ _), none, h => by simp [eqbB] at h
  | some (.mp _), none, h => by simp [eqbB] at h
  | some (.cells _), some (.grow _ _ _), h => by simp [eqbB] at h
  | some (.cells _), some (.mp _), h => by simp [eqbB] at h
  | some (.cells _), some (.row _ _ _ _), h => by simp [eqbB] at h
  | some (.grow _ _ _), some (.cells _), h => by simp [eqbB] at h
  | some (.grow _ _ _), some (.mp _), h => by simp [eqbB] at h
  | some (.grow _ _ _), some (.row _ _ _ _), h => by simp [eqbB] at h
  | some (.mp _), some (.cells _), h => by simp [eqbB] at h
  | some (.mp _), some (.grow _ _ _), h => by simp [eqbB] at h
  | some (.mp _), some (.row _ _ _ _), h => by simp [eqbB] at h

end Go.Mir

/- The mirror, part 24: runs on values that are known, for the kernel. -/
namespace Go.Mir
open Go.RowKit

variable {P : Program}

def Ob.chk : Ob → Bool
  | .rng n len => decide (0 ≤ n) && decide (n < (len : Int))
  | .sub l h len => decide (0 ≤ l) && decide (l ≤ h) && decide (h ≤ (len : Int))
  | .mk n c => decide (0 ≤ n) && decide (c = n) && decide (n ≤ 17179869184)
  | .mkc n c => decide (0 ≤ n) && decide (n ≤ c) && decide (c ≤ 17179869184)
  | .ne0 n => !decide (n = 0)
  | .leN a b => Nat.ble a b
  | .prop _ => false
theorem Ob.chk_holds : ∀ {p : Ob}, p.chk = true → p.holds
  | .rng n len, h => by simpa [Ob.chk, Ob.holds] using h
  | .sub l h len, hh => by simp only [Ob.chk, Bool.and_eq_true, decide_eq_true_eq] at hh; exact ⟨hh.1.1, hh.1.2, hh.2⟩
  | .mk n c, h => by simp only [Ob.chk, Bool.and_eq_true, decide_eq_true_eq] at h; exact ⟨h.1.1, h.1.2, h.2⟩
  | .mkc n c, h => by simp only [Ob.chk, Bool.and_eq_true, decide_eq_true_eq] at h; exact ⟨h.1.1, h.1.2, h.2⟩
  | .ne0 n, h => by simpa [Ob.chk, Ob.holds] using h
  | .leN a b, h => Nat.le_of_ble_eq_true h

def lookT (t : Tri V) (i : Nat) : V := Option.casesOn (motive := fun _ => V) (t.get i) .any fun v => v

def opndT (t : Tri V) : Operand → V
  | .tmp i => lookT t i
  | .const v => cv v
  | .func f => .fn f []
  | .global _ => .any

def guardT (all : List Oper) (t : Tri V) (o : Oper) : Option Bool :=
  match o.guard with
  | none => some true
  | some (j, want) => match all[j]? with
    | some oj => match oj.dst with
      | some dj => match lookT t dj with
        | .kb b => some (b == want)
        | .tup [] => some false
        | _ => none
      | none => none
    | none => none

def toKb : V → V
  | .bool b => .kb b
  | v => v

def putK {γ : Type} (d : Option Nat) (v : V) (t : Tri V) (κ : Tri V → Rn γ) : Rn γ :=
  match d with
  | some d => Tri.setK 64 t d (toKb v) κ
  | none => κ t

/-- the state of a run -/
structure RS where
  tm : Tri V
  hp : Tri Blk
  nx : Nat

/-- callees: function, arguments, heap, first free name -/
abbrev CallR := FuncId → List V → Tri Blk → Nat → Rn (V × Tri Blk × Nat)

/-! ### single operations, each in a small piece -/

def rVal (r : Res) : Option (List Ob × V × List (Nat × Blk)) := match r with
  | .val ps v dh => some (ps, v, dh)
  | _ => none
abbrev R1 := Option (List Ob × V × List (Nat × Blk))
def rStore (tb : Tbl) (H : Heap) (ev : Operand → V) (t : TypeId) (a x : Operand) : R1 := match tb t with
  | some td => match evStoreG td H (ev a) (ev x) with
    | .skip ps dh => some (ps, .tup [], dh)
    | _ => none
  | none => none
def rMove (ev : Operand → V) (x : Operand) : R1 := some ([], ev x, [])
def rPick (ev : Operand → V) (c a b : Operand) : R1 := rVal (evPick (ev c) (ev a) (ev b))
def rAlloc (tb : Tbl) (m : Nat) (t : TypeId) : R1 := match tb t with | some td => some ([], .ptr m 0, [(m, .cells td.zero)]) | none => none
def rBox (m : Nat) (ev : Operand → V) (x : Operand) : R1 := match cellsOf (ev x) with | some cs => some ([], .ptr m 0, [(m, .cells cs)]) | none => none
def rBuild (tb : Tbl) (ev : Operand → V) (t : TypeId) (parts : Array (Nat × Operand)) : R1 := match tb t with | some td => rVal (evBuild tb td (parts.toList.map fun p => (p.1, ev p.2))) | none => none
def rBuildSlice (tb : Tbl) (m : Nat) (H : Heap) (ev : Operand → V) (t : TypeId) (n : Nat) (parts : Array (Nat × Operand)) : R1 := match tb t with | some td => rVal (evBuildSliceG tb td H m n (parts.toList.map fun p => (p.1, ev p.2))) | none => none
def rLoad (tb : Tbl) (H : Heap) (ev : Operand → V) (t : TypeId) (a : Operand) : R1 := match tb t with | some td => rVal (evLoadG td H (ev a)) | none => none
def rNil (ev : Operand → V) (x : Operand) : R1 := rVal (evNil (ev x))
def rBin (tb : Tbl) (ev : Operand → V) (op : BinOp) (t : TypeId) (x y : Operand) : R1 := match tb t with | some td => rVal (evBin td op (ev x) (ev y)) | none => none
def rUn (ev : Operand → V) (op : UnOp) (x : Operand) : R1 := rVal (evUn op (ev x))
def rConv (tb : Tbl) (m : Nat) (ev : Operand → V) (s d : TypeId) (x : Operand) : R1 := match tb s, tb d with | some ts, some td => rVal (evConv2 tb ts td m (ev x)) | _, _ => none
def rFunc (ev : Operand → V) (fn : Fn) (first caps : Array Operand) : R1 := match fn with
  | .func f => if first.size = 0 then some ([], .fn f (caps.toList.map ev), []) else none
  | _ => none
def rMake (tb : Tbl) (m : Nat) (H : Heap) (ev : Operand → V) (t : TypeId) (l c : Operand) : R1 := match tb t with | some td => rVal (evMakeSliceG tb td H m (ev l) (ev c)) | none => none
def rSlice (tb : Tbl) (H : Heap) (ev : Operand → V) (t : TypeId) (x : Operand) (lo hi mx : Option Operand) : R1 := match tb t with | some td => rVal (evSliceG tb td H (ev x) (lo.map ev) (hi.map ev) (mx.map ev)) | none => none
def rField (tb : Tbl) (ev : Operand → V) (t : TypeId) (x : Operand) (f : Nat) : R1 := match tb t with | some td => rVal (evFieldG tb td (ev x) f) | none => none
def rFieldV (tb : Tbl) (ev : Operand → V) (t : TypeId) (x : Operand) (f : Nat) : R1 := match tb t with | some td => rVal (evFieldVal tb td (ev x) f) | none => none
def rIndex (tb : Tbl) (H : Heap) (ev : Operand → V) (t : TypeId) (x i : Operand) : R1 := match tb t with | some td => rVal (evIndexG tb td H (ev x) (ev i)) | none => none
def rIdxV (tb : Tbl) (ev : Operand → V) (t : TypeId) (x i : Operand) : R1 := match tb t with | some td => rVal (evIdxVal td (ev x) (ev i)) | none => none
def rExtract (ev : Operand → V) (t : Operand) (i : Nat) : R1 := rVal (evExtract (ev t) i)

/-- one operation, not a call of a function -/
def evAnyR (tb : Tbl) (N m : Nat) (H : Heap) (ev : Operand → V) (op : Op) : R1 := match op with
  | .store t a x => rStore tb H ev t a x
  | .move x => rMove ev x
  | .assign x => rMove ev x
  | .pick c a b => rPick ev c a b
  | .alloc t => rAlloc tb m t
  | .box _ x => rBox m ev x
  | .build t parts => rBuild tb ev t parts
  | .buildSlice t n parts => rBuildSlice tb m H ev t n parts
  | .load t a => rLoad tb H ev t a
  | .nilCheck x => rNil ev x
  | .binOp op t x y _ => rBin tb ev op t x y
  | .unOp op _ x => rUn ev op x
  | .convert s d x => rConv tb m ev s d x
  | .makeFunc fn first caps => rFunc ev fn first caps
  | .makeSlice t l c => rMake tb m H ev t l c
  | .slice t x lo hi mx => rSlice tb H ev t x lo hi mx
  | .fieldAddr t x f => rField tb ev t x f
  | .field t x f => rFieldV tb ev t x f
  | .indexAddr t x i => rIndex tb H ev t x i
  | .index t x i => rIdxV tb ev t x i
  | .extract t i => rExtract ev t i
  | op => evAny ⟨tb, fun _ => none, 1, N⟩ m H ev op

theorem evAnyR_eq (tb : Tbl) (N m : Nat) (H : Heap) (ev : Operand → V) (op : Op) {q : List Ob × V × List (Nat × Blk)} (h : evAnyR tb N m H ev op = some q) : evAny ⟨tb, fun _ => none, 1, N⟩ m H ev op = some q := by
  have key : ∀ {r : Res}, rVal r = some q → (match r with | .val ps v dh => some (ps, v, dh) | _ => none : R1) = some q := fun {r} h => by cases r <;> first | exact h | cases h
  cases op <;> simp only [evAnyR] at h <;> simp only [evAny, evSt, evOp]
  case store t a x => simp only [rStore] at h; cases ht : tb t <;> rw [ht] at h <;> simp only [reduceCtorEq] at h ⊢; cases hs : evStoreG _ H (ev a) (ev x) <;> rw [hs] at h <;> simp only [reduceCtorEq] at h ⊢; exact h
  case move => simpa [rMove] using h
  case assign => simpa [rMove] using h
  case pick => exact key h
  case alloc t => simp only [rAlloc] at h; cases ht : tb t <;> rw [ht] at h <;> simp only [reduceCtorEq] at h ⊢; exact h
  case box t x => simp only [rBox] at h; cases ht : cellsOf (ev x) <;> rw [ht] at h <;> simp only [reduceCtorEq] at h ⊢; exact h
  case build t parts => simp only [rBuild] at h; cases ht : tb t <;> rw [ht] at h <;> simp only [reduceCtorEq] at h ⊢; exact key h
  case buildSlice t n parts => simp only [rBuildSlice] at h; cases ht : tb t <;> rw [ht] at h <;> simp only [reduceCtorEq] at h ⊢; exact key h
  case load t a => simp only [rLoad] at h; cases ht : tb t <;> rw [ht] at h <;> simp only [reduceCtorEq] at h ⊢; exact key h
  case nilCheck => exact key h
  case binOp o t x y t2 => simp only [rBin] at h; cases ht : tb t <;> rw [ht] at h <;> simp only [reduceCtorEq] at h ⊢; exact key h
  case unOp => exact key h
  case convert s d x =>
    simp only [rConv] at h
    cases ht : tb s with
    | none => rw [ht] at h; cases h
    | some ts =>
      rw [ht] at h
      cases ht2 : tb d with
      | none => rw [ht2] at h; cases h
      | some td => rw [ht2] at h; exact key h
  case makeFunc fn first caps =>
    cases fn <;> simp only [rFunc, reduceCtorEq] at h
    split at h
    · rename_i hs
      cases h
      simp only [evOp, hs, if_true]
    · cases h
  case makeSlice t l c => simp only [rMake] at h; cases ht : tb t <;> rw [ht] at h <;> simp only [reduceCtorEq] at h ⊢; exact key h
  case slice t x lo hi mx => simp only [rSlice] at h; cases ht : tb t <;> rw [ht] at h <;> simp only [reduceCtorEq] at h ⊢; exact key h
  case fieldAddr t x f => simp only [rField] at h; cases ht : tb t <;> rw [ht] at h <;> simp only [reduceCtorEq] at h ⊢; exact key h
  case field t x f => simp only [rFieldV] at h; cases ht : tb t <;> rw [ht] at h <;> simp only [reduceCtorEq] at h ⊢; exact key h
  case indexAddr t x i => simp only [rIndex] at h; cases ht : tb t <;> rw [ht] at h <;> simp only [reduceCtorEq] at h ⊢; exact key h
  case index t x i => simp only [rIdxV] at h; cases ht : tb t <;> rw [ht] at h <;> simp only [reduceCtorEq] at h ⊢; exact key h
  case extract => exact key h
  all_goals (simp only [evAny, evSt, evOp] at h; exact h)

/-- what an operation is: a call of a function, or done at once -/
inductive Act1 where
  | plain (r : R1)
  | call (g : FuncId) (args : List V)

def callA (tb : Tbl) (N m : Nat) (H : Heap) (ev : Operand → V) (c : Call) : Act1 := match c.callee with
  | .value f => match ev f with
    | .fn g caps => .call g (c.args.toList.map ev ++ caps)
    | _ => .plain none
  | _ => .plain (evAny ⟨tb, fun _ => none, 1, N⟩ m H ev (.call c))

def evA (tb : Tbl) (N m : Nat) (H : Heap) (ev : Operand → V) (op : Op) : Act1 := match op with
  | .call c => callA tb N m H ev c
  | .store t a x => .plain (rStore tb H ev t a x)
  | .move x => .plain (rMove ev x)
  | .assign x => .plain (rMove ev x)
  | .pick c a b => .plain (rPick ev c a b)
  | .alloc t => .plain (rAlloc tb m t)
  | .box _ x => .plain (rBox m ev x)
  | .build t parts => .plain (rBuild tb ev t parts)
  | .buildSlice t n parts => .plain (rBuildSlice tb m H ev t n parts)
  | .load t a => .plain (rLoad tb H ev t a)
  | .nilCheck x => .plain (rNil ev x)
  | .binOp op t x y _ => .plain (rBin tb ev op t x y)
  | .unOp op _ x => .plain (rUn ev op x)
  | .convert s d x => .plain (rConv tb m ev s d x)
  | .makeFunc fn first caps => .plain (rFunc ev fn first caps)
  | .makeSlice t l c => .plain (rMake tb m H ev t l c)
  | .slice t x lo hi mx => .plain (rSlice tb H ev t x lo hi mx)
  | .fieldAddr t x f => .plain (rField tb ev t x f)
  | .field t x f => .plain (rFieldV tb ev t x f)
  | .indexAddr t x i => .plain (rIndex tb H ev t x i)
  | .index t x i => .plain (rIdxV tb ev t x i)
  | .extract t i => .plain (rExtract ev t i)
  | op => .plain (evAny ⟨tb, fun _ => none, 1, N⟩ m H ev op)

theorem evA_plain (tb : Tbl) (N m : Nat) (H : Heap) (ev : Operand → V) (op : Op) {q : List Ob × V × List (Nat × Blk)} (h : evA tb N m H ev op = .plain (some q)) : evAny ⟨tb, fun _ => none, 1, N⟩ m H ev op = some q := by
  cases op
  case call c =>
    simp only [evA, callA] at h
    split at h
    · split at h <;> simp at h
    · exact Act1.plain.inj h
  all_goals (exact evAnyR_eq tb N m H ev _ (Act1.plain.inj h))

theorem evA_call (tb : Tbl) (N m : Nat) (H : Heap) (ev : Operand → V) (op : Op) {g : FuncId} {args : List V} (h : evA tb N m H ev op = .call g args) : ∃ c f caps, op = .call c ∧ c.callee = .value f ∧ ev f = .fn g caps ∧ args = c.args.toList.map ev ++ caps := by
  cases op
  case call c =>
    simp only [evA, callA] at h
    split at h
    · rename_i f hf
      split at h
      · rename_i caps he
        cases h
        exact ⟨c, f, caps, rfl, hf, he, rfl⟩
      · cases h
    · cases h
  all_goals (cases h)

/-- after an operation -/
def finR (d : Option Nat) (v : V) (dh : List (Nat × Blk)) (tm : Tri V) (hp : Tri Blk) (nx : Nat) (κ : Tri V → Tri Blk → Nat → Rn RS) : Rn RS :=
  List.casesOn (motive := fun _ => Rn RS) dh (forceV v fun v => putK d v tm fun tm => forceN nx fun nx => κ tm hp nx)
    fun _ _ => forceV v fun v => setsK dh hp fun hp => putK d v tm fun tm => forceN nx fun nx => κ tm hp nx

def callRR (r : Rn (V × Tri Blk × Nat)) (g : FuncId) (d : Option Nat) (tm : Tri V) (κ : Tri V → Tri Blk → Nat → Rn RS) : Rn RS := match r with
  | .ok (v, hp, nx) => putK d v tm fun tm => κ tm hp nx
  | .no w => .no (g :: w)

def obsOK (ps : List Ob) : Bool := List.casesOn (motive := fun _ => Bool) ps true fun _ _ => ps.all Ob.chk

def plainR (r : R1) (d : Option Nat) (tm : Tri V) (hp : Tri Blk) (nx : Nat) (κ : Tri V → Tri Blk → Nat → Rn RS) : Rn RS := match r with
  | some (ps, v, dh) => Bool.casesOn (motive := fun _ => Rn RS) (obsOK ps) (.no [100]) (finR d v dh tm hp (Nat.succ nx) κ)
  | none => .no [101]

def doR (call : CallR) (a : Act1) (d : Option Nat) (tm : Tri V) (hp : Tri Blk) (nx : Nat) (κ : Tri V → Tri Blk → Nat → Rn RS) : Rn RS := match a with
  | .call g args => forceN g fun g => forceVs args fun args => callRR (call g args hp nx) g d tm κ
  | .plain r => plainR r d tm hp nx κ

def oneR (tb : Tbl) (N : Nat) (call : CallR) (all : List Oper) (o : Oper) (tm : Tri V) (hp : Tri Blk) (nx : Nat) (κ : Tri V → Tri Blk → Nat → Rn RS) : Rn RS := match o.guard with
  | none => doR call (evA tb N nx hp.get (opndT tm) o.op) o.dst tm hp nx κ
  | some _ => match guardT all tm o with
    | some true => doR call (evA tb N nx hp.get (opndT tm) o.op) o.dst tm hp nx κ
    | some false => putK o.dst (.tup []) tm fun tm => κ tm hp nx
    | none => .no [102]

def opsR (tb : Tbl) (N : Nat) (call : CallR) (all : List Oper) : List Oper → Tri V → Tri Blk → Nat → Rn RS
  | [], tm, hp, nx => .ok ⟨tm, hp, nx⟩
  | o :: rest, tm, hp, nx => oneR tb N call all o tm hp nx (opsR tb N call all rest)

/-- all results have their places -/
def dstsOK (N : Nat) (ops : List Oper) : Bool := ops.all fun o => dstIn N o.dst

/-! ### a region that draws its order -/

def maskR (rs : List Nat) (tm : Tri V) : Operand → V
  | .tmp t => bif memN rs t then lookT tm t else .any
  | .const v => cv v
  | .func f => .fn f []
  | .global _ => .any

/-- a part of a heap -/
def partK {γ : Type} (hp : Tri Blk) : List Nat → Tri Blk → (Tri Blk → Rn γ) → Rn γ
  | [], t, κ => κ t
  | h :: r, t, κ => match hp.get h with
    | some b => Tri.setK 64 t h b fun t => partK hp r t κ
    | none => .no [20]

def pickK {γ : Type} (hp : Tri Blk) (skip : Nat → Bool) : List Nat → (List (Nat × Blk) → Rn γ) → Rn γ
  | [], κ => κ []
  | h :: r, κ => bif skip h then pickK hp skip r κ else match hp.get h with
    | some b => forceN h fun h => pickK hp skip r fun l => κ ((h, b) :: l)
    | none => .no [21]

def forceL {γ : Type} : List Nat → (List Nat → Rn γ) → Rn γ
  | [], κ => κ []
  | n :: r, κ => forceN n fun n => forceL r fun r => κ (n :: r)

/-- a call on a part of the heap -/
def dcall (call : CallR) (g : FuncId) (args : List V) (hp : Tri Blk) (R : List Nat) (m : Nat) : Rn (V × List (Nat × Blk) × Nat) :=
  partK hp R .lf fun hr => match call g args hr m with
    | .ok (v, hp', nx) => forceL (R.filter fun h => !eqbB (hp.get h) (hp'.get h)) fun chg => forceL (reach hp'.get 64 (v.hs ++ chg) []) fun keep =>
        pickK hp' (fun h => memN R h && !memN chg h) keep fun dh =>
          bif R.all (fun h => memN (dh.map (·.1)) h || eqbB (hp.get h) (hp'.get h)) then .ok (v, dh, nx) else .no [22]
    | .no w => .no w

def drawR (tb : Tbl) (N : Nat) (call : CallR) (all : List Oper) : List Oper → Tri V → Tri Blk → Nat → List Rec → Rn RS
  | [], tm, hp, nx, recs => bif edgesOK 0 all && chkAll (masks all []) 0 recs then .ok ⟨tm, hp, nx⟩ else .no [30]
  | o :: rest, tm, hp, nx, recs => bif dstIn N o.dst then
      match guardT all tm o with
      | some false => putK o.dst (.tup []) tm fun tm => forceN (nx + 1) fun nx => drawR tb N call all rest tm hp nx (recs ++ [⟨o.dst, .tup [], [], [], slotsOf all o⟩])
      | some true => forceL (slotsOf all o) fun rs => forceL (reach hp.get 8 (o.op.operands.toList.flatMap fun x => (maskR rs tm x).hs) []) fun R =>
        match evA tb N nx (restr hp.get R) (maskR rs tm) o.op with
        | .call g args => forceN g fun g => forceVs args fun args => match dcall call g args hp R nx with
          | .ok (v, dh, nx2) => bif frameOK hp.get R nx (nx2 + 1 - nx) v dh then
              setsK dh hp fun hp => putK o.dst v tm fun tm => forceN (nx2 + 1) fun nx => drawR tb N call all rest tm hp nx (recs ++ [⟨o.dst, toKb v, dh, R, rs⟩])
            else .no [31, rest.length]
          | .no w => .no (g :: w)
        | .plain none => .no [33, rest.length]
        | .plain (some (ps, v, dh)) => bif ps.all Ob.chk && frameOK hp.get R nx 1 v dh then
              forceV v fun v => setsK dh hp fun hp => putK o.dst v tm fun tm => forceN (nx + 1) fun nx => drawR tb N call all rest tm hp nx (recs ++ [⟨o.dst, toKb v, dh, R, rs⟩])
            else .no [32, rest.length]
      | none => .no [34, rest.length]
    else .no [35, rest.length]

def loopR (f : RS → Rn (Lf × RS)) : Nat → RS → Rn (Lf × RS)
  | 0, _ => .no [3]
  | n + 1, s => match f s with
    | .ok (.nrm, s) => loopR f n s
    | r => r

def runR (tb : Tbl) (N : Nat) (call : CallR) : Code → RS → Rn (Lf × RS)
  | .skip, s => .ok (.nrm, s)
  | .region id ops false, s => Bool.casesOn (motive := fun _ => Rn (Lf × RS)) (dstsOK N ops.toList) (.no [103]) (match opsR tb N call ops.toList ops.toList s.tm s.hp s.nx with
    | .ok s => .ok (.nrm, s)
    | .no w => .no ((1000 + id) :: w))
  | .region id ops true, s => match drawR tb N call ops.toList ops.toList s.tm s.hp s.nx [] with
    | .ok s => .ok (.nrm, s)
    | .no w => .no ((2000 + id) :: w)
  | .seq a b, s => match runR tb N call a s with
    | .ok (.nrm, s) => runR tb N call b s
    | r => r
  | .cond c x y, s => match opndT s.tm c with
    | .kb true => runR tb N call x s
    | .kb false => runR tb N call y s
    | _ => .no [4]
  | .block id b, s => match runR tb N call b s with
    | .ok (.ext i, s) => if i = id then .ok (.nrm, s) else .ok (.ext i, s)
    | r => r
  | .loop b, s => loopR (runR tb N call b) ROUNDS s
  | .exit id, s => .ok (.ext id, s)
  | .ret, s => .ok (.ret, s)
  | _, _ => .no [6]

def resT1 (tb : Tbl) (tm : Tri V) (hp : Tri Blk) : ResultVar → Option V
  | .tmp t => some (lookT tm t)
  | .cell a t => match tb t with
    | some td => match evLoad td hp.get (lookT tm a) with
      | .val _ v _ => some v
      | _ => none
    | none => none
def resTL (tb : Tbl) (tm : Tri V) (hp : Tri Blk) : List ResultVar → Option (List V)
  | [] => some []
  | r :: rs => match resT1 tb tm hp r with
    | some v => match resTL tb tm hp rs with
      | some l => some (v :: l)
      | none => none
    | none => none
def resT (tb : Tbl) (tm : Tri V) (hp : Tri Blk) (rs : List ResultVar) : Option V :=
  match resTL tb tm hp rs with
  | some [v] => some v
  | some l => some (.tup l)
  | none => none

def argsT {γ : Type} : Nat → List V → Tri V → (Tri V → Rn γ) → Rn γ
  | _, [], t, κ => κ t
  | i, v :: vs, t, κ => Tri.setK 64 t i v fun t => argsT (i + 1) vs t κ

/-- a function, carried out -/
def fnR (tb : Tbl) (call : CallR) (fn : Func) (args : List V) (hp : Tri Blk) (nx : Nat) : Rn (V × Tri Blk × Nat) :=
  match fn.body with
  | some c => bif Nat.ble args.length fn.ntmps then argsT 0 args .lf fun tm => match runR tb fn.ntmps call c ⟨tm, hp, nx⟩ with
      | .ok (.ext _, _) => .no [7]
      | .ok (_, ⟨tm, hp, nx⟩) => match resT tb tm hp fn.results.toList with
        | some v => forceV v fun v => .ok (v, hp, nx)
        | none => .no [8]
      | .no w => .no w
    else .no [9]
  | none => .no [10]

def callN (tb : Tbl) (P : FuncId → Option Func) : Nat → CallR
  | 0, _, _, _, _ => .no [11]
  | d + 1, f, args, hp, nx => match P f with
    | some fn => fnR tb (callN tb P d) fn args hp nx
    | none => .no [12]

end Go.Mir

/- The mirror, part 23b: a region that draws its order, each operation with names of its own number. -/
namespace Go.Mir
open Go.RowKit

variable {P : Program}

inductive RunV (Cf : Nat → Cfg) (lo : Nat → Nat) (all : List Oper) (st : St) : Nat → List Oper → Dl → List Rec → Dl → List Rec → Prop
  | nil {i : Nat} {d : Dl} {recs : List Rec} : RunV Cf lo all st i [] d recs d recs
  | cons {i : Nat} {o : Oper} {rest : List Oper} {d : Dl} {recs : List Rec} {r : Rec} {df : Dl} {rf : List Rec} : Does (Cf i) true all (d.tm ++ st.tm) (hset st.H d.hp) (lo i) o r →
      RunV Cf lo all st (i + 1) rest ⟨dstPut r.dst r.v ++ d.tm, r.dh ++ d.hp⟩ (recs ++ [r]) df rf → RunV Cf lo all st i (o :: rest) d recs df rf

/-- what a run in the text's order says of each of its operations -/
theorem run_eachV {Cf : Nat → Cfg} {lo : Nat → Nat} {all : List Oper} {st : St} : ∀ (rest : List Oper) (i : Nat) (d : Dl) (recs : List Rec) (df : Dl) (rf : List Rec), RunV Cf lo all st i rest d recs df rf → recs.length = i →
    find (d.tm ++ st.tm) = (recs.map updT).foldl gset (find st.tm) → hset st.H d.hp = (recs.map Rec.dh).foldl gset st.H →
    (∃ more, rf = recs ++ more ∧ more.length = rest.length) ∧ find (df.tm ++ st.tm) = (rf.map updT).foldl gset (find st.tm) ∧ hset st.H df.hp = (rf.map Rec.dh).foldl gset st.H ∧
    ∀ j o, rest[j]? = some o → ∃ r tm H, rf[i + j]? = some r ∧ Does (Cf (i + j)) true all tm H (lo (i + j)) o r ∧ find tm = ((rf.take (i + j)).map updT).foldl gset (find st.tm) ∧ H = ((rf.take (i + j)).map Rec.dh).foldl gset st.H
  | [], i, d, recs, df, rf, hr, hl, h1, h2 => by
    cases hr
    exact ⟨⟨[], by simp, rfl⟩, h1, h2, fun j o h => by simp at h⟩
  | o :: rest, i, d, recs, df, rf, hr, hl, h1, h2 => by
    cases hr with
    | @cons _ _ _ _ _ r _ _ hdo hrun =>
      obtain ⟨⟨more, e1, e2⟩, g1, g2, g3⟩ := run_eachV rest (i + 1) _ _ _ _ hrun (by simp [hl])
        (by rw [List.append_assoc, find_gset, h1]; simp [updT]) (by rw [hset_append, h2]; simp [hset_gset])
      refine ⟨⟨r :: more, by rw [e1]; simp, by simp [e2]⟩, g1, g2, fun j o' hj => ?_⟩
      cases j with
      | zero =>
        simp only [List.getElem?_cons_zero, Option.some.injEq] at hj
        subst hj
        have et : rf.take i = recs := by rw [e1, List.append_assoc, List.take_append_of_le_length (by omega), List.take_of_length_le (by omega)]
        refine ⟨r, _, _, ?_, hdo, ?_, ?_⟩
        · rw [e1, Nat.add_zero, List.append_assoc, List.getElem?_append_right (by omega)]
          simp [hl]
        · rw [Nat.add_zero, et]; exact h1
        · rw [Nat.add_zero, et]; exact h2
      | succ j =>
        obtain ⟨r', tm, H, k1, k2, k3, k4⟩ := g3 j o' (by simpa using hj)
        rw [show i + 1 + j = i + (j + 1) by omega] at k1 k2 k3 k4
        exact ⟨r', tm, H, k1, k2, k3, k4⟩

structure InvV (Cf : Nat → Cfg) (lo : Nat → Nat) (N : Nat) (B : Base) (E0 : Env) (st : St) (rf : List Rec) (L : Nat → Bool) (a : Act) (w : World) : Prop where
  ex : ∃ E, HRel B E ∧ E.w = w ∧ Ext E0 E ∧ E.H = selF L st.H 0 (rf.map Rec.dh) ∧ (∀ n, E.U n → E0.U n ∨ ∃ i, i < rf.length ∧ L i = true ∧ lo i ≤ n ∧ n < lo i + (Cf i).K) ∧ tmOK E (selF L (find st.tm) 0 (rf.map updT)) a
  size : a.tmps.size = N
  defers : a.defers = []

theorem inv_stepV {Cf : Nat → Cfg} {lo : Nat → Nat} {N : Nat} (hC : ∀ i, CfgOK P (Cf i)) (hN : ∀ i, (Cf i).N = N) {B : Base} {E0 : Env} {all : List Oper} {st : St} {rf : List Rec} (hfr0 : ∀ i, i < rf.length → ∀ n, lo i ≤ n → n < lo i + (Cf i).K → ¬ E0.U n) (hlo : ∀ i j, i < j → j < rf.length → lo i + (Cf i).K ≤ lo j) {L L' : Nat → Bool} {i : Nat} {o : Oper} {r : Rec} (ho : all[i]? = some o) (hr : rf[i]? = some r) (hLi : L i = false) (hL' : ∀ j, L' j = if j = i then true else L j)
    {tm : List (Nat × V)} {H : Heap} (hdo : Does (Cf i) true all tm H (lo i) o r) (htm : find tm = selF (fun j => Nat.blt j i) (find st.tm) 0 (rf.map updT)) (hH : H = selF (fun j => Nat.blt j i) st.H 0 (rf.map Rec.dh))
    (hcomm : ∀ j s, rf[j]? = some s → (j < i ∧ L j = false) ∨ (i < j ∧ L j = true) → Comm r s) {Q : Exit → Act → World → Prop} {a : Act} {w : World} (hI : InvV Cf lo N B E0 st rf L a w) {K : Act → World → Prop} (hK : ∀ a w, InvV Cf lo N B E0 st rf L' a w → K a w) :
    wpOp P all.toArray Q i K a w := by
  obtain ⟨⟨E, hE, rfl, hX, hEH, hU, hT⟩, hsz, hdf⟩ := hI
  obtain ⟨hd, he, hrs⟩ := hdo.dstIn
  have hiL : i < rf.length := (List.getElem?_eq_some_iff.1 hr).1
  have hLsel : ∀ {α : Type} (us : List (List (Nat × α))) (f : Nat → Option α) (k : Nat) (g : Rec → List (Nat × α)), us = rf.map g → (∀ j s, rf[j]? = some s → find (g s) k ≠ none → j ≠ i → Comm r s → False) → selF L f 0 us k = selF (fun j => Nat.blt j i) f 0 us k := by
    intro α us f k g hus hno
    refine selF_congr us 0 f f rfl (fun j u hj hu => ?_)
    rw [Nat.zero_add]
    subst hus
    rw [List.getElem?_map] at hj
    cases hs : rf[j]? with
    | none => rw [hs] at hj; simp at hj
    | some s =>
      rw [hs] at hj
      simp only [Option.map_some, Option.some.injEq] at hj
      subst hj
      by_cases hji : j = i
      · subst hji
        rw [hLi]
        cases hb : Nat.blt j j with
        | false => rfl
        | true => rw [Nat.blt_eq] at hb; omega
      · rcases Nat.lt_or_gt_of_ne hji with hlt | hgt
        · have hb : Nat.blt j i = true := by rw [Nat.blt_eq]; exact hlt
          rw [hb]
          cases hLj : L j with
          | true => rfl
          | false => exact (hno j s hs hu hji (hcomm j s hs (.inl ⟨hlt, hLj⟩))).elim
        · have hb : Nat.blt j i = false := by cases hb : Nat.blt j i with | false => rfl | true => rw [Nat.blt_eq] at hb; omega
          rw [hb]
          cases hLj : L j with
          | false => rfl
          | true => exact (hno j s hs hu hji (hcomm j s hs (.inr ⟨hgt, hLj⟩))).elim
  have hslot : ∀ s ∈ slotsOf all o, selF L (find st.tm) 0 (rf.map updT) s = find tm s := fun s hs => by
    rw [htm]
    refine hLsel _ _ s updT rfl (fun j s' hs' hne hji hc => ?_)
    exact hc.sd s (updT_key hne) (by rw [hrs]; exact hs)
  have hlook : ∀ s ∈ slotsOf all o, vrel E (lookV tm s) (a.tmps.getD s undef) := fun s hs => by
    unfold lookV
    cases hf : find tm s with
    | none => simp [vrel]
    | some v => exact hT s v (by rw [hslot s hs]; exact hf)
  have hL0 : ∀ {α : Type} (us : List (List (Nat × α))) (f : Nat → Option α) (g : Rec → List (Nat × α)), us = rf.map g → (∀ j s, i < j → rf[j]? = some s → Comm r s → ∀ k, find (g r) k ≠ none → find (g s) k = none) → selF L' f 0 us = gset (selF L f 0 us) (g r) := by
    intro α us f g hus hno
    subst hus
    refine selF_add (rf.map g) f i (g r) (by rw [List.getElem?_map, hr]; rfl) hL' (fun j u hj hu hLj k hk => ?_)
    rw [List.getElem?_map] at hu
    cases hs : rf[j]? with
    | none => rw [hs] at hu; simp at hu
    | some s =>
      rw [hs] at hu
      simp only [Option.map_some, Option.some.injEq] at hu
      subst hu
      exact hno j s hj hs (hcomm j s hs (.inr ⟨hj, hLj⟩)) k hk
  have none_of : ∀ {α : Type} {l : List (Nat × α)} {k : Nat}, (k ∈ l.map (·.1) → False) → find l k = none := fun {α l k} h => by
    cases hf : find l k with
    | none => rfl
    | some v => exact (h (find_key (by rw [hf]; simp))).elim
  have hT' : selF L' (find st.tm) 0 (rf.map updT) = gset (selF L (find st.tm) 0 (rf.map updT)) (updT r) := hL0 _ _ updT rfl (fun j s _ _ hc k hk => by
    cases hf : find (updT s) k with
    | none => rfl
    | some v => exact (hc.d k (updT_key hk) (updT_key (by rw [hf]; simp))).elim)
  have hH' : selF L' st.H 0 (rf.map Rec.dh) = gset (selF L st.H 0 (rf.map Rec.dh)) r.dh := hL0 _ _ Rec.dh rfl (fun j s _ _ hc k hk => none_of fun hm => hc.k k (find_key hk) hm)
  have after : ∀ (E' : Env) (v' : Value), GoodK B E (lo i) (Cf i).K r.dh E'.w E' → vrel E' r.v v' → InvV Cf lo N B E0 st rf L' (a.put o.dst v') E'.w := fun E' v' G hv => by
    refine ⟨⟨E', G.rel, rfl, hX.trans G.ext, by rw [G.h, hH', hEH, hset_gset], fun n hn => ?_, ?_⟩, by rw [put_size]; exact hsz, by rw [put_defers]; exact hdf⟩
    · rcases G.u n hn with h | h
      · rcases hU n h with h1 | ⟨j, h1, h2, h3⟩
        · exact .inl h1
        · refine .inr ⟨j, h1, ?_, h3⟩
          rw [hL']
          split
          · rfl
          · exact h2
      · exact .inr ⟨i, hiL, by rw [hL', if_pos rfl], h.1, h.2⟩
    · rw [hT']
      exact put_ok G.ext hT hsz (by rw [← hN i]; exact hd) (v := r.v) hv (fun s u hu => by
        unfold gset updT at hu
        rw [he] at hu
        cases hf : find (dstPut o.dst r.v) s with
        | some x => rw [hf] at hu; exact .inl hu
        | none => rw [hf] at hu; exact .inr ⟨rfl, hu⟩)
  unfold wpOp
  simp only [List.getElem?_toArray, ho]
  cases hdo with
  | skip _ hg =>
    rw [guardOf_masked hlook hg]
    simp only [Bool.false_eq_true, if_false]
    exact hK _ _ (after E undef ⟨hE, Ext.refl E, rfl, rfl, fun n h => .inl h⟩ (by simp [vrel, undef, vrels]))
  | @run ps v v' dh R _ hg hst hps hv =>
    rw [guardOf_masked hlook hg]
    simp only [if_true]
    left
    simp only [stepOp] at hst
    split at hst
    case h_2 => cases hst
    rename_i ps' v2 dh' hev
    cases hfr : frameOK H (reach H 8 (o.op.operands.toList.flatMap fun x => (maskEv (slotsOf all o) tm x).hs) []) (lo i) (Cf i).K v2 dh' with
    | false => rw [hfr] at hst; cases hst
    | true =>
      rw [hfr] at hst
      simp only [cond_true, Option.some.injEq, Prod.mk.injEq] at hst
      obtain ⟨rfl, rfl, rfl, hR⟩ := hst
      rw [hR] at hfr hev
      -- the part of the heap that it touches is as it was in the text's order
      have hHR : ∀ h ∈ R, E.H h = H h := fun h hh => by
        rw [hEH, hH]
        refine hLsel _ _ h Rec.dh rfl (fun j s hs hne hji hc => ?_)
        exact hc.sk h (find_key hne) hh
      have hrest : restr H R = restr E.H R := by
        funext h
        unfold restr
        cases hm : memN R h with
        | false => rfl
        | true => simp only [cond_true]; exact (hHR h (memN_iff.1 hm)).symm
      simp only [frameOK, Bool.and_eq_true] at hfr
      obtain ⟨⟨f1, f2⟩, f3⟩ := hfr
      have fR : ∀ h ∈ R, ∃ b, H h = some b ∧ hsOK R (lo i) (Cf i).K b.hs = true := fun h hh => by
        have := List.all_eq_true.1 f1 h hh
        split at this
        · rename_i b hb; exact ⟨b, hb, this⟩
        · cases this
      have hfresh : ∀ n, lo i ≤ n → n < lo i + (Cf i).K → ¬ E.U n := fun n h1 h2 hu => by
        rcases hU n hu with h3 | ⟨j, h3, h4, h5, h6⟩
        · exact hfr0 i hiL n h1 h2 h3
        · have hji : j ≠ i := fun e => by subst e; rw [hLi] at h4; cases h4
          rcases Nat.lt_or_gt_of_ne hji with hlt | hgt
          · have := hlo j i hlt hiL; omega
          · have := hlo i j hgt h3; omega
      have hEs := hE.restr R
      have Xs := Ext.restr E R
      rw [hrest] at hev
      have hevm : ∀ x, vrel { E with H := Mir.restr E.H R } (maskEv (slotsOf all o) tm x) (a.eval x) := fun x => by
        cases x with
        | tmp t =>
          simp only [maskEv]
          cases hm : memN (slotsOf all o) t with
          | false => simp [vrel]
          | true => exact vrel_ext Xs _ _ (hlook t (memN_iff.1 hm))
        | const v => exact cv_sound v
        | func f => simp only [maskEv, vrel, Act.eval]; exact ⟨#[], rfl, by simp [vrels]⟩
        | _ => simp [maskEv, vrel]
      exact evAny_sound (E := { E with H := Mir.restr E.H R }) hEs (hC i).tb (hC i).K (hC i).Γ hfresh hevm hev hps fun v'' Es G hv' => by
        obtain ⟨E', G', tr⟩ := frame hE hfresh G (fun h hh => by obtain ⟨b, hb, _⟩ := fR h hh; exact ⟨b, by rw [hHR h hh]; exact hb⟩)
          (fun h hh k hk x hx => by
            obtain ⟨b, hb, hb2⟩ := fR h hh
            rw [hHR h hh, hb] at hk
            cases hk
            exact hsOK_spec hb2 x hx)
          (fun h k hk => by
            have hq := find_mem hk
            have := List.all_eq_true.1 f2 _ hq
            simp only [Bool.and_eq_true] at this
            exact ⟨hsOK_spec this.1 h (by simp), hsOK_spec this.2⟩)
        have hw : E'.w = Es.w := G'.w
        have hv2 : vrel E' v2 v'' := tr _ _ (hsOK_spec f3) hv'
        have := hK _ _ (after E' _ (by rw [hw]; exact G') (vput hv hv2))
        rw [hw] at this
        exact this

/-! ## the draw -/

/-! ## the draw -/

/-! ## the draw -/

/-! ## the draw -/

theorem draw_anyV {Cf : Nat → Cfg} {lo : Nat → Nat} {N : Nat} (hC : ∀ i, CfgOK P (Cf i)) (hN : ∀ i, (Cf i).N = N) {B : Base} {E0 : Env} {all : List Oper} {st : St} {df : Dl} {rf : List Rec} (hrun : RunV Cf lo all st 0 all ⟨[], []⟩ [] df rf) (hE : edgesOK 0 all = true) (hck : chkAll (masks all []) 0 rf = true) {Q : Exit → Act → World → Prop}
    (hfr0 : ∀ i, i < all.length → ∀ n, lo i ≤ n → n < lo i + (Cf i).K → ¬ E0.U n) (hlo : ∀ i j, i < j → j < all.length → lo i + (Cf i).K ≤ lo j)
    (hQ : ∀ E a, HRel B E → Ext E0 E → E.H = hset st.H df.hp → (∀ n, E.U n → E0.U n ∨ ∃ i, i < all.length ∧ lo i ≤ n ∧ n < lo i + (Cf i).K) → tmOK E (find (df.tm ++ st.tm)) a → a.tmps.size = N → a.defers = [] → Q .normal a E.w) :
    ∀ (fuel : Nat) (listed : Array Bool) (a : Act) (w : World), listed.size = all.length → unl all.length listed = fuel →
      (∀ j oj, all[j]? = some oj → listed.getD j false = true → ∀ e ∈ oj.after, Region.binds .any e = true → listed.getD e.on false = true) →
      InvV Cf lo N B E0 st rf (fun i => listed.getD i false) a w → wpAny P .any all.toArray Q fuel listed a w := by
  obtain ⟨⟨more, e1, e2⟩, g1, g2, g3⟩ := run_eachV all 0 ⟨[], []⟩ [] df rf hrun rfl rfl rfl
  have hlen : rf.length = all.length := by rw [e1]; simpa using e2
  -- nobody is left when nobody is ready
  have full : ∀ (listed : Array Bool), listed.size = all.length → Region.ready .any all.toArray listed = [] → ∀ i, i < all.length → listed.getD i false = true := by
    intro listed hsz hrd i
    induction i using Nat.strongRecOn with
    | _ i ih =>
      intro hi
      cases hb : listed.getD i false with
      | true => rfl
      | false =>
        have hun : listed.getD i true = false := by
          have : i < listed.size := by omega
          simp [this] at hb ⊢
          exact hb
        have hoi : all[i]? = some all[i] := List.getElem?_eq_getElem hi
        have : i ∈ Region.ready .any all.toArray listed := mem_ready.2 ⟨hun, all[i], by simp, fun e he hbd => by
          have := edgesOK_spec all 0 hE i _ hoi e he hbd
          exact ih e.on (by omega) (by omega)⟩
        rw [hrd] at this
        cases this
  have close : ∀ (listed : Array Bool) (a : Act) (w : World), listed.size = all.length → (∀ i, i < all.length → listed.getD i false = true) → InvV Cf lo N B E0 st rf (fun i => listed.getD i false) a w → Q .normal a w := by
    intro listed a w hsz hall hI
    obtain ⟨⟨E, hE', rfl, hX, hEH, hU, hT⟩, hs, hd⟩ := hI
    have hsel : ∀ {α : Type} (us : List (List (Nat × α))) (f : Nat → Option α), us.length = all.length → selF (fun i => listed.getD i false) f 0 us = us.foldl gset f := fun us f hl => by
      have h1 := selF_lt us f 0 us.length
      rw [List.take_of_length_le (Nat.le_refl _)] at h1
      rw [← h1]
      funext k
      refine selF_congr us 0 f f rfl (fun j u hj _ => ?_)
      have hjl : j < us.length := (List.getElem?_eq_some_iff.1 hj).1
      rw [Nat.zero_add, hall j (by omega)]
      exact (by rw [Nat.blt_eq]; omega : Nat.blt j (0 + us.length) = true).symm
    refine hQ E a hE' hX ?_ (fun n hn => ?_) (fun s v hv => ?_) hs hd
    · rw [hEH, hsel _ _ (by simp [hlen]), g2]
    · rcases hU n hn with h | ⟨i, h1, _, h3, h4⟩
      · exact .inl h
      · exact .inr ⟨i, by omega, h3, h4⟩
    · refine hT s v ?_
      rw [hsel _ _ (by simp [hlen]), ← g1]
      exact hv
  intro fuel
  induction fuel with
  | zero =>
    intro listed a w hsz hun _ hI
    have hall : ∀ i, i < all.length → listed.getD i false = true := fun i hi => by
      have h0 : (List.range all.length).filter (fun i => !listed.getD i true) = [] := List.eq_nil_of_length_eq_zero hun
      have := List.filter_eq_nil_iff.1 h0 i (List.mem_range.2 hi)
      have hi' : i < listed.size := by omega
      simp [hi'] at this ⊢
      exact this
    refine ⟨?_, close listed a w hsz hall hI⟩
    cases hr : Region.ready .any all.toArray listed with
    | nil => rfl
    | cons i l =>
      have hm : i ∈ Region.ready .any all.toArray listed := by rw [hr]; exact List.mem_cons_self
      obtain ⟨h1, o, h2, _⟩ := mem_ready.1 hm
      have hi : i < all.length := by
        have := (Array.getElem?_eq_some_iff.1 h2).1
        simpa using this
      have h3 := hall i hi
      have hi' : i < listed.size := by omega
      simp [hi'] at h1 h3
      rw [h1] at h3; cases h3
  | succ fuel ih =>
    intro listed a w hsz hun hclosed hI
    refine ⟨fun hr => close listed a w hsz (full listed hsz hr) hI, fun i hi => ?_⟩
    obtain ⟨h1, o, h2, hdir⟩ := mem_ready.1 hi
    have ho : all[i]? = some o := by simpa using h2
    have hil : i < all.length := (List.getElem?_eq_some_iff.1 ho).1
    have his : i < listed.size := by omega
    have hLi : listed.getD i false = false := by simp [his] at h1 ⊢; exact h1
    obtain ⟨r, tm, H, k1, k2, k3, k4⟩ := g3 i o ho
    simp only [Nat.zero_add] at k1 k2 k3 k4
    have hget : ∀ j, (listed.setIfInBounds i true).getD j false = if j = i then true else listed.getD j false := fun j => by
      by_cases e : j = i
      · subst e; simp [his]
      · simp [e, Array.getElem?_setIfInBounds_ne (Ne.symm e), Array.getD_eq_getD_getElem?]
    have hgetT : ∀ j, j ≠ i → (listed.setIfInBounds i true).getD j true = listed.getD j true := fun j e => by
      simp [Array.getElem?_setIfInBounds_ne (Ne.symm e), Array.getD_eq_getD_getElem?]
    refine inv_stepV hC hN (E0 := E0) (by rw [hlen]; exact hfr0) (by rw [hlen]; exact hlo) (L := fun i => listed.getD i false) (L' := fun j => (listed.setIfInBounds i true).getD j false) ho k1 hLi hget k2 ?_ ?_ (fun j s hs hor => ?_) hI (fun a w hI' => ih _ a w (by simpa using hsz) ?_ ?_ hI')
    · rw [k3]
      have := selF_lt (rf.map updT) (find st.tm) 0 i
      rw [← List.map_take, ] at this
      simpa using this.symm
    · rw [k4]
      have := selF_lt (rf.map Rec.dh) st.H 0 i
      rw [← List.map_take] at this
      simpa using this.symm
    · rcases hor with ⟨hlt, hLj⟩ | ⟨hgt, hLj⟩
      · rcases chkAll_spec rf 0 hck j i s r hlt hs k1 with h | h
        · simp only [Nat.zero_add] at h
          have := ahead_listed hE hclosed i i (Nat.le_refl _) o ho hdir j h
          rw [this] at hLj; cases hLj
        · exact h.symm
      · rcases chkAll_spec rf 0 hck i j r s hgt k1 hs with h | h
        · simp only [Nat.zero_add] at h
          have hjl : j < all.length := by rw [← hlen]; exact (List.getElem?_eq_some_iff.1 hs).1
          have hoj : all[j]? = some all[j] := List.getElem?_eq_getElem hjl
          have := ahead_listed hE hclosed j j (Nat.le_refl _) _ hoj (hclosed j _ hoj hLj) i h
          rw [this] at hLi; cases hLi
        · exact h
    · have := filter_one (p := fun j => !listed.getD j true) (q := fun j => !(listed.setIfInBounds i true).getD j true) (i := i) (by simp [h1]) (by simp [his]) (fun j e => by simp [hgetT j e]) (List.range all.length) List.nodup_range (List.mem_range.2 hil)
      unfold unl at hun ⊢
      omega
    · intro j oj hj hlj e he hb
      rw [hget] at hlj ⊢
      by_cases e1 : e.on = i
      · rw [if_pos e1]
      · rw [if_neg e1]
        by_cases e2 : j = i
        · subst e2
          rw [ho] at hj; cases hj
          exact hdir e he hb
        · rw [if_neg e2] at hlj
          exact hclosed j oj hj hlj e he hb

/-- A region that draws its order, at an environment. -/
theorem draw_envV {Cf : Nat → Cfg} {lo : Nat → Nat} {N : Nat} (hC : ∀ i, CfgOK P (Cf i)) (hN : ∀ i, (Cf i).N = N) (hP : P.follows .mixedOrders = true) {B : Base} {all : List Oper} {st : St} {df : Dl} {rf : List Rec} (hrun : RunV Cf lo all st 0 all ⟨[], []⟩ [] df rf) (hE : edgesOK 0 all = true) (hck : chkAll (masks all []) 0 rf = true) {Q : Exit → Act → World → Prop}
    {E : Env} (hE' : HRel B E) (hH : E.H = st.H) {a : Act} (hT : tmOK E (find st.tm) a) (hsz : a.tmps.size = N) (hdf : a.defers = [])
    (hfr0 : ∀ i, i < all.length → ∀ n, lo i ≤ n → n < lo i + (Cf i).K → ¬ E.U n) (hlo : ∀ i j, i < j → j < all.length → lo i + (Cf i).K ≤ lo j)
    (hQ : ∀ E' a, HRel B E' → Ext E E' → E'.H = hset st.H df.hp → (∀ n, E'.U n → E.U n ∨ ∃ i, i < all.length ∧ lo i ≤ n ∧ n < lo i + (Cf i).K) → tmOK E' (find (df.tm ++ st.tm)) a → a.tmps.size = N → a.defers = [] → Q .normal a E'.w) (id : Nat) :
    (Code.region id all.toArray true).wp P Q a E.w := by
  refine wp_region_any hP ?_
  obtain ⟨R, X⟩ := step0 hE' { E.w with drawn := E.w.drawn + 1 } rfl rfl rfl rfl
  have hfalse : ∀ i, (Array.replicate all.toArray.size false).getD i false = false := fun i => by
    rcases Nat.lt_or_ge i all.length with h | h
    · simp [h]
    · simp [h]
  have hno : ∀ {α : Type} (us : List (List (Nat × α))) (f : Nat → Option α) (i : Nat), selF (fun i => (Array.replicate all.toArray.size false).getD i false) f i us = f := by
    intro α us
    induction us with
    | nil => intro f i; rfl
    | cons u us ih => intro f i; unfold selF; rw [hfalse]; simp only [Bool.false_eq_true, if_false]; exact ih f _
  refine draw_anyV hC hN (E0 := { E with w := { E.w with drawn := E.w.drawn + 1 } }) hrun hE hck hfr0 hlo (fun E1 a1 r1 x1 h1 u1 t1 s1 d1 => hQ E1 a1 r1 (X.trans x1) h1 u1 t1 s1 d1) _ _ a _ (by simp) ?_ (fun j oj hj hl => by rw [hfalse] at hl; cases hl) ⟨⟨_, R, rfl, Ext.refl _, ?_, fun n hn => .inl hn, fun s v hv => ?_⟩, hsz, hdf⟩
  · unfold unl
    have : (List.range all.length).filter (fun i => !(Array.replicate all.toArray.size false).getD i true) = List.range all.length := List.filter_eq_self.2 fun i hi => by
      have := List.mem_range.1 hi
      simp [this]
    rw [this]
    simp
  · rw [hno _ _ _]; exact hH
  · rw [hno] at hv
    exact vrel_ext X _ _ (hT s v hv)


end Go.Mir

/- The mirror, part 25: runs are sound. -/
namespace Go.Mir
open Go.RowKit

variable {P : Program}

theorem lookT_eq (t : Tri V) (i : Nat) : lookT t i = match t.get i with | some v => v | none => .any := by
  unfold lookT
  cases t.get i <;> rfl

theorem lookT_sound {E : Env} {t : Tri V} {a : Act} (h : tmOK E t.get a) (s : Nat) : vrel E (lookT t s) (a.tmps.getD s undef) := by
  rw [lookT_eq]
  cases hf : t.get s with
  | some v => exact h s v hf
  | none => simp [vrel]

theorem opndT_sound {E : Env} {t : Tri V} {a : Act} (h : tmOK E t.get a) (x : Operand) : vrel E (opndT t x) (a.eval x) := by
  cases x with
  | tmp i => exact lookT_sound h i
  | const v => exact cv_sound v
  | func f => simp only [opndT, vrel, Act.eval]; exact ⟨#[], rfl, by simp [vrels]⟩
  | _ => simp [opndT, vrel]

theorem guardT_sound {E : Env} {all : List Oper} {t : Tri V} {a : Act} (hT : tmOK E t.get a) {o : Oper} {b : Bool} (h : guardT all t o = some b) : Region.wanted o (yielded all.toArray a.tmps) = b :=
  guard_sound (E := E) (T := lookT t) (fun s => lookT_sound hT s) h

theorem toKb_sound {E : Env} {v : V} {u : Value} (h : vrel E v u) : vrel E (toKb v) u := by
  cases v <;> first | exact h | simpa [toKb, vrel] using h

theorem putK_some {γ : Type} {d : Option Nat} {v : V} {t : Tri V} {κ : Tri V → Rn γ} {r : γ} (h : putK d v t κ = .ok r) : ∃ t', κ t' = .ok r ∧ ∀ s, t'.get s = match find (dstPut d (toKb v)) s with | some u => some u | none => t.get s := by
  cases d with
  | none => exact ⟨t, h, fun s => rfl⟩
  | some d =>
    obtain ⟨t', h1, h2⟩ := Tri.setK_some h
    refine ⟨t', h1, fun s => ?_⟩
    rw [h2]
    simp only [dstPut, find]
    cases hb : Nat.beq d s with
    | true => rw [if_pos (Nat.eq_of_beq_eq_true hb).symm]; rfl
    | false => rw [if_neg (fun e => by subst e; rw [Nat.beq_refl] at hb; cases hb)]; rfl

theorem forceL_eq {γ : Type} : ∀ (l : List Nat) (κ : List Nat → Rn γ), forceL l κ = κ l
  | [], _ => rfl
  | n :: r, κ => by simp only [forceL, forceN_eq, forceL_eq r]

theorem finR_some {d : Option Nat} {v : V} {dh : List (Nat × Blk)} {tm : Tri V} {hp : Tri Blk} {nx : Nat} {κ : Tri V → Tri Blk → Nat → Rn RS} {r : RS} (h : finR d v dh tm hp nx κ = .ok r) :
    ∃ tm' hp', κ tm' hp' nx = .ok r ∧ hp'.get = hset hp.get dh ∧ ∀ s, tm'.get s = match find (dstPut d (toKb v)) s with | some u => some u | none => tm.get s := by
  cases dh with
  | nil =>
    have h1 := forceV_some v _ r h
    obtain ⟨tm', h2, h3⟩ := putK_some h1
    rw [forceN_eq] at h2
    exact ⟨tm', hp, h2, rfl, h3⟩
  | cons q dh =>
    have h1 := forceV_some v _ r h
    obtain ⟨hp', h4, h5⟩ := setsK_some (q :: dh) hp _ r h1
    obtain ⟨tm', h2, h3⟩ := putK_some h4
    rw [forceN_eq] at h2
    exact ⟨tm', hp', h2, h5, h3⟩

/-- a call in a region -/
theorem call_wp {a : Act} {w : World} {c : Call} {o : Oper} (ho : o.op = .call c) {f : Operand} (hf : c.callee = .value f) {g : FuncId} {l : Array Value} (hfe : a.eval f = .func (.func g) #[] l)
    (hfn : ∃ fn, P.funcs[g]? = some fn ∧ fn.body.isSome = true ∧ (fn.name == "runtime.NumGoroutine") = false) {R : Ending → World → Prop} (hcalls : Calls P g (c.args.toList.map a.eval ++ l.toList).toArray w R)
    {next : Act → World → Prop} {Q : Exit → Act → World → Prop} (hn : ∀ e w', R e w' → ∃ v', e = .returned v' ∧ next (a.put o.dst v') w') : o.wp P a w next Q := by
  obtain ⟨fn, h1, h2, h3⟩ := hfn
  have hb : ¬ fn.body = none := by cases hb : fn.body with | none => rw [hb] at h2; cases h2 | some _ => simp
  have h4 : ¬ fn.name = "runtime.NumGoroutine" := by simpa using h3
  have hrun : (execOp a.eval o).run P w = .ok (.enter g (c.args.toList.map a.eval ++ l.toList).toArray) w := by
    have e : (c.args.toList.map a.eval ++ l.toList).toArray = #[] ++ c.args.map a.eval ++ l := by
      apply Array.ext'
      simp
    rw [e]
    simp [execOp, ho, resolve, hf, Deferred.ofValue, hfe, invoke, callFunc, h1, h4, hb]
  unfold Oper.wp
  rw [hrun]
  simp only [Oper.upon]
  refine hcalls.mono fun e w' hh => ?_
  obtain ⟨v', rfl, h⟩ := hn e w' hh
  exact h

/-- a state of a run, in an environment that has come out of another -/
structure RR (B : Base) (E0 : Env) (n0 N : Nat) (s : RS) (E : Env) (a : Act) : Prop where
  rel : HRel B E
  ext : Ext E0 E
  h : E.H = s.hp.get
  u : ∀ n, E.U n → E0.U n ∨ (n0 ≤ n ∧ n < s.nx)
  le : n0 ≤ s.nx
  tm : tmOK E s.tm.get a
  size : a.tmps.size = N
  defers : a.defers = []

/-- what a callee does to an environment -/
structure Came (B : Base) (E : Env) (hp' : Heap) (nx nx' : Nat) (v : V) (v' : Value) (w' : World) (E' : Env) : Prop where
  rel : HRel B E'
  w : E'.w = w'
  h : E'.H = hp'
  ext : Ext E E'
  u : ∀ n, E'.U n → E.U n ∨ (nx ≤ n ∧ n < nx')
  v : vrel E' v v'

def CallOK (P : Program) (call : CallR) : Prop := ∀ g args hp nx v hp' nx', call g args hp nx = .ok (v, hp', nx') →
  (∃ fn, P.funcs[g]? = some fn ∧ fn.body.isSome = true ∧ (fn.name == "runtime.NumGoroutine") = false) ∧ nx ≤ nx' ∧
    ∀ (B : Base) (E : Env) (av : List Value), HRel B E → E.H = hp.get → vrels E args av → (∀ n, nx ≤ n → n < nx' → ¬ E.U n) →
      Calls P g av.toArray E.w fun e w' => ∃ E' v', e = .returned v' ∧ Came B E hp'.get nx nx' v v' w' E'

variable {tb : Tbl} {N : Nat} {call : CallR} {all : List Oper} {B : Base} {E0 : Env} {n0 : Nat}

theorem RR.put {s : RS} {E : Env} {a : Act} (hR : RR B E0 n0 N s E a) {E' : Env} {hp : Tri Blk} {nx : Nat} (hrel : HRel B E') (hext : Ext E E') (hh : E'.H = hp.get) (hu : ∀ n, E'.U n → E.U n ∨ (s.nx ≤ n ∧ n < nx)) (hle : s.nx ≤ nx)
    {d : Option Nat} (hd : dstIn N d = true) {v : V} {v' : Value} (hv : vrel E' v v') {tm : Tri V} (htm : ∀ k, tm.get k = match find (dstPut d (toKb v)) k with | some u => some u | none => s.tm.get k) : RR B E0 n0 N ⟨tm, hp, nx⟩ E' (a.put d v') := by
  have hle0 := hR.le
  refine ⟨hrel, hR.ext.trans hext, hh, fun n hn => ?_, Nat.le_trans hle0 hle, put_ok hext hR.tm hR.size hd (toKb_sound hv) (fun k u hk => ?_), by rw [put_size]; exact hR.size, by rw [put_defers]; exact hR.defers⟩
  · show E0.U n ∨ (n0 ≤ n ∧ n < nx)
    rcases hu n hn with h | h
    · rcases hR.u n h with h | h
      · exact .inl h
      · exact .inr ⟨h.1, by omega⟩
    · exact .inr ⟨by omega, h.2⟩
  · rw [htm] at hk
    cases hf : find (dstPut d (toKb v)) k with
    | some x => rw [hf] at hk; exact .inl hk
    | none => rw [hf] at hk; exact .inr ⟨rfl, hk⟩

theorem doR_sound (hT : TblOK P tb) (hcall : CallOK P call) {e : Nat} (hfr : ∀ n, n0 ≤ n → n < e → ¬ E0.U n) {o : Oper} (hd : dstIn N o.dst = true) {tm : Tri V} {hp : Tri Blk} {nx : Nat} {κ : Tri V → Tri Blk → Nat → Rn RS} {s' : RS}
    (h : doR call (evA tb N nx hp.get (opndT tm) o.op) o.dst tm hp nx κ = .ok s') {next : Act → World → Prop} {Q : Exit → Act → World → Prop}
    (hmono : ∀ tm' hp' nx', κ tm' hp' nx' = .ok s' → nx' ≤ e) (hκ : ∀ tm' hp' nx', κ tm' hp' nx' = .ok s' → ∀ E a, RR B E0 n0 N ⟨tm', hp', nx'⟩ E a → next a E.w) {E : Env} {a : Act} (hR : RR B E0 n0 N ⟨tm, hp, nx⟩ E a) : o.wp P a E.w next Q := by
  have hle : n0 ≤ nx := hR.le
  have hH : E.H = hp.get := hR.h
  have hfr' : ∀ n, nx ≤ n → n < e → ¬ E.U n := fun n h1 h2 hu => by
    rcases hR.u n hu with h3 | h3
    · exact hfr n (by omega) h2 h3
    · have h4 : n < nx := h3.2
      omega
  have hop := opndT_sound (t := tm) hR.tm
  cases he : evA tb N nx hp.get (opndT tm) o.op with
  | call g args =>
    rw [he] at h
    simp only [doR, forceN_eq] at h
    have h := forceVs_some args _ s' h
    cases hc : call g args hp nx with
    | no w => rw [hc] at h; cases h
    | ok q =>
      obtain ⟨v, hp', nx'⟩ := q
      rw [hc] at h
      simp only [callRR] at h
      obtain ⟨c, f, caps, ho, hf, hg, hargs⟩ := evA_call tb N nx hp.get (opndT tm) o.op he
      obtain ⟨hfn, hle2, hcalls⟩ := hcall g args hp nx v hp' nx' hc
      have hfv := hop f
      rw [hg] at hfv
      simp only [vrel] at hfv
      obtain ⟨l, hfe, hl⟩ := hfv
      have hav : vrels E args (c.args.toList.map a.eval ++ l.toList) := by
        rw [hargs]
        exact vrels_append (vrels_map _ _ hop _) hl
      obtain ⟨tm', h1, h2⟩ := putK_some h
      refine call_wp ho hf hfe hfn (hcalls B E _ hR.rel hH hav (fun n h3 h4 => hfr' n h3 (Nat.lt_of_lt_of_le h4 (hmono _ _ _ h1)))) (fun e w' hh => ?_)
      obtain ⟨E', v', rfl, C⟩ := hh
      refine ⟨v', rfl, ?_⟩
      have := hκ tm' hp' nx' h1 E' (a.put o.dst v') (hR.put C.rel C.ext C.h C.u hle2 hd C.v h2)
      rw [C.w] at this
      exact this
  | plain r =>
    rw [he] at h
    simp only [doR] at h
    cases r with
    | none => cases h
    | some q =>
      obtain ⟨ps, v, dh⟩ := q
      simp only [plainR] at h
      cases ho : obsOK ps with
      | false => rw [ho] at h; cases h
      | true =>
        rw [ho] at h
        obtain ⟨tm', hp', h1, h2, h3⟩ := finR_some h
        have hlt : nx + 1 ≤ e := hmono _ _ _ h1
        have hps : ∀ p ∈ ps, p.holds := fun p hp => by
          cases ps with
          | nil => cases hp
          | cons q qs =>
            have : (q :: qs).all Ob.chk = true := ho
            exact Ob.chk_holds (List.all_eq_true.1 this p hp)
        have hev := evA_plain tb N nx hp.get (opndT tm) o.op he
        rw [← hH] at hev
        refine evAny_sound (C := ⟨tb, fun _ => none, 1, N⟩) hR.rel hT (Nat.le_refl _) (fun _ _ h => by cases h) (fun n h1 h2 => hfr' n h1 (Nat.lt_of_lt_of_le h2 hlt)) hop hev hps (fun v' E' G hv => ?_)
        exact hκ tm' hp' (Nat.succ nx) h1 E' (a.put o.dst v') (hR.put G.rel G.ext (by rw [G.h, h2, hH]) (fun n hn => by rcases G.u n hn with h | h; exact .inl h; exact .inr h) (Nat.le_succ nx) hd hv h3)

theorem opsR_le (hcall : CallOK P call) : ∀ (rest : List Oper) (tm : Tri V) (hp : Tri Blk) (nx : Nat) (s' : RS), opsR tb N call all rest tm hp nx = .ok s' → nx ≤ s'.nx
  | [], tm, hp, nx, s', h => by
    simp only [opsR, Rn.ok.injEq] at h
    subst h
    exact Nat.le_refl _
  | o :: rest, tm, hp, nx, s', h => by
    have ih := fun tm' hp' nx' h' => opsR_le hcall rest tm' hp' nx' s' h'
    have hdo : ∀ {a : Act1}, doR call a o.dst tm hp nx (opsR tb N call all rest) = .ok s' → nx ≤ s'.nx := fun {a} h => by
      cases a with
      | call g args =>
        simp only [doR, forceN_eq] at h
        have h := forceVs_some args _ s' h
        cases hc : call g args hp nx with
        | no w => rw [hc] at h; cases h
        | ok q =>
          obtain ⟨v, hp', nx'⟩ := q
          rw [hc] at h
          simp only [callRR] at h
          obtain ⟨_, hle2, _⟩ := hcall g args hp nx v hp' nx' hc
          obtain ⟨tm', h1, _⟩ := putK_some h
          exact Nat.le_trans hle2 (ih _ _ _ h1)
      | plain r =>
        simp only [doR] at h
        cases r with
        | none => cases h
        | some q =>
          obtain ⟨ps, v, dh⟩ := q
          simp only [plainR] at h
          cases ho : obsOK ps with
          | false => rw [ho] at h; cases h
          | true =>
            rw [ho] at h
            obtain ⟨tm', hp', h1, _⟩ := finR_some h
            have := ih _ _ _ h1
            omega
    simp only [opsR, oneR] at h
    split at h
    · exact hdo h
    · split at h
      · exact hdo h
      · obtain ⟨tm', h1, _⟩ := putK_some h
        exact ih _ _ _ h1
      · cases h

theorem opsR_sound (hT : TblOK P tb) (hcall : CallOK P call) {Q : Exit → Act → World → Prop} : ∀ (rest : List Oper) (tm : Tri V) (hp : Tri Blk) (nx : Nat) (s' : RS), opsR tb N call all rest tm hp nx = .ok s' → (∀ n, n0 ≤ n → n < s'.nx → ¬ E0.U n) →
    (∀ o ∈ rest, dstIn N o.dst = true) → (∀ E a, RR B E0 n0 N s' E a → Q .normal a E.w) → ∀ E a, RR B E0 n0 N ⟨tm, hp, nx⟩ E a → wpList P all.toArray Q rest a E.w
  | [], tm, hp, nx, s', h, _, _, hQ, E, a, hR => by
    simp only [opsR, Rn.ok.injEq] at h
    subst h
    exact wpList_nil (hQ E a hR)
  | o :: rest, tm, hp, nx, s', h, hfr, hd, hQ, E, a, hR => by
    have hd0 := hd o List.mem_cons_self
    have ih := fun tm' hp' nx' h' => opsR_sound hT hcall (Q := Q) rest tm' hp' nx' s' h' hfr (fun o ho => hd o (List.mem_cons_of_mem _ ho)) hQ
    simp only [opsR, oneR] at h
    unfold wpList
    split at h
    · rename_i hg
      have hw : Region.wanted o (yielded all.toArray a.tmps) = true := by unfold Region.wanted; rw [hg]
      rw [hw]
      simp only [if_true]
      exact .inl (doR_sound hT hcall hfr hd0 h (fun _ _ _ h => opsR_le hcall rest _ _ _ _ h) ih hR)
    · split at h
      · rename_i hg
        rw [guardT_sound hR.tm hg]
        simp only [if_true]
        exact .inl (doR_sound hT hcall hfr hd0 h (fun _ _ _ h => opsR_le hcall rest _ _ _ _ h) ih hR)
      · rename_i hg
        rw [guardT_sound hR.tm hg]
        simp only [Bool.false_eq_true, if_false]
        obtain ⟨tm', h1, h2⟩ := putK_some h
        exact ih tm' hp nx h1 E _ (hR.put hR.rel (Ext.refl E) hR.h (fun n hn => .inl hn) (Nat.le_refl _) hd0 (v := .tup []) (v' := undef) (by simp [vrel, undef, vrels]) h2)
      · cases h

end Go.Mir

/- The mirror, part 26: runs of regions that draw their order are sound. -/
namespace Go.Mir
open Go.RowKit

variable {P : Program}

theorem partK_some {γ : Type} {hp : Tri Blk} : ∀ {R : List Nat} {t : Tri Blk} {κ : Tri Blk → Rn γ} {r : γ}, partK hp R t κ = .ok r → ∃ t', κ t' = .ok r ∧ ∀ j, t'.get j = if j ∈ R then hp.get j else t.get j
  | [], t, κ, r, h => ⟨t, h, fun j => by simp⟩
  | x :: R, t, κ, r, h => by
    simp only [partK] at h
    split at h
    case h_2 => cases h
    rename_i b hb
    obtain ⟨t1, h1, h2⟩ := Tri.setK_some h
    obtain ⟨t2, h3, h4⟩ := partK_some h1
    refine ⟨t2, h3, fun j => ?_⟩
    rw [h4, h2]
    by_cases e : j ∈ R
    · simp [e]
    · by_cases e2 : j = x
      · subst e2; simp [hb]
      · simp [e, e2]

theorem pickK_some {γ : Type} {hp : Tri Blk} {skip : Nat → Bool} : ∀ {l : List Nat} {κ : List (Nat × Blk) → Rn γ} {r : γ}, pickK hp skip l κ = .ok r → ∃ dh, κ dh = .ok r ∧ ∀ h b, find dh h = some b → hp.get h = some b
  | [], κ, r, h => ⟨[], h, fun j b hb => by simp [find] at hb⟩
  | x :: l, κ, r, h => by
    simp only [pickK] at h
    cases hs : skip x with
    | true => rw [hs] at h; exact pickK_some h
    | false =>
      rw [hs] at h
      simp only [cond_false] at h
      split at h
      case h_2 => cases h
      rename_i b hb
      rw [forceN_eq] at h
      obtain ⟨dh, h1, h2⟩ := pickK_some h
      refine ⟨(x, b) :: dh, h1, fun j b' hj => ?_⟩
      simp only [find] at hj
      cases hx : Nat.beq x j with
      | true => rw [hx] at hj; simp only [cond_true, Option.some.injEq] at hj; subst hj; rw [← Nat.eq_of_beq_eq_true hx]; exact hb
      | false => rw [hx] at hj; exact h2 j b' hj

theorem find_of_memN {α : Type} {l : List (Nat × α)} {k : Nat} (h : memN (l.map (·.1)) k = true) : find l k ≠ none := by
  induction l with
  | nil => simp [memN] at h
  | cons q l ih =>
    obtain ⟨a, b⟩ := q
    simp only [List.map_cons, memN, Bool.or_eq_true] at h
    simp only [find]
    cases hb : Nat.beq a k with
    | true => simp
    | false =>
      simp only [cond_false]
      refine ih ?_
      rcases h with h | h
      · rw [hb] at h; cases h
      · exact h

theorem dcall_sound {call : CallR} (hcall : CallOK P call) {g : FuncId} {args : List V} {hp : Tri Blk} {R : List Nat} {m : Nat} {v : V} {dh : List (Nat × Blk)} {nx : Nat} (h : dcall call g args hp R m = .ok (v, dh, nx)) :
    (∃ fn, P.funcs[g]? = some fn ∧ fn.body.isSome = true ∧ (fn.name == "runtime.NumGoroutine") = false) ∧ m ≤ nx ∧
      ∀ (B : Base) (E : Env) (av : List Value), HRel B E → E.H = restr hp.get R → vrels E args av → (∀ n, m ≤ n → n < nx → ¬ E.U n) →
        Calls P g av.toArray E.w fun e w' => ∃ E' v', e = .returned v' ∧ GoodK B E m (nx + 1 - m) dh w' E' ∧ vrel E' v v' := by
  unfold dcall at h
  obtain ⟨hr, h1, h2⟩ := partK_some h
  have hget : hr.get = restr hp.get R := by
    funext j
    rw [h2]
    unfold restr
    cases hm : memN R j with
    | true => rw [if_pos (memN_iff.1 hm)]; rfl
    | false => rw [if_neg (fun e => by rw [memN_iff.2 e] at hm; cases hm)]; rfl
  split at h1
  case h_2 => cases h1
  rename_i v0 hp' nx0 hc
  simp only [forceL_eq] at h1
  obtain ⟨dh', h3, h4⟩ := pickK_some h1
  cases hall : R.all (fun h => memN (dh'.map (·.1)) h || eqbB (hp.get h) (hp'.get h)) with
  | false => rw [hall] at h3; cases h3
  | true =>
    rw [hall] at h3
    simp only [cond_true, Rn.ok.injEq, Prod.mk.injEq] at h3
    obtain ⟨rfl, rfl, rfl⟩ := h3
    obtain ⟨hfn, hle, hcalls⟩ := hcall g args hr m v0 hp' nx0 hc
    refine ⟨hfn, hle, fun B E av hE hH hav hfr => ?_⟩
    refine (hcalls B E av hE (by rw [hH, hget]) hav hfr).mono fun e w' hh => ?_
    obtain ⟨E', v', rfl, C⟩ := hh
    obtain ⟨R1, X1⟩ := C.rel.weak (hset E.H dh') (fun j k' hk => by
      refine ⟨k', ?_, .inl rfl⟩
      rw [C.h]
      unfold hset at hk
      cases hf : find dh' j with
      | some b => rw [hf] at hk; simp only [Option.some.injEq] at hk; subst hk; exact h4 j b hf
      | none =>
        rw [hf] at hk
        simp only at hk
        rw [hH] at hk
        unfold restr at hk
        cases hm : memN R j with
        | false => rw [hm] at hk; cases hk
        | true =>
          rw [hm] at hk
          simp only [cond_true] at hk
          have := List.all_eq_true.1 hall j (memN_iff.1 hm)
          simp only [Bool.or_eq_true] at this
          rcases this with h5 | h5
          · exact absurd hf (find_of_memN h5)
          · rw [← eqbB_eq _ _ h5]; exact hk)
    exact ⟨_, v', rfl, ⟨R1, C.ext.trans X1, C.w, rfl, fun n hn => by
      rcases C.u n hn with h | h
      · exact .inl h
      · exact .inr ⟨h.1, by omega⟩⟩, vrel_ext X1 _ _ C.v⟩

def Chain : Nat → List (Nat × Cfg) → Nat → Prop
  | n, [], e => n = e
  | n, q :: r, e => q.1 = n ∧ ∃ n2, n + q.2.K ≤ n2 ∧ Chain n2 r e

theorem Chain.le : ∀ {n : Nat} {l : List (Nat × Cfg)} {e : Nat}, Chain n l e → n ≤ e
  | n, [], e, h => Nat.le_of_eq h
  | n, q :: r, e, ⟨_, n2, h1, h2⟩ => by have := h2.le; omega

theorem Chain.at : ∀ {n : Nat} {l : List (Nat × Cfg)} {e : Nat}, Chain n l e → ∀ (j : Nat) (q : Nat × Cfg), l[j]? = some q → n ≤ q.1 ∧ q.1 + q.2.K ≤ e
  | n, [], e, _, j, q, hq => by simp at hq
  | n, p :: r, e, ⟨h0, n2, h1, h2⟩, j, q, hq => by
    have hle := h2.le
    cases j with
    | zero =>
      simp only [List.getElem?_cons_zero, Option.some.injEq] at hq
      subst hq
      omega
    | succ j =>
      have := h2.at j q (by simpa using hq)
      omega

theorem Chain.lt : ∀ {n : Nat} {l : List (Nat × Cfg)} {e : Nat}, Chain n l e → ∀ (i j : Nat) (p q : Nat × Cfg), i < j → l[i]? = some p → l[j]? = some q → p.1 + p.2.K ≤ q.1
  | n, [], e, _, i, j, p, q, _, hp, _ => by simp at hp
  | n, x :: r, e, ⟨h0, n2, h1, h2⟩, i, j, p, q, hij, hp, hq => by
    cases j with
    | zero => omega
    | succ j =>
      cases i with
      | zero =>
        simp only [List.getElem?_cons_zero, Option.some.injEq] at hp
        subst hp
        have := (h2.at j q (by simpa using hq)).1
        omega
      | succ i => exact h2.lt i j p q (by omega) (by simpa using hp) (by simpa using hq)

theorem guardOf_eq {all : List Oper} {l : List (Nat × V)} {t : Tri V} (h : ∀ s, lookV l s = lookT t s) (o : Oper) : guardOf all l o = guardT all t o := by
  unfold guardOf guardT
  cases o.guard with
  | none => rfl
  | some q =>
    simp only
    cases all[q.1]? with
    | none => rfl
    | some oj =>
      simp only
      cases oj.dst with
      | none => rfl
      | some dj => simp only; rw [h]; rfl

theorem maskR_eq {rs : List Nat} {l : List (Nat × V)} {t : Tri V} (h : ∀ s, lookV l s = lookT t s) : maskEv rs l = maskR rs t := by
  funext x
  cases x <;> simp only [maskEv, maskR]
  rw [h]

variable {tb : Tbl} {N : Nat} {call : CallR} {all : List Oper}

theorem drawR_run (hT : TblOK P tb) (hcall : CallOK P call) {st : St} : ∀ (rest : List Oper) (tm : Tri V) (hp : Tri Blk) (nx : Nat) (recs : List Rec) (d : Dl) (s' : RS), drawR tb N call all rest tm hp nx recs = .ok s' →
    (∀ s, lookV (d.tm ++ st.tm) s = lookT tm s) → find (d.tm ++ st.tm) = tm.get → hset st.H d.hp = hp.get → ∀ i,
    ∃ (ks : List (Nat × Cfg)) (df : Dl) (rf : List Rec), ks.length = rest.length ∧ Chain nx ks s'.nx ∧ (∀ q ∈ ks, CfgOK P q.2 ∧ q.2.N = N) ∧
      (∀ (Cf : Nat → Cfg) (lo : Nat → Nat), (∀ j q, ks[j]? = some q → Cf (i + j) = q.2 ∧ lo (i + j) = q.1) → RunV Cf lo all st i rest d recs df rf) ∧
      edgesOK 0 all = true ∧ chkAll (masks all []) 0 rf = true ∧ find (df.tm ++ st.tm) = s'.tm.get ∧ hset st.H df.hp = s'.hp.get
  | [], tm, hp, nx, recs, d, s', h, h1, h2, h3, i => by
    simp only [drawR] at h
    cases hc : edgesOK 0 all && chkAll (masks all []) 0 recs with
    | false => rw [hc] at h; cases h
    | true =>
      rw [hc] at h
      simp only [cond_true, Rn.ok.injEq] at h
      subst h
      simp only [Bool.and_eq_true] at hc
      exact ⟨[], d, recs, rfl, rfl, fun q hq => by simp at hq, fun _ _ _ => .nil, hc.1, hc.2, h2, h3⟩
  | o :: rest, tm, hp, nx, recs, d, s', h, h1, h2, h3, i => by
    simp only [drawR] at h
    cases hd : dstIn N o.dst with
    | false => rw [hd] at h; cases h
    | true =>
      rw [hd] at h
      simp only [cond_true] at h
      -- a step, put together with what follows
      have glue : ∀ (C0 : Cfg) (r : Rec) (tm' : Tri V) (hp' : Tri Blk) (nx' : Nat), CfgOK P C0 → C0.N = N → nx + C0.K ≤ nx' → Does C0 true all (d.tm ++ st.tm) (hset st.H d.hp) nx o r →
          (∀ k, tm'.get k = match find (dstPut r.dst r.v) k with | some u => some u | none => tm.get k) → hp'.get = hset hp.get r.dh → drawR tb N call all rest tm' hp' nx' (recs ++ [r]) = .ok s' →
          ∃ (ks : List (Nat × Cfg)) (df : Dl) (rf : List Rec), ks.length = (o :: rest).length ∧ Chain nx ks s'.nx ∧ (∀ q ∈ ks, CfgOK P q.2 ∧ q.2.N = N) ∧
            (∀ (Cf : Nat → Cfg) (lo : Nat → Nat), (∀ j q, ks[j]? = some q → Cf (i + j) = q.2 ∧ lo (i + j) = q.1) → RunV Cf lo all st i (o :: rest) d recs df rf) ∧
            edgesOK 0 all = true ∧ chkAll (masks all []) 0 rf = true ∧ find (df.tm ++ st.tm) = s'.tm.get ∧ hset st.H df.hp = s'.hp.get := fun C0 r tm' hp' nx' hC hCN hle hdo htm hhp hrest => by
        have hf' : find (dstPut r.dst r.v ++ d.tm ++ st.tm) = tm'.get := by
          funext k
          rw [List.append_assoc, find_append, h2, htm]
          cases find (dstPut r.dst r.v) k <;> rfl
        have hl' : ∀ s, lookV (dstPut r.dst r.v ++ d.tm ++ st.tm) s = lookT tm' s := fun s => by
          unfold lookV
          rw [hf', lookT_eq]
          cases tm'.get s <;> rfl
        obtain ⟨ks, df, rf, k1, k2, k3, k4, k5⟩ := drawR_run hT hcall (st := st) rest tm' hp' nx' (recs ++ [r]) ⟨dstPut r.dst r.v ++ d.tm, r.dh ++ d.hp⟩ s' hrest hl' hf' (by rw [hset_append, h3, hhp]) (i + 1)
        refine ⟨(nx, C0) :: ks, df, rf, by simp [k1], ⟨rfl, nx', hle, k2⟩, fun q hq => ?_, fun Cf lo hCf => ?_, k5⟩
        · rcases List.mem_cons.1 hq with rfl | hq
          · exact ⟨hC, hCN⟩
          · exact k3 q hq
        · have h0 := hCf 0 (nx, C0) (by simp)
          refine .cons (r := r) ?_ (k4 Cf lo fun j q hq => ?_)
          · rw [show i = i + 0 from rfl, h0.1, h0.2]; exact hdo
          · have := hCf (j + 1) q (by simpa using hq)
            rw [show i + 1 + j = i + (j + 1) by omega]
            exact this
      have hmask : ∀ rs, maskEv rs (d.tm ++ st.tm) = maskR rs tm := fun rs => maskR_eq h1
      split at h
      · -- left out
        rename_i hg
        obtain ⟨tm', k1, k2⟩ := putK_some h
        rw [forceN_eq] at k1
        have hC : CfgOK P ⟨tb, fun _ => none, 1, N⟩ := ⟨hT, Nat.le_refl _, fun _ _ h => by cases h⟩
        exact glue ⟨tb, fun _ => none, 1, N⟩ ⟨o.dst, .tup [], [], [], slotsOf all o⟩ tm' hp (nx + 1) hC rfl (Nat.le_refl _) (.skip hd (by rw [guardOf_eq h1]; exact hg)) k2 rfl k1
      · rename_i hg
        simp only [forceL_eq] at h
        have hreach : reach (hset st.H d.hp) 8 (o.op.operands.toList.flatMap fun x => (maskEv (slotsOf all o) (d.tm ++ st.tm) x).hs) [] = reach hp.get 8 (o.op.operands.toList.flatMap fun x => (maskR (slotsOf all o) tm x).hs) [] := by
          rw [h3, hmask]
        split at h
        · -- a call
          rename_i g args he
          rw [forceN_eq] at h
          have h := forceVs_some args _ s' h
          split at h
          case h_2 => cases h
          rename_i v dh nx2 hdc
          cases hfr : frameOK hp.get (reach hp.get 8 (o.op.operands.toList.flatMap fun x => (maskR (slotsOf all o) tm x).hs) []) nx (nx2 + 1 - nx) v dh with
          | false => rw [hfr] at h; cases h
          | true =>
            rw [hfr] at h
            simp only [cond_true] at h
            obtain ⟨hp', k1, k2⟩ := setsK_some _ _ _ _ h
            obtain ⟨tm', k3, k4⟩ := putK_some k1
            rw [forceN_eq] at k3
            obtain ⟨c, f, caps, ho, hf, hg2, hargs⟩ := evA_call tb N nx _ _ o.op he
            obtain ⟨hfn, hle, hcalls⟩ := dcall_sound hcall hdc
            let ct : Ctr := fun args' H' m' => open Classical in if args' = args ∧ H' = restr hp.get (reach hp.get 8 (o.op.operands.toList.flatMap fun x => (maskR (slotsOf all o) tm x).hs) []) ∧ m' = nx then some ([], v, dh) else none
            let C0 : Cfg := ⟨tb, fun g' => if g' = g then some ct else none, nx2 + 1 - nx, N⟩
            have hK : 1 ≤ nx2 + 1 - nx := by omega
            have hC : CfgOK P C0 := ⟨hT, hK, fun f' c' hf' => by
              have hf2 : (if f' = g then some ct else none) = some c' := hf'
              split at hf2
              case isFalse => cases hf2
              rename_i e
              cases hf2
              subst e
              refine ⟨hfn, fun B E hE args' av hav m hm ps' v' dh' hp2 _ => ?_⟩
              simp only [ct] at hp2
              split at hp2
              case isFalse => cases hp2
              rename_i e
              obtain ⟨rfl, e2, rfl⟩ := e
              cases hp2
              exact hcalls B E av hE e2 hav (fun n h1 h2 => hm n h1 (by show n < m + (nx2 + 1 - m); omega))⟩
            have hev : evAny C0 nx (restr hp.get (reach hp.get 8 (o.op.operands.toList.flatMap fun x => (maskR (slotsOf all o) tm x).hs) [])) (maskR (slotsOf all o) tm) o.op = some ([], v, dh) := by
              simp only [evAny, ho, evSt, evOp, hf, hg2, C0, if_true]
              rw [← hargs]
              simp only [evCall, ct]
              rw [if_pos ⟨rfl, by rw [ho], rfl⟩]
              rfl
            refine glue C0 ⟨o.dst, toKb v, dh, _, slotsOf all o⟩ tm' hp' (nx2 + 1) hC rfl (by show nx + (nx2 + 1 - nx) ≤ nx2 + 1; omega) (.run (v := v) hd (by rw [guardOf_eq h1]; exact hg) (by
              simp only [stepOp]
              rw [hmask, h3]
              rw [hev]
              simp only [C0, hfr, cond_true]
              rfl) (fun p hp => by cases hp) (by cases v <;> simp [toKb])) k4 k2 k3
        · cases h
        · -- an operation
          rename_i ps v dh he
          cases hfr : ps.all Ob.chk && frameOK hp.get (reach hp.get 8 (o.op.operands.toList.flatMap fun x => (maskR (slotsOf all o) tm x).hs) []) nx 1 v dh with
          | false => rw [hfr] at h; cases h
          | true =>
            rw [hfr] at h
            simp only [cond_true] at h
            simp only [Bool.and_eq_true] at hfr
            have h := forceV_some v _ s' h
            obtain ⟨hp', k1, k2⟩ := setsK_some _ _ _ _ h
            obtain ⟨tm', k3, k4⟩ := putK_some k1
            rw [forceN_eq] at k3
            have hC : CfgOK P ⟨tb, fun _ => none, 1, N⟩ := ⟨hT, Nat.le_refl _, fun _ _ h => by cases h⟩
            have hev := evA_plain tb N nx _ _ o.op he
            refine glue ⟨tb, fun _ => none, 1, N⟩ ⟨o.dst, toKb v, dh, _, slotsOf all o⟩ tm' hp' (nx + 1) hC rfl (Nat.le_refl _) (.run (v := v) hd (by rw [guardOf_eq h1]; exact hg) (by
              simp only [stepOp]
              rw [hmask, h3]
              rw [hev]
              simp only [hfr.2, cond_true]) (fun p hp => Ob.chk_holds (List.all_eq_true.1 hfr.1 p hp)) (by cases v <;> simp [toKb])) k4 k2 k3
      · cases h

end Go.Mir
