/- The field layer: equal states, acts: plain functions. -/
import Derived.Test.YtogdeefpidccmaaFj
namespace Go.Proofs.Ytogdeefpidccmaa
open Go Go.Mir

def eqLB (xs ys : List Bool) : Bool := decide (xs = ys)
/-- all that is compared at the end -/
def restW (a b : Innings) : Bool :=
  a.Side == b.Side && (a.Target == b.Target && (a.Overs == b.Overs && (a.Runs == b.Runs && (a.Wickets == b.Wickets && (
  (a.Extras.Wides == b.Extras.Wides && (a.Extras.NoBalls == b.Extras.NoBalls && (a.Extras.Byes == b.Extras.Byes && (a.Extras.LegByes == b.Extras.LegByes && (a.Extras.Penalties == b.Extras.Penalties && true))))) && (
  a.Complete == b.Complete && (a.InOver == b.InOver && (a.Striker == b.Striker && (a.Other == b.Other && (a.Bowler == b.Bowler && (a.Fresh == b.Fresh && (a.FreeHit == b.FreeHit && (a.BallAge == b.BallAge && (
  a.Keeper == b.Keeper && (a.Outside == b.Outside && (a.Reviews.1 == b.Reviews.1 && (a.Reviews.2.1 == b.Reviews.2.1 && a.Ending == b.Ending)))))))))))))))))
def sameW (a b : Innings) : Bool :=
  eqLI a.Bowlers b.Bowlers && (eqLI a.Before b.Before && (eqLI a.Bowled b.Bowled && (eqLI a.Batters b.Batters && (eqLB a.Subs b.Subs && restW a b))))
def psSS : Ty := .prod (.nm .Innings) (.prod (.nm .Innings) .unit)
def spec36 : Den psSS → PRes := fun x => ⟨[], .bool (sameW x.1 x.2.1), []⟩
def actY (x : Innings) (a : law11_Act) : Innings := if a.Kind.tmod 3 == 0 then keeperY x a.N else if a.Kind.tmod 3 == 1 then substY x a.N a.On else outsideY x a.N
def actL (x : Innings) (a : law11_Act) : Int := if a.Kind.tmod 3 == 0 then keeperL x a.N else if a.Kind.tmod 3 == 1 then substL x a.N a.On else outsideL x a.N
def psIA : Ty := .prod (.nm .Innings) (.prod (.nm .law11_Act) .unit)
def spec34 : Den psIA → PRes := fun x => ⟨[smallI x.1], .tup [rowI (actY x.1 x.2.1), .int .i64 (actL x.1 x.2.1)], rowsI (actY x.1 x.2.1)⟩

def k36 : FuncId × Ctr := (36, pureCtr K8 psSS spec36)
def k34 : FuncId × Ctr := (34, pureCtr K8 psIA spec34)
def k35 : FuncId × Ctr := (35, pureCtr K8 psIA spec34)

/-! ## loops -/
def J36 (a b : Innings) (i : Nat) : St := ⟨[(2, .ptr 0 0), (3, .ptr 8 0), (49, .int .i64 a.Batters.length), (50, .int .i64 i)], [(0, .cells (flat FUEL (.nm .Innings) a)), (8, .cells (flat FUEL (.nm .Innings) b))], fun _ => none, 376⟩
def T36 (a b : Innings) : Tr := .br (eqLI a.Batters b.Batters) (.leaf (.ext 0) ⟨[(2, .ptr 0 0), (3, .ptr 8 0)], [(0, .cells (flat FUEL (.nm .Innings) a)), (8, .cells (flat FUEL (.nm .Innings) b))]⟩ 376) (.leaf .ret ⟨[(4, .kb false)], []⟩ 376)
def inv36 (a b : Innings) (i : Nat) : Prop := invE a.Batters b.Batters i
def J36b (a b : Innings) (i : Nat) : St := ⟨[(2, .ptr 0 0), (3, .ptr 8 0), (67, .int .i64 a.Subs.length), (68, .int .i64 i)], [(0, .cells (flat FUEL (.nm .Innings) a)), (8, .cells (flat FUEL (.nm .Innings) b))], fun _ => none, 408⟩
def T36b (a b : Innings) : Tr := .br (eqLB a.Subs b.Subs) (.leaf (.ext 2) ⟨[(2, .ptr 0 0), (3, .ptr 8 0)], [(0, .cells (flat FUEL (.nm .Innings) a)), (8, .cells (flat FUEL (.nm .Innings) b))]⟩ 408) (.leaf .ret ⟨[(4, .kb false)], []⟩ 408)
def inv36b (a b : Innings) (i : Nat) : Prop := i ≤ a.Subs.length ∧ a.Subs.length = b.Subs.length ∧ a.Subs.take i = b.Subs.take i
def Λ36 (a b : Innings) : Nat → Option LoopSum := find [(4, (loopSum ⟨[], [], 376⟩ (J36 a b 0) (T36 a b)).under (a.Batters.length = b.Batters.length)), (10, (loopSum ⟨[], [], 408⟩ (J36b a b 0) (T36b a b)).under (a.Subs.length = b.Subs.length))]

end Go.Proofs.Ytogdeefpidccmaa
