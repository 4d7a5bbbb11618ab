/- The field layer: plain functions. -/
import Derived.Test.YtogdeefpidccmaaFa
namespace Go.Proofs.Ytogdeefpidccmaa
open Go Go.Mir

abbrev K8 : Nat := 8
def cfg8 (l : Ctrs) (n : Nat) : Cfg := ⟨tbl, find l, K8, n⟩
def cf8 (l : Ctrs) (fn : Func) : Cfg := cfg8 l fn.ntmps
theorem cfg8OK {l : Ctrs} (h : CtrsOK Try.prog K8 l) (n : Nat) : CfgOK Try.prog (cfg8 l n) := ⟨tbl_ok, by show 1 ≤ K8; decide, h⟩

/-- slices in a result are rows, numbered as they come -/
def osls : Nat → List V → List V × List RowD
  | _, [] => ([], [])
  | k, .fsl t xs :: r => (.osl k k :: (osls (k + 1) r).1, ⟨t, xs⟩ :: (osls (k + 1) r).2)
  | k, v :: r => (v :: (osls k r).1, (osls k r).2)
/-- the same, where an empty slice is nil -/
def nils : Nat → List V → List V × List RowD
  | _, [] => ([], [])
  | k, .fsl _ [] :: r => (.nilsl :: (nils k r).1, (nils k r).2)
  | k, .fsl t (x :: xs) :: r => (.osl k k :: (nils (k + 1) r).1, ⟨t, x :: xs⟩ :: (nils (k + 1) r).2)
  | k, v :: r => (v :: (nils k r).1, (nils k r).2)
def rowI (x : Innings) : V := .agg (osls 0 (flat FUEL (.nm .Innings) x)).1
def rowsI (x : Innings) : List RowD := (osls 0 (flat FUEL (.nm .Innings) x)).2

def knownW (x : Innings) (p : Int) : Bool := decide (p ≥ 1) && decide (p ≤ (x.Subs.length : Int))
def subAt (x : Innings) (p : Int) : Bool := x.Subs.getD (p - 1).toNat false
def replacedW (x : Innings) (p : Int) : Bool := knownW x p && subAt x p
def covers (over : Int) (p : Phase) : Bool := decide (p.From ≤ IntKind.i64.wrap (over + 1)) && decide (IntKind.i64.wrap (over + 1) ≤ p.To)
def allowedW (r : Rules) (over : Int) : Int := ((r.Power.find? (covers over)).map Phase.Outside).getD r.Outside
def readyW (r : Rules) (x : Innings) : Int :=
  if !knownW x x.Keeper || replacedW x x.Keeper || x.Keeper == x.Bowler then 17 else if x.Outside > allowedW r x.Complete then 16 else 0
def named1 (x : Innings) (d : Delivery) : Int :=
  if d.Fielder > 0 then (if !knownW x d.Fielder then 3 else if replacedW x d.Fielder != d.Sub then 18 else 0) else 0
def named2 (x : Innings) (d : Delivery) : Int :=
  if d.Second > 0 then (if !knownW x d.Second then 3 else if replacedW x d.Second then 18 else 0) else 0
def namedW (x : Innings) (d : Delivery) : Int :=
  if named1 x d != 0 then named1 x d else if named2 x d != 0 then named2 x d
  else if d.How == 4 && maxI d.Fielder 0 != x.Keeper then 17 else 0
def hereQ (l : List Bool) (k : Nat) : Bool := !l.getD k false
def presentN (l : List Bool) (n : Nat) : List Int := ((List.range n).filter (hereQ l)).map fun k : Nat => (k : Int) + 1
def presentW (x : Innings) : List Int := presentN x.Subs x.Subs.length
def fewW (x : Innings) : Innings := { x with Batters := x.Batters.take 13, Bowlers := x.Bowlers.take 13, Before := x.Before.take 13, Bowled := x.Bowled.take 13, Subs := x.Subs.take 13 }

def keeperY (x : Innings) (p : Int) : Innings := if !knownW x p then x else if replacedW x p then x else if p == x.Bowler || p == x.Keeper then x else { x with Keeper := p }
def keeperL (x : Innings) (p : Int) : Int := if !knownW x p then 3 else if replacedW x p then 18 else if p == x.Bowler || p == x.Keeper then 17 else 0
def putSub (x : Innings) (p : Int) (on : Bool) : Innings :=
  { x with Subs := x.Subs.set (p - 1).toNat on, Keeper := bif on && x.Keeper == p then 0 else x.Keeper, Bowler := bif on && x.Bowler == p then 0 else x.Bowler }
def substY (x : Innings) (p : Int) (on : Bool) : Innings := if !knownW x p then x else if replacedW x p == on then x else putSub x p on
def substL (x : Innings) (p : Int) (on : Bool) : Int := if !knownW x p then 3 else if replacedW x p == on then 18 else 0
def tooFar (x : Innings) (n : Int) : Bool := decide (n < 0) || decide (n > (x.Subs.length : Int) - 2)
def outsideY (x : Innings) (n : Int) : Innings := if tooFar x n then x else { x with Outside := n }
def outsideL (x : Innings) (n : Int) : Int := if tooFar x n then 16 else 0
def eqLI (xs ys : List Int) : Bool := decide (xs = ys)

def smallI (x : Innings) : Prop := x.Batters.length ≤ 1000000 ∧ x.Bowlers.length ≤ 1000000 ∧ x.Before.length ≤ 1000000 ∧ x.Bowled.length ≤ 1000000 ∧ x.Subs.length ≤ 1000000

/-! ## specifications -/
def psI : Ty := .prod (.nm .Innings) .unit
def psII : Ty := .prod (.nm .Innings) (.prod (.int .i64) .unit)
def psIIB : Ty := .prod (.nm .Innings) (.prod (.int .i64) (.prod .bool .unit))
def psLI : Ty := .prod (.slice (.int .i64)) (.prod (.slice (.int .i64)) .unit)
def psR : Ty := .prod (.nm .Rules) (.prod (.int .i64) .unit)
def psRI : Ty := .prod (.nm .Rules) (.prod (.nm .Innings) .unit)
def psID : Ty := .prod (.nm .Innings) (.prod (.nm .Delivery) .unit)
def spec73 : Den psII → PRes := fun x => ⟨[], .bool (knownW x.1 x.2.1), []⟩
def spec74 : Den psII → PRes := fun x => ⟨[], .bool (replacedW x.1 x.2.1), []⟩
def spec75 : Den psR → PRes := fun x => ⟨[], .int .i64 (allowedW x.1 x.2.1), []⟩
def spec40 : Den psRI → PRes := fun x => ⟨[], .int .i64 (readyW x.1 x.2.1), []⟩
def spec42 : Den psID → PRes := fun x => ⟨[], .int .i64 (namedW x.1 x.2.1), []⟩
def spec38 : Den psI → PRes := fun x => ⟨[x.1.Subs.length ≤ 1000000], .osl 0 0, [⟨.int .i64, presentW x.1⟩]⟩
def spec33 : Den psI → PRes := fun x => ⟨[], .agg (flat FUEL (.nm .Innings) (fewW x.1)), []⟩
def spec78 : Den psI → PRes := fun x => ⟨[smallI x.1], rowI x.1, rowsI x.1⟩
def spec66 : Den psII → PRes := fun x => ⟨[smallI x.1], .tup [rowI (keeperY x.1 x.2.1), .int .i64 (keeperL x.1 x.2.1)], rowsI (keeperY x.1 x.2.1)⟩
def spec46 : Den psIIB → PRes := fun x => ⟨[smallI x.1], .tup [rowI (substY x.1 x.2.1 x.2.2.1), .int .i64 (substL x.1 x.2.1 x.2.2.1)], rowsI (substY x.1 x.2.1 x.2.2.1)⟩
def spec67 : Den psII → PRes := fun x => ⟨[smallI x.1], .tup [rowI (outsideY x.1 x.2.1), .int .i64 (outsideL x.1 x.2.1)], rowsI (outsideY x.1 x.2.1)⟩
def spec37 : Den psLI → PRes := fun x => ⟨[], .bool (eqLI x.1 x.2.1), []⟩
def ps45 : Ty := .prod (.slice .bool) .unit
def spec45 : Den ps45 → PRes := fun x => ⟨[x.1.length ≤ 1000000], .osl 0 0, [⟨.bool, x.1⟩]⟩
def ps90 : Ty := .prod (.slice (.int .u8)) .unit
def spec90 : Den ps90 → PRes := fun x => ⟨[x.1.length ≤ 1000000], .osl 0 0, [⟨.int .u8, x.1⟩]⟩
def ps91 : Ty := .prod (.slice (.int .i64)) .unit
def spec91 : Den ps91 → PRes := fun x => ⟨[x.1.length ≤ 1000000], .osl 0 0, [⟨.int .i64, x.1⟩]⟩
def ps0 : Ty := .unit
def zeroI : Innings := { Innings.zero with Subs := [false, false, false, false] }
def spec65 : Den ps0 → PRes := fun _ => ⟨[], rowI zeroI, rowsI zeroI⟩
def spec32 : Den ps0 → PRes := fun _ => ⟨[], .bool true, []⟩

def k73 : FuncId × Ctr := (73, pureCtr K8 psII spec73)
def k76 : FuncId × Ctr := (76, pureCtr K8 psII spec73)
def k74 : FuncId × Ctr := (74, pureCtr K8 psII spec74)
def k72 : FuncId × Ctr := (72, pureCtr K8 psII spec74)
def k75 : FuncId × Ctr := (75, pureCtr K8 psR spec75)
def k77 : FuncId × Ctr := (77, pureCtr K8 psR spec75)
def k40 : FuncId × Ctr := (40, pureCtr K8 psRI spec40)
def k41 : FuncId × Ctr := (41, pureCtr K8 psRI spec40)
def k42 : FuncId × Ctr := (42, pureCtr K8 psID spec42)
def k43 : FuncId × Ctr := (43, pureCtr K8 psID spec42)
def k38 : FuncId × Ctr := (38, pureCtr K8 psI spec38)
def k39 : FuncId × Ctr := (39, pureCtr K8 psI spec38)
def k33 : FuncId × Ctr := (33, pureCtr K8 psI spec33)
def k78 : FuncId × Ctr := (78, pureCtr K8 psI spec78)
def k44 : FuncId × Ctr := (44, pureCtr K8 psI spec78)
def k66 : FuncId × Ctr := (66, pureCtr K8 psII spec66)
def k68 : FuncId × Ctr := (68, pureCtr K8 psII spec66)
def k46 : FuncId × Ctr := (46, pureCtr K8 psIIB spec46)
def k69 : FuncId × Ctr := (69, pureCtr K8 psIIB spec46)
def k67 : FuncId × Ctr := (67, pureCtr K8 psII spec67)
def k70 : FuncId × Ctr := (70, pureCtr K8 psII spec67)
def k37 : FuncId × Ctr := (37, pureCtr K8 psLI spec37)
def k71 : FuncId × Ctr := (71, pureCtr K8 psLI spec37)
def k45 : FuncId × Ctr := (45, pureCtr K8 ps45 spec45)
def k90 : FuncId × Ctr := (90, pureCtr K8 ps90 spec90)
def k91 : FuncId × Ctr := (91, pureCtr K8 ps91 spec91)
def k65 : FuncId × Ctr := (65, pureCtr K8 ps0 spec65)
def psLV : Ty := .prod (.slice (.int .i64)) (.prod (.int .i64) .unit)
def hasLI (xs : List Int) (v : Int) : Bool := xs.contains v
def spec47 : Den psLV → PRes := fun x => ⟨[], .bool (hasLI x.1 x.2.1), []⟩
def spec79 : Den psLV → PRes := fun x => ⟨[], .int .i64 (idx x.1 x.2.1 0), []⟩
def k47 : FuncId × Ctr := (47, pureCtr K8 psLV spec47)
def k79 : FuncId × Ctr := (79, pureCtr K8 psLV spec79)
def k32 : FuncId × Ctr := (32, pureCtr K8 ps0 spec32)

/-! ## loops -/
def invE (xs ys : List Int) (i : Nat) : Prop := i ≤ xs.length ∧ xs.length = ys.length ∧ xs.take i = ys.take i
def LE (i : Nat) : List (Lspec Nat) := [.out [false] [] [], .next (i + 1) [] [], .out [true] [] []]
def T37 (xs ys : List Int) : Tr := .br (eqLI xs ys) (.leaf (.ext 0) ⟨[], []⟩ 72) (.leaf .ret ⟨[(4, .kb false)], []⟩ 72)
def J37 (xs ys : List Int) (i : Nat) : St := ⟨[(0, .fsl (.int .i64) xs), (1, .fsl (.int .i64) ys), (12, .int .i64 xs.length), (13, .int .i64 i)], [], fun _ => none, 72⟩
def Λ37 (xs ys : List Int) : Nat → Option LoopSum := find [(4, (loopSum ⟨[], [], 72⟩ (J37 xs ys 0) (T37 xs ys)).under (xs.length = ys.length))]

def inv79 (xs : List Int) (v : Int) (i : Nat) : Prop := i ≤ xs.length ∧ v ∉ xs.take i
def L79 (i : Nat) : List (Lspec Nat) := [.out [true] [] [], .next (i + 1) [] [], .out [false] [] []]
def J79 (xs : List Int) (v : Int) (i : Nat) : St := ⟨[(0, .fsl (.int .i64) xs), (1, .int .i64 v), (7, .int .i64 xs.length), (8, .int .i64 i)], [], fun _ => none, 0⟩
def T79 (xs : List Int) (v : Int) : Tr := .br (xs.contains v) (.leaf .ret ⟨[(4, .int .i64 (idx xs v 0))], []⟩ 0) (.leaf (.ext 0) ⟨[], []⟩ 0)
def Λ79 (xs : List Int) (v : Int) : Nat → Option LoopSum := find [(2, loopSum ⟨[], [], 0⟩ (J79 xs v 0) (T79 xs v))]

def inv38 (x : Innings) (i : Nat) : Prop := i ≤ x.Subs.length
def L38 (i : Nat) : List (Lspec Nat) := [.next (i + 1) [(57, 160)] [], .next (i + 1) [] [], .out [] [] []]
def T38 (x : Innings) : Tr := .leaf (.ext 0) ⟨[(3, .osl 56 57)], [(56, .row 57 true (.int .i64) (presentW x))]⟩ 64
def J38 (x : Innings) (i : Nat) : St := ⟨[(3, .osl 56 57), (7, .fsl .bool x.Subs), (8, .int .i64 x.Subs.length), (9, .int .i64 i)], [(56, .row 57 true (.int .i64) (presentN x.Subs i))], fun _ => none, 64⟩
def Λ38 (x : Innings) : Nat → Option LoopSum := find [(3, loopSum ⟨[], [56], 64⟩ (J38 x 0) (T38 x))]
def L39 (i : Nat) : List (Lspec Nat) := [.next (i + 1) [(33, 136)] [], .next (i + 1) [] [], .out [] [] []]
def T39 (x : Innings) : Tr := .leaf (.ext 0) ⟨[(3, .osl 32 33)], [(32, .row 33 true (.int .i64) (presentW x))]⟩ 40
def J39 (x : Innings) (i : Nat) : St := ⟨[(1, .ptr 0 0), (3, .osl 32 33), (4, .int .i64 ((i : Int) + 1))], [(32, .row 33 true (.int .i64) (presentN x.Subs i)), (0, .cells (flat FUEL (.nm .Innings) x))], fun _ => none, 40⟩
def Λ39 (x : Innings) : Nat → Option LoopSum := find [(3, loopSum ⟨[], [32], 40⟩ (J39 x 0) (T39 x))]

def inv75 (r : Rules) (o : Int) (i : Nat) : Prop := i ≤ r.Power.length ∧ ∀ p ∈ r.Power.take i, covers o p = false
def L75 (i : Nat) : List (Lspec Nat) := [.out [true] [] [], .next (i + 1) [] [], .out [false] [] []]
def T75 (r : Rules) (o : Int) : Tr := .br (r.Power.any (covers o)) (.leaf .ret ⟨[(4, .int .i64 (allowedW r o))], []⟩ 48) (.leaf (.ext 0) ⟨[(2, .ptr 0 0)], [(0, .cells (flat FUEL (.nm .Rules) r))]⟩ 48)
def J75 (r : Rules) (o : Int) (i : Nat) : St := ⟨[(1, .int .i64 o), (2, .ptr 0 0), (8, .fsl (.nm .Phase) r.Power), (9, .int .i64 r.Power.length), (10, .int .i64 i)], [(0, .cells (flat FUEL (.nm .Rules) r))], fun _ => none, 48⟩
def Λ75 (r : Rules) (o : Int) : Nat → Option LoopSum := find [(2, loopSum ⟨[], [], 48⟩ (J75 r o 0) (T75 r o))]

end Go.Proofs.Ytogdeefpidccmaa
