/- The program's plain struct types as Lean structures, and codes of types. Written by a tool of mine (gen_types.py) out of the seat's translation. -/
import Derived.Calls
namespace Go.Mir

structure Delivery where
  Typ : Int
  Source : Int
  Runs : Int
  Short : Int
  Boundary : Int
  Crossed : Bool
  How : Int
  Victim : Int
  Fielder : Int
  Second : Int
  Sub : Bool
  Sector : Int
def Delivery.zero : Delivery := ⟨0, 0, 0, 0, 0, false, 0, 0, 0, 0, false, 0⟩
structure Extras where
  Wides : Int
  NoBalls : Int
  Byes : Int
  LegByes : Int
  Penalties : Int
def Extras.zero : Extras := ⟨0, 0, 0, 0, 0⟩
structure Innings where
  Side : Int
  Target : Int
  Overs : Int
  Runs : Int
  Wickets : Int
  Extras : Mir.Extras
  Complete : Int
  InOver : Int
  Striker : Int
  Other : Int
  Batters : (List Int)
  Bowler : Int
  Bowlers : (List Int)
  Before : (List Int)
  Fresh : Bool
  Bowled : (List Int)
  FreeHit : Bool
  BallAge : Int
  Keeper : Int
  Outside : Int
  Subs : (List Bool)
  Reviews : (Int × Int × Unit)
  Ending : Int
def Innings.zero : Innings := ⟨0, 0, 0, 0, 0, Extras.zero, 0, 0, 0, 0, [], 0, [], [], false, [], false, 0, 0, 0, [], (0, 0, ()), 0⟩
structure law11_Act where
  Kind : Int
  N : Int
  On : Bool
def law11_Act.zero : law11_Act := ⟨0, 0, false⟩
structure Phase where
  From : Int
  To : Int
  Outside : Int
def Phase.zero : Phase := ⟨0, 0, 0⟩
structure Rules where
  Name : ByteArray
  Side : Int
  Innings : Int
  Overs : Int
  Balls : Int
  Quota : Int
  Wide : Int
  NoBall : Int
  FreeHit : Bool
  NewBall : Int
  FollowOn : Int
  Reviews : Int
  Outside : Int
  Power : (List Mir.Phase)
def Rules.zero : Rules := ⟨ByteArray.empty, 0, 0, 0, 0, 0, 0, 0, false, 0, 0, 0, 0, []⟩
structure law13_Act where
  Player : Int
  Balls : Int
  Wide : Bool
def law13_Act.zero : law13_Act := ⟨0, 0, false⟩
structure dismissal_way where
  how : Int
  name : ByteArray
  fair : Bool
  wide : Bool
  no : Bool
  fielder : Bool
  either : Bool
def dismissal_way.zero : dismissal_way := ⟨0, ByteArray.empty, false, false, false, false, false⟩

inductive Nm where
  | Delivery | Extras | Innings | law11_Act | Phase | Rules | law13_Act | dismissal_way | none_
deriving DecidableEq

inductive Ty where
  | int (k : IntKind) | bool | str | unit | prod (a b : Ty) | slice (a : Ty) | nm (n : Nm)
deriving DecidableEq

def Nm.T : Nm → Type
  | .Delivery => Mir.Delivery
  | .Extras => Mir.Extras
  | .Innings => Mir.Innings
  | .law11_Act => Mir.law11_Act
  | .Phase => Mir.Phase
  | .Rules => Mir.Rules
  | .law13_Act => Mir.law13_Act
  | .dismissal_way => Mir.dismissal_way
  | .none_ => Unit

def Den : Ty → Type
  | .int _ => Int | .bool => Bool | .str => ByteArray | .unit => Unit
  | .prod a b => Den a × Den b | .slice a => List (Den a) | .nm n => n.T

def Nm.size : Nm → Nat
  | .Delivery => 12
  | .Extras => 5
  | .Innings => 28
  | .law11_Act => 3
  | .Phase => 3
  | .Rules => 14
  | .law13_Act => 3
  | .dismissal_way => 7
  | .none_ => 0

def Nm.flds : Nm → Ty
  | .Delivery => .prod (.int .u8) (.prod (.int .u8) (.prod (.int .i64) (.prod (.int .i64) (.prod (.int .i64) (.prod (.bool) (.prod (.int .u8) (.prod (.int .i64) (.prod (.int .i64) (.prod (.int .i64) (.prod (.bool) (.prod (.int .i64) (.unit))))))))))))
  | .Extras => .prod (.int .i64) (.prod (.int .i64) (.prod (.int .i64) (.prod (.int .i64) (.prod (.int .i64) (.unit)))))
  | .Innings => .prod (.int .i64) (.prod (.int .i64) (.prod (.int .i64) (.prod (.int .i64) (.prod (.int .i64) (.prod (.nm .Extras) (.prod (.int .i64) (.prod (.int .i64) (.prod (.int .i64) (.prod (.int .i64) (.prod (.slice (.int .u8)) (.prod (.int .i64) (.prod (.slice (.int .i64)) (.prod (.slice (.int .i64)) (.prod (.bool) (.prod (.slice (.int .i64)) (.prod (.bool) (.prod (.int .i64) (.prod (.int .i64) (.prod (.int .i64) (.prod (.slice (.bool)) (.prod (.prod (.int .i64) (.prod (.int .i64) (.unit))) (.prod (.int .u8) (.unit)))))))))))))))))))))))
  | .law11_Act => .prod (.int .u8) (.prod (.int .i64) (.prod (.bool) (.unit)))
  | .Phase => .prod (.int .i64) (.prod (.int .i64) (.prod (.int .i64) (.unit)))
  | .Rules => .prod (.str) (.prod (.int .i64) (.prod (.int .i64) (.prod (.int .i64) (.prod (.int .i64) (.prod (.int .i64) (.prod (.int .i64) (.prod (.int .i64) (.prod (.bool) (.prod (.int .i64) (.prod (.int .i64) (.prod (.int .i64) (.prod (.int .i64) (.prod (.slice (.nm .Phase)) (.unit))))))))))))))
  | .law13_Act => .prod (.int .i64) (.prod (.int .u8) (.prod (.bool) (.unit)))
  | .dismissal_way => .prod (.int .u8) (.prod (.str) (.prod (.bool) (.prod (.bool) (.prod (.bool) (.prod (.bool) (.prod (.bool) (.unit)))))))
  | .none_ => .unit

def Nm.to : (n : Nm) → n.T → Den n.flds
  | .Delivery, x => (x.Typ, x.Source, x.Runs, x.Short, x.Boundary, x.Crossed, x.How, x.Victim, x.Fielder, x.Second, x.Sub, x.Sector, ())
  | .Extras, x => (x.Wides, x.NoBalls, x.Byes, x.LegByes, x.Penalties, ())
  | .Innings, x => (x.Side, x.Target, x.Overs, x.Runs, x.Wickets, x.Extras, x.Complete, x.InOver, x.Striker, x.Other, x.Batters, x.Bowler, x.Bowlers, x.Before, x.Fresh, x.Bowled, x.FreeHit, x.BallAge, x.Keeper, x.Outside, x.Subs, x.Reviews, x.Ending, ())
  | .law11_Act, x => (x.Kind, x.N, x.On, ())
  | .Phase, x => (x.From, x.To, x.Outside, ())
  | .Rules, x => (x.Name, x.Side, x.Innings, x.Overs, x.Balls, x.Quota, x.Wide, x.NoBall, x.FreeHit, x.NewBall, x.FollowOn, x.Reviews, x.Outside, x.Power, ())
  | .law13_Act, x => (x.Player, x.Balls, x.Wide, ())
  | .dismissal_way, x => (x.how, x.name, x.fair, x.wide, x.no, x.fielder, x.either, ())
  | .none_, _ => ()

def Nm.of : (n : Nm) → Den n.flds → n.T
  | .Delivery, x => ⟨x.1, x.2.1, x.2.2.1, x.2.2.2.1, x.2.2.2.2.1, x.2.2.2.2.2.1, x.2.2.2.2.2.2.1, x.2.2.2.2.2.2.2.1, x.2.2.2.2.2.2.2.2.1, x.2.2.2.2.2.2.2.2.2.1, x.2.2.2.2.2.2.2.2.2.2.1, x.2.2.2.2.2.2.2.2.2.2.2.1⟩
  | .Extras, x => ⟨x.1, x.2.1, x.2.2.1, x.2.2.2.1, x.2.2.2.2.1⟩
  | .Innings, x => ⟨x.1, x.2.1, x.2.2.1, x.2.2.2.1, x.2.2.2.2.1, x.2.2.2.2.2.1, x.2.2.2.2.2.2.1, x.2.2.2.2.2.2.2.1, x.2.2.2.2.2.2.2.2.1, x.2.2.2.2.2.2.2.2.2.1, x.2.2.2.2.2.2.2.2.2.2.1, x.2.2.2.2.2.2.2.2.2.2.2.1, x.2.2.2.2.2.2.2.2.2.2.2.2.1, x.2.2.2.2.2.2.2.2.2.2.2.2.2.1, x.2.2.2.2.2.2.2.2.2.2.2.2.2.2.1, x.2.2.2.2.2.2.2.2.2.2.2.2.2.2.2.1, x.2.2.2.2.2.2.2.2.2.2.2.2.2.2.2.2.1, x.2.2.2.2.2.2.2.2.2.2.2.2.2.2.2.2.2.1, x.2.2.2.2.2.2.2.2.2.2.2.2.2.2.2.2.2.2.1, x.2.2.2.2.2.2.2.2.2.2.2.2.2.2.2.2.2.2.2.1, x.2.2.2.2.2.2.2.2.2.2.2.2.2.2.2.2.2.2.2.2.1, x.2.2.2.2.2.2.2.2.2.2.2.2.2.2.2.2.2.2.2.2.2.1, x.2.2.2.2.2.2.2.2.2.2.2.2.2.2.2.2.2.2.2.2.2.2.1⟩
  | .law11_Act, x => ⟨x.1, x.2.1, x.2.2.1⟩
  | .Phase, x => ⟨x.1, x.2.1, x.2.2.1⟩
  | .Rules, x => ⟨x.1, x.2.1, x.2.2.1, x.2.2.2.1, x.2.2.2.2.1, x.2.2.2.2.2.1, x.2.2.2.2.2.2.1, x.2.2.2.2.2.2.2.1, x.2.2.2.2.2.2.2.2.1, x.2.2.2.2.2.2.2.2.2.1, x.2.2.2.2.2.2.2.2.2.2.1, x.2.2.2.2.2.2.2.2.2.2.2.1, x.2.2.2.2.2.2.2.2.2.2.2.2.1, x.2.2.2.2.2.2.2.2.2.2.2.2.2.1⟩
  | .law13_Act, x => ⟨x.1, x.2.1, x.2.2.1⟩
  | .dismissal_way, x => ⟨x.1, x.2.1, x.2.2.1, x.2.2.2.1, x.2.2.2.2.1, x.2.2.2.2.2.1, x.2.2.2.2.2.2.1⟩
  | .none_, _ => ()

theorem Nm.of_to : ∀ (n : Nm) (x : n.T), n.of (n.to x) = x := by intro n; cases n <;> intro x <;> rfl
theorem Nm.to_of : ∀ (n : Nm) (x : Den n.flds), n.to (n.of x) = x := by intro n; cases n <;> intro x <;> rfl

def Nm.dflt : (n : Nm) → n.T
  | .Delivery => Mir.Delivery.zero
  | .Extras => Mir.Extras.zero
  | .Innings => Mir.Innings.zero
  | .law11_Act => Mir.law11_Act.zero
  | .Phase => Mir.Phase.zero
  | .Rules => Mir.Rules.zero
  | .law13_Act => Mir.law13_Act.zero
  | .dismissal_way => Mir.dismissal_way.zero
  | .none_ => ()

end Go.Mir
