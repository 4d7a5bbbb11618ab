/- FieldPlays: states of its loop. -/
import Derived.Test.YtogdeefpidccmaaFp
namespace Go.Proofs.Ytogdeefpidccmaa
open Go Go.Mir

def psIL : Ty := .prod (.nm .Innings) (.prod (.slice (.nm .law11_Act)) .unit)
def actAt (l : List law11_Act) (i : Nat) : law11_Act := l.getD i law11_Act.zero
def J9 (x : Innings) (l : List law11_Act) : Option (Nat × Innings) → St
  | none => ⟨[(1, .fsl (.nm .law11_Act) l), (2, .ptr 0 0), (5, .int .i64 0)], [(0, .cells (flat FUEL (.nm .Innings) x))], fun _ => none, 8⟩
  | some (i, y) => ⟨[(1, .fsl (.nm .law11_Act) l), (2, .ptr 0 0), (5, .int .i64 i)],
      [(0, .cells (rowC 1 y)), (1, .row 1 true (.int .u8) y.Batters), (2, .row 2 true (.int .i64) y.Bowlers), (3, .row 3 true (.int .i64) y.Before), (4, .row 4 true (.int .i64) y.Bowled), (5, .row 5 true .bool y.Subs)], fun _ => none, 8⟩
def T9 : Tr := .br true (.leaf (.ext 0) ⟨[], []⟩ 8) (.leaf .ret ⟨[(4, .kb false)], []⟩ 8)
def inv9 (l : List law11_Act) : Option (Nat × Innings) → Prop
  | none => True
  | some (i, y) => i ≤ l.length ∧ i ≤ 12 ∧ smallI y
def mu9 : Option (Nat × Innings) → Nat
  | none => 13
  | some (i, _) => 12 - i
def L9 (x : Innings) (l : List law11_Act) : Option (Nat × Innings) → List (Lspec (Option (Nat × Innings)))
  | none => [.out [false] [] [], .next (some (1, actY x (actAt l 0))) [(1, 208), (2, 209), (3, 210), (4, 211), (5, 212)] [], .out [true] [] []]
  | some (i, y) => [.out [false] [] [], .next (some (i + 1, actY y (actAt l i))) [(1, 208), (2, 209), (3, 210), (4, 211), (5, 212)] [], .out [true] [] []]
def Λ9 (x : Innings) (l : List law11_Act) : Nat → Option LoopSum := find [(5, loopSum ⟨[], [], 8⟩ (J9 (fewW x) l none) T9)]

end Go.Proofs.Ytogdeefpidccmaa
