/- FieldKeeps: states of its loop. -/
import Derived.Test.YtogdeefpidccmaaFm
namespace Go.Proofs.Ytogdeefpidccmaa
open Go Go.Mir

/-- the cells of a state whose slices are rows, numbered from k on; and these rows -/
def rowC (k : Nat) (x : Innings) : List V := (osls k (flat FUEL (.nm .Innings) x)).1
def flipN (l : List Bool) (i : Nat) : List Bool := (l.take i).map (fun b => !b) ++ l.drop i
def heap11 (y z : Innings) (s : List Bool) : List (Nat × Blk) :=
  [(248, .row 248 true .bool z.Subs), (144, .cells (rowC 112 z)), (112, .row 112 true (.int .u8) z.Batters), (113, .row 113 true (.int .i64) z.Bowlers), (114, .row 114 true (.int .i64) z.Before), (115, .row 115 true (.int .i64) z.Bowled), (116, .row 116 true .bool s),
   (80, .cells (rowC 72 y)), (72, .row 72 true (.int .u8) y.Batters), (73, .row 73 true (.int .i64) y.Bowlers), (74, .row 74 true (.int .i64) y.Before), (75, .row 75 true (.int .i64) y.Bowled), (76, .row 76 true .bool y.Subs), (0, .cells (flat FUEL (.nm .Innings) y))]
def J11 (y z : Innings) (i : Nat) : St := ⟨[(2, .ptr 0 0), (5, .ptr 80 0), (6, .ptr 144 0), (8, .osl 248 248), (43, .int .i64 z.Subs.length), (44, .int .i64 i)], heap11 y z (flipN z.Subs i), fun _ => none, 288⟩
def T11 (y z : Innings) : Tr := .leaf (.ext 0) ⟨[(2, .ptr 0 0), (5, .ptr 80 0), (6, .ptr 144 0), (8, .osl 248 248)], heap11 y z (flipN z.Subs z.Subs.length)⟩ 288
def inv11 (z : Innings) (i : Nat) : Prop := i ≤ z.Subs.length
def L11 (i : Nat) : List (Lspec Nat) := [.next (i + 1) [] [], .out [] [] []]
def Λ11 (x : Innings) (a : law11_Act) : Nat → Option LoopSum := find [(10, loopSum ⟨[], [], 288⟩ (J11 (fewW x) (actY (fewW x) a) 0) (T11 (fewW x) (actY (fewW x) a)))]

end Go.Proofs.Ytogdeefpidccmaa
