/- The mirror, part 1: virtual values, blocks, and what it means that they mirror a world of the machine. -/
import Derived.Test.YtogdeefpidccmaaTy
import Derived.Below
import Derived.Tactics
namespace Go.Mir
open Go.RowKit

/-- a number that its kind holds -/
def ok (k : IntKind) (n : Int) : Prop := k.min ≤ n ∧ n ≤ k.max

def sz : Ty → Nat
  | .int _ | .bool | .str | .slice _ => 1
  | .unit => 0
  | .prod a b => sz a + sz b
  | .nm n => n.size

theorem Nm.size_flds : ∀ n : Nm, sz n.flds = n.size := by intro n; cases n <;> rfl

def dflt : (t : Ty) → Den t
  | .int _ => (0 : Int) | .bool => false | .str => ByteArray.empty | .unit => ()
  | .prod a b => (dflt a, dflt b) | .slice _ => [] | .nm n => n.dflt

inductive V where
  | any
  | int (k : IntKind) (n : Int)
  | bool (b : Bool)
  | kb (b : Bool)
  | hint (q p : Bool)
  | str (s : ByteArray)
  | nilptr
  | ptr (h off : Nat)
  | fp (t : Ty) (xs : List (Den t)) (i : Int) (off : Nat)
  | rp (h ver : Nat) (i : Int) (off : Nat)
  | nilsl
  | esl
  | osl (h ver : Nat)
  | fsl (t : Ty) (xs : List (Den t))
  | nilfn
  | nilmap
  | fn (f : FuncId) (caps : List V)
  | agg (cs : List V)
  | tup (vs : List V)

inductive Blk where
  | cells (cs : List V)
  | row (ver : Nat) (rw : Bool) (t : Ty) (xs : List (Den t))

/-- the flat cells of a datum, as virtual values; 'f' is fuel -/
def flat : Nat → (t : Ty) → Den t → List V
  | 0, t, _ => List.replicate (sz t) .any
  | _ + 1, .int k, n => [.int k n]
  | _ + 1, .bool, b => [.bool b]
  | _ + 1, .str, s => [.str s]
  | _ + 1, .unit, _ => []
  | f + 1, .prod a b, x => flat f a x.1 ++ flat f b x.2
  | _ + 1, .slice t, xs => [.fsl t xs]
  | f + 1, .nm n, x => flat f n.flds (n.to x)

def FUEL : Nat := 96

def lenB : Nat := 140737488355328

/-- n cells from o on -/
def seg (c : Array Value) (o n : Nat) : List Value := (c.toList.drop o).take n

/-- no cell of the block is marked -/
def nofrz (fr : Nat × Nat) (n : Nat) : Prop := ∀ i, i < n → ¬ (fr.1 ≤ i ∧ i < fr.2)

/-- the cells read as a datum, all slices in blocks of S -/
inductive Rd (S : Nat → Prop) (w : World) : (t : Ty) → Den t → List Value → Prop
  | int {k : IntKind} {n : Int} : ok k n → Rd S w (.int k) n [.int k n]
  | bool {b : Bool} : Rd S w .bool b [.bool b]
  | str {s : ByteArray} : s.size ≤ lenB → Rd S w .str s [.string s]
  | unit : Rd S w .unit () []
  | prod {a b : Ty} {x : Den a} {y : Den b} {cs ds : List Value} : Rd S w a x cs → Rd S w b y ds → Rd S w (.prod a b) (x, y) (cs ++ ds)
  | nm {n : Nm} {x : n.T} {cs : List Value} : Rd S w n.flds (n.to x) cs → Rd S w (.nm n) x cs
  | nil {t : Ty} {a : Option Addr} {cap : Nat} : Rd S w (.slice t) [] [.slice a 0 cap]
  | slice {t : Ty} {xs : List (Den t)} {b o cap : Nat} {c : Array Value} {T : TypeId} {fr : Nat × Nat} :
      S b → w.heap[b]? = some (.cells c T fr) → o + xs.length * sz t ≤ c.size → xs.length ≤ cap → xs.length ≤ lenB →
      (∀ (i : Nat) (h : i < xs.length), Rd S w t xs[i] (seg c (o + i * sz t) (sz t))) → Rd S w (.slice t) xs [.slice (some ⟨b, o, none⟩) xs.length cap]

/-- the state of names: which are in use, where the blocks lie, which blocks are frozen, the world, the virtual heap -/
structure Env where
  U : Nat → Prop
  ρ : Nat → Option Nat
  S : Nat → Prop
  w : World
  H : Nat → Option Blk

mutual
/-- a value of the machine is mirrored by a virtual one -/
def vrel (E : Env) : V → Value → Prop
  | .any, _ => True
  | .int k n, v => v = .int k n ∧ ok k n
  | .bool b, v => v = .bool b
  | .kb b, v => v = .bool b
  | .hint q p, v => ∃ b, v = .bool b ∧ (b = p → q = true)
  | .str s, v => v = .string s ∧ s.size ≤ lenB
  | .nilptr, v => v = .pointer none
  | .ptr h off, v => E.U h ∧ (∃ a, v = .pointer (some a)) ∧ ∀ cs, E.H h = some (.cells cs) → ∃ b, E.ρ h = some b ∧ v = .pointer (some ⟨b, off, none⟩)
  | .fp t xs i off, v => ∃ b o c T fr, E.S b ∧ E.w.heap[b]? = some (.cells c T fr) ∧ o + xs.length * sz t ≤ c.size ∧
      (∀ (j : Nat) (h : j < xs.length), Rd E.S E.w t xs[j] (seg c (o + j * sz t) (sz t))) ∧ 0 ≤ i ∧ i.toNat < xs.length ∧ v = .pointer (some ⟨b, o + i.toNat * sz t + off, none⟩)
  | .rp h ver i off, v => E.U h ∧ E.U ver ∧ (∃ a, v = .pointer (some a)) ∧ ∀ rw t xs, E.H h = some (.row ver rw t xs) → ∃ b, E.ρ h = some b ∧ 0 ≤ i ∧ i.toNat < xs.length ∧ v = .pointer (some ⟨b, i.toNat * sz t + off, none⟩)
  | .nilsl, v => v = .slice none 0 0
  | .esl, v => ∃ a, v = .slice a 0 0
  | .osl h ver, v => E.U h ∧ E.U ver ∧ (∃ a l c, v = .slice a l c) ∧ ∀ rw t xs, E.H h = some (.row ver rw t xs) →
      (E.ρ h = none ∧ ∃ a, v = .slice a 0 0) ∨ ∃ b cap c T fr, E.ρ h = some b ∧ v = .slice (some ⟨b, 0, none⟩) xs.length cap ∧ E.w.heap[b]? = some (.cells c T fr) ∧ c.size = cap * sz t ∧ xs.length ≤ cap
  | .fsl t xs, v => Rd E.S E.w (.slice t) xs [v]
  | .nilfn, v => v = .nilFunc
  | .nilmap, v => v = .map none
  | .fn f caps, v => ∃ l, v = .func (.func f) #[] l ∧ vrels E caps l.toList
  | .agg cs, v => ∃ l, v = .agg l ∧ vrels E cs l.toList
  | .tup vs, v => ∃ l, v = .tuple l ∧ vrels E vs l.toList
def vrels (E : Env) : List V → List Value → Prop
  | [], [] => True
  | x :: xs, v :: vs => vrel E x v ∧ vrels E xs vs
  | _, _ => False
end

/-- a block of the machine is mirrored by a virtual one -/
def brel (E : Env) (h : Nat) : Blk → Prop
  | .cells cs => ∃ b c T fr, E.ρ h = some b ∧ E.w.heap[b]? = some (.cells c T fr) ∧ nofrz fr c.size ∧ ¬ E.S b ∧ vrels E cs c.toList
  | .row ver rw t xs => E.U ver ∧ ((E.ρ h = none ∧ xs = []) ∨
      ∃ b c T fr, E.ρ h = some b ∧ E.w.heap[b]? = some (.cells c T fr) ∧ nofrz fr c.size ∧ (rw = true → ¬ E.S b) ∧ (rw = false → E.S b) ∧
        xs.length * sz t ≤ c.size ∧ xs.length ≤ lenB ∧ ∀ (i : Nat) (hi : i < xs.length), Rd E.S E.w t xs[i] (seg c (i * sz t) (sz t)))

/-- what the caller's world must keep: w0 is the world when the call began, F the blocks that it may write, S0 the frozen ones -/
structure Base where
  w0 : World
  F : Nat → Prop
  S0 : Nat → Prop

structure Keeps (w0 : World) (F : Nat → Prop) (w : World) : Prop where
  os : w.os = w0.os
  tape : w.tape = w0.tape
  output : w.output = w0.output
  size : w0.heap.size ≤ w.heap.size
  block : ∀ b, b < w0.heap.size → ¬ F b → w.heap[b]? = w0.heap[b]?

def wr : Blk → Bool
  | .cells _ => true
  | .row _ rw _ _ => rw

structure HRel (B : Base) (E : Env) : Prop where
  used : ∀ h b, E.H h = some b → E.U h
  stab : ∀ b, E.S b → b < E.w.heap.size
  lt : ∀ h k b, E.H h = some k → E.ρ h = some b → b < E.w.heap.size
  inj : ∀ h h' k k' b, E.H h = some k → E.H h' = some k' → E.ρ h = some b → E.ρ h' = some b → h = h'
  blk : ∀ h k, E.H h = some k → brel E h k
  keeps : Keeps B.w0 B.F E.w
  own : ∀ h k b, E.H h = some k → E.ρ h = some b → B.F b ∨ B.w0.heap.size ≤ b
  s0 : ∀ b, B.S0 b → E.S b
  sb : ∀ b, E.S b → B.S0 b ∨ B.F b ∨ B.w0.heap.size ≤ b

/-- look a number up -/
def find {α : Type} : List (Nat × α) → Nat → Option α
  | [], _ => none
  | (k, v) :: r, i => bif Nat.beq k i then some v else find r i

end Go.Mir
