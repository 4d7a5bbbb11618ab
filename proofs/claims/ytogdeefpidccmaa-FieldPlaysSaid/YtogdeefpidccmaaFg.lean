/- The dismissal layer, second part: names, lists, victims: plain functions and states of loops. -/
import Derived.Test.YtogdeefpidccmaaFc
namespace Go.Proofs.Ytogdeefpidccmaa
open Go Go.Mir

def creditedW (h : Int) : Bool := decide (h ≥ 1) && decide (h ≤ 5)
def spec19 : Den ps57 → PRes := fun x => ⟨[], .bool (creditedW x.1), []⟩
def spec22 : Den ps57 → PRes := fun x => ⟨[], .tup [.bool (ofW x.1).fielder, .bool (ofW x.1).fielder, .bool (isRun x.1)], []⟩
def psS : Ty := .prod .str .unit
def named (s : ByteArray) (w : dismissal_way) : Bool := w.name.toList == s.toList
def parseHow (s : ByteArray) : Int := ((wtab.find? (named s)).getD dismissal_way.zero).how
def parseErr (s : ByteArray) : Int := bif wtab.any (named s) then 0 else 4
def spec23 : Den psS → PRes := fun x => ⟨[], .tup [.int .u8 (parseHow x.1), .int .i64 (parseErr x.1)], []⟩
def ntab : List ByteArray := [{ data := #[78, 79, 84, 79, 85, 84] }, { data := #[66, 79, 87, 76, 69, 68] }, { data := #[67, 65, 85, 71, 72, 84] }, { data := #[76, 66, 87] }, { data := #[83, 84, 85, 77, 80, 69, 68] }, { data := #[72, 73, 84, 87, 73, 67, 75, 69, 84] },
  { data := #[82, 85, 78, 79, 85, 84] }, { data := #[72, 73, 84, 84, 87, 73, 67, 69] }, { data := #[79, 66, 83, 84, 82, 85, 67, 84, 73, 78, 71] }, { data := #[84, 73, 77, 69, 68, 79, 85, 84] }, { data := #[82, 69, 84, 73, 82, 69, 68] }]
def spec64 : Den ps61 → PRes := fun _ => ⟨[], .osl 0 0, [⟨.str, ntab⟩]⟩
def victimW (d : Delivery) (s o : Int) : Int := if d.How == 0 then 0 else if d.Victim == 1 then s else if d.Victim == 2 then o else 0
def psV : Ty := .prod (.nm .Delivery) (.prod (.int .i64) (.prod (.int .i64) .unit))
def spec27 : Den psV → PRes := fun x => ⟨[], .int .i64 (victimW x.1 x.2.1 x.2.2.1), []⟩
def spec31 : Den ps20 → PRes := fun x => ⟨[], .osl 0 0, [⟨.int .u8, waysW x.1 x.2.1⟩]⟩
def eqL (xs ys : List Int) : Bool := decide (xs = ys)
def ps30 : Ty := .prod (.slice (.int .u8)) (.prod (.slice (.int .u8)) .unit)
def spec30 : Den ps30 → PRes := fun x => ⟨[], .bool (eqL x.1 x.2.1), []⟩

def k19 : FuncId × Ctr := (19, pureCtr KK ps57 spec19)
def k22 : FuncId × Ctr := (22, pureCtr KK ps57 spec22)
def k23 : FuncId × Ctr := (23, pureCtr KK psS spec23)
def k24 : FuncId × Ctr := (24, pureCtr KK psS spec23)
def k26 : FuncId × Ctr := (26, pureCtr KK ps57 spec25)
def k27 : FuncId × Ctr := (27, pureCtr KK psV spec27)
def k28 : FuncId × Ctr := (28, pureCtr KK psV spec27)
def k30 : FuncId × Ctr := (30, pureCtr KK ps30 spec30)
def k31 : FuncId × Ctr := (31, pureCtr KK ps20 spec31)
def k64 : FuncId × Ctr := (64, pureCtr KK ps61 spec64)

/-! ## loops -/
def inv23 (s : ByteArray) (i : Nat) : Prop := i ≤ 11 ∧ ∀ w ∈ wtab.take i, named s w = false
def L23 (i : Nat) : List (Lspec Nat) := [.out [true] [] [], .next (i + 1) [] [], .out [false] [] []]
def T23 (s : ByteArray) : Tr := .br (wtab.any (named s)) (.leaf .ret ⟨[(2, .int .u8 (parseHow s)), (3, .int .i64 0)], []⟩ 20) (.leaf (.ext 0) ⟨[], []⟩ 20)
def J23 (s : ByteArray) (i : Nat) : St := ⟨[(0, .str s), (6, .osl 8 8), (7, .int .i64 wtab.length), (8, .int .i64 i)], [(8, .row 8 true (.nm .dismissal_way) wtab)], fun _ => none, 20⟩
def Λ23 (s : ByteArray) : Nat → Option LoopSum := find [(2, loopSum ⟨[], [], 20⟩ (J23 s 0) (T23 s))]
def J24 (s : ByteArray) (i : Nat) : St := ⟨[(0, .str s), (6, .osl 8 8), (7, .int .i64 ntab.length), (8, .int .i64 i)], [(8, .row 8 true .str ntab)], fun _ => none, 20⟩
def Λ24 (s : ByteArray) : Nat → Option LoopSum := find [(2, loopSum ⟨[], [], 20⟩ (J24 s 0) (T23 s))]

def inv30 (xs ys : List Int) (i : Nat) : Prop := i ≤ xs.length ∧ xs.length = ys.length ∧ xs.take i = ys.take i
def L30 (i : Nat) : List (Lspec Nat) := [.out [false] [] [], .next (i + 1) [] [], .out [true] [] []]
def T30 (xs ys : List Int) : Tr := .br (eqL xs ys) (.leaf (.ext 0) ⟨[], []⟩ 36) (.leaf .ret ⟨[(4, .kb false)], []⟩ 36)
def J30 (xs ys : List Int) (i : Nat) : St := ⟨[(0, .fsl (.int .u8) xs), (1, .fsl (.int .u8) ys), (12, .int .i64 xs.length), (13, .int .i64 i)], [], fun _ => none, 36⟩
def Λ30 (xs ys : List Int) : Nat → Option LoopSum := find [(4, (loopSum ⟨[], [], 36⟩ (J30 xs ys 0) (T30 xs ys)).under (xs.length = ys.length))]

def waysR (t : Int) (free : Bool) (i : Nat) : List Int := ((List.range i).map fun k : Nat => (k : Int) + 1).filter fun h => onR h t && (!free || onFreeR h)
def inv31 (i : Nat) : Prop := i ≤ 10
def L31 (i : Nat) : List (Lspec Nat) := [.next (i + 1) [(13, 80)] [], .next (i + 1) [] [], .out [] [] []]
def T31 (t : Int) (free : Bool) : Tr := .leaf (.ext 0) ⟨[(5, .osl 12 13)], [(12, .row 13 true (.int .u8) (waysR t free 10))]⟩ 16
def J31 (t : Int) (free : Bool) (i : Nat) : St := ⟨[(0, .int .u8 t), (1, .bool free), (5, .osl 12 13), (6, .int .u8 ((i : Int) + 1))], [(12, .row 13 true (.int .u8) (waysR t free i))], fun _ => none, 16⟩
def Λ31 (t : Int) (free : Bool) : Nat → Option LoopSum := find [(3, loopSum ⟨[], [12], 16⟩ (J31 t free 0) (T31 t free))]

/-! the law with a loop -/
def J5 (d : Delivery) (free : Bool) (i : Nat) : St := ⟨[(1, .bool free), (2, .ptr 0 0), (34, .osl 28 28), (35, .int .i64 (waysW d.Typ free).length), (36, .int .i64 i)],
  [(28, .row 28 true (.int .u8) (waysW d.Typ free)), (0, .cells (flat FUEL (.nm .Delivery) d))], fun _ => none, 112⟩
def T5 : Tr := .br true (.leaf (.ext 0) ⟨[], []⟩ 112) (.leaf .ret ⟨[(4, .kb false)], []⟩ 112)
def inv5 (d : Delivery) (free : Bool) (i : Nat) : Prop := i ≤ (waysW d.Typ free).length
def L5 (i : Nat) : List (Lspec Nat) := [.out [false] [] [], .next (i + 1) [] [], .out [true] [] []]
def Λ5 (d : Delivery) (free : Bool) : Nat → Option LoopSum := find [(7, loopSum ⟨[], [], 112⟩ (J5 d free 0) T5)]

end Go.Proofs.Ytogdeefpidccmaa
