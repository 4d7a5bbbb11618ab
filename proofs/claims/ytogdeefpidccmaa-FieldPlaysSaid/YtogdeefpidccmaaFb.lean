/- The dismissal layer: the table and what is looked up in it: plain functions. -/
import Derived.Test.YtogdeefpidccmaaFa
namespace Go.Proofs.Ytogdeefpidccmaa
open Go Go.Mir

def wtab : List dismissal_way :=
  [{ how := 0, name := { data := #[78, 79, 84, 79, 85, 84] }, fair := false, wide := false, no := false, fielder := false, either := false },
   { how := 1, name := { data := #[66, 79, 87, 76, 69, 68] }, fair := true, wide := false, no := false, fielder := false, either := false },
   { how := 2, name := { data := #[67, 65, 85, 71, 72, 84] }, fair := true, wide := false, no := false, fielder := true, either := false },
   { how := 3, name := { data := #[76, 66, 87] }, fair := true, wide := false, no := false, fielder := false, either := false },
   { how := 4, name := { data := #[83, 84, 85, 77, 80, 69, 68] }, fair := true, wide := true, no := false, fielder := true, either := false },
   { how := 5, name := { data := #[72, 73, 84, 87, 73, 67, 75, 69, 84] }, fair := true, wide := true, no := false, fielder := false, either := false },
   { how := 6, name := { data := #[82, 85, 78, 79, 85, 84] }, fair := true, wide := true, no := true, fielder := true, either := true },
   { how := 7, name := { data := #[72, 73, 84, 84, 87, 73, 67, 69] }, fair := true, wide := false, no := true, fielder := false, either := false },
   { how := 8, name := { data := #[79, 66, 83, 84, 82, 85, 67, 84, 73, 78, 71] }, fair := true, wide := true, no := true, fielder := false, either := true },
   { how := 9, name := { data := #[84, 73, 77, 69, 68, 79, 85, 84] }, fair := false, wide := false, no := false, fielder := false, either := false },
   { how := 10, name := { data := #[82, 69, 84, 73, 82, 69, 68] }, fair := false, wide := false, no := false, fielder := false, either := false }]

def onW (w : dismissal_way) (t : Int) : Bool := (t == 1 && w.fair) || (t == 2 && w.wide) || (t == 3 && w.no)
def ofW (h : Int) : dismissal_way := (wtab.find? fun w => w.how == h).getD dismissal_way.zero
def freeW (w : dismissal_way) (t : Int) (free : Bool) : Bool := onW w t && (!free || w.how == 6 || w.how == 7 || w.how == 8)
def waysW (t : Int) (free : Bool) : List Int := (wtab.filter fun w => freeW w t free).map dismissal_way.how
def player (n : Int) : Bool := decide (n ≥ 1) && decide (n ≤ 11)
def fieldersW (d : Delivery) (w : dismissal_way) : Bool :=
  !((w.fielder != player d.Fielder) || (!w.fielder && d.Fielder != 0)) && (d.Second == 0 || (d.How == 6 && player d.Second && d.Second != d.Fielder))
def possibleW (d : Delivery) (free : Bool) : Int :=
  if d.How == 0 then (if d.Victim != 0 then 14 else if d.Fielder != 0 || d.Second != 0 || d.Sub then 15 else 0)
  else if !(waysW d.Typ free).contains d.How then 13
  else if !(d.How == 6 || d.How == 8) && (d.Source != 0 || d.Runs != 0) then 12
  else if d.Victim != 1 && (d.Victim != 2 || !(ofW d.How).either) then 14
  else if !fieldersW d (ofW d.How) then 15
  else if d.Sub && d.How != 2 && d.How != 6 then 18
  else 0

/-! the reference -/
def onFreeR (h : Int) : Bool := h == 6 || h == 7 || h == 8
def onR (h t : Int) : Bool :=
  if h == 1 || h == 2 || h == 3 then t == 1
  else if h == 4 || h == 5 then t == 1 || t == 2
  else if h == 7 then t == 1 || t == 3
  else if h == 6 || h == 8 then t == 1 || t == 2 || t == 3
  else false
def isRun (h : Int) : Bool := h == 6
def oneR (h : Int) : Bool := h == 2 || h == 4 || h == 6
def possibleR (d : Delivery) (free : Bool) : Int :=
  if d.How == 0 then (if d.Victim != 0 then 14 else if d.Fielder != 0 || d.Second != 0 || d.Sub then 15 else 0)
  else if !onR d.How d.Typ || (free && !onFreeR d.How) then 13
  else if !(d.How == 6 || d.How == 8) && (d.Source != 0 || d.Runs != 0) then 12
  else if d.Victim != 1 && !(d.Victim == 2 && (d.How == 6 || d.How == 8)) then 14
  else if (oneR d.How && (decide (d.Fielder < 1) || decide (d.Fielder > 11))) || (!oneR d.How && d.Fielder != 0) then 15
  else if d.Second != 0 && (!(d.How == 6) || decide (d.Second < 1) || decide (d.Second > 11) || d.Second == d.Fielder) then 15
  else if d.Sub && d.How != 2 && d.How != 6 then 18
  else 0

def hasI (xs : List Int) (v : Int) : Bool := xs.contains v

/-! ## specifications -/
def ps61 : Ty := .unit
def spec61 : Den ps61 → PRes := fun _ => ⟨[], .osl 0 0, [⟨.nm .dismissal_way, wtab⟩]⟩
def ps62 : Ty := .prod (.nm .dismissal_way) (.prod (.int .u8) .unit)
def spec62 : Den ps62 → PRes := fun x => ⟨[], .bool (onW x.1 x.2.1), []⟩
def ps57 : Ty := .prod (.int .u8) .unit
def spec57 : Den ps57 → PRes := fun x => ⟨[], .agg (flat FUEL (.nm .dismissal_way) (ofW x.1)), []⟩
def ps20 : Ty := .prod (.int .u8) (.prod .bool .unit)
def spec20 : Den ps20 → PRes := fun x => ⟨[], .osl 0 0, [⟨.int .u8, waysW x.1 x.2.1⟩]⟩
def ps21 : Ty := ps63
def spec21 : Den ps21 → PRes := fun x => ⟨[], .bool (hasI x.1 x.2.1), []⟩
def ps89 : Ty := .prod (.int .i64) .unit
def spec89 : Den ps89 → PRes := fun x => ⟨[], .bool (player x.1), []⟩
def ps58 : Ty := .prod (.nm .Delivery) (.prod (.nm .dismissal_way) .unit)
def spec58 : Den ps58 → PRes := fun x => ⟨[], .bool (fieldersW x.1 x.2.1), []⟩
def psP : Ty := .prod (.nm .Delivery) (.prod .bool .unit)
def spec17 : Den psP → PRes := fun x => ⟨[], .int .i64 (possibleW x.1 x.2.1), []⟩
def spec18 : Den psP → PRes := fun x => ⟨[], .int .i64 (possibleR x.1 x.2.1), []⟩
def spec60 : Den ps57 → PRes := fun x => ⟨[], .bool (onFreeR x.1), []⟩
def psOn : Ty := .prod (.int .u8) (.prod (.int .u8) .unit)
def spec59 : Den psOn → PRes := fun x => ⟨[], .bool (onR x.1 x.2.1), []⟩
def spec29 : Den ps57 → PRes := fun x => ⟨[], .tup [.bool (oneR x.1), .bool (oneR x.1), .bool (isRun x.1)], []⟩
def spec25 : Den ps57 → PRes := fun x => ⟨[], .str (ofW x.1).name, []⟩
def spec16 : Den ps61 → PRes := fun _ => ⟨[], .bool true, []⟩

def k61 : FuncId × Ctr := (61, pureCtr KK ps61 spec61)
def k62 : FuncId × Ctr := (62, pureCtr KK ps62 spec62)
def k57 : FuncId × Ctr := (57, pureCtr KK ps57 spec57)
def k20 : FuncId × Ctr := (20, pureCtr KK ps20 spec20)
def k63 : FuncId × Ctr := (63, pureCtr KK ps63 spec63)
def k21 : FuncId × Ctr := (21, pureCtr KK ps21 spec21)
def k89 : FuncId × Ctr := (89, pureCtr KK ps89 spec89)
def k58 : FuncId × Ctr := (58, pureCtr KK ps58 spec58)
def k17 : FuncId × Ctr := (17, pureCtr KK psP spec17)
def k18 : FuncId × Ctr := (18, pureCtr KK psP spec18)
def k60 : FuncId × Ctr := (60, pureCtr KK ps57 spec60)
def k59 : FuncId × Ctr := (59, pureCtr KK psOn spec59)
def k29 : FuncId × Ctr := (29, pureCtr KK ps57 spec29)
def k25 : FuncId × Ctr := (25, pureCtr KK ps57 spec25)
def k16 : FuncId × Ctr := (16, pureCtr KK ps61 spec16)

/-! ## loops -/
def J57 (h : Int) (i : Nat) : St := ⟨[(0, .int .u8 h), (2, .ptr 0 0), (5, .osl 4 4), (6, .int .i64 wtab.length), (7, .int .i64 i)],
  [(4, .row 4 true (.nm .dismissal_way) wtab), (0, .cells (flat FUEL (.nm .dismissal_way) dismissal_way.zero))], fun _ => none, 16⟩
def T57 (h : Int) : Tr := .br (wtab.any fun w => w.how == h) (.leaf .ret ⟨[(2, .ptr 0 0)], [(0, .cells (flat FUEL (.nm .dismissal_way) (ofW h)))]⟩ 16)
  (.leaf (.ext 0) ⟨[(2, .ptr 0 0)], [(0, .cells (flat FUEL (.nm .dismissal_way) dismissal_way.zero))]⟩ 16)
def inv57 (h : Int) (i : Nat) : Prop := i ≤ 11 ∧ ∀ w ∈ wtab.take i, (w.how == h) = false
def L57 (i : Nat) : List (Lspec Nat) := [.out [true] [] [], .next (i + 1) [] [], .out [false] [] []]
def Λ57 (h : Int) : Nat → Option LoopSum := find [(2, loopSum ⟨[], [], 16⟩ (J57 h 0) (T57 h))]

def waysUp (t : Int) (free : Bool) (i : Nat) : List Int := ((wtab.take i).filter fun w => freeW w t free).map dismissal_way.how
def J20 (t : Int) (free : Bool) (i : Nat) : St := ⟨[(0, .int .u8 t), (1, .bool free), (5, .osl 16 17), (8, .osl 8 8), (9, .int .i64 wtab.length), (10, .int .i64 i)],
  [(8, .row 8 true (.nm .dismissal_way) wtab), (16, .row 17 true (.int .u8) (waysUp t free i))], fun _ => none, 20⟩
def T20 (t : Int) (free : Bool) : Tr := .leaf (.ext 0) ⟨[(5, .osl 16 17)], [(16, .row 17 true (.int .u8) (waysW t free))]⟩ 20
def L20 (i : Nat) : List (Lspec Nat) := [.next (i + 1) [(17, 144)] [], .next (i + 1) [] [], .out [] [] []]
def inv20 (i : Nat) : Prop := i ≤ 11
def Λ20 (t : Int) (free : Bool) : Nat → Option LoopSum := find [(3, loopSum ⟨[], [16], 20⟩ (J20 t free 0) (T20 t free))]

end Go.Proofs.Ytogdeefpidccmaa
