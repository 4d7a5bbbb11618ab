/- The mirror, part 22: functions, and contracts of functions that only read. -/
import Derived.Test.YtogdeefpidccmaaMirU
namespace Go.Mir
open Go.RowKit

variable {P : Program}

structure RowD where
  t : Ty
  xs : List (Den t)

inductive RT where
  | ret (v : V) (rows : List RowD)
  | br (b : Bool) (t e : RT)
  | need (p : Prop) (t : RT)
  | both (t u : RT)
  | when (b : Bool) (t : RT)
  | done
  | bad

def RT.sat (Q : V → List RowD → Prop) : RT → Prop
  | .ret v rows => Q v rows
  | .br b t e => (b = true → t.sat Q) ∧ (b = false → e.sat Q)
  | .need p t => p ∧ t.sat Q
  | .both t u => t.sat Q ∧ u.sat Q
  | .when b t => b = true → t.sat Q
  | .done => True
  | .bad => False

mutual
/-- a result, its rows numbered as they come -/
def canV (H : Heap) : V → List (Nat × RowD) → Option (V × List (Nat × RowD))
  | .osl h ver, acc => match H h with
    | some (.row ver' rw t xs) => if ver = ver' then (bif rw then (bif memN (acc.map (·.1)) h then none else some (.osl acc.length acc.length, acc ++ [(h, ⟨t, xs⟩)])) else some (.fsl t xs, acc)) else none
    | _ => none
  | .agg cs, acc => match canVs H cs acc with | some (l, acc') => some (.agg l, acc') | none => none
  | .tup cs, acc => match canVs H cs acc with | some (l, acc') => some (.tup l, acc') | none => none
  | .ptr _ _, _ | .rp _ _ _ _, _ | .fp _ _ _ _, _ | .fn _ _, _ | .hint _ _, _ => none
  | v, acc => some (v, acc)
def canVs (H : Heap) : List V → List (Nat × RowD) → Option (List V × List (Nat × RowD))
  | [], acc => some ([], acc)
  | v :: vs, acc => match canV H v acc with
    | some (v', acc') => match canVs H vs acc' with
      | some (l, acc'') => some (v' :: l, acc'')
      | none => none
    | none => none
end

/-- one of a function's results -/
def res1 (tb : Tbl) (tm : List (Nat × V)) (H : Heap) : ResultVar → Option V
  | .tmp t => some (lookV tm t)
  | .cell a t => match tb t with
    | some td => match evLoad td H (lookV tm a) with
      | .val _ v _ => some v
      | _ => none
    | none => none

def resL (tb : Tbl) (tm : List (Nat × V)) (H : Heap) : List ResultVar → Option (List V)
  | [] => some []
  | r :: rs => match res1 tb tm H r with
    | some v => match resL tb tm H rs with
      | some l => some (v :: l)
      | none => none
    | none => none

def resV (tb : Tbl) (tm : List (Nat × V)) (H : Heap) (rs : List ResultVar) : Option V :=
  match resL tb tm H rs with
  | some [v] => some v
  | some l => some (.tup l)
  | none => none

/-- the element types of a datum's slices, cell by cell -/
def slTys : Nat → Ty → List (Option Ty)
  | 0, _ => []
  | f + 1, .prod a b => slTys f a ++ slTys f b
  | f + 1, .nm n => slTys f n.flds
  | _ + 1, .slice t => [some t]
  | _ + 1, .unit => []
  | _ + 1, _ => [none]

/-- nil slices become empty rows: the names from n on -/
def matC : List (Option Ty) → List V → Nat → List V × List (Nat × Blk)
  | o :: ts, v :: vs, n => match o, v with
    | some t, .nilsl => (.osl n n :: (matC ts vs (n + 1)).1, (matC ts vs (n + 1)).2 ++ [(n, .row n true t [])])
    | _, v => (v :: (matC ts vs n).1, (matC ts vs n).2)
  | _, vs, _ => (vs, [])

def matT (o : Option Ty) (v : V) (n : Nat) : V × List (Nat × Blk) := match o with
  | some ty => match v with
    | .agg cs => (.agg (matC (slTys FUEL ty) cs n).1, (matC (slTys FUEL ty) cs n).2)
    | .nilsl => match ty with
      | .slice t => (.osl n n, [(n, .row n true t [])])
      | _ => (.nilsl, [])
    | v => (v, [])
  | none => (v, [])

def tyOf (tb : Tbl) (t : TypeId) : Option Ty := match tb t with
  | some td => td.ty
  | none => none

def matL (tb : Tbl) : List TypeId → List V → Nat → List V × List (Nat × Blk)
  | t :: ts, v :: vs, n => let r := matT (tyOf tb t) v n; let q := matL tb ts vs (n + r.2.length); (r.1 :: q.1, q.2 ++ r.2)
  | _, vs, _ => (vs, [])

def matR (tb : Tbl) (ts : List TypeId) (v : V) (n : Nat) : V × List (Nat × Blk) := match ts with
  | [t] => matT (tyOf tb t) v n
  | ts => match v with
    | .tup vs => (.tup (matL tb ts vs n).1, (matL tb ts vs n).2)
    | v => (v, [])

def toRT (tb : Tbl) (rs : List ResultVar) (ts : List TypeId) (st : St) : Tr → RT
  | .leaf (.ext _) _ _ => .bad
  | .leaf _ d nx => match resV tb (d.tm ++ st.tm) (hset st.H d.hp) rs with
    | some v => match canV (hset (hset st.H d.hp) (matR tb ts v nx).2) (matR tb ts v nx).1 [] with
      | some (v', acc) => .ret v' (acc.map (·.2))
      | none => .bad
    | none => .bad
  | .br b t e => .br b (toRT tb rs ts st t) (toRT tb rs ts st e)
  | .need p t => .need p (toRT tb rs ts st t)
  | .both t u => .both (toRT tb rs ts st t) (toRT tb rs ts st u)
  | .when b t => .when b (toRT tb rs ts st t)
  | .done => .done
  | .bad => .bad

def number {α : Type} : Nat → List α → List (Nat × α)
  | _, [] => []
  | n, x :: xs => (n, x) :: number (n + 1) xs

def startOf (args : List V) : St := ⟨number 0 args, [], fun _ => none, 0⟩

/-- a function's body, evaluated -/
def evFn (C : Cfg) (Λ : Nat → Option LoopSum) (fn : Func) (args : List V) : RT :=
  match fn.body with
  | some c => toRT C.tb fn.results.toList fn.resultTypes.toList (startOf args) (evCode C Λ c (startOf args))
  | none => .bad

/-! ## arguments by their types -/

def argV : (t : Ty) → Den t → V
  | .int k, n => .int k n
  | .bool, b => .bool b
  | .str, s => .str s
  | .slice t, xs => .fsl t xs
  | .unit, _ => .agg []
  | .prod a b, x => .agg (flat FUEL (.prod a b) x)
  | .nm n, x => .agg (flat FUEL (.nm n) x)

def argsV : (ps : Ty) → Den ps → List V
  | .prod a b, x => argV a x.1 :: argsV b x.2
  | _, _ => []

/-- is the value of a type of several cells -/
def aggT : Ty → Bool
  | .prod _ _ | .nm _ | .unit => true
  | _ => false

def isAggV : V → Bool
  | .agg _ => true
  | _ => false

def packArgs (H : Heap) : (ps : Ty) → List V → Option (Den ps)
  | .prod a b, v :: vs => bif aggT a == isAggV v then (match cellsOf v with
    | some cs => match pack H a cs with
      | some x => match packArgs H b vs with
        | some y => some (x, y)
        | none => none
      | none => none
    | none => none) else none
  | .unit, [] => some ()
  | _, _ => none

/-- the rows of some handles, as if they were frozen -/
def roL (H : Heap) (L : List Nat) : Heap := fun h => match H h with
  | some (.row ver rw t xs) => some (.row ver (bif memN L h then false else rw) t xs)
  | x => x

structure PRes where
  needs : List Prop
  v : V
  rows : List RowD

/-- no slices inside -/
def Ty.flat1 : Ty → Bool
  | .int _ | .bool | .str | .unit => true
  | .prod a b => Ty.flat1 a && Ty.flat1 b
  | _ => false

def Ty.flatB : Ty → Bool
  | .int _ | .bool | .str | .unit => true
  | .prod a b => a.flatB && b.flatB
  | .slice _ => false
  | .nm n => n.flds.flat1

theorem Rd.flat1 {S S' : Nat → Prop} {w w' : World} {t : Ty} {x : Den t} {cs : List Value} (h : Rd S w t x cs) (hf : t.flat1 = true) : Rd S' w' t x cs := by
  induction h with
  | int h => exact .int h
  | bool => exact .bool
  | str h => exact .str h
  | unit => exact .unit
  | prod _ _ ih1 ih2 =>
    simp only [Ty.flat1, Bool.and_eq_true] at hf
    exact .prod (ih1 hf.1) (ih2 hf.2)
  | nm _ _ => simp [Ty.flat1] at hf
  | nil => simp [Ty.flat1] at hf
  | slice => simp [Ty.flat1] at hf

theorem Rd.flatB {S S' : Nat → Prop} {w w' : World} {t : Ty} {x : Den t} {cs : List Value} (h : Rd S w t x cs) (hf : t.flatB = true) : Rd S' w' t x cs := by
  induction h with
  | int h => exact .int h
  | bool => exact .bool
  | str h => exact .str h
  | unit => exact .unit
  | prod _ _ ih1 ih2 =>
    simp only [Ty.flatB, Bool.and_eq_true] at hf
    exact .prod (ih1 hf.1) (ih2 hf.2)
  | nm h _ => exact .nm (h.flat1 hf)
  | nil => simp [Ty.flatB] at hf
  | slice => simp [Ty.flatB] at hf

mutual
/-- does a value hold a frozen slice -/
def V.noF : V → Bool
  | .fsl _ _ | .fp _ _ _ _ => false
  | .fn _ cs => noFs cs
  | .agg cs => noFs cs
  | .tup cs => noFs cs
  | _ => true
def noFs : List V → Bool
  | [] => true
  | v :: vs => v.noF && noFs vs
end

mutual
def V.shift (m : Nat) : V → V
  | .osl h ver => .osl (m + h) (m + ver)
  | .agg cs => .agg (shifts m cs)
  | .tup cs => .tup (shifts m cs)
  | v => v
def shifts (m : Nat) : List V → List V
  | [] => []
  | v :: vs => v.shift m :: shifts m vs
end

def rowsHp (m : Nat) : Nat → List RowD → List (Nat × Blk)
  | _, [] => []
  | i, r :: rs => (m + i, .row (m + i) true r.t r.xs) :: rowsHp m (i + 1) rs

def PRes.flat (r : PRes) : Bool := r.v.noF && r.rows.all fun q => q.t.flatB

/-- the rows of some handles, frozen -/
def seals (H : Heap) : List Nat → List (Nat × Blk)
  | [] => []
  | h :: l => match H h with
    | some (.row ver _ t xs) => (h, .row ver false t xs) :: seals H l
    | _ => seals H l

/-- the contract of a function that only reads -/
def pureCtr (K : Nat) (ps : Ty) (spec : Den ps → PRes) : Ctr := fun args H m =>
  let L := hss args
  match packArgs (roL H L) ps args with
  | some x =>
    let r := spec x
    bif Nat.ble r.rows.length K then
      some (r.needs, r.v.shift m, rowsHp m 0 r.rows ++ (bif r.flat then [] else seals H L))
    else none
  | none => none

end Go.Mir
