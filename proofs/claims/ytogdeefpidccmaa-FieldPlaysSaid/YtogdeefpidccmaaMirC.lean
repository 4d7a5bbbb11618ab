/- The mirror, part 3: the operations on virtual values. Plain functions; nothing is proved here. -/
import Derived.Test.YtogdeefpidccmaaMirEq
namespace Go.Mir

inductive TK where
  | int (k : IntKind) | bool | str | ptr (e : TypeId) | slice (e : TypeId) | struct (fs : List (Nat × TypeId)) | arr (n e : Nat) | map (k e : TypeId)

structure TD where
  kind : TK
  size : Nat
  bytes : Nat
  zero : List V
  ty : Option Ty

def TK.agg : TK → Bool
  | .struct _ | .arr _ _ => true
  | _ => false

abbrev Tbl := TypeId → Option TD

/-- what an operation yields: obligations, a value, new contents of blocks -/
inductive Res where
  | bad
  | val (ps : List Prop) (v : V) (dh : List (Nat × Blk))
  | skip (ps : List Prop) (dh : List (Nat × Blk))

abbrev Heap := Nat → Option Blk

/-- a callee: given its arguments, the heap and a first free name -/
abbrev Ctr := List V → Heap → Nat → Option (List Prop × V × List (Nat × Blk))

def cellsOf : V → Option (List V)
  | .agg cs => some cs
  | .tup _ | .any | .hint _ _ => none
  | v => some [v]

/-- a value of one cell, known -/
def V.one : V → Bool
  | .any | .agg _ | .tup _ | .hint _ _ => false
  | _ => true

def ld (td : TD) (cs : List V) (off : Nat) : Res :=
  if td.kind.agg then
    if off + td.size ≤ cs.length then .val [] (.agg ((cs.drop off).take td.size)) [] else .bad
  else match cs[off]? with
    | some v => .val [] v []
    | none => .bad

def elemCells (t : Ty) (xs : List (Den t)) (i : Int) : List V := flat FUEL t (xs.getD i.toNat (dflt t))

def evLoad (td : TD) (H : Heap) : V → Res
  | .ptr h off => match H h with | some (.cells cs) => ld td cs off | _ => .bad
  | .fp t xs i off => ld td (elemCells t xs i) off
  | .rp h ver i off => match H h with
    | some (.row ver' _ t xs) => if ver = ver' then ld td (elemCells t xs i) off else .bad
    | _ => .bad
  | _ => .bad

def splice (cs : List V) (off : Nat) (xs : List V) : List V := cs.take off ++ xs ++ cs.drop (off + xs.length)

def packI (k : IntKind) : List V → Option (Int × List V)
  | .int k' n :: r => if k = k' then some (n, r) else none
  | _ => none
def packB : List V → Option (Bool × List V)
  | .bool b :: r => some (b, r)
  | .kb b :: r => some (b, r)
  | _ => none
def packS : List V → Option (ByteArray × List V)
  | .str s :: r => some (s, r)
  | _ => none
def packL (H : Heap) (t : Ty) : List V → Option (List (Den t) × List V)
  | .fsl t' xs :: r => if h : t' = t then some ((h ▸ xs : List (Den t)), r) else none
  | .nilsl :: r => some ([], r)
  | .esl :: r => some ([], r)
  | .osl h ver :: r => match H h with
    | some (.row ver' false t' xs) => if e : t' = t then (if ver = ver' then some ((e ▸ xs : List (Den t)), r) else none) else none
    | _ => none
  | _ => none
def packF (H : Heap) : Nat → (t : Ty) → List V → Option (Den t × List V)
  | 0, _, _ => none
  | _ + 1, .int k, vs => packI k vs
  | _ + 1, .bool, vs => packB vs
  | _ + 1, .str, vs => packS vs
  | _ + 1, .unit, r => some ((), r)
  | f + 1, .prod a b, r => match packF H f a r with
    | some (x, r') => match packF H f b r' with
      | some (y, r'') => some ((x, y), r'')
      | none => none
    | none => none
  | _ + 1, .slice t, vs => packL H t vs
  | f + 1, .nm n, r => match packF H f n.flds r with
    | some (x, r') => some (n.of x, r')
    | none => none

def pack (H : Heap) (t : Ty) (cs : List V) : Option (Den t) :=
  match packF H FUEL t cs with
  | some (x, []) => some x
  | _ => none

/-- n data out of their cells in a row -/
def packs (H : Heap) (t : Ty) : Nat → List V → Option (List (Den t))
  | 0, [] => some []
  | n + 1, cs => match packF H FUEL t cs with
    | some (x, r) => match packs H t n r with
      | some xs => some (x :: xs)
      | none => none
    | none => none
  | 0, _ :: _ => none

def evStore (td : TD) (H : Heap) (a x : V) : Res :=
  match cellsOf x with
  | none => .bad
  | some xs => if xs.length = td.size ∧ xs.all V.one = true then
      match a with
      | .ptr h off => match H h with
        | some (.cells cs) => if off + td.size ≤ cs.length then .skip [] [(h, .cells (splice cs off xs))] else .bad
        | _ => .bad
      | .rp h ver i off => match H h with
        | some (.row ver' true t ys) => if ver = ver' then
            let old := elemCells t ys i
            if off + td.size ≤ sz t then
              match pack H t (splice old off xs) with
              | some y => .skip [] [(h, .row ver true t (ys.set i.toNat y))]
              | none => .bad
            else .bad
          else .bad
        | _ => .bad
      | _ => .bad
    else .bad

def evField (tb : Tbl) (td : TD) (x : V) (f : Nat) : Res :=
  match td.kind with
  | .struct fs => match fs[f]? with
    | some (o, ft) => match tb ft with
      | some tf => if tf.size = 0 then .bad else
        match x with
        | .ptr h off => .val [] (.ptr h (off + o)) []
        | .fp t xs i off => .val [] (.fp t xs i (off + o)) []
        | .rp h ver i off => .val [] (.rp h ver i (off + o)) []
        | _ => .bad
      | none => .bad
    | none => .bad
  | _ => .bad

def evFieldVal (tb : Tbl) (td : TD) (x : V) (f : Nat) : Res :=
  match td.kind with
  | .struct fs => match fs[f]? with
    | some (o, ft) => match tb ft with
      | some tf => match x with
        | .agg cs => ld tf cs o
        | _ => .bad
      | none => .bad
    | none => .bad
  | _ => .bad

def evIndex (tb : Tbl) (td : TD) (H : Heap) (x i : V) : Res :=
  match i with
  | .int _ n =>
    match td.kind with
    | .slice e => match tb e with
      | some te => match x with
        | .fsl t xs => if te.size = sz t then .val [0 ≤ n ∧ n < (xs.length : Int)] (.fp t xs n 0) [] else .bad
        | .osl h ver => match H h with
          | some (.row ver' _ t xs) => if ver = ver' then (if te.size = sz t then .val [0 ≤ n ∧ n < (xs.length : Int)] (.rp h ver n 0) [] else .bad) else .bad
          | _ => .bad
        | _ => .bad
      | none => .bad
    | .arr len e => match tb e with
      | some te => match x with
        | .ptr h off => .val [0 ≤ n ∧ n < (len : Int)] (.ptr h (off + n.toNat * te.size)) []
        | _ => .bad
      | none => .bad
    | _ => .bad
  | _ => .bad

/-- a bound of a slice expression, with its default -/
def bnd (d : Int) : Option V → Option Int
  | none => some d
  | some (.int _ n) => some n
  | _ => none

/-- the size of the elements of a slice type -/
def elSize (tb : Tbl) (td : TD) : Option Nat :=
  match td.kind with
  | .slice e => match tb e with | some te => some te.size | none => none
  | _ => none

def isNum (n : Int) : Option V → Bool
  | some (.int _ k) => k == n
  | _ => false

/-- is it a slice, whatever it holds -/
def isSl (_ : Heap) : V → Bool
  | .fsl _ _ | .nilsl | .esl | .osl _ _ => true
  | _ => false

def evSlice (tb : Tbl) (td : TD) (H : Heap) (x : V) (lo hi mx : Option V) : Res :=
  match mx with
  | some (.int _ n) => if n = 0 ∧ isNum 0 lo = true ∧ isNum 0 hi = true ∧ (elSize tb td).isSome = true ∧ isSl H x = true then .val [] .esl [] else .bad
  | some _ => .bad
  | none =>
    match x with
    | .str s => match td.kind, bnd 0 lo, bnd s.size hi with
      | .str, some l, some h => .val [0 ≤ l ∧ l ≤ h ∧ h ≤ (s.size : Int)] (.str (s.extract l.toNat h.toNat)) []
      | _, _, _ => .bad
    | .fsl t xs => match elSize tb td, bnd 0 lo, bnd xs.length hi with
      | some n, some l, some h => if n = sz t then .val [0 ≤ l ∧ l ≤ h ∧ h ≤ (xs.length : Int)] (.fsl t ((xs.take h.toNat).drop l.toNat)) [] else .bad
      | _, _, _ => .bad
    | .osl h0 ver => match H h0 with
      | some (.row ver' _ t xs) => if ver = ver' then
          match elSize tb td, bnd 0 lo, bnd xs.length hi with
          | some n, some l, some h => if n = sz t then .val [0 ≤ l ∧ l ≤ h ∧ h ≤ (xs.length : Int)] (.fsl t ((xs.take h.toNat).drop l.toNat)) [(h0, .row ver false t xs)] else .bad
          | _, _, _ => .bad
        else .bad
      | _ => .bad
    | _ => .bad

def fillV (f : Nat → Option (Nat × Nat)) (cs : List V) : List (Nat × V) → Option (List V)
  | [] => some cs
  | (i, v) :: r => match f i with
    | some (off, size) => match cellsOf v with
      | some xs => if xs.length = size then (if off + xs.length ≤ cs.length then fillV f (splice cs off xs) r else none) else none
      | none => none
    | none => none

def evBuild (tb : Tbl) (td : TD) (parts : List (Nat × V)) : Res :=
  match td.kind with
  | .struct fs => if fs.all (fun q => (tb q.2).isSome) = true then
      match fillV (fun i => (fs[i]?).map fun q => (q.1, ((tb q.2).map TD.size).getD 0)) td.zero parts with
      | some cs => .val [] (.agg cs) []
      | none => .bad
    else .bad
  | .arr _ e => match tb e with
    | some te => match fillV (fun i => some (i * te.size, te.size)) td.zero parts with
      | some cs => .val [] (.agg cs) []
      | none => .bad
    | none => .bad
  | _ => .bad

def reps (cs : List V) : Nat → List V
  | 0 => []
  | n + 1 => cs ++ reps cs n

def evBuildSlice (tb : Tbl) (td : TD) (H : Heap) (m n : Nat) (parts : List (Nat × V)) : Res :=
  match td.kind with
  | .slice e => match tb e with
    | some te => match te.ty with
      | some t => if te.size = sz t ∧ n ≤ 1000 ∧ te.size ≤ 1000 ∧ te.zero.length = te.size then
          match fillV (fun i => some (i * te.size, te.size)) (reps te.zero n) parts with
          | some cs => match packs H t n cs with
            | some xs => .val [] (.osl m m) [(m, .row m true t xs)]
            | none => .bad
          | none => .bad
        else .bad
      | none => .bad
    | none => .bad
  | _ => .bad

def evMakeSlice (tb : Tbl) (td : TD) (H : Heap) (m : Nat) (len cap : V) : Res :=
  match len, cap with
  | .int _ n, .int _ c => match td.kind with
    | .slice e => match tb e with
      | some te => match te.ty with
        | some t => if te.size = sz t ∧ te.bytes ≤ 1000 ∧ te.zero.length = te.size then
            match pack H t te.zero with
            | some z => .val [0 ≤ n ∧ c = n ∧ n ≤ 17179869184] (.osl m m) [(m, .row m true t (List.replicate n.toNat z))]
            | none => .bad
          else .bad
        | none => .bad
      | none => .bad
    | _ => .bad
  | _, _ => .bad

/-- a slice, read: the list -/
def listOf (H : Heap) (t : Ty) : V → Option (List (Den t))
  | .fsl t' xs => if h : t' = t then some (h ▸ xs : List (Den t)) else none
  | .nilsl => some []
  | .esl => some []
  | .osl h ver => match H h with
    | some (.row ver' _ t' xs) => if e : t' = t then (if ver = ver' then some (e ▸ xs : List (Den t)) else none) else none
    | _ => none
  | _ => none

def evAppend (tb : Tbl) (td : TD) (H : Heap) (m : Nat) (s x : V) : Res :=
  match td.kind with
  | .slice e => match tb e with
    | some te => match te.ty with
      | some t => if te.size = sz t ∧ 0 < te.bytes ∧ te.bytes ≤ 1000 ∧ te.zero.length = te.size then
          match listOf H t x with
          | some ys => match s with
            | .nilsl => .val [ys.length * te.bytes ≤ 70368744177664] (.osl m m) [(m, .row m true t ys)]
            | .esl => .val [ys.length * te.bytes ≤ 70368744177664] (.osl m m) [(m, .row m true t ys)]
            | .osl h ver => match H h with
              | some (.row ver' true t' xs) => if e' : t' = t then (if ver = ver' then
                  .val [(xs.length + ys.length) * te.bytes ≤ 70368744177664] (.osl h m) [(h, .row m true t ((e' ▸ xs : List (Den t)) ++ ys))] else .bad) else .bad
              | _ => .bad
            | _ => .bad
          | none => .bad
        else .bad
      | none => .bad
    | none => .bad
  | _ => .bad

def evLen (td : TD) (H : Heap) (x : V) : Res :=
  match td.kind, x with
  | .str, .str s => .val [] (.int .i64 s.size) []
  | .slice _, .fsl _ xs => .val [] (.int .i64 xs.length) []
  | .slice _, .nilsl => .val [] (.int .i64 0) []
  | .slice _, .esl => .val [] (.int .i64 0) []
  | .slice _, .osl h ver => match H h with
    | some (.row ver' _ _ xs) => if ver = ver' then .val [] (.int .i64 xs.length) [] else .bad
    | _ => .bad
  | .arr n _, _ => if n ≤ 1000000 then .val [] (.int .i64 n) [] else .bad
  | _, _ => .bad

def minI (x y : Int) : Int := if y < x then y else x
def maxI (x y : Int) : Int := if y > x then y else x

def evFold (f : Int → Int → Int) : V → List V → Res
  | .int k x, [] => .val [] (.int k x) []
  | .int k x, .int k' y :: r => if k = k' then evFold f (.int k (f x y)) r else .bad
  | _, _ => .bad

/-- a Bool, known or not -/
def asB : V → Option Bool
  | .bool b => some b
  | .kb b => some b
  | _ => none

/-- the kinds of plain cells -/
def ekV : V → Option EK
  | .int k _ => some (.int k)
  | .bool _ | .kb _ => some .bool
  | .str _ => some .str
  | _ => none
def eks : List V → Option (List EK)
  | [] => some []
  | v :: vs => match ekV v, eks vs with
    | some k, some ks => some (k :: ks)
    | _, _ => none

/-- a struct or an array of plain cells -/
def TD.plain (td : TD) : Bool := td.kind.agg && (eks td.zero).isSome

def eq1 : V → V → Bool
  | .int _ a, .int _ b => a == b
  | .str a, .str b => a.toList == b.toList
  | x, y => match asB x, asB y with
    | some a, some b => a == b
    | _, _ => false
def eqCs : List V → List V → Bool
  | x :: xs, y :: ys => eq1 x y && eqCs xs ys
  | _, _ => true

/-- is it nil? -/
def isNil : TK → V → Option V
  | .slice _, .nilsl => some (.kb true)
  | .slice _, .fsl _ xs => some (.hint xs.isEmpty true)
  | .slice _, .esl => some (.hint true true)
  | .slice _, .osl _ _ => some (.hint true true)
  | .ptr _, .nilptr => some (.kb true)
  | .ptr _, .ptr _ _ => some (.kb false)
  | .ptr _, .fp _ _ _ _ => some (.kb false)
  | .ptr _, .rp _ _ _ _ => some (.kb false)
  | .map _ _, .nilmap => some (.kb true)
  | _, _ => none

def noV : V → V
  | .kb b => .kb (!b)
  | .hint q p => .hint q (!p)
  | v => v

def isNilC : TK → V → Bool
  | .slice _, .nilsl => true
  | .ptr _, .nilptr => true
  | .map _ _, .nilmap => true
  | _, _ => false

def evBin (td : TD) (op : BinOp) (x y : V) : Res :=
  match x, y with
  | .int k a, .int k' b => if k = k' then
      match op with
      | .add => .val [] (.int k (k.wrap (a + b))) []
      | .sub => .val [] (.int k (k.wrap (a - b))) []
      | .mul => .val [] (.int k (k.wrap (a * b))) []
      | .quo => .val [b ≠ 0] (.int k (k.wrap (a.tdiv b))) []
      | .rem => .val [b ≠ 0] (.int k (a.tmod b)) []
      | .eql => .val [] (.bool (a == b)) []
      | .neq => .val [] (.bool (a != b)) []
      | .lss => .val [] (.bool (decide (a < b))) []
      | .leq => .val [] (.bool (decide (a ≤ b))) []
      | .gtr => .val [] (.bool (decide (a > b))) []
      | .geq => .val [] (.bool (decide (a ≥ b))) []
      | _ => .bad
    else .bad
  | .str a, .str b => match op with
    | .add => .val [a.size + b.size ≤ lenB] (.str (a ++ b)) []
    | .eql => .val [] (.bool (a.toList == b.toList)) []
    | .neq => .val [] (.bool (!(a.toList == b.toList))) []
    | .lss => .val [] (.bool (Op.bytesLess a.toList b.toList)) []
    | .leq => .val [] (.bool (Op.bytesLess a.toList b.toList || a.toList == b.toList)) []
    | .gtr => .val [] (.bool (!(Op.bytesLess a.toList b.toList || a.toList == b.toList))) []
    | .geq => .val [] (.bool (!Op.bytesLess a.toList b.toList)) []
    | _ => .bad
  | .agg xs, .agg ys => if td.plain = true ∧ eks xs = eks td.zero ∧ eks ys = eks td.zero then
      match op with
      | .eql => .val [] (.bool (eqCs xs ys)) []
      | .neq => .val [] (.bool (!(eqCs xs ys))) []
      | _ => .bad
    else .bad
  | x, y => match asB x, asB y, td.kind with
    | some a, some b, .bool => match op with
      | .eql => .val [] (.bool (a == b)) []
      | .neq => .val [] (.bool (!(a == b))) []
      | _ => .bad
    | _, _, k => match isNilC k y, isNil k x with
      | true, some v => match op with
        | .eql => .val [] v []
        | .neq => .val [] (noV v) []
        | _ => .bad
      | _, _ => .bad

def evUn (op : UnOp) (x : V) : Res :=
  match op, x with
  | .not, .bool b => .val [] (.bool (!b)) []
  | .not, .kb b => .val [] (.kb (!b)) []
  | .not, .hint q p => .val [] (.hint q (!p)) []
  | .neg, .int k n => .val [] (.int k (k.wrap (0 - n))) []
  | _, _ => .bad

def evConv (src dst : TD) (x : V) : Res :=
  match src.kind, dst.kind, x with
  | .int _, .int k, .int _ n => .val [] (.int k (k.wrap n)) []
  | .str, .str, .str s => .val [] (.str s) []
  | _, _, _ => .bad

def evIdxVal (td : TD) (x i : V) : Res :=
  match td.kind, x, i with
  | .str, .str s, .int _ n => .val [0 ≤ n ∧ n < (s.size : Int)] (.int .u8 ((s.data.getD n.toNat 0).toNat : Int)) []
  | _, _, _ => .bad

def ite2 (p : Bool) : V → V → Option V
  | .int k a, .int k' b => if k = k' then some (.int k (cond p a b)) else none
  | .str a, .str b => some (.str (cond p a b))
  | .bool a, .bool b => some (.bool (cond p a b))
  | .bool a, .kb b => some (.bool (cond p a b))
  | .kb a, .bool b => some (.bool (cond p a b))
  | .kb a, .kb b => some (.bool (cond p a b))
  | _, _ => none

def evPick : V → V → V → Res
  | .kb p, a, b => .val [] (match p with | true => a | false => b) []
  | .bool p, a, b => match ite2 p a b with | some v => .val [] v [] | none => .bad
  | _, _, _ => .bad

def evExtract : V → Nat → Res
  | .tup vs, i => match vs[i]? with | some v => .val [] v [] | none => .bad
  | _, _ => .bad

def cv : Value → V
  | .int k n => if k.min ≤ n ∧ n ≤ k.max then .int k n else .any
  | .bool b => .kb b
  | .string s => if s.size ≤ lenB then .str s else .any
  | .slice none 0 0 => .nilsl
  | .pointer none => .nilptr
  | .nilFunc => .nilfn
  | .map none => .nilmap
  | _ => .any

def evNil : V → Res
  | .ptr h off => .val [] (.ptr h off) []
  | .fp t xs i off => .val [] (.fp t xs i off) []
  | .rp h ver i off => .val [] (.rp h ver i off) []
  | .fn f caps => .val [] (.fn f caps) []
  | _ => .bad

def evCall (c : Ctr) (args : List V) (H : Heap) (m : Nat) : Res :=
  match c args H m with
  | some (ps, v, dh) => .val ps v dh
  | none => .bad

/-- one operation: 'ev' gives its operands, 'm' is the first of its own names -/
def evOp (tb : Tbl) (Γ : FuncId → Option Ctr) (m : Nat) (H : Heap) (ev : Operand → V) : Op → Res
  | .move x | .assign x => .val [] (ev x) []
  | .pick c a b => evPick (ev c) (ev a) (ev b)
  | .alloc t => match tb t with | some td => .val [] (.ptr m 0) [(m, .cells td.zero)] | none => .bad
  | .box _ x => match cellsOf (ev x) with | some cs => .val [] (.ptr m 0) [(m, .cells cs)] | none => .bad
  | .build t parts => match tb t with | some td => evBuild tb td (parts.toList.map fun p => (p.1, ev p.2)) | none => .bad
  | .buildSlice t n parts => match tb t with | some td => evBuildSlice tb td H m n (parts.toList.map fun p => (p.1, ev p.2)) | none => .bad
  | .load t a => match tb t with | some td => evLoad td H (ev a) | none => .bad
  | .nilCheck x => evNil (ev x)
  | .binOp op t x y _ => match tb t with | some td => evBin td op (ev x) (ev y) | none => .bad
  | .unOp op _ x => evUn op (ev x)
  | .convert s d x => match tb s, tb d with | some ts, some td => evConv ts td (ev x) | _, _ => .bad
  | .makeFunc (.func f) first caps => if first.size = 0 then .val [] (.fn f (caps.toList.map ev)) [] else .bad
  | .makeSlice t l c => match tb t with | some td => evMakeSlice tb td H m (ev l) (ev c) | none => .bad
  | .slice t x lo hi mx => match tb t with | some td => evSlice tb td H (ev x) (lo.map ev) (hi.map ev) (mx.map ev) | none => .bad
  | .fieldAddr t x f => match tb t with | some td => evField tb td (ev x) f | none => .bad
  | .field t x f => match tb t with | some td => evFieldVal tb td (ev x) f | none => .bad
  | .indexAddr t x i => match tb t with | some td => evIndex tb td H (ev x) (ev i) | none => .bad
  | .index t x i => match tb t with | some td => evIdxVal td (ev x) (ev i) | none => .bad
  | .extract t i => evExtract (ev t) i
  | .call c => match c.callee with
    | .builtin .len => match c.argTypes.toList, c.args.toList with
      | [t], [x] => match tb t with | some td => evLen td H (ev x) | none => .bad
      | _, _ => .bad
    | .builtin .min => match c.args.toList with | x :: r => evFold minI (ev x) (r.map ev) | [] => .bad
    | .builtin .max => match c.args.toList with | x :: r => evFold maxI (ev x) (r.map ev) | [] => .bad
    | .builtin .append => match c.argTypes.toList, c.args.toList with
      | [t, t2], [s, x] => match tb t, tb t2 with | some td, some td2 => if (elSize tb td2).isSome = true then evAppend tb td H m (ev s) (ev x) else .bad | _, _ => .bad
      | _, _ => .bad
    | .value f => match ev f with
      | .fn g caps => match Γ g with
        | some ct => evCall ct (c.args.toList.map ev ++ caps) H m
        | none => .bad
      | _ => .bad
    | _ => .bad
  | _ => .bad

/-- a store -/
def evSt (tb : Tbl) (H : Heap) (ev : Operand → V) : Op → Option (List Prop × List (Nat × Blk))
  | .store t a x => match tb t with
    | some td => match evStore td H (ev a) (ev x) with
      | .skip ps dh => some (ps, dh)
      | _ => none
    | none => none
  | _ => none

end Go.Mir
