/- The mirror, part 19: code. -/
import Derived.Test.YtogdeefpidccmaaMirR
namespace Go.Mir
open Go.RowKit

variable {P : Program}

def Tr.pre (d : Dl) : Tr → Tr
  | .leaf e d' nx => .leaf e ⟨d'.tm ++ d.tm, d'.hp ++ d.hp⟩ nx
  | .br b t e => .br b (t.pre d) (e.pre d)
  | .need p t => .need p (t.pre d)
  | .both t u => .both (t.pre d) (u.pre d)
  | .when b t => .when b (t.pre d)
  | .done => .done
  | .bad => .bad

def Tr.graft (k : Dl → Nat → Tr) : Tr → Tr
  | .leaf .nrm d nx => (k d nx).pre d
  | .leaf e d nx => .leaf e d nx
  | .br b t e => .br b (t.graft k) (e.graft k)
  | .need p t => .need p (t.graft k)
  | .both t u => .both (t.graft k) (u.graft k)
  | .when b t => .when b (t.graft k)
  | .done => .done
  | .bad => .bad

def Tr.nN : Tr → Nat
  | .leaf .nrm _ _ => 1
  | .leaf _ _ _ => 0
  | .br _ t e => t.nN + e.nN
  | .need _ t => t.nN
  | .both t u => t.nN + u.nN
  | .when _ t => t.nN
  | .done | .bad => 0

def Tr.cut : Tr → Tr
  | .leaf .nrm _ _ => .done
  | .leaf e d nx => .leaf e d nx
  | .br b t e => .br b t.cut e.cut
  | .need p t => .need p t.cut
  | .both t u => .both t.cut u.cut
  | .when b t => .when b t.cut
  | .done => .done
  | .bad => .bad

/-- nothing but ways to the normal end, and nothing asked -/
def Tr.clean : Tr → Bool
  | .leaf .nrm _ _ => true
  | .br _ t e => t.clean && e.clean
  | _ => false

/-- is the normal end come to: known or not -/
inductive KB where
  | yes | no | is (b : Bool)

def KB.val : KB → Bool
  | .yes => true
  | .no => false
  | .is b => b

def KB.ite (b : Bool) : KB → KB → KB
  | .yes, .yes => .yes
  | .no, .no => .no
  | .yes, .no => .is b
  | .no, .yes => .is (!b)
  | x, y => .is (cond b x.val y.val)
def KB.or : KB → KB → KB
  | .yes, _ => .yes
  | _, .yes => .yes
  | .no, y => y
  | x, .no => x
  | x, y => .is (x.val || y.val)
def KB.and (b : Bool) : KB → KB
  | .yes => .is b
  | .no => .no
  | .is c => .is (b && c)

def Tr.isN : Tr → KB
  | .leaf .nrm _ _ => .yes
  | .leaf _ _ _ => .no
  | .br b t e => KB.ite b t.isN e.isN
  | .need _ t => t.isN
  | .both t u => KB.or t.isN u.isN
  | .when b t => KB.and b t.isN
  | .done | .bad => .no

mutual
def mergeV (p : Bool) : V → V → Option V
  | .any, _ => some .any
  | .hint _ _, _ => some .any
  | .int k a, y => match y with | .int k' b => (if k = k' then some (.int k (cond p a b)) else none) | .any => some .any | _ => none
  | .bool a, y => match y with | .bool b => some (.bool (cond p a b)) | .kb b => some (.bool (cond p a b)) | .any => some .any | _ => none
  | .kb a, y => match y with
    | .bool b => some (.bool (cond p a b))
    | .kb b => (match a, b with | true, true => some (.kb true) | false, false => some (.kb false) | true, false => some (.bool p) | false, true => some (.bool (!p)))
    | .any => some .any
    | _ => none
  | .str a, y => match y with | .str b => some (.str (cond p a b)) | .any => some .any | _ => none
  | .nilptr, y => match y with | .nilptr => some .nilptr | .any => some .any | _ => none
  | .ptr h o, y => match y with | .ptr h' o' => (if h = h' ∧ o = o' then some (.ptr h o) else none) | .any => some .any | _ => none
  | .fp t xs i o, y => match y with | .fp t' ys j o' => (if e : t' = t then (if o = o' then some (.fp t (cond p xs (e ▸ ys)) (cond p i j) o) else none) else none) | .any => some .any | _ => none
  | .rp h ver i o, y => match y with | .rp h' ver' j o' => (if h = h' ∧ ver = ver' ∧ o = o' then some (.rp h ver (cond p i j) o) else none) | .any => some .any | _ => none
  | .nilsl, y => match y with | .nilsl => some .nilsl | .fsl t ys => some (.fsl t (cond p [] ys)) | .any => some .any | _ => none
  | .esl, y => match y with | .esl => some .esl | .any => some .any | _ => none
  | .osl h ver, y => match y with | .osl h' ver' => (if h = h' ∧ ver = ver' then some (.osl h ver) else none) | .any => some .any | _ => none
  | .fsl t xs, y => match y with | .fsl t' ys => (if e : t' = t then some (.fsl t (cond p xs (e ▸ ys))) else none) | .nilsl => some (.fsl t (cond p xs [])) | .any => some .any | _ => none
  | .nilfn, y => match y with | .nilfn => some .nilfn | .any => some .any | _ => none
  | .nilmap, y => match y with | .nilmap => some .nilmap | .any => some .any | _ => none
  | .fn f cs, y => match y with | .fn f' ds => (if f = f' then (match mergeVs p cs ds with | some l => some (.fn f l) | none => none) else none) | .any => some .any | _ => none
  | .agg cs, y => match y with | .agg ds => (match mergeVs p cs ds with | some l => some (.agg l) | none => none) | .any => some .any | _ => none
  | .tup cs, y => match y with | .tup ds => (match mergeVs p cs ds with | some l => some (.tup l) | none => none) | .any => some .any | _ => none
def mergeVs (p : Bool) : List V → List V → Option (List V)
  | [], [] => some []
  | x :: xs, y :: ys => match mergeV p x y with
    | some v => match mergeVs p xs ys with
      | some l => some (v :: l)
      | none => none
    | none => none
  | _, _ => none
end

/-- what an operation leaves that is not carried out -/
def isUndef : V → Bool
  | .tup [] => true
  | _ => false

def mergeU (p : Bool) (x y : V) : Option V := bif isUndef x || isUndef y then some .any else mergeV p x y

def mergeB (p : Bool) : Blk → Blk → Option Blk
  | .cells cs, .cells ds => match mergeVs p cs ds with | some l => some (.cells l) | none => none
  | .row ver rw t xs, .row ver' rw' t' ys => if e : t' = t then (if ver = ver' ∧ rw = rw' then some (.row ver rw t (cond p xs (e ▸ ys))) else none) else none
  | _, _ => none

/-- the keys of two lists, each once -/
def keysOf {α : Type} : List (Nat × α) → List Nat → List Nat
  | [], acc => acc
  | (k, _) :: r, acc => bif memN acc k then keysOf r acc else keysOf r (k :: acc)

def mergeTm (p : Bool) (t1 t2 : List (Nat × V)) : List Nat → Option (List (Nat × V))
  | [] => some []
  | k :: ks => match mergeU p (lookV t1 k) (lookV t2 k) with
    | some v => match mergeTm p t1 t2 ks with
      | some l => some ((k, v) :: l)
      | none => none
    | none => none

def mergeHp (p : Bool) (H H1 H2 : Heap) : List Nat → Option (List (Nat × Blk))
  | [] => some []
  | k :: ks => match H1 k, H2 k with
    | some b1, some b2 => match mergeB p b1 b2 with
      | some b => match mergeHp p H H1 H2 ks with
        | some l => some ((k, b) :: l)
        | none => none
      | none => none
    | _, _ => match H k with
      | some _ => none
      | none => mergeHp p H H1 H2 ks

def mergeDl (p : Bool) (st : St) (d1 d2 : Dl) : Option Dl :=
  match mergeTm p (d1.tm ++ st.tm) (d2.tm ++ st.tm) (keysOf d1.tm (keysOf d2.tm [])) with
  | some tm => match mergeHp p st.H (hset st.H d1.hp) (hset st.H d2.hp) (keysOf d1.hp (keysOf d2.hp [])) with
    | some hp => some ⟨tm, hp⟩
    | none => none
  | none => none

/-- the normal ends in one -/
def Tr.mrg (st : St) : Tr → Option (Option (Dl × Nat))
  | .leaf .nrm d nx => some (some (d, nx))
  | .leaf _ _ _ => some none
  | .br b t e => match t.mrg st, e.mrg st with
    | some none, r => r
    | r, some none => r
    | some (some (d1, n1)), some (some (d2, n2)) => match mergeDl b st d1 d2 with
      | some d => some (some (d, Nat.max n1 n2))
      | none => none
    | _, _ => none
  | .need _ t => t.mrg st
  | .both t u => match t.mrg st, u.mrg st with
    | some none, r => r
    | r, some none => r
    | _, _ => none
  | .when _ t => t.mrg st
  | .done | .bad => some none

def seqT (st : St) (t : Tr) (k : Dl → Nat → Tr) : Tr :=
  bif Nat.ble t.nN 1 then t.graft k
  else match t.mrg st with
    | some (some (d, nx)) => bif t.clean then (k d nx).pre d else .both t.cut (.when t.isN.val ((k d nx).pre d))
    | _ => t.graft k

def Tr.catch (id : Nat) : Tr → Tr
  | .leaf (.ext id') d nx => if id' = id then .leaf .nrm d nx else .leaf (.ext id') d nx
  | .leaf e d nx => .leaf e d nx
  | .br b t e => .br b (t.catch id) (e.catch id)
  | .need p t => .need p (t.catch id)
  | .both t u => .both (t.catch id) (u.catch id)
  | .when b t => .when b (t.catch id)
  | .done => .done
  | .bad => .bad

/-- the number of the first region -/
def ridO : Code → Option Nat
  | .region id _ _ => some id
  | .seq a b => match ridO a with | some n => some n | none => ridO b
  | .cond _ a b => match ridO a with | some n => some n | none => ridO b
  | .block _ b => ridO b
  | .loop b => ridO b
  | _ => none
def rid (c : Code) : Nat := match ridO c with | some n => n | none => 0

structure LoopSum where
  pre : St → Prop
  T : St → Tr

def evCode (C : Cfg) (Λ : Nat → Option LoopSum) : Code → St → Tr
  | .skip, st => .leaf .nrm ⟨[], []⟩ st.nx
  | .region _ ops dr, st => evOps C dr ops.toList st 0 ops.toList ⟨[], []⟩ []
  | .seq a b, st => seqT st (evCode C Λ a st) fun d nx => evCode C Λ b (st.app d nx)
  | .cond c x y, st => match opnd st.tm c with
    | .kb true => evCode C Λ x st
    | .kb false => evCode C Λ y st
    | .bool b => .br b (evCode C Λ x st) (evCode C Λ y st)
    | .hint q true => .both (.when q (evCode C Λ x st)) (evCode C Λ y st)
    | .hint q false => .both (evCode C Λ x st) (.when q (evCode C Λ y st))
    | _ => .bad
  | .block id b, st => (evCode C Λ b st).catch id
  | .loop b, st => match Λ (rid b) with
    | some L => .need (L.pre st) (L.T st)
    | none => .bad
  | .exit id, st => .leaf (.ext id) ⟨[], []⟩ st.nx
  | .ret, st => .leaf .ret ⟨[], []⟩ st.nx
  | _, _ => .bad

def loopsOf : Code → List Code
  | .seq a b => loopsOf a ++ loopsOf b
  | .cond _ a b => loopsOf a ++ loopsOf b
  | .block _ b => loopsOf b
  | .loop b => [b]
  | _ => []

end Go.Mir
