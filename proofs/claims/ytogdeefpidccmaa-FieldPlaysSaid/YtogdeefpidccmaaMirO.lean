/- The mirror, part 15: states, and the operations of a region one after the other: definitions. -/
import Derived.Test.YtogdeefpidccmaaMirN
namespace Go.Mir
open Go.RowKit

structure Cfg where
  tb : Tbl
  Γ : FuncId → Option Ctr
  K : Nat
  N : Nat

structure Dl where
  tm : List (Nat × V)
  hp : List (Nat × Blk)

structure St where
  tm : List (Nat × V)
  hp : List (Nat × Blk)
  H0 : Heap
  nx : Nat

def St.H (s : St) : Heap := hset s.H0 s.hp
def St.app (s : St) (d : Dl) (nx : Nat) : St := ⟨d.tm ++ s.tm, d.hp ++ s.hp, s.H0, nx⟩

def lookV (tm : List (Nat × V)) (i : Nat) : V := match find tm i with | some v => v | none => .any

def opnd (tm : List (Nat × V)) : Operand → V
  | .tmp t => lookV tm t
  | .const v => cv v
  | .func f => .fn f []
  | .global _ => .any

/-- the operands that an operation may look at; all others are hidden -/
def maskEv (rs : List Nat) (tm : List (Nat × V)) : Operand → V
  | .tmp t => bif memN rs t then lookV tm t else .any
  | .const v => cv v
  | .func f => .fn f []
  | .global _ => .any

inductive Lf where
  | nrm | ext (id : Nat) | ret

inductive Tr where
  | leaf (e : Lf) (d : Dl) (nx : Nat)
  | br (b : Bool) (t e : Tr)
  | need (p : Prop) (t : Tr)
  | both (t u : Tr)
  | when (b : Bool) (t : Tr)
  | done
  | bad

def Tr.sat (Q : Lf → Dl → Nat → Prop) : Tr → Prop
  | .leaf e d nx => Q e d nx
  | .br b t e => (b = true → t.sat Q) ∧ (b = false → e.sat Q)
  | .need p t => p ∧ t.sat Q
  | .both t u => t.sat Q ∧ u.sat Q
  | .when b t => b = true → t.sat Q
  | .done => True
  | .bad => False

def needs : List Prop → Tr → Tr
  | [], t => t
  | p :: ps, t => .need p (needs ps t)

theorem needs_sat {Q : Lf → Dl → Nat → Prop} {t : Tr} : ∀ {ps : List Prop}, (needs ps t).sat Q → (∀ p ∈ ps, p) ∧ t.sat Q
  | [], h => ⟨fun p hp => by simp at hp, h⟩
  | p :: ps, h => by
    simp only [needs, Tr.sat] at h
    obtain ⟨h1, h2⟩ := needs_sat h.2
    exact ⟨fun q hq => by rcases List.mem_cons.1 hq with rfl | hq; exact h.1; exact h1 q hq, h2⟩

def dstPut : Option Nat → V → List (Nat × V)
  | some d, v => [(d, v)]
  | none, _ => []

def dstIn (N : Nat) : Option Nat → Bool
  | some d => Nat.blt d N
  | none => true

/-- the slots that an operation reads, its guard's among them -/
def slotsOf (all : List Oper) (o : Oper) : List Nat :=
  (o.op.operands.toList.filterMap fun | .tmp t => some t | _ => none) ++
    (match o.guard with | some (j, _) => (match all[j]? with | some oj => oj.dst.toList | none => []) | none => [])

/-- is the operation carried out -/
def guardOf (all : List Oper) (tm : List (Nat × V)) (o : Oper) : Option Bool :=
  match o.guard with
  | none => some true
  | some (j, want) => match all[j]? with
    | some oj => match oj.dst with
      | some dj => match lookV tm dj with
        | .kb b => some (b == want)
        | .tup [] => some false
        | _ => none
      | none => none
    | none => none

def isGuard (all : List Oper) (i : Nat) : Bool := all.any fun o => match o.guard with | some (j, _) => Nat.beq j i | none => false

/-- handles that can be reached, by n steps -/
def reach (H : Heap) : Nat → List Nat → List Nat → List Nat
  | 0, _, acc => acc
  | n + 1, new, acc =>
    let add := new.filter fun h => !memN acc h
    let nxt := add.flatMap fun h => match H h with | some b => b.hs | none => []
    match add with
    | [] => acc
    | _ => reach H n nxt (add ++ acc)

def hsOK (R : List Nat) (m K : Nat) (l : List Nat) : Bool := l.all fun h => memN R h || (Nat.ble m h && Nat.blt h (m + K))

def frameOK (H : Heap) (R : List Nat) (m K : Nat) (v : V) (dh : List (Nat × Blk)) : Bool :=
  (R.all fun h => match H h with | some b => hsOK R m K b.hs | none => false) && (dh.all fun q => hsOK R m K [q.1] && hsOK R m K q.2.hs) && hsOK R m K v.hs

/-- one operation, on a heap -/
def evAny (C : Cfg) (m : Nat) (H : Heap) (ev : Operand → V) (o : Op) : Option (List Prop × V × List (Nat × Blk)) :=
  match evSt C.tb H ev o with
  | some (ps, dh) => some (ps, .tup [], dh)
  | none => match evOp C.tb C.Γ m H ev o with
    | .val ps v dh => some (ps, v, dh)
    | _ => none

structure Rec where
  dst : Option Nat
  v : V
  dh : List (Nat × Blk)
  R : List Nat
  rs : List Nat

/-- one operation, in a region that draws its order or not: with the handles that it may touch -/
def stepOp (C : Cfg) (dr : Bool) (rs : List Nat) (tm : List (Nat × V)) (H : Heap) (m : Nat) (o : Oper) : Option (List Prop × V × List (Nat × Blk) × List Nat) :=
  match dr with
  | false => match evAny C m H (opnd tm) o.op with
    | some (ps, v, dh) => some (ps, v, dh, [])
    | none => none
  | true =>
    let ev := maskEv rs tm
    let R := reach H 8 (o.op.operands.toList.flatMap fun x => (ev x).hs) []
    match evAny C m (restr H R) ev o.op with
    | some (ps, v, dh) => bif frameOK H R m C.K v dh then some (ps, v, dh, R) else none
    | none => none

def mask1 (acc : List Nat) : List Edge → Nat
  | [] => 0
  | e :: es => if Region.binds .any e then (mask1 acc es ||| 2 ^ e.on) ||| (acc[e.on]?).getD 0 else mask1 acc es

def masks : List Oper → List Nat → List Nat
  | [], acc => acc
  | o :: os, acc => masks os (acc ++ [mask1 acc o.after.toList])

def edgesOK : Nat → List Oper → Bool
  | _, [] => true
  | i, o :: os => (o.after.toList.all fun e => !Region.binds .any e || Nat.blt e.on i) && edgesOK (i + 1) os

def disj (l r : List Nat) : Bool := l.all fun x => !memN r x

def comm (r s : Rec) : Bool :=
  disj r.dst.toList s.dst.toList && disj r.dst.toList s.rs && disj s.dst.toList r.rs &&
    (disj (r.dh.map (·.1)) (s.dh.map (·.1)) && disj (r.dh.map (·.1)) s.R && disj (s.dh.map (·.1)) r.R)

def pairOK (ms : List Nat) (i : Nat) (r : Rec) : Nat → List Rec → Bool
  | _, [] => true
  | j, s :: ss => (((ms[j]?).getD 0).testBit i || comm r s) && pairOK ms i r (j + 1) ss

def chkAll (ms : List Nat) : Nat → List Rec → Bool
  | _, [] => true
  | i, r :: rs => pairOK ms i r (i + 1) rs && chkAll ms (i + 1) rs

/-- a Bool on which guards hang parts the ways -/
def splitG (g : Bool) (v : V) (k : V → Tr) : Tr :=
  match g, v with
  | true, .bool b => .br b (k (.kb true)) (k (.kb false))
  | _, v => k v

theorem splitG_sat {Q : Lf → Dl → Nat → Prop} {g : Bool} {v : V} {k : V → Tr} (h : (splitG g v k).sat Q) : ∃ v', (v' = v ∨ ∃ b, v = .bool b ∧ v' = .kb b) ∧ (k v').sat Q := by
  unfold splitG at h
  split at h
  · simp only [Tr.sat] at h
    rename_i b
    cases b with
    | true => exact ⟨_, .inr ⟨true, rfl, rfl⟩, h.1 rfl⟩
    | false => exact ⟨_, .inr ⟨false, rfl, rfl⟩, h.2 rfl⟩
  · exact ⟨_, .inl rfl, h⟩

def evOps (C : Cfg) (dr : Bool) (all : List Oper) (st : St) : Nat → List Oper → Dl → List Rec → Tr
  | _, [], d, recs => if dr = false ∨ (edgesOK 0 all = true ∧ chkAll (masks all []) 0 recs = true) then .leaf .nrm d (st.nx + all.length * C.K) else .bad
  | i, o :: rest, d, recs =>
    let tm := d.tm ++ st.tm
    let rs := slotsOf all o
    bif dstIn C.N o.dst then
      match guardOf all tm o with
      | some false => evOps C dr all st (i + 1) rest ⟨dstPut o.dst (.tup []) ++ d.tm, d.hp⟩ (recs ++ [⟨o.dst, .tup [], [], [], rs⟩])
      | some true => match stepOp C dr rs tm (hset st.H d.hp) (st.nx + i * C.K) o with
        | some (ps, v, dh, R) => needs ps (splitG (isGuard all i) v fun v => evOps C dr all st (i + 1) rest ⟨dstPut o.dst v ++ d.tm, dh ++ d.hp⟩ (recs ++ [⟨o.dst, v, dh, R, rs⟩]))
        | none => .bad
      | none => .bad
    else .bad

/-! ## a run in the text's order -/

/-- an operation's record: what it does in the state before it -/
inductive Does (C : Cfg) (dr : Bool) (all : List Oper) (tm : List (Nat × V)) (H : Heap) (m : Nat) (o : Oper) : Rec → Prop
  | skip : dstIn C.N o.dst = true → guardOf all tm o = some false → Does C dr all tm H m o ⟨o.dst, .tup [], [], [], slotsOf all o⟩
  | run {ps : List Prop} {v v' : V} {dh : List (Nat × Blk)} {R : List Nat} : dstIn C.N o.dst = true → guardOf all tm o = some true → stepOp C dr (slotsOf all o) tm H m o = some (ps, v, dh, R) → (∀ p ∈ ps, p) →
      (v' = v ∨ ∃ b, v = .bool b ∧ v' = .kb b) → Does C dr all tm H m o ⟨o.dst, v', dh, R, slotsOf all o⟩

inductive Run (C : Cfg) (dr : Bool) (all : List Oper) (st : St) : Nat → List Oper → Dl → List Rec → Dl → List Rec → Prop
  | nil {i : Nat} {d : Dl} {recs : List Rec} : Run C dr all st i [] d recs d recs
  | cons {i : Nat} {o : Oper} {rest : List Oper} {d : Dl} {recs : List Rec} {r : Rec} {df : Dl} {rf : List Rec} : Does C dr all (d.tm ++ st.tm) (hset st.H d.hp) (st.nx + i * C.K) o r →
      Run C dr all st (i + 1) rest ⟨dstPut r.dst r.v ++ d.tm, r.dh ++ d.hp⟩ (recs ++ [r]) df rf → Run C dr all st i (o :: rest) d recs df rf

theorem run_of_sat {C : Cfg} {dr : Bool} {all : List Oper} {st : St} {Q : Lf → Dl → Nat → Prop} : ∀ (rest : List Oper) (i : Nat) (d : Dl) (recs : List Rec), (evOps C dr all st i rest d recs).sat Q →
    ∃ df rf, Run C dr all st i rest d recs df rf ∧ (dr = false ∨ (edgesOK 0 all = true ∧ chkAll (masks all []) 0 rf = true)) ∧ Q .nrm df (st.nx + all.length * C.K)
  | [], i, d, recs, h => by
    unfold evOps at h
    split at h
    · rename_i hc
      exact ⟨d, recs, .nil, hc, h⟩
    · exact h.elim
  | o :: rest, i, d, recs, h => by
    unfold evOps at h
    dsimp only at h
    cases hd : dstIn C.N o.dst with
    | false => rw [hd] at h; exact h.elim
    | true =>
      rw [hd] at h
      simp only [cond_true] at h
      split at h
      · rename_i hg
        obtain ⟨df, rf, h1, h2⟩ := run_of_sat rest _ _ _ h
        exact ⟨df, rf, .cons (.skip hd hg) h1, h2⟩
      · rename_i hg
        split at h
        case h_2 => exact h.elim
        rename_i ps v dh R hs
        obtain ⟨hps, h⟩ := needs_sat h
        obtain ⟨v', hv, h⟩ := splitG_sat h
        obtain ⟨df, rf, h1, h2⟩ := run_of_sat rest _ _ _ h
        exact ⟨df, rf, .cons (.run hd hg hs hps hv) h1, h2⟩
      · exact h.elim

end Go.Mir
