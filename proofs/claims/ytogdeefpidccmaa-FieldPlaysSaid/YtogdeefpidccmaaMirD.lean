/- The mirror, part 4: the operations are sound. -/
import Derived.Test.YtogdeefpidccmaaMirB
import Derived.Test.YtogdeefpidccmaaMirC
import Derived.WalkKit
namespace Go.Mir
open Go.RowKit

/-! ## types -/

/-- the cells of a type's zero value -/
def zeq : V → Value → Bool
  | .int k n, .int k' n' => decide (k = k') && (n == n') && decide (k.min ≤ n ∧ n ≤ k.max)
  | .kb b, .bool b' => b == b'
  | .str s, .string s' => s.data.toList.length == 0 && s'.data.toList.length == 0
  | .nilsl, .slice none 0 0 => true
  | .nilptr, .pointer none => true
  | .nilfn, .nilFunc => true
  | .nilmap, .map none => true
  | _, _ => false

def zeqs : List V → List Value → Bool
  | [], [] => true
  | x :: xs, v :: vs => zeq x v && zeqs xs vs
  | _, _ => false

theorem bytes_nil {s : ByteArray} (h : s.data.toList.length = 0) : s = ByteArray.empty := by
  cases s with
  | mk d =>
    have : d = #[] := Array.eq_empty_of_size_eq_zero (by simpa using h)
    subst this
    rfl

theorem zeq_vrel {E : Env} {x : V} {v : Value} (h : zeq x v = true) : vrel E x v := by
  cases x <;> cases v <;> simp only [zeq, Bool.false_eq_true] at h
  case int.int k n k' n' =>
    simp only [Bool.and_eq_true, decide_eq_true_eq, beq_iff_eq] at h
    obtain ⟨⟨rfl, rfl⟩, h⟩ := h
    exact ⟨rfl, h⟩
  case kb.bool => simp only [beq_iff_eq] at h; subst h; rfl
  case str.string s s' =>
    simp only [Bool.and_eq_true, beq_iff_eq] at h
    have e1 := bytes_nil h.1
    have e2 := bytes_nil h.2
    subst e1; subst e2
    exact ⟨rfl, by decide⟩
  case nilsl.slice a l c =>
    cases a <;> cases l <;> cases c <;> simp_all [vrel]
  case nilptr.pointer a => cases a <;> simp_all [vrel]
  case nilmap.map a => cases a <;> simp_all [vrel]
  case nilfn.nilFunc => rfl

theorem zeqs_vrels {E : Env} : ∀ {xs : List V} {vs : List Value}, zeqs xs vs = true → vrels E xs vs
  | [], [], _ => trivial
  | _ :: _, [], h => by simp [zeqs] at h
  | [], _ :: _, h => by simp [zeqs] at h
  | x :: xs, v :: vs, h => by
    simp only [zeqs, Bool.and_eq_true] at h
    exact ⟨zeq_vrel h.1, zeqs_vrels h.2⟩

def kindOK (P : Program) (t : TypeId) : TK → Prop
  | .int k => P.underlying t = some (.int k)
  | .bool => P.underlying t = some .bool
  | .str => P.underlying t = some .string
  | .ptr e => P.underlying t = some (.pointer e)
  | .slice e => P.underlying t = some (.slice e)
  | .arr n e => P.underlying t = some (.array n e)
  | .map k e => P.underlying t = some (.map k e)
  | .struct fs => ∃ fields : Array Field, P.underlying t = some (.struct fields) ∧ fields.toList.map (fun f => (f.offset, f.type)) = fs

def kindB (P : Program) (t : TypeId) (k : TK) : Bool :=
  match k, P.underlying t with
  | .int k, some (.int k') => decide (k = k')
  | .bool, some .bool => true
  | .str, some .string => true
  | .ptr e, some (.pointer e') => e == e'
  | .slice e, some (.slice e') => e == e'
  | .arr n e, some (.array n' e') => n == n' && e == e'
  | .map a e, some (.map a' e') => a == a' && e == e'
  | .struct fs, some (.struct fields) => fields.toList.map (fun f => (f.offset, f.type)) == fs
  | _, _ => false

theorem kindB_ok {P : Program} {t : TypeId} {k : TK} (h : kindB P t k = true) : kindOK P t k := by
  unfold kindB at h
  cases hu : P.underlying t with
  | none => rw [hu] at h; cases k <;> simp at h
  | some d =>
    rw [hu] at h
    cases k <;> cases d <;> simp only [Bool.false_eq_true, decide_eq_true_eq, beq_iff_eq, Bool.and_eq_true] at h <;> simp_all [kindOK]

/-- what is checked of a type whose data can be compared cell by cell -/
def eqB (P : Program) (t : TypeId) (ks : List EK) : Bool :=
  decide (lin P 9 t ks = some []) && P.keyTypeAt 9 t && !P.eqGuardType P.depth t

structure TDok (P : Program) (t : TypeId) (d : TD) : Prop where
  eqk : d.plain = true → ∀ ks, eks d.zero = some ks → eqB P t ks = true
  info : ∃ i z, P.info? t = some i ∧ i.size = d.size ∧ i.bytes = d.bytes ∧ i.zero = some z ∧ zeqs d.zero z.cells.toList = true
  kind : kindOK P t d.kind

def TblOK (P : Program) (tb : Tbl) : Prop := ∀ t d, tb t = some d → TDok P t d

def checkTD (P : Program) (t : TypeId) (d : TD) : Bool :=
  (match P.info? t with
   | some i => i.size == d.size && i.bytes == d.bytes && (match i.zero with | some z => zeqs d.zero z.cells.toList | none => false)
   | none => false) && kindB P t d.kind && (!d.plain || (match eks d.zero with | some ks => eqB P t ks | none => true))

theorem checkTD_ok {P : Program} {t : TypeId} {d : TD} (h : checkTD P t d = true) : TDok P t d := by
  unfold checkTD at h
  simp only [Bool.and_eq_true] at h
  refine ⟨fun hp ks hk => ?_, ?_, kindB_ok h.1.2⟩
  · have := h.2
    rw [hp, hk] at this
    simpa using this
  have h1 := h.1.1
  split at h1
  · rename_i i hi
    simp only [Bool.and_eq_true, beq_iff_eq] at h1
    obtain ⟨⟨a, b⟩, c⟩ := h1
    split at c
    · rename_i z hz; exact ⟨i, z, hi, a, b, hz, c⟩
    · cases c
  · cases h1

def checkAll (P : Program) : Nat → List (Option TD) → Bool
  | _, [] => true
  | n, none :: r => checkAll P (n + 1) r
  | n, some d :: r => checkTD P n d && checkAll P (n + 1) r

theorem checkAll_ok {P : Program} : ∀ (l : List (Option TD)) (n : Nat), checkAll P n l = true → ∀ i d, l[i]? = some (some d) → TDok P (n + i) d
  | [], _, _, i, d, h => by simp at h
  | none :: r, n, hc, i, d, h => by
    cases i with
    | zero => simp at h
    | succ i => have := checkAll_ok r (n + 1) hc i d (by simpa using h); simpa [Nat.add_assoc, Nat.add_comm 1 i] using this
  | some d0 :: r, n, hc, i, d, h => by
    simp only [checkAll, Bool.and_eq_true] at hc
    cases i with
    | zero => simp at h; subst h; exact checkTD_ok hc.1
    | succ i => have := checkAll_ok r (n + 1) hc.2 i d (by simpa using h); simpa [Nat.add_assoc, Nat.add_comm 1 i] using this

theorem tblOK_of_check {P : Program} (l : List (Option TD)) (h : checkAll P 0 l = true) : TblOK P (fun t => (l[t]?).getD none) := by
  intro t d hd
  dsimp only at hd
  cases hl : l[t]? with
  | none => rw [hl] at hd; simp at hd
  | some x =>
    rw [hl] at hd
    simp only [Option.getD_some] at hd
    have := checkAll_ok l 0 h t d (by rw [hl, hd])
    simpa using this

end Go.Mir
