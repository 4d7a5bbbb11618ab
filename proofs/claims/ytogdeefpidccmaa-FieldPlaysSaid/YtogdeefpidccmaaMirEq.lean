/- The mirror: when two structs or arrays of plain cells are equal. -/
import Derived.Test.YtogdeefpidccmaaMir
import Derived.DeepKeys
namespace Go.Mir

variable {P : Program}

inductive EK where
  | int (k : IntKind) | bool | str
deriving DecidableEq

/-- the literal of a plain cell -/
def litV : Value → Lit
  | .int k n => .int k n
  | .bool b => .bool b
  | .string s => .string s.data.toList
  | _ => .bool false

def fitL : List EK → List Value → Prop
  | [], [] => True
  | .int k :: r, .int k' n :: vs => k' = k ∧ (Lit.int k n).wf = true ∧ fitL r vs
  | .bool :: r, .bool _ :: vs => fitL r vs
  | .str :: r, .string s :: vs => s.size ≤ maxLen ∧ fitL r vs
  | _, _ => False

def linR (g : List EK → Option (List EK)) : Nat → List EK → Option (List EK)
  | 0, ks => some ks
  | n + 1, ks => match g ks with
    | some r => linR g n r
    | none => none

def linF (P : Program) (g : TypeId → List EK → Option (List EK)) (c : Nat) : Nat → List Field → List EK → Option (List EK)
  | o, [], ks => if o = c then some ks else none
  | o, f :: fs, ks => if f.offset = o ∧ f.name ≠ "_" then (match g f.type ks with
    | some r => linF P g c (o + P.cellsOf f.type) fs r
    | none => none) else none

/-- the kinds of a type's cells, one after the other: what is left of the list behind them -/
def lin (P : Program) : Nat → TypeId → List EK → Option (List EK)
  | 0, _, _ => none
  | d + 1, t, ks => match P.underlying t with
    | some .bool => if P.cellsOf t = 1 then (match ks with | .bool :: r => some r | _ => none) else none
    | some (.int k) => if P.cellsOf t = 1 then (match ks with | .int k' :: r => if k' = k then some r else none | _ => none) else none
    | some .string => if P.cellsOf t = 1 then (match ks with | .str :: r => some r | _ => none) else none
    | some (.array n e) => if n * P.cellsOf e = P.cellsOf t then linR (lin P d e) n ks else none
    | some (.struct fs) => linF P (lin P d) (P.cellsOf t) 0 fs.toList ks
    | _ => none

theorem mapM_some {α β : Type} {f : α → Option β} {g : α → β} : ∀ {l : List α}, (∀ x ∈ l, f x = some (g x)) → l.mapM f = some (l.map g)
  | [], _ => rfl
  | x :: l, h => by
    rw [List.mapM_cons, h x (by simp), mapM_some (fun y hy => h y (by simp [hy]))]
    rfl

theorem chunks {α : Type} (c : Nat) : ∀ (n : Nat) (l : List α), ((List.range n).map fun i => (l.drop (i * c)).take c).flatten = l.take (n * c)
  | 0, l => by simp
  | n + 1, l => by
    rw [List.range_succ, List.map_append, List.flatten_append, chunks c n l]
    simp only [List.map_cons, List.map_nil, List.flatten_cons, List.flatten_nil, List.append_nil]
    rw [Nat.add_mul, Nat.one_mul, List.take_add]

def LinOK (P : Program) (d : Nat) (t : TypeId) : Prop :=
  ∀ ks r, lin P d t ks = some r → ∀ cs, fitL ks cs → P.keyLits d t (cs.take (P.cellsOf t)) = some ((cs.take (P.cellsOf t)).map litV) ∧ fitL r (cs.drop (P.cellsOf t)) ∧ P.cellsOf t ≤ cs.length

theorem linR_ok {d : Nat} {e : TypeId} (ih : LinOK P d e) : ∀ (n : Nat) (ks r : List EK), linR (lin P d e) n ks = some r → ∀ cs, fitL ks cs →
    (∀ i, i < n → P.keyLits d e ((cs.drop (i * P.cellsOf e)).take (P.cellsOf e)) = some (((cs.drop (i * P.cellsOf e)).take (P.cellsOf e)).map litV)) ∧ fitL r (cs.drop (n * P.cellsOf e)) ∧ n * P.cellsOf e ≤ cs.length
  | 0, ks, r, h, cs, hf => by
    simp only [linR, Option.some.injEq] at h
    subst h
    exact ⟨fun i hi => by omega, by simpa using hf, by omega⟩
  | n + 1, ks, r, h, cs, hf => by
    simp only [linR] at h
    split at h
    case h_2 => cases h
    rename_i r1 hr1
    obtain ⟨a1, a2, a3⟩ := ih ks r1 hr1 cs hf
    obtain ⟨b1, b2, b3⟩ := linR_ok ih n r1 r h _ a2
    rw [List.drop_drop] at b2
    simp only [List.length_drop] at b3
    have e1 : P.cellsOf e + n * P.cellsOf e = (n + 1) * P.cellsOf e := by rw [Nat.add_mul]; omega
    rw [e1] at b2
    refine ⟨fun i hi => ?_, b2, by omega⟩
    cases i with
    | zero => simpa using a1
    | succ i =>
      have := b1 i (by omega)
      rw [List.drop_drop] at this
      have e2 : P.cellsOf e + i * P.cellsOf e = (i + 1) * P.cellsOf e := by rw [Nat.add_mul]; omega
      rw [e2] at this
      exact this

theorem linF_ok {d : Nat} (ih : ∀ t, LinOK P d t) (c : Nat) (cs : List Value) : ∀ (fs : List Field) (o : Nat) (ks r : List EK), linF P (lin P d) c o fs ks = some r → fitL ks (cs.drop o) → o ≤ cs.length →
    fs.mapM (fun f => P.keyLits d f.type ((cs.drop f.offset).take (P.cellsOf f.type))) = some (fs.map fun f => ((cs.drop f.offset).take (P.cellsOf f.type)).map litV) ∧
      (fs.map fun f => ((cs.drop f.offset).take (P.cellsOf f.type)).map litV).flatten = ((cs.drop o).take (c - o)).map litV ∧ fitL r (cs.drop c) ∧ o ≤ c ∧ c ≤ cs.length ∧ (fs.all fun f => f.name != "_") = true
  | [], o, ks, r, h, hf, ho => by
    simp only [linF] at h
    split at h
    case isFalse => cases h
    rename_i e
    subst e
    cases h
    exact ⟨rfl, by simp, hf, Nat.le_refl _, ho, rfl⟩
  | f :: fs, o, ks, r, h, hf, ho => by
    simp only [linF] at h
    split at h
    case isFalse => cases h
    rename_i e
    split at h
    case h_2 => cases h
    rename_i r1 hr1
    obtain ⟨a1, a2, a3⟩ := ih f.type ks r1 hr1 _ hf
    rw [List.drop_drop] at a2
    simp only [List.length_drop] at a3
    obtain ⟨b1, b2, b3, b4, b5, b6⟩ := linF_ok ih c cs fs _ r1 r h a2 (by omega)
    refine ⟨mapM_some (fun g hg => ?_), ?_, b3, by omega, b5, ?_⟩
    · rcases List.mem_cons.1 hg with rfl | hg
      · rw [e.1]; exact a1
      · obtain ⟨k, hk, rfl⟩ := List.getElem_of_mem hg
        have key : ∀ (l : List Field) (as : List (List Lit)) (F : Field → Option (List Lit)), l.mapM F = some as → ∀ (k : Nat) (hk : k < l.length), F l[k] = as[k]? := by
          intro l
          induction l with
          | nil => intro as F _ k hk; simp at hk
          | cons x l ihl =>
            intro as F hm k hk
            rw [List.mapM_cons] at hm
            simp only [bind, Option.bind_eq_some_iff, pure, Option.some.injEq] at hm
            obtain ⟨y, hy, ys, hys, rfl⟩ := hm
            cases k with
            | zero => simpa using hy
            | succ k => simpa using ihl ys F hys k (by simpa using hk)
        have := key fs _ _ b1 k hk
        rw [this]
        simp [hk]
    · rw [List.map_cons, List.flatten_cons, b2, e.1, ← List.map_append]
      congr 1
      have e2 : c - o = P.cellsOf f.type + (c - (o + P.cellsOf f.type)) := by omega
      rw [e2, List.take_add, List.drop_drop]
    · simp only [List.all_cons, Bool.and_eq_true, bne_iff_ne, ne_eq]
      exact ⟨e.2, b6⟩

theorem lin_ok : ∀ (d : Nat) (t : TypeId), LinOK P d t
  | 0, t => fun ks r h => by simp [lin] at h
  | d + 1, t => by
    intro ks r h cs hf
    simp only [lin] at h
    split at h
    · rename_i hu
      split at h
      case isFalse => cases h
      rename_i hc
      split at h
      case h_2 => cases h
      cases h
      cases cs with
      | nil => simp [fitL] at hf
      | cons v vs =>
        cases v <;> simp only [fitL] at hf
        rw [hc]
        exact ⟨by simp [Program.keyLits, hu, litV], by simpa using hf, by simp⟩
    · rename_i k hu
      split at h
      case isFalse => cases h
      rename_i hc
      split at h
      case h_2 => cases h
      split at h
      case isFalse => cases h
      rename_i hk
      cases h
      subst hk
      cases cs with
      | nil => simp [fitL] at hf
      | cons v vs =>
        cases v <;> simp only [fitL] at hf
        obtain ⟨rfl, h1, h2⟩ := hf
        rw [hc]
        exact ⟨by simp [Program.keyLits, hu, litV, h1], by simpa using h2, by simp⟩
    · rename_i hu
      split at h
      case isFalse => cases h
      rename_i hc
      split at h
      case h_2 => cases h
      cases h
      cases cs with
      | nil => simp [fitL] at hf
      | cons v vs =>
        cases v <;> simp only [fitL] at hf
        rw [hc]
        exact ⟨by simp [Program.keyLits, hu, litV, hf.1], by simpa using hf.2, by simp⟩
    · rename_i n e hu
      split at h
      case isFalse => cases h
      rename_i hc
      obtain ⟨a1, a2, a3⟩ := linR_ok (lin_ok d e) n ks r h cs hf
      rw [hc] at a2 a3
      refine ⟨?_, a2, a3⟩
      have hl : (cs.take (P.cellsOf t)).length = P.cellsOf t := by simp; omega
      unfold Program.keyLits
      simp only [hu]
      rw [if_pos hl]
      have hch : ∀ i ∈ List.range n, P.keyLits d e (((cs.take (P.cellsOf t)).drop (i * P.cellsOf e)).take (P.cellsOf e)) = some (((cs.drop (i * P.cellsOf e)).take (P.cellsOf e)).map litV) := fun i hi => by
        have hi : i < n := List.mem_range.1 hi
        rw [← a1 i hi]
        congr 1
        rw [List.drop_take, List.take_take]
        congr 1
        have := Nat.mul_le_mul_right (P.cellsOf e) (show i + 1 ≤ n from hi)
        rw [Nat.add_mul] at this
        omega
      rw [mapM_some hch]
      simp only [Option.map_some, Option.some.injEq]
      have := chunks (P.cellsOf e) n (cs.map litV)
      rw [hc] at this
      rw [List.map_take, ← this]
      congr 1
      apply List.map_congr_left
      intro i _
      rw [List.map_take, List.map_drop]
    · rename_i fs hu
      obtain ⟨b1, b2, b3, b4, b5, b6⟩ := linF_ok (lin_ok d) (P.cellsOf t) cs fs.toList 0 ks r h (by simpa using hf) (Nat.zero_le _)
      refine ⟨?_, b3, b5⟩
      have hl : (cs.take (P.cellsOf t)).length = P.cellsOf t := by simp; omega
      have hall : (fs.all fun f => f.name != "_") = true := by
        rw [← Array.all_toList]; exact b6
      unfold Program.keyLits
      simp only [hu]
      rw [if_pos ⟨hl, hall⟩]
      have hch : fs.toList.mapM (fun f => P.keyLits d f.type (((cs.take (P.cellsOf t)).drop f.offset).take (P.cellsOf f.type))) = some (fs.toList.map fun f => ((cs.drop f.offset).take (P.cellsOf f.type)).map litV) := by
        have key : ∀ (l : List Field) (o : Nat) (ks r : List EK), linF P (lin P d) (P.cellsOf t) o l ks = some r → ∀ f ∈ l, f.offset + P.cellsOf f.type ≤ P.cellsOf t := by
          intro l
          induction l with
          | nil => intro o ks r _ f hf; simp at hf
          | cons g l ihl =>
            intro o ks r h f hf
            simp only [linF] at h
            split at h
            case isFalse => cases h
            rename_i e
            split at h
            case h_2 => cases h
            rename_i r1 _
            have hle : ∀ (l : List Field) (o : Nat) (ks r : List EK), linF P (lin P d) (P.cellsOf t) o l ks = some r → o ≤ P.cellsOf t := by
              intro l
              induction l with
              | nil => intro o ks r h; simp only [linF] at h; split at h; omega; cases h
              | cons g l ihl =>
                intro o ks r h
                simp only [linF] at h
                split at h
                case isFalse => cases h
                split at h
                case h_2 => cases h
                have := ihl _ _ _ h
                omega
            rcases List.mem_cons.1 hf with rfl | hf
            · rw [e.1]; exact hle _ _ _ _ h
            · exact ihl _ _ _ h f hf
        rw [← b1]
        have hm : ∀ (l : List Field) (F G : Field → Option (List Lit)), (∀ f ∈ l, F f = G f) → l.mapM F = l.mapM G := by
          intro l F G
          induction l with
          | nil => intro _; rfl
          | cons f l ihl => intro h; rw [List.mapM_cons, List.mapM_cons, h f (by simp), ihl (fun g hg => h g (by simp [hg]))]
        refine hm _ _ _ fun f hf => ?_
        have := key _ _ _ _ h f hf
        congr 1
        rw [List.drop_take, List.take_take]
        congr 1
        omega
      rw [hch]
      simp only [Option.map_some, Option.some.injEq]
      rw [b2]
      simp
    · cases h

end Go.Mir
