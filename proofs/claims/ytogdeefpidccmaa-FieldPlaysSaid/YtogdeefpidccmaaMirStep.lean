/- The mirror, part 30: what a loop's round asks, computed. -/
import Derived.Test.YtogdeefpidccmaaMirLaw
namespace Go.Mir
open Go.RowKit

variable {P : Program}

/-- what becomes of an end of a round: the next round's data, or an end of the loop -/
inductive Lspec (α : Type) where
  | next (a : α) (σ : List (Nat × Nat)) (Z : List Nat)
  | out (path : List Bool) (σ : List (Nat × Nat)) (Z : List Nat)

def lfEq : Lf → Lf → Bool
  | .nrm, .nrm => true
  | .ret, .ret => true
  | .ext n, .ext m => Nat.beq n m
  | _, _ => false

theorem lfEq_iff {e e' : Lf} (h : lfEq e e' = true) : e = e' := by
  cases e <;> cases e' <;> simp only [lfEq, Bool.false_eq_true, Nat.beq_eq] at h
  · rfl
  · subst h; rfl
  · rfl

def conj : List Prop → Prop
  | [] => True
  | [p] => p
  | p :: q :: r => p ∧ conj (q :: r)

theorem conj_all : ∀ {l : List Prop}, conj l → ∀ p ∈ l, p
  | [], _, p, hp => by simp at hp
  | [q], h, p, hp => by rw [List.mem_singleton] at hp; subst hp; exact h
  | q :: q' :: r, h, p, hp => by
    rcases List.mem_cons.1 hp with rfl | hp
    · exact h.1
    · exact conj_all h.2 p hp

/-- an end of a tree, by its path, with what is asked on the way -/
def Tr.walk : Tr → List Bool → Option (List Prop × Lf × Dl × Nat)
  | .leaf e d nx, _ => some ([], e, d, nx)
  | .br b t u, p => match p with
    | true :: p => (match t.walk p with | some (ps, z) => some ((b = true) :: ps, z) | none => none)
    | false :: p => (match u.walk p with | some (ps, z) => some ((b = false) :: ps, z) | none => none)
    | [] => none
  | .need _ t, p => t.walk p
  | .both t u, p => match p with
    | true :: p => t.walk p
    | false :: p => u.walk p
    | [] => none
  | .when b t, p => match t.walk p with | some (ps, z) => some ((b = true) :: ps, z) | none => none
  | .done, _ => none
  | .bad, _ => none

theorem walk_sat {Q : Lf → Dl → Nat → Prop} : ∀ {t : Tr} {p : List Bool} {ps : List Prop} {e : Lf} {d : Dl} {nx : Nat}, t.walk p = some (ps, e, d, nx) → (∀ q ∈ ps, q) → t.sat Q → Q e d nx
  | .leaf e d nx, p, ps, e', d', nx', h, _, hs => by simp only [Tr.walk, Option.some.injEq, Prod.mk.injEq] at h; obtain ⟨_, rfl, rfl, rfl⟩ := h; exact hs
  | .br b t u, p, ps, e', d', nx', h, hp, hs => by
    cases p with
    | nil => simp [Tr.walk] at h
    | cons x p =>
      cases x with
      | true =>
        simp only [Tr.walk] at h
        split at h
        case h_2 => cases h
        rename_i ps' z hz
        simp only [Option.some.injEq, Prod.mk.injEq] at h
        obtain ⟨rfl, rfl⟩ := h
        exact walk_sat hz (fun q hq => hp q (by simp [hq])) (hs.1 (hp _ (by simp)))
      | false =>
        simp only [Tr.walk] at h
        split at h
        case h_2 => cases h
        rename_i ps' z hz
        simp only [Option.some.injEq, Prod.mk.injEq] at h
        obtain ⟨rfl, rfl⟩ := h
        exact walk_sat hz (fun q hq => hp q (by simp [hq])) (hs.2 (hp _ (by simp)))
  | .need q t, p, ps, e', d', nx', h, hp, hs => walk_sat (t := t) h hp hs.2
  | .both t u, p, ps, e', d', nx', h, hp, hs => by
    cases p with
    | nil => simp [Tr.walk] at h
    | cons x p =>
      cases x with
      | true => exact walk_sat (t := t) h hp hs.1
      | false => exact walk_sat (t := u) h hp hs.2
  | .when b t, p, ps, e', d', nx', h, hp, hs => by
    simp only [Tr.walk] at h
    split at h
    case h_2 => cases h
    rename_i ps' z hz
    simp only [Option.some.injEq, Prod.mk.injEq] at h
    obtain ⟨rfl, rfl⟩ := h
    exact walk_sat hz (fun q hq => hp q (by simp [hq])) (hs (hp _ (by simp)))
  | .done, p, _, _, _, _, h, _, _ => by simp [Tr.walk] at h
  | .bad, p, _, _, _, _, h, _, _ => by simp [Tr.walk] at h

section
variable {α : Type} (I : α → St) (inv : α → Prop) (μ : α → Nat) (a : α) (T : Tr)

def leafObl (e : Lf) (d : Dl) (nx : Nat) : Lspec α → Prop
  | .next a' σ Z => match e with
    | .nrm => inv a' ∧ μ a' < μ a ∧ Sub ⟨σ, Z, (I a').nx⟩ ((I a).app d nx) (I a').tm (I a').hp
    | _ => False
  | .out p σ Z => match e with
    | .nrm => False
    | e => match T.walk p with
      | some (ps, e', d', nx') => ifB (lfEq e e') (conj ps ∧ Sub ⟨σ, Z, nx'⟩ ((I a).app d nx) d'.tm d'.hp)
      | none => False

def stepObl : Tr → List (Lspec α) → Prop × List (Lspec α)
  | .leaf e d nx, l => match l with
    | [] => (False, [])
    | s :: r => (leafObl I inv μ a T e d nx s, r)
  | .br b t u, l => ((b = true → (stepObl t l).1) ∧ (b = false → (stepObl u (stepObl t l).2).1), (stepObl u (stepObl t l).2).2)
  | .need p t, l => (p ∧ (stepObl t l).1, (stepObl t l).2)
  | .both t u, l => ((stepObl t l).1 ∧ (stepObl u (stepObl t l).2).1, (stepObl u (stepObl t l).2).2)
  | .when b t, l => ((b = true → (stepObl t l).1), (stepObl t l).2)
  | .done, l => (True, l)
  | .bad, l => (False, l)

def stepQ : Lf → Dl → Nat → Prop := fun e d nx => match e with
  | .nrm => ∃ (a' : α) (M : Nam), inv a' ∧ μ a' < μ a ∧ M.nx = (I a').nx ∧ Sub M ((I a).app d nx) (I a').tm (I a').hp
  | e => ∃ (M : Nam) (tm : List (Nat × V)) (hp : List (Nat × Blk)), Sub M ((I a).app d nx) tm hp ∧ ∀ Q : Lf → Dl → Nat → Prop, T.sat Q → Q e ⟨tm, hp⟩ M.nx

variable {I inv μ a T}

theorem leafObl_sat {e : Lf} {d : Dl} {nx : Nat} : ∀ {s : Lspec α}, leafObl I inv μ a T e d nx s → stepQ I inv μ a T e d nx
  | .next a' σ Z, h => by
    cases e with
    | nrm => exact ⟨a', ⟨σ, Z, (I a').nx⟩, h.1, h.2.1, rfl, h.2.2⟩
    | ext id => exact h.elim
    | ret => exact h.elim
  | .out p σ Z, h => by
    have key : ∀ e : Lf, (match T.walk p with
      | some (ps, e', d', nx') => ifB (lfEq e e') (conj ps ∧ Sub ⟨σ, Z, nx'⟩ ((I a).app d nx) d'.tm d'.hp)
      | none => False) → ∃ (M : Nam) (tm : List (Nat × V)) (hp : List (Nat × Blk)), Sub M ((I a).app d nx) tm hp ∧ ∀ Q : Lf → Dl → Nat → Prop, T.sat Q → Q e ⟨tm, hp⟩ M.nx := fun e h => by
      split at h
      case h_2 => exact h.elim
      rename_i ps e' d' nx' hw
      obtain ⟨h1, h2, h3⟩ := ifB_iff.1 h
      obtain rfl := lfEq_iff h1
      exact ⟨⟨σ, Z, nx'⟩, d'.tm, d'.hp, h3, fun Q hT => walk_sat hw (conj_all h2) hT⟩
    cases e with
    | nrm => exact h.elim
    | ext id => exact key _ h
    | ret => exact key _ h

theorem stepObl_sat : ∀ {t : Tr} {l : List (Lspec α)}, (stepObl I inv μ a T t l).1 → t.sat (stepQ I inv μ a T)
  | .leaf e d nx, l, h => by
    cases l with
    | nil => exact h.elim
    | cons s r => exact leafObl_sat h
  | .br b t u, l, h => ⟨fun hb => stepObl_sat (h.1 hb), fun hb => stepObl_sat (h.2 hb)⟩
  | .need p t, l, h => ⟨h.1, stepObl_sat h.2⟩
  | .both t u, l, h => ⟨stepObl_sat h.1, stepObl_sat h.2⟩
  | .when b t, l, h => fun hb => stepObl_sat (h hb)
  | .done, _, h => h
  | .bad, _, h => h.elim
end

/-- THE LOOP, its rounds' obligations computed -/
theorem loop_by {C : Cfg} (hC : CfgOK P C) (hP : P.follows .mixedOrders = true) {body : Code} {α : Type} (I : α → St) (hI : ∀ a, (I a).H0 = fun _ => none) (inv : α → Prop) (μ : α → Nat) (Λ : α → Nat → Option LoopSum)
    (hΛ : ∀ a, inv a → ∀ b ∈ loopsOf body, ∀ L, Λ a (rid b) = some L → LoopOK P C.N b L) (T : Tr) (σ : List (Nat × Nat)) (Z : List Nat) (a0 : α) (h0 : inv a0) (L : α → List (Lspec α))
    (step : ∀ a, inv a → (stepObl I inv μ a T (evCode C (Λ a) body (I a)) (L a)).1) :
    LoopOK P C.N body (loopSum ⟨σ, Z, (I a0).nx⟩ (I a0) T) :=
  loop_ok hC hP I hI inv μ Λ hΛ h0 rfl fun a ha => stepObl_sat (step a ha)

/-- a loop that is entered only where something holds -/
def LoopSum.under (p : Prop) (L : LoopSum) : LoopSum := ⟨fun st => p ∧ L.pre st, L.T⟩
theorem LoopOK.under {N : Nat} {b : Code} {L : LoopSum} {p : Prop} (h : p → LoopOK P N b L) : LoopOK P N b (L.under p) := fun B st Q CQ hp => h hp.1 B st Q CQ hp.2

/-- all loops of a code are summed up rightly -/
def LoopsOK (P : Program) (N : Nat) (l : List Code) (Λ : Nat → Option LoopSum) : Prop := ∀ b ∈ l, ∀ L, Λ (rid b) = some L → LoopOK P N b L

theorem LoopsOK.nil {N : Nat} {Λ : Nat → Option LoopSum} : LoopsOK P N [] Λ := fun b hb => by simp at hb
theorem LoopsOK.cons {N : Nat} {b : Code} {l : List Code} {Λ : Nat → Option LoopSum} {L : LoopSum} (h0 : Λ (rid b) = some L) (h1 : LoopOK P N b L) (h2 : LoopsOK P N l Λ) : LoopsOK P N (b :: l) Λ := fun b' hb L' hL => by
  rcases List.mem_cons.1 hb with rfl | hb
  · rw [h0] at hL; cases hL; exact h1
  · exact h2 b' hb L' hL

def bodyOf (fn : Func) : Code := match fn.body with | some c => c | none => .skip
def loopN (fn : Func) (k : Nat) : Code := match (loopsOf (bodyOf fn))[k]? with | some c => c | none => .skip

theorem LoopsOK.at {N : Nat} {fn : Func} {l : List Code} {Λ : Nat → Option LoopSum} (he : loopsOf (bodyOf fn) = l) (h : LoopsOK P N l Λ) : ∀ c, fn.body = some c → ∀ b ∈ loopsOf c, ∀ L, Λ (rid b) = some L → LoopOK P N b L := fun c hc => by
  have : bodyOf fn = c := by unfold bodyOf; rw [hc]
  rw [← this, he]
  exact h

/-! ## a tree whose Bools are all known -/
def RT.chk (Q : V → List RowD → Prop) : RT → List Prop
  | .ret v rows => [Q v rows]
  | .br b t e => match b with | true => t.chk Q | false => e.chk Q
  | .need p t => p :: t.chk Q
  | .both t u => t.chk Q ++ u.chk Q
  | .when b t => match b with | true => t.chk Q | false => []
  | .done => []
  | .bad => [False]

theorem chk_sat {Q : V → List RowD → Prop} : ∀ (t : RT), (∀ p ∈ t.chk Q, p) → t.sat Q
  | .ret v rows, h => h (Q v rows) (List.mem_singleton.2 rfl)
  | .br b t e, h => by
    cases b with
    | true => exact ⟨fun _ => chk_sat t h, fun hb => Bool.noConfusion hb⟩
    | false => exact ⟨fun hb => Bool.noConfusion hb, fun _ => chk_sat e h⟩
  | .need p t, h => ⟨h p List.mem_cons_self, chk_sat t fun q hq => h q (List.mem_cons_of_mem _ hq)⟩
  | .both t u, h => ⟨chk_sat t fun q hq => h q (List.mem_append_left _ hq), chk_sat u fun q hq => h q (List.mem_append_right _ hq)⟩
  | .when b t, h => by
    cases b with
    | true => exact fun _ => chk_sat t h
    | false => exact fun hb => Bool.noConfusion hb
  | .done, _ => trivial
  | .bad, h => (h False (List.mem_singleton.2 rfl)).elim

theorem conj_sat {Q : V → List RowD → Prop} {t : RT} (h : conj (t.chk Q)) : t.sat Q := chk_sat t (conj_all h)

/-! ## contracts, one behind the other -/

abbrev Ctrs := List (FuncId × Ctr)
def CtrsOK (P : Program) (K : Nat) (l : Ctrs) : Prop := ∀ f c, find l f = some c → CtrOK P K f c
theorem CtrsOK.nil {K : Nat} : CtrsOK P K [] := fun f c h => by simp [find] at h
theorem CtrsOK.cons {K : Nat} {f : FuncId} {c : Ctr} {l : Ctrs} (h : CtrOK P K f c) (hl : CtrsOK P K l) : CtrsOK P K ((f, c) :: l) := fun g c' hg => by
  simp only [find] at hg
  cases hb : Nat.beq f g with
  | true => rw [hb] at hg; obtain rfl := Nat.eq_of_beq_eq_true hb; simp only [cond_true, Option.some.injEq] at hg; subst hg; exact h
  | false => rw [hb] at hg; exact hl g c' hg

end Go.Mir
