/- The mirror, part 27: loops. -/
import Derived.Test.YtogdeefpidccmaaMirSub
import Derived.LoopN
namespace Go.Mir
open Go.RowKit

variable {P : Program}

def maskTm : List (Nat × V) → List (Nat × V)
  | [] => []
  | (s, _) :: r => (s, .any) :: maskTm r
def maskHp (n : Nat) : List (Nat × Blk) → List (Nat × Blk)
  | [] => []
  | (h, _) :: r => (h, .row n true .unit []) :: maskHp n r

/-- leaves that stand by themselves, after a state of which nothing is kept -/
def maskT (st : St) : Tr → Tr
  | .leaf e d nx => .leaf e ⟨d.tm ++ maskTm st.tm, d.hp ++ maskHp (Nat.max nx st.nx) st.hp⟩ (Nat.max nx st.nx + 1)
  | .br b t e => .br b (maskT st t) (maskT st e)
  | .need p t => .need p (maskT st t)
  | .both t u => .both (maskT st t) (maskT st u)
  | .when b t => .when b (maskT st t)
  | .done => .done
  | .bad => .bad

theorem maskT_sat {st : St} {Q : Lf → Dl → Nat → Prop} : ∀ {t : Tr}, (maskT st t).sat Q → t.sat fun e d nx => Q e ⟨d.tm ++ maskTm st.tm, d.hp ++ maskHp (Nat.max nx st.nx) st.hp⟩ (Nat.max nx st.nx + 1)
  | .leaf _ _ _, h => h
  | .br _ _ _, h => ⟨fun hb => maskT_sat (h.1 hb), fun hb => maskT_sat (h.2 hb)⟩
  | .need _ _, h => ⟨h.1, maskT_sat h.2⟩
  | .both _ _, h => ⟨maskT_sat h.1, maskT_sat h.2⟩
  | .when _ _, h => fun hb => maskT_sat (h hb)
  | .done, h => h
  | .bad, h => h

def ltAll (n : Nat) : List (Nat × Blk) → Bool
  | [] => true
  | (h, _) :: r => Nat.blt h n && ltAll n r

theorem ltAll_find {n : Nat} : ∀ {l : List (Nat × Blk)} {h : Nat} {k : Blk}, ltAll n l = true → find l h = some k → h < n
  | [], _, _, _, hf => by simp [find] at hf
  | (x, v) :: r, h, k, hl, hf => by
    simp only [ltAll, Bool.and_eq_true, Nat.blt_eq] at hl
    simp only [find] at hf
    cases hb : Nat.beq x h with
    | true => obtain rfl := Nat.eq_of_beq_eq_true hb; exact hl.1
    | false => rw [hb] at hf; exact ltAll_find hl.2 hf

theorem find_maskTm : ∀ {l : List (Nat × V)} {s : Nat}, find (maskTm l) s = (find l s).map fun _ => .any
  | [], s => rfl
  | (x, v) :: r, s => by
    simp only [maskTm, find]
    cases Nat.beq x s with
    | true => rfl
    | false => exact find_maskTm

theorem find_maskHp {n : Nat} : ∀ {l : List (Nat × Blk)} {s : Nat}, find (maskHp n l) s = (find l s).map fun _ => Blk.row n true .unit []
  | [], s => rfl
  | (x, v) :: r, s => by
    simp only [maskHp, find]
    cases Nat.beq x s with
    | true => rfl
    | false => exact find_maskHp

def noH0 (H : Heap) : Prop := H = fun _ => none

def loopSum (M : Nam) (J : St) (T : Tr) : LoopSum :=
  ⟨fun st => noH0 st.H0 ∧ ifB (ltAll st.nx st.hp) (Sub M st J.tm J.hp), fun st => maskT st T⟩

theorem mask_at {B : Base} {N : Nat} {st : St} (h0 : st.H0 = fun _ => none) (hl : ltAll st.nx st.hp = true) {tm : List (Nat × V)} {hp : List (Nat × Blk)} {nx : Nat} {a : Act} {w : World} (hs : here B N ⟨tm, hp, fun _ => none, nx⟩ a w) :
    at_ B N st ⟨tm ++ maskTm st.tm, hp ++ maskHp (Nat.max nx st.nx) st.hp⟩ (Nat.max nx st.nx + 1) a w := by
  obtain ⟨⟨E, hE, rfl, hH, hU, hT⟩, hsz, hdf⟩ := hs
  let m := Nat.max nx st.nx
  have hm1 : nx ≤ m := Nat.le_max_left _ _
  have hm2 : st.nx ≤ m := Nat.le_max_right _ _
  have hH : E.H = hset (fun _ => none) hp := hH
  have hU : ∀ n, E.U n → n < nx := hU
  have hT : ∀ s v, find tm s = some v → vrel E v (a.tmps.getD s undef) := hT
  let E' : Env := ⟨fun n => n < m + 1, fun h => match find hp h with | some _ => E.ρ h | none => none, E.S, E.w, hset st.H (hp ++ maskHp m st.hp)⟩
  -- the new heap
  have hnew : ∀ h, E'.H h = match find hp h with | some k => some k | none => (match find st.hp h with | some _ => some (.row m true .unit []) | none => none) := fun h => by
    show hset st.H (hp ++ maskHp m st.hp) h = _
    unfold hset
    rw [find_append, find_maskHp]
    cases find hp h with
    | some k => rfl
    | none =>
      simp only
      cases hf : find st.hp h with
      | some k => rfl
      | none =>
        simp only [Option.map_none]
        unfold St.H hset
        rw [hf, h0]
  have hold : ∀ h k, find hp h = some k → E.H h = some k := fun h k hf => by rw [hH]; unfold hset; rw [hf]
  have cases' : ∀ h k, E'.H h = some k → (find hp h = some k ∧ E'.ρ h = E.ρ h) ∨ (k = .row m true .unit [] ∧ E'.ρ h = none ∧ h < st.nx) := fun h k hk => by
    rw [hnew h] at hk
    cases hf : find hp h with
    | some k' =>
      rw [hf] at hk
      simp only [Option.some.injEq] at hk
      subst hk
      exact .inl ⟨rfl, by show (match find hp h with | some _ => E.ρ h | none => none) = _; rw [hf]⟩
    | none =>
      rw [hf] at hk
      simp only at hk
      cases hg : find st.hp h with
      | none => rw [hg] at hk; cases hk
      | some k' =>
        rw [hg] at hk
        simp only [Option.some.injEq] at hk
        exact .inr ⟨hk.symm, by show (match find hp h with | some _ => E.ρ h | none => none) = _; rw [hf], ltAll_find hl hg⟩
  have X : Ext E E' := by
    refine ⟨fun n hn => ?_, fun _ h => h, fun _ _ => rfl, fun h cs hu hx => ?_, fun h ver rw t xs hu hv hx => ?_⟩
    · have := hU n hn; show n < m + 1; omega
    · rcases cases' _ _ hx with ⟨h1, h2⟩ | ⟨h1, _⟩
      · exact ⟨⟨cs, hold _ _ h1⟩, h2⟩
      · cases h1
    · rcases cases' _ _ hx with ⟨h1, h2⟩ | ⟨h1, _⟩
      · exact ⟨rw, xs, hold _ _ h1, rfl, h2, fun b c T fr _ hw => ⟨c, T, fr, hw, rfl⟩⟩
      · cases h1
        have := hU _ hv
        omega
  have R : HRel B E' := by
    refine ⟨fun h k hx => ?_, hE.stab, fun h k b hx hb => ?_, fun h h' k k' b h1 h2 b1 b2 => ?_, fun h k hx => ?_, hE.keeps, fun h k b hx hb => ?_, hE.s0, hE.sb⟩
    · rcases cases' _ _ hx with ⟨h1, _⟩ | ⟨_, _, h3⟩
      · exact X.u _ (hE.used _ _ (hold _ _ h1))
      · show h < m + 1; omega
    · rcases cases' _ _ hx with ⟨h1, h2⟩ | ⟨_, h2, _⟩
      · rw [h2] at hb; exact hE.lt _ _ _ (hold _ _ h1) hb
      · rw [h2] at hb; cases hb
    · rcases cases' _ _ h1 with ⟨x1, x2⟩ | ⟨_, x2, _⟩
      · rcases cases' _ _ h2 with ⟨y1, y2⟩ | ⟨_, y2, _⟩
        · rw [x2] at b1; rw [y2] at b2; exact hE.inj _ _ _ _ _ (hold _ _ x1) (hold _ _ y1) b1 b2
        · rw [y2] at b2; cases b2
      · rw [x2] at b1; cases b1
    · rcases cases' _ _ hx with ⟨h1, h2⟩ | ⟨rfl, h2, _⟩
      · exact brel_ext X h2 (fun _ _ => rfl) (fun _ _ _ h => h) (hE.blk _ _ (hold _ _ h1))
      · exact ⟨Nat.lt_succ_self m, .inl ⟨h2, rfl⟩⟩
    · rcases cases' _ _ hx with ⟨h1, h2⟩ | ⟨_, h2, _⟩
      · rw [h2] at hb; exact hE.own _ _ _ (hold _ _ h1) hb
      · rw [h2] at hb; cases hb
  refine ⟨⟨E', R, rfl, rfl, fun n hn => hn, fun s v hv => ?_⟩, hsz, hdf⟩
  simp only [List.append_assoc] at hv
  rw [find_append] at hv
  cases hf : find tm s with
  | some v' =>
    rw [hf] at hv
    simp only [Option.some.injEq] at hv
    subst hv
    exact vrel_ext X _ _ (hT _ _ hf)
  | none =>
    rw [hf] at hv
    simp only at hv
    rw [find_append, find_maskTm] at hv
    cases hg : find st.tm s with
    | none => rw [hg] at hv; simp at hv
    | some v' =>
      rw [hg] at hv
      simp only [Option.map_some, Option.some.injEq] at hv
      subst hv
      simp [vrel]

/-- THE LOOP: a family of states, one for each round's data -/
theorem loop_ok {C : Cfg} (hC : CfgOK P C) (hP : P.follows .mixedOrders = true) {body : Code} {α : Type} (I : α → St) (hI : ∀ a, (I a).H0 = fun _ => none) (inv : α → Prop) (μ : α → Nat) (Λ : α → Nat → Option LoopSum)
    (hΛ : ∀ a, inv a → ∀ b ∈ loopsOf body, ∀ L, Λ a (rid b) = some L → LoopOK P C.N b L) {T : Tr} {M0 : Nam} {a0 : α} (h0 : inv a0) (hM : M0.nx = (I a0).nx)
    (step : ∀ a, inv a → (evCode C (Λ a) body (I a)).sat fun e d nx => match e with
      | .nrm => ∃ (a' : α) (M : Nam), inv a' ∧ μ a' < μ a ∧ M.nx = (I a').nx ∧ Sub M ((I a).app d nx) (I a').tm (I a').hp
      | e => ∃ (M : Nam) (tm : List (Nat × V)) (hp : List (Nat × Blk)), Sub M ((I a).app d nx) tm hp ∧ ∀ Q : Lf → Dl → Nat → Prop, T.sat Q → Q e ⟨tm, hp⟩ M.nx) :
    LoopOK P C.N body (loopSum M0 (I a0) T) := by
  intro B st Q CQ hpre hT hQ a w hs
  obtain ⟨hH0, hpre⟩ := hpre
  obtain ⟨hl, hsub⟩ := ifB_iff.1 hpre
  have hT := maskT_sat hT
  have eqI : ∀ (x : α) (M : Nam), M.nx = (I x).nx → (⟨(I x).tm, (I x).hp, fun _ => none, M.nx⟩ : St) = I x := fun x M hx => by rw [hx, ← hI x]
  have start : here B C.N (I a0) a w := by have := sub_here hsub hs; rw [eqI a0 M0 hM] at this; exact this
  have key : ∀ n x a w, inv x → μ x < n → here B C.N (I x) a w → Code.rounds P body CQ n a w := by
    intro n
    induction n with
    | zero => intro x a w _ hlt _; omega
    | succ n ih =>
      intro x a w hx hlt hs
      rw [rounds_succ]
      refine evCode_sound hC hP (B := B) body (hΛ x hx) (I x) _ _ (step x hx) (fun e d nx a w hq hat => ?_) a w hs
      have hat := at_here.1 hat
      have out : ∀ e : Lf, (∃ (M : Nam) (tm : List (Nat × V)) (hp : List (Nat × Blk)), Sub M ((I x).app d nx) tm hp ∧ ∀ Q : Lf → Dl → Nat → Prop, T.sat Q → Q e ⟨tm, hp⟩ M.nx) → CQ (exitOf e) a w := fun e ⟨M, tm, hp, h1, h2⟩ =>
        hQ e _ _ a w (h2 (fun e d nx => Q e ⟨d.tm ++ maskTm st.tm, d.hp ++ maskHp (Nat.max nx st.nx) st.hp⟩ (Nat.max nx st.nx + 1)) hT) (mask_at hH0 hl (sub_here h1 hat))
      cases e with
      | nrm =>
        obtain ⟨x', M, h1, h2, h3, h4⟩ := hq
        have := sub_here h4 hat
        rw [eqI x' M h3] at this
        exact ih x' a w h1 (by omega) this
      | ext id => exact out (.ext id) hq
      | ret => exact out .ret hq
  exact wp_loop_rounds (μ a0 + 1) (key _ a0 a w h0 (Nat.lt_succ_self _) start)

end Go.Mir
