/- Texts of the mirror and contracts, put together. -/
import Derived.Test.YtogdeefpidccmaaPR152
import Derived.LoopN
import Derived.Test.YtogdeefpidccmaaPR150
import Derived.Test.YtogdeefpidccmaaChecked
import Derived.Test.YtogdeefpidccmaaRows
import Derived.ProofKit
import Derived.OpenShut

/- The mirror, part 27: loops. -/
namespace Go.Mir
open Go.RowKit

variable {P : Program}

def maskTm : List (Nat × V) → List (Nat × V)
  | [] => []
  | (s, _) :: r => (s, .any) :: maskTm r
def maskHp (n : Nat) : List (Nat × Blk) → List (Nat × Blk)
  | [] => []
  | (h, _) :: r => (h, .row n true .unit []) :: maskHp n r

/-- leaves that stand by themselves, after a state of which nothing is kept -/
def maskT (st : St) : Tr → Tr
  | .leaf e d nx => .leaf e ⟨d.tm ++ maskTm st.tm, d.hp ++ maskHp (Nat.max nx st.nx) st.hp⟩ (Nat.max nx st.nx + 1)
  | .br b t e => .br b (maskT st t) (maskT st e)
  | .need p t => .need p (maskT st t)
  | .both t u => .both (maskT st t) (maskT st u)
  | .when b t => .when b (maskT st t)
  | .done => .done
  | .bad => .bad

theorem maskT_sat {st : St} {Q : Lf → Dl → Nat → Prop} : ∀ {t : Tr}, (maskT st t).sat Q → t.sat fun e d nx => Q e ⟨d.tm ++ maskTm st.tm, d.hp ++ maskHp (Nat.max nx st.nx) st.hp⟩ (Nat.max nx st.nx + 1)
  | .leaf _ _ _, h => h
  | .br _ _ _, h => ⟨fun hb => maskT_sat (h.1 hb), fun hb => maskT_sat (h.2 hb)⟩
  | .need _ _, h => ⟨h.1, maskT_sat h.2⟩
  | .both _ _, h => ⟨maskT_sat h.1, maskT_sat h.2⟩
  | .when _ _, h => fun hb => maskT_sat (h hb)
  | .done, h => h
  | .bad, h => h

def ltAll (n : Nat) : List (Nat × Blk) → Bool
  | [] => true
  | (h, _) :: r => Nat.blt h n && ltAll n r

theorem ltAll_find {n : Nat} : ∀ {l : List (Nat × Blk)} {h : Nat} {k : Blk}, ltAll n l = true → find l h = some k → h < n
  | [], _, _, _, hf => by simp [find] at hf
  | (x, v) :: r, h, k, hl, hf => by
    simp only [ltAll, Bool.and_eq_true, Nat.blt_eq] at hl
    simp only [find] at hf
    cases hb : Nat.beq x h with
    | true => obtain rfl := Nat.eq_of_beq_eq_true hb; exact hl.1
    | false => rw [hb] at hf; exact ltAll_find hl.2 hf

theorem find_maskTm : ∀ {l : List (Nat × V)} {s : Nat}, find (maskTm l) s = (find l s).map fun _ => .any
  | [], s => rfl
  | (x, v) :: r, s => by
    simp only [maskTm, find]
    cases Nat.beq x s with
    | true => rfl
    | false => exact find_maskTm

theorem find_maskHp {n : Nat} : ∀ {l : List (Nat × Blk)} {s : Nat}, find (maskHp n l) s = (find l s).map fun _ => Blk.row n true .unit []
  | [], s => rfl
  | (x, v) :: r, s => by
    simp only [maskHp, find]
    cases Nat.beq x s with
    | true => rfl
    | false => exact find_maskHp

def noH0 (H : Heap) : Prop := H = fun _ => none

def loopSum (M : Nam) (J : St) (T : Tr) : LoopSum :=
  ⟨fun st => noH0 st.H0 ∧ ifB (ltAll st.nx st.hp) (Sub M st J.tm J.hp), fun st => maskT st T⟩

theorem mask_at {B : Base} {N : Nat} {st : St} (h0 : st.H0 = fun _ => none) (hl : ltAll st.nx st.hp = true) {tm : List (Nat × V)} {hp : List (Nat × Blk)} {nx : Nat} {a : Act} {w : World} (hs : here B N ⟨tm, hp, fun _ => none, nx⟩ a w) :
    at_ B N st ⟨tm ++ maskTm st.tm, hp ++ maskHp (Nat.max nx st.nx) st.hp⟩ (Nat.max nx st.nx + 1) a w := by
  obtain ⟨⟨E, hE, rfl, hH, hU, hT⟩, hsz, hdf⟩ := hs
  let m := Nat.max nx st.nx
  have hm1 : nx ≤ m := Nat.le_max_left _ _
  have hm2 : st.nx ≤ m := Nat.le_max_right _ _
  have hH : E.H = hset (fun _ => none) hp := hH
  have hG := hU.1
  have hU : ∀ n, E.U n → n < nx := hU.2
  have hT : ∀ s v, find tm s = some v → vrel E v (a.tmps.getD s undef) := hT
  let E' : Env := ⟨fun n => n < m + 1, fun h => match find hp h with | some _ => E.ρ h | none => none, E.S, E.w, hset st.H (hp ++ maskHp m st.hp)⟩
  -- the new heap
  have hnew : ∀ h, E'.H h = match find hp h with | some k => some k | none => (match find st.hp h with | some _ => some (.row m true .unit []) | none => none) := fun h => by
    show hset st.H (hp ++ maskHp m st.hp) h = _
    unfold hset
    rw [find_append, find_maskHp]
    cases find hp h with
    | some k => rfl
    | none =>
      simp only
      cases hf : find st.hp h with
      | some k => rfl
      | none =>
        simp only [Option.map_none]
        unfold St.H hset
        rw [hf, h0]
  have hold : ∀ h k, find hp h = some k → E.H h = some k := fun h k hf => by rw [hH]; unfold hset; rw [hf]
  have cases' : ∀ h k, E'.H h = some k → (find hp h = some k ∧ E'.ρ h = E.ρ h) ∨ (k = .row m true .unit [] ∧ E'.ρ h = none ∧ h < st.nx) := fun h k hk => by
    rw [hnew h] at hk
    cases hf : find hp h with
    | some k' =>
      rw [hf] at hk
      simp only [Option.some.injEq] at hk
      subst hk
      exact .inl ⟨rfl, by show (match find hp h with | some _ => E.ρ h | none => none) = _; rw [hf]⟩
    | none =>
      rw [hf] at hk
      simp only at hk
      cases hg : find st.hp h with
      | none => rw [hg] at hk; cases hk
      | some k' =>
        rw [hg] at hk
        simp only [Option.some.injEq] at hk
        exact .inr ⟨hk.symm, by show (match find hp h with | some _ => E.ρ h | none => none) = _; rw [hf], ltAll_find hl hg⟩
  have X : Ext E E' := by
    refine ⟨fun n hn => ?_, fun _ h => h, fun _ _ => rfl, fun h cs hu hx => ?_, fun h ver rw t xs hu hv hx => ?_, fun h ver esz cs hu hv hx => ?_, fun h es hu hx => ?_⟩
    · have := hU n hn; show n < m + 1; omega
    · rcases cases' _ _ hx with ⟨h1, h2⟩ | ⟨h1, _⟩
      · exact ⟨⟨cs, hold _ _ h1⟩, h2⟩
      · cases h1
    · rcases cases' _ _ hx with ⟨h1, h2⟩ | ⟨h1, _⟩
      · exact ⟨rw, xs, hold _ _ h1, rfl, h2, fun b c T fr _ hw => ⟨c, T, fr, hw, rfl⟩⟩
      · cases h1
        have := hU _ hv
        omega
    · rcases cases' _ _ hx with ⟨h1, h2⟩ | ⟨h1, _⟩
      · exact ⟨cs, hold _ _ h1, rfl, h2, fun b c T fr _ hw => ⟨c, T, fr, hw, rfl⟩⟩
      · cases h1
    · rcases cases' _ _ hx with ⟨h1, h2⟩ | ⟨h1, _⟩
      · exact ⟨⟨es, hold _ _ h1⟩, h2⟩
      · cases h1
  have R : HRel B E' := by
    refine ⟨fun h k hx => ?_, hE.stab, fun h k b hx hb => ?_, fun h h' k k' b h1 h2 b1 b2 => ?_, fun h k hx => ?_, hE.keeps, fun h k b hx hb => ?_, hE.s0, hE.sb⟩
    · rcases cases' _ _ hx with ⟨h1, _⟩ | ⟨_, _, h3⟩
      · exact X.u _ (hE.used _ _ (hold _ _ h1))
      · show h < m + 1; omega
    · rcases cases' _ _ hx with ⟨h1, h2⟩ | ⟨_, h2, _⟩
      · rw [h2] at hb; exact hE.lt _ _ _ (hold _ _ h1) hb
      · rw [h2] at hb; cases hb
    · rcases cases' _ _ h1 with ⟨x1, x2⟩ | ⟨_, x2, _⟩
      · rcases cases' _ _ h2 with ⟨y1, y2⟩ | ⟨_, y2, _⟩
        · rw [x2] at b1; rw [y2] at b2; exact hE.inj _ _ _ _ _ (hold _ _ x1) (hold _ _ y1) b1 b2
        · rw [y2] at b2; cases b2
      · rw [x2] at b1; cases b1
    · rcases cases' _ _ hx with ⟨h1, h2⟩ | ⟨rfl, h2, _⟩
      · exact brel_ext X h2 (fun _ _ => rfl) (fun _ _ _ h => h) (hE.blk _ _ (hold _ _ h1))
      · exact ⟨Nat.lt_succ_self m, .inl ⟨h2, rfl⟩⟩
    · rcases cases' _ _ hx with ⟨h1, h2⟩ | ⟨_, h2, _⟩
      · rw [h2] at hb; exact hE.own _ _ _ (hold _ _ h1) hb
      · rw [h2] at hb; cases hb
  refine ⟨⟨E', R, rfl, rfl, ⟨B.clo _ _ hG X, fun n hn => hn⟩, fun s v hv => ?_⟩, hsz, hdf⟩
  simp only [List.append_assoc] at hv
  rw [find_append] at hv
  cases hf : find tm s with
  | some v' =>
    rw [hf] at hv
    simp only [Option.some.injEq] at hv
    subst hv
    exact vrel_ext X _ _ (hT _ _ hf)
  | none =>
    rw [hf] at hv
    simp only at hv
    rw [find_append, find_maskTm] at hv
    cases hg : find st.tm s with
    | none => rw [hg] at hv; simp at hv
    | some v' =>
      rw [hg] at hv
      simp only [Option.map_some, Option.some.injEq] at hv
      subst hv
      simp [vrel]

/-- THE LOOP: a family of states, one for each round's data -/
theorem loop_ok {C : Cfg} (hC : CfgOK P C) (hP : P.follows .mixedOrders = true) {body : Code} {α : Type} (I : α → St) (hI : ∀ a, (I a).H0 = fun _ => none) (inv : α → Prop) (μ : α → Nat) (Λ : α → Nat → Option LoopSum)
    (hΛ : ∀ a, inv a → ∀ b ∈ loopsIn (Λ a) body, ∀ L, Λ a (rid b) = some L → LoopOK P C.N b L) {T : Tr} {M0 : Nam} {a0 : α} (h0 : inv a0) (hM : M0.nx = (I a0).nx)
    (step : ∀ a, inv a → (evCode C (Λ a) body (I a)).sat fun e d nx => match e with
      | .nrm => ∃ (a' : α) (M : Nam), inv a' ∧ μ a' < μ a ∧ M.nx = (I a').nx ∧ Sub M ((I a).app d nx) (I a').tm (I a').hp
      | e => ∃ (M : Nam) (tm : List (Nat × V)) (hp : List (Nat × Blk)), Sub M ((I a).app d nx) tm hp ∧ ∀ Q : Lf → Dl → Nat → Prop, T.sat Q → Q e ⟨tm, hp⟩ M.nx) :
    LoopOK P C.N body (loopSum M0 (I a0) T) := by
  intro B hB st Q CQ hpre hT hQ a w hs
  obtain ⟨hH0, hpre⟩ := hpre
  obtain ⟨hl, hsub⟩ := ifB_iff.1 hpre
  have hT := maskT_sat hT
  have eqI : ∀ (x : α) (M : Nam), M.nx = (I x).nx → (⟨(I x).tm, (I x).hp, fun _ => none, M.nx⟩ : St) = I x := fun x M hx => by rw [hx, ← hI x]
  have start : here B C.N (I a0) a w := by have := sub_here hB hsub hs; rw [eqI a0 M0 hM] at this; exact this
  have key : ∀ n x a w, inv x → μ x < n → here B C.N (I x) a w → Code.rounds P body CQ n a w := by
    intro n
    induction n with
    | zero => intro x a w _ hlt _; omega
    | succ n ih =>
      intro x a w hx hlt hs
      rw [rounds_succ]
      refine evCode_sound hC hP (B := B) body (fun b hb L hL => (hΛ x hx b hb L hL).at_free hB) (I x) _ _ (step x hx) (fun e d nx a w hq hat => ?_) a w hs
      have hat := at_here.1 hat
      have out : ∀ e : Lf, (∃ (M : Nam) (tm : List (Nat × V)) (hp : List (Nat × Blk)), Sub M ((I x).app d nx) tm hp ∧ ∀ Q : Lf → Dl → Nat → Prop, T.sat Q → Q e ⟨tm, hp⟩ M.nx) → CQ (exitOf e) a w := fun e ⟨M, tm, hp, h1, h2⟩ =>
        hQ e _ _ a w (h2 (fun e d nx => Q e ⟨d.tm ++ maskTm st.tm, d.hp ++ maskHp (Nat.max nx st.nx) st.hp⟩ (Nat.max nx st.nx + 1)) hT) (mask_at hH0 hl (sub_here hB h1 hat))
      cases e with
      | nrm =>
        obtain ⟨x', M, h1, h2, h3, h4⟩ := hq
        have := sub_here hB h4 hat
        rw [eqI x' M h3] at this
        exact ih x' a w h1 (by omega) this
      | ext id => exact out (.ext id) hq
      | ret => exact out .ret hq
  exact wp_loop_rounds (μ a0 + 1) (key _ a0 a w h0 (Nat.lt_succ_self _) start)

end Go.Mir

/- The seat's type table for the mirror. Written by a tool of mine (gen_types.py). -/
namespace Go.Mir

def tblL : List (Option TD) := [
  none,
  none,
  some { kind := .int .i64, size := 1, bytes := 8, zero := [.int .i64 0], ty := some (.int .i64) },
  some { kind := .int .i64, size := 1, bytes := 8, zero := [.int .i64 0], ty := some (.int .i64) },
  some { kind := .bool, size := 1, bytes := 1, zero := [.kb false], ty := some (.bool) },
  some { kind := .int .u8, size := 1, bytes := 1, zero := [.int .u8 0], ty := some (.int .u8) },
  none,
  none,
  none,
  some { kind := .str, size := 1, bytes := 16, zero := [.str ByteArray.empty], ty := some (.str) },
  none,
  none,
  some { kind := .int .u64, size := 1, bytes := 8, zero := [.int .u64 0], ty := some (.int .u64) },
  none,
  none,
  none,
  none,
  none,
  none,
  none,
  none,
  some { kind := .int .i32, size := 1, bytes := 4, zero := [.int .i32 0], ty := some (.int .i32) },
  some { kind := .int .u8, size := 1, bytes := 1, zero := [.int .u8 0], ty := some (.int .u8) },
  some { kind := .int .u8, size := 1, bytes := 1, zero := [.int .u8 0], ty := some (.int .u8) },
  some { kind := .int .u8, size := 1, bytes := 1, zero := [.int .u8 0], ty := some (.int .u8) },
  some { kind := .struct [(0, 22), (1, 23), (2, 3), (3, 3), (4, 3), (5, 4), (6, 24), (7, 3), (8, 3), (9, 3), (10, 4), (11, 3)], size := 12, bytes := 80, zero := [.int .u8 0, .int .u8 0, .int .i64 0, .int .i64 0, .int .i64 0, .kb false, .int .u8 0, .int .i64 0, .int .i64 0, .int .i64 0, .kb false, .int .i64 0], ty := some (.prod (.int .u8) (.prod (.int .u8) (.prod (.int .i64) (.prod (.int .i64) (.prod (.int .i64) (.prod (.bool) (.prod (.int .u8) (.prod (.int .i64) (.prod (.int .i64) (.prod (.int .i64) (.prod (.bool) (.prod (.int .i64) (.unit))))))))))))) },
  some { kind := .struct [(0, 22), (1, 23), (2, 3), (3, 3), (4, 3), (5, 4), (6, 24), (7, 3), (8, 3), (9, 3), (10, 4), (11, 3)], size := 12, bytes := 80, zero := [.int .u8 0, .int .u8 0, .int .i64 0, .int .i64 0, .int .i64 0, .kb false, .int .u8 0, .int .i64 0, .int .i64 0, .int .i64 0, .kb false, .int .i64 0], ty := some (.nm .Delivery) },
  none,
  some { kind := .int .i64, size := 1, bytes := 8, zero := [.int .i64 0], ty := some (.int .i64) },
  none,
  none,
  none,
  none,
  some { kind := .slice 24, size := 1, bytes := 24, zero := [.nilsl], ty := some (.slice (.int .u8)) },
  none,
  none,
  none,
  none,
  some { kind := .int .i64, size := 1, bytes := 8, zero := [.int .i64 0], ty := some (.int .i64) },
  none,
  none,
  none,
  none,
  none,
  none,
  none,
  none,
  some { kind := .struct [(0, 3), (1, 3), (2, 3), (3, 3), (4, 3)], size := 5, bytes := 40, zero := [.int .i64 0, .int .i64 0, .int .i64 0, .int .i64 0, .int .i64 0], ty := some (.prod (.int .i64) (.prod (.int .i64) (.prod (.int .i64) (.prod (.int .i64) (.prod (.int .i64) (.unit)))))) },
  some { kind := .struct [(0, 3), (1, 3), (2, 3), (3, 3), (4, 3)], size := 5, bytes := 40, zero := [.int .i64 0, .int .i64 0, .int .i64 0, .int .i64 0, .int .i64 0], ty := some (.nm .Extras) },
  some { kind := .slice 104, size := 1, bytes := 24, zero := [.nilsl], ty := some (.slice (.int .u8)) },
  some { kind := .slice 3, size := 1, bytes := 24, zero := [.nilsl], ty := some (.slice (.int .i64)) },
  some { kind := .slice 4, size := 1, bytes := 24, zero := [.nilsl], ty := some (.slice (.bool)) },
  some { kind := .arr 2 3, size := 2, bytes := 16, zero := [.int .i64 0, .int .i64 0], ty := some (.prod (.int .i64) (.prod (.int .i64) (.unit))) },
  some { kind := .int .u8, size := 1, bytes := 1, zero := [.int .u8 0], ty := some (.int .u8) },
  some { kind := .struct [(0, 3), (1, 3), (2, 3), (3, 3), (4, 3), (5, 48), (10, 3), (11, 3), (12, 3), (13, 3), (14, 49), (15, 3), (16, 50), (17, 50), (18, 4), (19, 50), (20, 4), (21, 3), (22, 3), (23, 3), (24, 51), (25, 52), (27, 53)], size := 28, bytes := 304, zero := [.int .i64 0, .int .i64 0, .int .i64 0, .int .i64 0, .int .i64 0, .int .i64 0, .int .i64 0, .int .i64 0, .int .i64 0, .int .i64 0, .int .i64 0, .int .i64 0, .int .i64 0, .int .i64 0, .nilsl, .int .i64 0, .nilsl, .nilsl, .kb false, .nilsl, .kb false, .int .i64 0, .int .i64 0, .int .i64 0, .nilsl, .int .i64 0, .int .i64 0, .int .u8 0], ty := some (.prod (.int .i64) (.prod (.int .i64) (.prod (.int .i64) (.prod (.int .i64) (.prod (.int .i64) (.prod (.nm .Extras) (.prod (.int .i64) (.prod (.int .i64) (.prod (.int .i64) (.prod (.int .i64) (.prod (.slice (.int .u8)) (.prod (.int .i64) (.prod (.slice (.int .i64)) (.prod (.slice (.int .i64)) (.prod (.bool) (.prod (.slice (.int .i64)) (.prod (.bool) (.prod (.int .i64) (.prod (.int .i64) (.prod (.int .i64) (.prod (.slice (.bool)) (.prod (.prod (.int .i64) (.prod (.int .i64) (.unit))) (.prod (.int .u8) (.unit)))))))))))))))))))))))) },
  some { kind := .struct [(0, 3), (1, 3), (2, 3), (3, 3), (4, 3), (5, 48), (10, 3), (11, 3), (12, 3), (13, 3), (14, 49), (15, 3), (16, 50), (17, 50), (18, 4), (19, 50), (20, 4), (21, 3), (22, 3), (23, 3), (24, 51), (25, 52), (27, 53)], size := 28, bytes := 304, zero := [.int .i64 0, .int .i64 0, .int .i64 0, .int .i64 0, .int .i64 0, .int .i64 0, .int .i64 0, .int .i64 0, .int .i64 0, .int .i64 0, .int .i64 0, .int .i64 0, .int .i64 0, .int .i64 0, .nilsl, .int .i64 0, .nilsl, .nilsl, .kb false, .nilsl, .kb false, .int .i64 0, .int .i64 0, .int .i64 0, .nilsl, .int .i64 0, .int .i64 0, .int .u8 0], ty := some (.nm .Innings) },
  some { kind := .slice 61, size := 1, bytes := 24, zero := [.nilsl], ty := some (.slice (.nm .law11_Act)) },
  none,
  none,
  none,
  some { kind := .struct [(0, 5), (1, 3), (2, 4)], size := 3, bytes := 24, zero := [.int .u8 0, .int .i64 0, .kb false], ty := some (.prod (.int .u8) (.prod (.int .i64) (.prod (.bool) (.unit)))) },
  some { kind := .struct [(0, 5), (1, 3), (2, 4)], size := 3, bytes := 24, zero := [.int .u8 0, .int .i64 0, .kb false], ty := some (.nm .law11_Act) },
  none,
  none,
  none,
  none,
  some { kind := .slice 113, size := 1, bytes := 24, zero := [.nilsl], ty := some (.slice (.nm .Phase)) },
  some { kind := .struct [(0, 9), (1, 3), (2, 3), (3, 3), (4, 3), (5, 3), (6, 3), (7, 3), (8, 4), (9, 3), (10, 3), (11, 3), (12, 3), (13, 66)], size := 14, bytes := 136, zero := [.str ByteArray.empty, .int .i64 0, .int .i64 0, .int .i64 0, .int .i64 0, .int .i64 0, .int .i64 0, .int .i64 0, .kb false, .int .i64 0, .int .i64 0, .int .i64 0, .int .i64 0, .nilsl], ty := some (.prod (.str) (.prod (.int .i64) (.prod (.int .i64) (.prod (.int .i64) (.prod (.int .i64) (.prod (.int .i64) (.prod (.int .i64) (.prod (.int .i64) (.prod (.bool) (.prod (.int .i64) (.prod (.int .i64) (.prod (.int .i64) (.prod (.int .i64) (.prod (.slice (.nm .Phase)) (.unit))))))))))))))) },
  some { kind := .struct [(0, 9), (1, 3), (2, 3), (3, 3), (4, 3), (5, 3), (6, 3), (7, 3), (8, 4), (9, 3), (10, 3), (11, 3), (12, 3), (13, 66)], size := 14, bytes := 136, zero := [.str ByteArray.empty, .int .i64 0, .int .i64 0, .int .i64 0, .int .i64 0, .int .i64 0, .int .i64 0, .int .i64 0, .kb false, .int .i64 0, .int .i64 0, .int .i64 0, .int .i64 0, .nilsl], ty := some (.nm .Rules) },
  none,
  none,
  none,
  none,
  none,
  none,
  none,
  none,
  some { kind := .slice 82, size := 1, bytes := 24, zero := [.nilsl], ty := some (.slice (.nm .law13_Act)) },
  none,
  some { kind := .slice 50, size := 1, bytes := 24, zero := [.nilsl], ty := some (.slice (.slice (.int .i64))) },
  none,
  some { kind := .struct [(0, 3), (1, 5), (2, 4)], size := 3, bytes := 16, zero := [.int .i64 0, .int .u8 0, .kb false], ty := some (.prod (.int .i64) (.prod (.int .u8) (.prod (.bool) (.unit)))) },
  some { kind := .struct [(0, 3), (1, 5), (2, 4)], size := 3, bytes := 16, zero := [.int .i64 0, .int .u8 0, .kb false], ty := some (.nm .law13_Act) },
  none,
  none,
  none,
  none,
  none,
  none,
  some { kind := .slice 55, size := 1, bytes := 24, zero := [.nilsl], ty := some (.slice (.nm .Innings)) },
  none,
  some { kind := .struct [(0, 24), (1, 9), (2, 4), (3, 4), (4, 4), (5, 4), (6, 4)], size := 7, bytes := 32, zero := [.int .u8 0, .str ByteArray.empty, .kb false, .kb false, .kb false, .kb false, .kb false], ty := some (.prod (.int .u8) (.prod (.str) (.prod (.bool) (.prod (.bool) (.prod (.bool) (.prod (.bool) (.prod (.bool) (.unit)))))))) },
  some { kind := .struct [(0, 24), (1, 9), (2, 4), (3, 4), (4, 4), (5, 4), (6, 4)], size := 7, bytes := 32, zero := [.int .u8 0, .str ByteArray.empty, .kb false, .kb false, .kb false, .kb false, .kb false], ty := some (.nm .dismissal_way) },
  none,
  none,
  none,
  some { kind := .slice 92, size := 1, bytes := 24, zero := [.nilsl], ty := some (.slice (.nm .dismissal_way)) },
  none,
  none,
  none,
  some { kind := .slice 9, size := 1, bytes := 24, zero := [.nilsl], ty := some (.slice (.str)) },
  none,
  none,
  none,
  some { kind := .int .u8, size := 1, bytes := 1, zero := [.int .u8 0], ty := some (.int .u8) },
  none,
  none,
  none,
  none,
  none,
  none,
  none,
  some { kind := .struct [(0, 3), (1, 3), (2, 3)], size := 3, bytes := 24, zero := [.int .i64 0, .int .i64 0, .int .i64 0], ty := some (.prod (.int .i64) (.prod (.int .i64) (.prod (.int .i64) (.unit)))) },
  some { kind := .struct [(0, 3), (1, 3), (2, 3)], size := 3, bytes := 24, zero := [.int .i64 0, .int .i64 0, .int .i64 0], ty := some (.nm .Phase) },
  none,
  none,
  none,
  none,
  none,
  some { kind := .slice 5, size := 1, bytes := 24, zero := [.nilsl], ty := some (.slice (.int .u8)) },
  none,
  none,
  none,
  none,
  none,
  none,
  none,
  some { kind := .int .u32, size := 1, bytes := 4, zero := [.int .u32 0], ty := some (.int .u32) },
  none,
  none,
  none,
  some { kind := .ptr 5, size := 1, bytes := 8, zero := [.nilptr], ty := none },
  none,
  none,
  none,
  none,
  none]

def tbl (t : TypeId) : Option TD := (tblL[t]?).getD none

theorem tbl_ok : TblOK Go.Proofs.Try.prog tbl := tblOK_of_check tblL (by kernel_rfl)

end Go.Mir

/- The mirror, part 28: what a call is handed, read; and the law's contract. -/
namespace Go.Mir
open Go.RowKit Go.ChangeShapes Go.WideShapes

/-- does a type of the program have the shape of a type of the mirror -/
def shpFs (sh : TypeId → Ty → Bool) (P : Program) : List Field → Nat → Ty → Bool
  | [], _, .unit => true
  | fd :: r, o, .prod a b => Nat.beq fd.offset o && (Nat.beq (P.cellsOf fd.type) (sz a) && (sh fd.type a && shpFs sh P r (o + sz a) b))
  | _, _, _ => false
def shpArr (sh : TypeId → Ty → Bool) (P : Program) (e : TypeId) : Nat → Ty → Bool
  | 0, .unit => true
  | n + 1, .prod a b => Nat.beq (P.cellsOf e) (sz a) && (sh e a && shpArr sh P e n b)
  | _, _ => false
def shp (P : Program) : Nat → TypeId → Ty → Bool
  | 0, _, _ => false
  | f + 1, T, t => match P.underlying T, t with
    | some (.int k), .int k' => decide (k = k')
    | some .bool, .bool => true
    | some .string, .str => true
    | some (.slice e), .slice t => shp P f e t && (Nat.beq (P.cellsOf e) (sz t) && (Nat.blt 0 (sz t) && Nat.blt 0 (P.bytesOf e)))
    | some (.struct fs), .nm n => shpFs (shp P f) P fs.toList 0 n.flds && Nat.beq (P.cellsOf T) n.size
    | some (.struct fs), .prod a b => shpFs (shp P f) P fs.toList 0 (.prod a b) && Nat.beq (P.cellsOf T) (sz (.prod a b))
    | some (.array n e), .prod a b => shpArr (shp P f) P e n (.prod a b) && Nat.beq (P.cellsOf T) (sz (.prod a b))
    | _, _ => false

/-- how much a datum holds -/
def bulkD : Nat → (t : Ty) → Den t → Nat
  | 0, _, _ => 0
  | _ + 1, .int _, _ => 1
  | _ + 1, .bool, _ => 1
  | _ + 1, .str, s => s.size + 1
  | _ + 1, .unit, _ => 0
  | f + 1, .prod a b, x => bulkD f a x.1 + bulkD f b x.2
  | f + 1, .slice t, xs => (xs.map (bulkD f t)).sum + 1
  | f + 1, .nm n, x => bulkD f n.flds (n.to x)

open Go.Proofs.Ytogdeefpidccmaa.Rows (uptoBulk uptoBulkAll)

section
variable {H : Type} {enc : TypeId × Value → H} {P : Program} {w : World}

def blocks (w : World) : Nat → Prop := fun b => b < w.heap.size

/-- what is asked of a reading: its weights are small -/
def light (P : Program) (T : TypeId) (d : DataW H) : Prop := ∀ n ∈ d.weights P T, n ≤ lenB

/-- what comes of a reading -/
def Opens (w : World) (t : Ty) (cs : List Value) (d : DataW H) : Prop := ∃ x : Den t, Rd (blocks w) w t x cs ∧ ∀ g, bulkD g t x ≤ uptoBulk d

def OpenAt (enc : TypeId × Value → H) (P : Program) (w : World) (f : Nat) : Prop := ∀ (T : TypeId) (t : Ty) (fuel : Nat) (cs : List Value) (z : DataW H × List MemPlace), shp P f T t = true → DataW.trod enc P w 0 (fun _ => true) true fuel T cs = some z → light P T z.1 → Opens w t cs z.1

theorem take_add_drop (cs : List Value) (o a b : Nat) : (cs.drop o).take (a + b) = (cs.drop o).take a ++ (cs.drop (o + a)).take b := by
  rw [List.take_add, List.drop_drop]

theorem bulkAll_append (l r : List (DataW H)) : uptoBulkAll (l ++ r) = uptoBulkAll l + uptoBulkAll r := by
  induction l with
  | nil => simp [uptoBulkAll]
  | cons x l ih => simp only [List.cons_append, uptoBulkAll, ih]; omega

theorem open_fs {f n : Nat} (ih : OpenAt enc P w f) {cs : List Value} : ∀ (l : List Field) (ys : List (DataW H × List MemPlace)) (o : Nat) (t : Ty), shpFs (shp P f) P l o t = true → ys.length = l.length →
    (∀ (i : Nat) (fd : Field), l[i]? = some fd → DataW.trod enc P w 0 (fun _ => true) true n fd.type ((cs.drop fd.offset).take (P.cellsOf fd.type)) = ys[i]?) →
    (∀ m ∈ DataW.weightsEach P (l.map (·.type)) (ys.map (·.1)), m ≤ lenB) → ∃ x : Den t, Rd (blocks w) w t x ((cs.drop o).take (sz t)) ∧ ∀ g, bulkD g t x ≤ uptoBulkAll (ys.map (·.1))
  | [], ys, o, t, hs, hl, _, _ => by
    cases t <;> simp only [shpFs, Bool.false_eq_true] at hs
    refine ⟨(), by simpa [sz] using Rd.unit, fun g => ?_⟩
    cases g <;> simp [bulkD]
  | fd :: l, ys, o, t, hs, hl, hy, hw => by
    cases t <;> simp only [shpFs, Bool.false_eq_true] at hs
    rename_i a b
    simp only [Bool.and_eq_true, Nat.beq_eq] at hs
    obtain ⟨rfl, h2, h3, h4⟩ := hs
    cases ys with
    | nil => simp at hl
    | cons y ys =>
      have h0 := hy 0 fd rfl
      simp only [List.getElem?_cons_zero] at h0
      simp only [List.map_cons, DataW.weightsEach, List.mem_append] at hw
      obtain ⟨x, hx, bx⟩ := ih fd.type a _ _ y h3 h0 (fun m hm => hw m (.inl hm))
      obtain ⟨z, hz, bz⟩ := open_fs ih l ys (fd.offset + sz a) b h4 (by simpa using hl) (fun i f' hf => by simpa using hy (i + 1) f' (by simpa using hf)) (fun m hm => hw m (.inr hm))
      refine ⟨(x, z), ?_, fun g => ?_⟩
      · show Rd _ _ (.prod a b) (x, z) ((cs.drop fd.offset).take (sz a + sz b))
        rw [take_add_drop]
        rw [h2] at hx
        exact .prod hx hz
      · cases g with
        | zero => simp [bulkD]
        | succ g => simp only [bulkD, List.map_cons, uptoBulkAll]; have := bx g; have := bz g; omega

theorem open_arr {f n : Nat} (ih : OpenAt enc P w f) {cs : List Value} {e : TypeId} : ∀ (k j : Nat) (ys : List (DataW H × List MemPlace)) (t : Ty), shpArr (shp P f) P e k t = true → ys.length = k →
    (∀ i : Nat, i < k → DataW.trod enc P w 0 (fun _ => true) true n e ((cs.drop ((j + i) * P.cellsOf e)).take (P.cellsOf e)) = ys[i]?) →
    (∀ m ∈ DataW.weightsAll P e (ys.map (·.1)), m ≤ lenB) → ∃ x : Den t, Rd (blocks w) w t x ((cs.drop (j * P.cellsOf e)).take (sz t)) ∧ ∀ g, bulkD g t x ≤ uptoBulkAll (ys.map (·.1))
  | 0, j, ys, t, hs, hl, _, _ => by
    cases t <;> simp only [shpArr, Bool.false_eq_true] at hs
    refine ⟨(), by simpa [sz] using Rd.unit, fun g => ?_⟩
    cases g <;> simp [bulkD]
  | k + 1, j, ys, t, hs, hl, hy, hw => by
    cases t <;> simp only [shpArr, Bool.false_eq_true] at hs
    rename_i a b
    simp only [Bool.and_eq_true, Nat.beq_eq] at hs
    obtain ⟨h2, h3, h4⟩ := hs
    cases ys with
    | nil => simp at hl
    | cons y ys =>
      have h0 := hy 0 (by omega)
      simp only [List.getElem?_cons_zero, Nat.add_zero] at h0
      simp only [List.map_cons, DataW.weightsAll, List.mem_append] at hw
      obtain ⟨x, hx, bx⟩ := ih e a _ _ y h3 h0 (fun m hm => hw m (.inl hm))
      obtain ⟨z, hz, bz⟩ := open_arr ih k (j + 1) ys b h4 (by simpa using hl) (fun i hi => by
        have := hy (i + 1) (by omega)
        simpa [Nat.add_assoc, Nat.add_comm 1 i] using this) (fun m hm => hw m (.inr hm))
      refine ⟨(x, z), ?_, fun g => ?_⟩
      · show Rd _ _ (.prod a b) (x, z) ((cs.drop (j * P.cellsOf e)).take (sz a + sz b))
        rw [take_add_drop]
        rw [h2] at hx hz ⊢
        rw [Nat.add_mul, Nat.one_mul] at hz
        exact .prod hx hz
      · cases g with
        | zero => simp [bulkD]
        | succ g => simp only [bulkD, List.map_cons, uptoBulkAll]; have := bx g; have := bz g; omega

theorem mapM_cells {α : Type} (f : Nat → Option α) : ∀ (l : List Nat) (r : List α), l.mapM f = some r → r.length = l.length ∧ ∀ (i j : Nat), l[i]? = some j → r[i]? = f j
  | [], r, h => by simp at h; subst h; simp
  | x :: l, r, h => by
    rw [List.mapM_cons] at h
    cases hx : f x with
    | none => rw [hx] at h; cases h
    | some v =>
      rw [hx] at h
      cases hl : l.mapM f with
      | none => simp [hl] at h
      | some r' =>
        simp [hl] at h
        subst h
        obtain ⟨h1, h2⟩ := mapM_cells f l r' hl
        refine ⟨by simp [h1], fun i j hi => ?_⟩
        cases i with
        | zero => simp at hi; subst hi; simp [hx]
        | succ i => simpa using h2 i j (by simpa using hi)

/-- cells of a row, read -/
theorem cells_seg {a : Addr} {n : Nat} {r : List Value} (h : w.cells? 0 a n = some r) (hn : 0 < n) : a.spot = none ∧ ∃ c T fr, w.heap[a.block]? = some (.cells c T fr) ∧ a.off + n ≤ c.size ∧ r = seg c a.off n := by
  unfold World.cells? at h
  rw [if_pos (Nat.zero_le _)] at h
  obtain ⟨h1, h2⟩ := mapM_cells _ _ _ h
  simp only [List.length_range] at h1
  have h0 := h2 0 0 (by simp [hn])
  have hr0 : r[0]? = some (r[0]'(by omega)) := List.getElem?_eq_getElem _
  rw [hr0] at h0
  simp only [Addr.add, if_true] at h0
  unfold World.cell? at h0
  split at h0
  case h_2 => cases h0
  rename_i c T fr hb
  split at h0
  case isTrue => cases h0
  rename_i hsp
  have hsp : a.spot = none := by simpa using hsp
  have get : ∀ i, i < n → ∃ v, r[i]? = some v ∧ c.toList[a.off + i]? = some v := fun i hi => by
    have h3 := h2 i i (by simp [hi])
    have hri : r[i]? = some (r[i]'(by omega)) := List.getElem?_eq_getElem _
    have e : a.add i = ⟨a.block, a.off + i, none⟩ := by
      unfold Addr.add
      split
      · rename_i e; subst e; cases a; simp_all
      · rfl
    rw [e, hri] at h3
    unfold World.cell? at h3
    simp only [hb, Option.isSome_none, Bool.false_eq_true, if_false] at h3
    exact ⟨_, hri, by rw [Array.getElem?_toList]; exact h3.symm⟩
  have hsz : a.off + n ≤ c.size := by
    obtain ⟨v, _, hv⟩ := get (n - 1) (by omega)
    have : a.off + (n - 1) < c.toList.length := by
      rcases Nat.lt_or_ge (a.off + (n - 1)) c.toList.length with h4 | h4
      · exact h4
      · rw [List.getElem?_eq_none h4] at hv; cases hv
    simp at this; omega
  refine ⟨hsp, c, T, fr, hb, hsz, ?_⟩
  apply List.ext_getElem?
  intro i
  by_cases hi : i < n
  · obtain ⟨v, h3, h4⟩ := get i hi
    rw [h3]
    simp only [seg, List.getElem?_take, if_pos hi, List.getElem?_drop, h4]
  · rw [List.getElem?_eq_none (by omega), List.getElem?_eq_none]
    simp [seg]; omega

theorem open_list {f n : Nat} (ih : OpenAt enc P w f) {e : TypeId} {t : Ty} (hs : shp P f e t = true) (hc : P.cellsOf e = sz t) (hpos : 0 < sz t) {a : Addr} : ∀ (k j : Nat) (ys : List (DataW H × List MemPlace)), ys.length = k →
    (∀ i, i < k → (w.cells? 0 (a.add ((j + i) * sz t)) (sz t)).bind (DataW.trod enc P w 0 (fun _ => true) true n e) = ys[i]?) →
    (∀ m ∈ DataW.weightsAll P e (ys.map (·.1)), m ≤ lenB) →
    ∃ xs : List (Den t), xs.length = k ∧ (∀ (i : Nat) (hi : i < xs.length), ∃ r, w.cells? 0 (a.add ((j + i) * sz t)) (sz t) = some r ∧ Rd (blocks w) w t xs[i] r) ∧ ∀ g, (xs.map (bulkD g t)).sum ≤ uptoBulkAll (ys.map (·.1))
  | 0, j, ys, hl, _, _ => ⟨[], rfl, fun i hi => by simp at hi, fun g => by simp⟩
  | k + 1, j, ys, hl, hy, hw => by
    cases ys with
    | nil => simp at hl
    | cons y ys =>
      have h0 := hy 0 (by omega)
      simp only [List.getElem?_cons_zero, Nat.add_zero] at h0
      simp only [List.map_cons, DataW.weightsAll, List.mem_append] at hw
      cases hr : w.cells? 0 (a.add (j * sz t)) (sz t) with
      | none => rw [hr] at h0; cases h0
      | some r =>
        rw [hr] at h0
        simp only [Option.bind_some] at h0
        obtain ⟨x, hx, bx⟩ := ih e t _ _ y hs h0 (fun m hm => hw m (.inl hm))
        obtain ⟨xs, h1, h2, h3⟩ := open_list ih hs hc hpos k (j + 1) ys (by simpa using hl) (fun i hi => by
          have := hy (i + 1) (by omega)
          simpa [Nat.add_assoc, Nat.add_comm 1 i] using this) (fun m hm => hw m (.inr hm))
        refine ⟨x :: xs, by simp [h1], fun i hi => ?_, fun g => ?_⟩
        · cases i with
          | zero => exact ⟨r, by simpa using hr, hx⟩
          | succ i =>
            obtain ⟨r', h4, h5⟩ := h2 i (by simpa using hi)
            exact ⟨r', by rw [← h4]; simp [Nat.add_assoc, Nat.add_comm 1 i], by simpa using h5⟩
        · simp only [List.map_cons, List.sum_cons, uptoBulkAll]; have := bx g; have := h3 g; omega

theorem weightsAll_append (e : TypeId) : ∀ (l r : List (DataW H)), DataW.weightsAll P e (l ++ r) = DataW.weightsAll P e l ++ DataW.weightsAll P e r
  | [], r => by simp [DataW.weightsAll]
  | x :: l, r => by simp [DataW.weightsAll, weightsAll_append e l r]

theorem open_at : ∀ f, OpenAt enc P w f
  | 0 => fun T t fuel cs z hs _ _ => by simp [shp] at hs
  | f + 1 => fun T t fuel cs z hs h hw => by
    have ih := open_at f
    unfold shp at hs
    split at hs
    · rename_i k k' hT
      obtain ⟨n, rfl, rfl, hwf⟩ := DataW.trod_int hT h
      have e : k = k' := by simpa using hs
      subst e
      refine ⟨n, .int ?_, fun g => ?_⟩
      · simpa [Lit.wf, ok] using hwf
      · cases g <;> simp [bulkD, uptoBulk]
    · rename_i hT
      obtain ⟨b, rfl, rfl⟩ := DataW.trod_bool hT h
      refine ⟨b, .bool, fun g => ?_⟩
      cases g <;> simp [bulkD, uptoBulk]
    · rename_i hT
      obtain ⟨s, rfl, rfl, hwf⟩ := DataW.trod_string hT h
      have hl : s.size ≤ lenB := hw _ (by show s.size ∈ [s.data.toList.length]; rw [Array.length_toList]; exact List.mem_singleton.2 rfl)
      refine ⟨s, .str hl, fun g => ?_⟩
      cases g with
      | zero => exact Nat.zero_le _
      | succ g =>
        show s.size + 1 ≤ s.data.toList.length + 1
        rw [Array.length_toList]
        exact Nat.le_refl _
    · rename_i e t' hT
      simp only [Bool.and_eq_true, Nat.beq_eq, Nat.blt_eq] at hs
      obtain ⟨h1, h2, h3, h4⟩ := hs
      rcases DataW.trod_slice hT h with ⟨rfl, rfl⟩ | ⟨a, len, cap, elems, rest, n, rfl, rfl, rfl, hb, hl, hm, hlen, hel, hsp, _⟩
      · refine ⟨[], .nil, fun g => ?_⟩
        cases g <;> simp [bulkD, uptoBulk]
      · simp only [light, DataW.weights, hT] at hw
        rw [h2] at hel
        obtain ⟨xs, k1, k2, k3⟩ := open_list ih h1 h2 h3 len 0 elems hlen (fun i hi => by simpa using hel i hi) (fun m hm => hw m (List.mem_cons_of_mem _ (List.mem_append_left _ hm)))
        have hlb : xs.length ≤ lenB := by
          have hw0 := hw _ List.mem_cons_self
          rw [List.length_map, List.length_map] at hw0
          have h5 : (elems.length + rest.length) * 1 ≤ (elems.length + rest.length) * P.bytesOf e := Nat.mul_le_mul_left _ h4
          omega
        refine ⟨xs, ?_, fun g => ?_⟩
        · cases hx : len with
          | zero =>
            have : xs = [] := List.eq_nil_of_length_eq_zero (by omega)
            subst this
            exact .nil
          | succ len' =>
            obtain ⟨r0, q1, q2⟩ := k2 0 (by omega)
            simp only [Nat.zero_add, Nat.zero_mul] at q1
            have ha0 : a.add 0 = a := rfl
            rw [ha0] at q1
            obtain ⟨hspot, c, T0, fr, hblk, hsz0, _⟩ := cells_seg q1 h3
            have hat : ∀ i, a.add (i * sz t') = ⟨a.block, a.off + i * sz t', none⟩ := fun i => by
              unfold Addr.add
              split
              · rename_i e0; cases a; simp_all
              · rfl
            have hread : ∀ (i : Nat) (hi : i < xs.length), a.off + i * sz t' + sz t' ≤ c.size ∧ Rd (blocks w) w t' xs[i] (seg c (a.off + i * sz t') (sz t')) := fun i hi => by
              obtain ⟨r, q3, q4⟩ := k2 i hi
              rw [Nat.zero_add, hat] at q3
              obtain ⟨_, c', T', fr', hblk', hsz', rfl⟩ := cells_seg q3 h3
              simp only at hblk' hsz' q4
              rw [hblk] at hblk'
              cases hblk'
              exact ⟨hsz', q4⟩
            have ea : a = ⟨a.block, a.off, none⟩ := by cases a; simp_all
            rw [ea, ← hx, ← k1]
            have hlast := (hread (xs.length - 1) (by omega)).1
            have hmul : (xs.length - 1) * sz t' + sz t' = xs.length * sz t' := by
              rw [← Nat.succ_mul]; congr 1; omega
            refine .slice ?_ hblk (by omega) (by omega) hlb (fun i hi => (hread i hi).2)
            show a.block < w.heap.size
            rcases Nat.lt_or_ge a.block w.heap.size with h6 | h6
            · exact h6
            · rw [Array.getElem?_eq_none h6] at hblk; cases hblk
        · cases g with
          | zero => simp [bulkD]
          | succ g => simp only [bulkD, uptoBulk]; have := k3 g; omega
    · rename_i fs n hT
      simp only [Bool.and_eq_true, Nat.beq_eq] at hs
      obtain ⟨xs, m, rfl, rfl, hlen, hl, hx⟩ := DataW.trod_struct hT h
      simp only [light, DataW.weights, hT] at hw
      obtain ⟨x, h1, h2⟩ := open_fs ih (cs := cs) fs.toList xs 0 n.flds hs.1 (by simpa using hl) (fun i fd hf => hx i fd (by simpa using hf)) hw
      have hsz : sz n.flds = n.size := n.size_flds
      rw [hsz, List.drop_zero, List.take_of_length_le (by omega)] at h1
      refine ⟨n.of x, .nm (by rw [n.to_of]; exact h1), fun g => ?_⟩
      cases g with
      | zero => simp [bulkD]
      | succ g => simp only [bulkD, uptoBulk, n.to_of]; have := h2 g; omega
    · rename_i fs a b hT
      simp only [Bool.and_eq_true, Nat.beq_eq] at hs
      obtain ⟨xs, m, rfl, rfl, hlen, hl, hx⟩ := DataW.trod_struct hT h
      simp only [light, DataW.weights, hT] at hw
      obtain ⟨x, h1, h2⟩ := open_fs ih (cs := cs) fs.toList xs 0 (.prod a b) hs.1 (by simpa using hl) (fun i fd hf => hx i fd (by simpa using hf)) hw
      rw [List.drop_zero, List.take_of_length_le (by omega)] at h1
      refine ⟨x, h1, fun g => ?_⟩
      have := h2 g; simp only [uptoBulk]; omega
    · rename_i n e a b hT
      simp only [Bool.and_eq_true, Nat.beq_eq] at hs
      obtain ⟨xs, m, rfl, rfl, hlen, hl, hx⟩ := DataW.trod_array hT h
      simp only [light, DataW.weights, hT] at hw
      obtain ⟨x, h1, h2⟩ := open_arr ih (cs := cs) n 0 xs (.prod a b) hs.1 hl (fun i hi => by simpa using hx i hi) hw
      rw [Nat.zero_mul, List.drop_zero, List.take_of_length_le (by omega)] at h1
      refine ⟨x, h1, fun g => ?_⟩
      have := h2 g; simp only [uptoBulk]; omega
    · cases hs
end

end Go.Mir

/- The mirror, part 29: a law's contract, and its row. -/
namespace Go.Mir
open Go.RowKit Go.ChangeShapes Go.WideShapes
open Go.Proofs.Ytogdeefpidccmaa.Rows (uptoBulk uptoBulkAll)

section
variable {H : Type} {enc : TypeId × Value → H} {P : Program} {w : World}

def shpAll (P : Program) : List TypeId → Ty → Bool
  | [], .unit => true
  | T :: Ts, .prod a b => shp P 32 T a && shpAll P Ts b
  | _, _ => false

theorem shp_form {f : Nat} {T : TypeId} {t : Ty} (hs : shp P f T t = true) {r : Reach} {b : Nat} {v : Value} (hv : Value.okWide P w r b T v) : (aggT t = true ∧ ∃ l, v = .agg l) ∨ (aggT t = false ∧ v.cells.toList = [v]) := by
  cases f with
  | zero => simp [shp] at hs
  | succ f =>
    unfold shp at hs
    split at hs
    · rename_i k k' hT
      obtain ⟨n, rfl⟩ := okWide_int hT hv
      exact .inr ⟨rfl, rfl⟩
    · rename_i hT
      obtain ⟨n, rfl⟩ := okWide_bool hT hv
      exact .inr ⟨rfl, rfl⟩
    · rename_i hT
      obtain ⟨n, rfl⟩ := okWide_string hT hv
      exact .inr ⟨rfl, rfl⟩
    · rename_i hT
      obtain ⟨a, l, c, rfl⟩ := okWide_slice hT hv
      exact .inr ⟨rfl, rfl⟩
    · rename_i fs n hT
      obtain ⟨cs, rfl, _⟩ := okWide_struct hT hv
      exact .inl ⟨rfl, cs, rfl⟩
    · rename_i fs a b hT
      obtain ⟨cs, rfl, _⟩ := okWide_struct hT hv
      exact .inl ⟨rfl, cs, rfl⟩
    · rename_i n e a b hT
      simp only [Value.okWide, hT] at hv
      obtain ⟨cs, rfl, _⟩ := hv
      exact .inl ⟨rfl, cs, rfl⟩
    · cases hs

/-- the world of a law's call: all blocks frozen -/
def env0 (w : World) : Env := ⟨fun _ => False, fun _ => none, blocks w, w, fun _ => none⟩
def base0 (w : World) : Base := base3 w (fun _ => False) (blocks w)

theorem env0_rel (w : World) : HRel (base0 w) (env0 w) := by
  refine ⟨fun h b hx => ?_, fun b hb => hb, fun h k b hx => ?_, fun h h' k k' b hx => ?_, fun h k hx => ?_, Keeps.refl _ _, fun h k b hx => ?_, fun _ h => h, fun _ h => .inl h⟩ <;> cases hx

theorem argV_rel {E : Env} {t : Ty} {x : Den t} {v : Value} (h : Rd E.S E.w t x v.cells.toList) (hf : (aggT t = true ∧ ∃ l, v = .agg l) ∨ (aggT t = false ∧ v.cells.toList = [v])) : vrel E (argV t x) v := by
  rcases hf with ⟨h1, l, rfl⟩ | ⟨h1, h2⟩
  · cases t <;> simp only [aggT, Bool.false_eq_true] at h1
    · simp only [argV, vrel]
      refine ⟨l, rfl, ?_⟩
      have h0 : l.toList = [] := List.eq_nil_of_length_eq_zero h.len
      rw [h0]; simp [vrels]
    · simp only [argV, vrel]; exact ⟨l, rfl, h.flat FUEL⟩
    · simp only [argV, vrel]; exact ⟨l, rfl, h.flat FUEL⟩
  · rw [h2] at h
    cases t <;> simp only [aggT, reduceCtorEq] at h1
    · cases h with | int hk => exact vint hk
    · cases h with | bool => simp only [argV, vrel]
    · cases h with | str hk => exact vstr hk
    · simp only [argV, vrel]; exact h

theorem args_open : ∀ {Ts : List TypeId} {vs : List Value} {ds : List (DataW H)} {p : List MemPlace} {ps : Ty}, DataW.TrodAll enc P w 0 (fun _ => true) true Ts vs ds p → shpAll P Ts ps = true →
    (∀ (j : Nat) (t : TypeId) (v : Value), Ts[j]? = some t → vs[j]? = some v → ∃ r b, Value.okWide P w r b t v) → (∀ m ∈ DataW.weightsEach P Ts ds, m ≤ lenB) →
    ∃ x : Den ps, vrels (env0 w) (argsV ps x) vs ∧ (∃ cs, Rd (blocks w) w ps x cs) ∧ (∀ g, bulkD g ps x ≤ uptoBulkAll ds) ∧ vs.length = Ts.length ∧ ds.length = Ts.length
  | [], vs, ds, p, ps, ht, hs, _, _ => by
    cases ps <;> simp only [shpAll, Bool.false_eq_true] at hs
    cases vs with
    | cons => cases ds <;> simp [DataW.TrodAll] at ht
    | nil =>
      cases ds with
      | cons => simp [DataW.TrodAll] at ht
      | nil => exact ⟨(), trivial, ⟨[], .unit⟩, fun g => by cases g <;> simp [bulkD], rfl, rfl⟩
  | T :: Ts, vs, ds, p, ps, ht, hs, hv, hw => by
    cases ps <;> simp only [shpAll, Bool.false_eq_true] at hs
    rename_i a b
    simp only [Bool.and_eq_true] at hs
    cases vs with
    | nil => cases ds <;> simp [DataW.TrodAll] at ht
    | cons v vs =>
      cases ds with
      | nil => simp [DataW.TrodAll] at ht
      | cons d ds =>
        simp only [DataW.TrodAll] at ht
        obtain ⟨p1, q, ⟨fuel, h1⟩, h2, _⟩ := ht
        simp only [DataW.weightsEach, List.mem_append] at hw
        obtain ⟨x, hx, bx⟩ := open_at 32 T a fuel _ _ hs.1 h1 (fun m hm => hw m (.inl hm))
        obtain ⟨y, k1, ⟨cs, k2⟩, k3, k4, k5⟩ := args_open h2 hs.2 (fun j t v h3 h4 => hv (j + 1) t v (by simpa using h3) (by simpa using h4)) (fun m hm => hw m (.inr hm))
        obtain ⟨r, b0, hok⟩ := hv 0 T v rfl rfl
        refine ⟨(x, y), ?_, ⟨_, .prod hx k2⟩, fun g => ?_, by simp [k4], by simp [k5]⟩
        · simp only [argsV, vrels]
          exact ⟨argV_rel (E := env0 w) hx (shp_form hs.1 hok), k1⟩
        · cases g with
          | zero => simp [bulkD]
          | succ g =>
            simp only [bulkD, uptoBulkAll]
            have h1 : bulkD g a x ≤ uptoBulk d := bx g
            have := k3 g
            omega

def isTrue : V → Prop
  | .bool b => b = true
  | .kb b => b = true
  | _ => False

theorem isTrue_rel {E : Env} {v : V} {u : Value} (h : isTrue v) (hv : vrel E v u) : u = .bool true := by
  cases v <;> simp only [isTrue] at h <;> subst h <;> simpa [vrel] using hv

/-- a law's call -/
theorem law_calls {C : Cfg} (hC : CfgOK P C) (hP : P.follows .mixedOrders = true) {f : FuncId} {fn : Func} (hf : P.funcs[f]? = some fn) (hN : C.N = fn.ntmps) {ps : Ty} (hps : shpAll P fn.params.toList ps = true) (hle : fn.params.size ≤ fn.ntmps)
    {Λ : Den ps → Nat → Option LoopSum} {bound : Nat}
    (hΛ : ∀ x : Den ps, wfD ps x → bulkD FUEL ps x ≤ bound → ∀ c, fn.body = some c → ∀ b ∈ loopsIn (Λ x) c, ∀ L, Λ x (rid b) = some L → LoopOK P C.N b L)
    (h : ∀ x : Den ps, wfD ps x → bulkD FUEL ps x ≤ bound → (evFn C (Λ x) fn (argsV ps x)).sat fun v _ => isTrue v)
    {args : Array Value} {ds : List (DataW H)} {p : List MemPlace} (hA : DataW.TrodAll enc P w 0 (fun _ => true) true fn.params.toList args.toList ds p) (hval : ∀ (j : Nat) t v, fn.params[j]? = some t → args[j]? = some v → ∃ r b, Value.okWide P w r b t v)
    (hw : ∀ m ∈ DataW.weightsEach P fn.params.toList ds, m ≤ lenB) (hb : uptoBulkAll ds ≤ bound) :
    Calls P f args w fun e w' => e = .returned (.bool true) ∧ Keeps w (fun _ => False) w' := by
  obtain ⟨x, k1, ⟨cs, k2⟩, k3, k4, k5⟩ := args_open hA hps (fun j t v h1 h2 => hval j t v (by simpa using h1) (by simpa using h2)) hw
  have hwf : wfD ps x := ⟨_, _, _, k2⟩
  have hbd := Nat.le_trans (k3 FUEL) hb
  have hc := evFn_sound hC hP hf hN (hΛ x hwf hbd) (h x hwf hbd) (env0_rel w) (fun _ => trivial) rfl (fun _ h => h) k1 (by rw [k4]; simpa using hle)
  have e : args.toList.toArray = args := by simp
  rw [e] at hc
  refine Calls.mono hc fun e w' hr => ?_
  obtain ⟨Ec, v', v0, v, acc, rfl, hEc, rfl, hv, hcan, hq⟩ := hr
  have hcs := canV_sound hEc 0 v0 [] v acc v' hcan hv
  refine ⟨?_, hEc.keeps⟩
  have hnf : v.noF = true := by cases v <;> simp only [isTrue] at hq <;> rfl
  have hrel := hcs.rel { Ec with U := fun _ => True, ρ := fun i => (acc[i]?).bind fun q => Ec.ρ q.1, H := fun i => (acc[i]?).map fun q => .row i true q.2.t q.2.xs } rfl (.inr hnf) (fun i h r hi => by simp [hi])
  have this : v' = .bool true := by
    have e : v.shift 0 = v := by cases v <;> simp only [isTrue] at hq <;> rfl
    rw [e] at hrel
    exact isTrue_rel hq hrel
  rw [this]

theorem keptBut_of {w' : World} (h : Keeps w (fun _ => False) w') (may : MemPlace → Prop) : w.keptBut w' may := by
  refine ⟨h.os, h.output, fun i hi => ?_⟩
  rw [h.block i hi (fun h => h)]
  split
  · rename_i a b c d e f h1 h2
    rw [h1] at h2; cases h2
    exact ⟨rfl, rfl, rfl, fun _ _ => rfl⟩
  · rename_i h1 h2
    rw [h1] at h2; cases h2
    exact .inr ⟨rfl, rfl⟩
  · rfl

theorem trodAll_stays (hl : laidOutB P = true) {w' : World} (hk : Keeps w (fun _ => False) w') {sp : Nat → Bool} : ∀ {Ts : List TypeId} {vs : List Value} {ds : List (DataW H)} {p : List MemPlace}, DataW.TrodAll enc P w 0 (fun _ => true) true Ts vs ds p →
    (∀ t ∈ Ts, P.readableRec t = true ∧ t < P.types.size) → (∀ x ∈ p, x.block < w.heap.size) → (∀ x ∈ p, sp x.block = true) → DataW.TrodAll enc P w' 0 sp true Ts vs ds p
  | [], vs, ds, p, h, _, _, _ => by cases vs <;> cases ds <;> simp_all [DataW.TrodAll]
  | T :: Ts, vs, ds, p, h, hr, hp, hs => by
    cases vs with
    | nil => cases ds <;> simp [DataW.TrodAll] at h
    | cons v vs =>
      cases ds with
      | nil => simp [DataW.TrodAll] at h
      | cons d ds =>
        simp only [DataW.TrodAll] at h ⊢
        obtain ⟨p1, q, h1, h2, rfl⟩ := h
        have hb : Below w.heap.size w w' := ⟨hk.os, hk.tape, hk.output, hk.size, fun k hk' => hk.block k hk' (fun h => h)⟩
        refine ⟨p1, q, ?_, trodAll_stays hl hk h2 (fun t ht => hr t (by simp [ht])) (fun x hx => hp x (by simp [hx])) (fun x hx => hs x (by simp [hx])), rfl⟩
        exact WideElems.Trod_stays hl (hr T (by simp)).1 (hr T (by simp)).2 h1 (fun x hx => hb.same (hp x (by simp [hx]))) (fun x hx => hs x (by simp [hx]))

/-- a law's row: what it leaves behind -/
theorem law_post (hl : laidOutB P = true) {fn : Func} {s : ChangeSpec} {TB : TypeId} (hres : fn.resultTypes = #[TB]) (hTB : P.underlying TB = some .bool) (hread : ∀ t ∈ fn.params.toList, P.readableRec t = true ∧ t < P.types.size)
    (hsv : s.vars = []) {args : Array Value} {ds gs : List (DataW H)} {before : List MemPlace} (hW : DataW.Whole enc P fn.params.toList s.vars false w args.toList ds gs before)
    (hs : (s.fn H (ds ++ gs)).results = [.lit (.bool true)] ∧ (s.fn H (ds ++ gs)).args = ds ∧ (s.fn H (ds ++ gs)).vars = []) {w' : World} (hk : Keeps w (fun _ => False) w') :
    s.post enc P fn false true false false w args (.bool true) w' := by
  have hlt := hW.lt
  have hW' := hW
  obtain ⟨p, q, hA, hV, rfl, hfz, hnd⟩ := hW
  rw [hsv] at hV
  obtain ⟨rfl, rfl⟩ := trodVars_none hV
  simp only [List.append_nil] at hlt hW' hs ⊢
  refine ⟨ds, [], p, [], p, [], by simpa using hW', ?_, ?_, ?_, keptBut_of hk _, fun h => by cases h⟩
  · rw [List.append_nil, hs.1, hres]
    exact trodAll_mk1 (shut_bool hTB true)
  · rw [List.append_nil, hs.2.1]
    exact trodAll_stays hl hk hA hread hlt (fun x hx => by simpa using hlt x hx)
  · rw [List.append_nil, hs.2.2, hsv]
    rfl
end

end Go.Mir

/- The mirror, part 30: what a loop's round asks, computed. -/
namespace Go.Mir
open Go.RowKit

variable {P : Program}

/-- what becomes of an end of a round: the next round's data, or an end of the loop -/
inductive Lspec (α : Type) where
  | next (a : α) (σ : List (Nat × Nat)) (Z : List Nat)
  | out (path : List Bool) (σ : List (Nat × Nat)) (Z : List Nat)

def lfEq : Lf → Lf → Bool
  | .nrm, .nrm => true
  | .ret, .ret => true
  | .ext n, .ext m => Nat.beq n m
  | _, _ => false

theorem lfEq_iff {e e' : Lf} (h : lfEq e e' = true) : e = e' := by
  cases e <;> cases e' <;> simp only [lfEq, Bool.false_eq_true, Nat.beq_eq] at h
  · rfl
  · subst h; rfl
  · rfl

def conj : List Prop → Prop
  | [] => True
  | [p] => p
  | p :: q :: r => p ∧ conj (q :: r)

theorem conj_all : ∀ {l : List Prop}, conj l → ∀ p ∈ l, p
  | [], _, p, hp => by simp at hp
  | [q], h, p, hp => by rw [List.mem_singleton] at hp; subst hp; exact h
  | q :: q' :: r, h, p, hp => by
    rcases List.mem_cons.1 hp with rfl | hp
    · exact h.1
    · exact conj_all h.2 p hp

/-- an end of a tree, by its path, with what is asked on the way -/
def Tr.walk : Tr → List Bool → Option (List Prop × Lf × Dl × Nat)
  | .leaf e d nx, _ => some ([], e, d, nx)
  | .br b t u, p => match p with
    | true :: p => (match t.walk p with | some (ps, z) => some ((b = true) :: ps, z) | none => none)
    | false :: p => (match u.walk p with | some (ps, z) => some ((b = false) :: ps, z) | none => none)
    | [] => none
  | .need _ t, p => t.walk p
  | .both t u, p => match p with
    | true :: p => t.walk p
    | false :: p => u.walk p
    | [] => none
  | .when b t, p => match t.walk p with | some (ps, z) => some ((b = true) :: ps, z) | none => none
  | .done, _ => none
  | .bad, _ => none

theorem walk_sat {Q : Lf → Dl → Nat → Prop} : ∀ {t : Tr} {p : List Bool} {ps : List Prop} {e : Lf} {d : Dl} {nx : Nat}, t.walk p = some (ps, e, d, nx) → (∀ q ∈ ps, q) → t.sat Q → Q e d nx
  | .leaf e d nx, p, ps, e', d', nx', h, _, hs => by simp only [Tr.walk, Option.some.injEq, Prod.mk.injEq] at h; obtain ⟨_, rfl, rfl, rfl⟩ := h; exact hs
  | .br b t u, p, ps, e', d', nx', h, hp, hs => by
    cases p with
    | nil => simp [Tr.walk] at h
    | cons x p =>
      cases x with
      | true =>
        simp only [Tr.walk] at h
        split at h
        case h_2 => cases h
        rename_i ps' z hz
        simp only [Option.some.injEq, Prod.mk.injEq] at h
        obtain ⟨rfl, rfl⟩ := h
        exact walk_sat hz (fun q hq => hp q (by simp [hq])) (hs.1 (hp _ (by simp)))
      | false =>
        simp only [Tr.walk] at h
        split at h
        case h_2 => cases h
        rename_i ps' z hz
        simp only [Option.some.injEq, Prod.mk.injEq] at h
        obtain ⟨rfl, rfl⟩ := h
        exact walk_sat hz (fun q hq => hp q (by simp [hq])) (hs.2 (hp _ (by simp)))
  | .need q t, p, ps, e', d', nx', h, hp, hs => walk_sat (t := t) h hp hs.2
  | .both t u, p, ps, e', d', nx', h, hp, hs => by
    cases p with
    | nil => simp [Tr.walk] at h
    | cons x p =>
      cases x with
      | true => exact walk_sat (t := t) h hp hs.1
      | false => exact walk_sat (t := u) h hp hs.2
  | .when b t, p, ps, e', d', nx', h, hp, hs => by
    simp only [Tr.walk] at h
    split at h
    case h_2 => cases h
    rename_i ps' z hz
    simp only [Option.some.injEq, Prod.mk.injEq] at h
    obtain ⟨rfl, rfl⟩ := h
    exact walk_sat hz (fun q hq => hp q (by simp [hq])) (hs (hp _ (by simp)))
  | .done, p, _, _, _, _, h, _, _ => by simp [Tr.walk] at h
  | .bad, p, _, _, _, _, h, _, _ => by simp [Tr.walk] at h

section
variable {α : Type} (I : α → St) (inv : α → Prop) (μ : α → Nat) (a : α) (T : Tr)

def leafObl (e : Lf) (d : Dl) (nx : Nat) : Lspec α → Prop
  | .next a' σ Z => match e with
    | .nrm => inv a' ∧ μ a' < μ a ∧ Sub ⟨σ, Z, (I a').nx⟩ ((I a).app d nx) (I a').tm (I a').hp
    | _ => False
  | .out p σ Z => match e with
    | .nrm => False
    | e => match T.walk p with
      | some (ps, e', d', nx') => ifB (lfEq e e') (conj ps ∧ Sub ⟨σ, Z, nx'⟩ ((I a).app d nx) d'.tm d'.hp)
      | none => False

def stepObl : Tr → List (Lspec α) → Prop × List (Lspec α)
  | .leaf e d nx, l => match l with
    | [] => (False, [])
    | s :: r => (leafObl I inv μ a T e d nx s, r)
  | .br b t u, l => ((b = true → (stepObl t l).1) ∧ (b = false → (stepObl u (stepObl t l).2).1), (stepObl u (stepObl t l).2).2)
  | .need p t, l => (p ∧ (stepObl t l).1, (stepObl t l).2)
  | .both t u, l => ((stepObl t l).1 ∧ (stepObl u (stepObl t l).2).1, (stepObl u (stepObl t l).2).2)
  | .when b t, l => ((b = true → (stepObl t l).1), (stepObl t l).2)
  | .done, l => (True, l)
  | .bad, l => (False, l)

def stepQ : Lf → Dl → Nat → Prop := fun e d nx => match e with
  | .nrm => ∃ (a' : α) (M : Nam), inv a' ∧ μ a' < μ a ∧ M.nx = (I a').nx ∧ Sub M ((I a).app d nx) (I a').tm (I a').hp
  | e => ∃ (M : Nam) (tm : List (Nat × V)) (hp : List (Nat × Blk)), Sub M ((I a).app d nx) tm hp ∧ ∀ Q : Lf → Dl → Nat → Prop, T.sat Q → Q e ⟨tm, hp⟩ M.nx

variable {I inv μ a T}

theorem leafObl_sat {e : Lf} {d : Dl} {nx : Nat} : ∀ {s : Lspec α}, leafObl I inv μ a T e d nx s → stepQ I inv μ a T e d nx
  | .next a' σ Z, h => by
    cases e with
    | nrm => exact ⟨a', ⟨σ, Z, (I a').nx⟩, h.1, h.2.1, rfl, h.2.2⟩
    | ext id => exact h.elim
    | ret => exact h.elim
  | .out p σ Z, h => by
    have key : ∀ e : Lf, (match T.walk p with
      | some (ps, e', d', nx') => ifB (lfEq e e') (conj ps ∧ Sub ⟨σ, Z, nx'⟩ ((I a).app d nx) d'.tm d'.hp)
      | none => False) → ∃ (M : Nam) (tm : List (Nat × V)) (hp : List (Nat × Blk)), Sub M ((I a).app d nx) tm hp ∧ ∀ Q : Lf → Dl → Nat → Prop, T.sat Q → Q e ⟨tm, hp⟩ M.nx := fun e h => by
      split at h
      case h_2 => exact h.elim
      rename_i ps e' d' nx' hw
      obtain ⟨h1, h2, h3⟩ := ifB_iff.1 h
      obtain rfl := lfEq_iff h1
      exact ⟨⟨σ, Z, nx'⟩, d'.tm, d'.hp, h3, fun Q hT => walk_sat hw (conj_all h2) hT⟩
    cases e with
    | nrm => exact h.elim
    | ext id => exact key _ h
    | ret => exact key _ h

theorem stepObl_sat : ∀ {t : Tr} {l : List (Lspec α)}, (stepObl I inv μ a T t l).1 → t.sat (stepQ I inv μ a T)
  | .leaf e d nx, l, h => by
    cases l with
    | nil => exact h.elim
    | cons s r => exact leafObl_sat h
  | .br b t u, l, h => ⟨fun hb => stepObl_sat (h.1 hb), fun hb => stepObl_sat (h.2 hb)⟩
  | .need p t, l, h => ⟨h.1, stepObl_sat h.2⟩
  | .both t u, l, h => ⟨stepObl_sat h.1, stepObl_sat h.2⟩
  | .when b t, l, h => fun hb => stepObl_sat (h hb)
  | .done, _, h => h
  | .bad, _, h => h.elim
end

/-- THE LOOP, its rounds' obligations computed -/
theorem loop_by {C : Cfg} (hC : CfgOK P C) (hP : P.follows .mixedOrders = true) {body : Code} {α : Type} (I : α → St) (hI : ∀ a, (I a).H0 = fun _ => none) (inv : α → Prop) (μ : α → Nat) (Λ : α → Nat → Option LoopSum)
    (hΛ : ∀ a, inv a → ∀ b ∈ loopsIn (Λ a) body, ∀ L, Λ a (rid b) = some L → LoopOK P C.N b L) (T : Tr) (σ : List (Nat × Nat)) (Z : List Nat) (a0 : α) (h0 : inv a0) (L : α → List (Lspec α))
    (step : ∀ a, inv a → (stepObl I inv μ a T (evCode C (Λ a) body (I a)) (L a)).1) :
    LoopOK P C.N body (loopSum ⟨σ, Z, (I a0).nx⟩ (I a0) T) :=
  loop_ok hC hP I hI inv μ Λ hΛ h0 rfl fun a ha => stepObl_sat (step a ha)

/-- a loop that is entered only where something holds -/
def LoopSum.under (p : Prop) (L : LoopSum) : LoopSum := ⟨fun st => p ∧ L.pre st, L.T⟩
theorem LoopOK.under {N : Nat} {b : Code} {L : LoopSum} {p : Prop} (h : p → LoopOK P N b L) : LoopOK P N b (L.under p) := fun B hB st Q CQ hp => h hp.1 B hB st Q CQ hp.2

/-- a summary picked by the state -/
def selSum (F : St → LoopSum) : LoopSum := ⟨fun st => (F st).pre st, fun st => (F st).T st⟩
theorem selSum_ok {N : Nat} {b : Code} {F : St → LoopSum} (h : ∀ st, LoopOK P N b (F st)) : LoopOK P N b (selSum F) := fun B hB st Q CQ => h st B hB st Q CQ

/-- a number in a slot -/
def slotI (st : St) (s : Nat) : Int := match lookV st.tm s with
  | .int _ n => n
  | _ => -1

/-- all loops of a code are summed up rightly -/
def LoopsOK (P : Program) (N : Nat) (l : List Code) (Λ : Nat → Option LoopSum) : Prop := ∀ b ∈ l, ∀ L, Λ (rid b) = some L → LoopOK P N b L

theorem LoopsOK.nil {N : Nat} {Λ : Nat → Option LoopSum} : LoopsOK P N [] Λ := fun b hb => by simp at hb
theorem LoopsOK.cons {N : Nat} {b : Code} {l : List Code} {Λ : Nat → Option LoopSum} {L : LoopSum} (h0 : Λ (rid b) = some L) (h1 : LoopOK P N b L) (h2 : LoopsOK P N l Λ) : LoopsOK P N (b :: l) Λ := fun b' hb L' hL => by
  rcases List.mem_cons.1 hb with rfl | hb
  · rw [h0] at hL; cases hL; exact h1
  · exact h2 b' hb L' hL

theorem LoopsOK.skip {N : Nat} {b : Code} {l : List Code} {Λ : Nat → Option LoopSum} (h0 : Λ (rid b) = none) (h2 : LoopsOK P N l Λ) : LoopsOK P N (b :: l) Λ := fun b' hb L' hL => by
  rcases List.mem_cons.1 hb with rfl | hb
  · rw [h0] at hL; cases hL
  · exact h2 b' hb L' hL

def bodyOf (fn : Func) : Code := match fn.body with | some c => c | none => .skip
def loopN (fn : Func) (k : Nat) : Code := match (loopsOf (bodyOf fn))[k]? with | some c => c | none => .skip

/-- a loop inside a loop -/
def loopIn (fn : Func) (k j : Nat) : Code := match (loopsOf (loopN fn k))[j]? with | some c => c | none => .skip

theorem LoopsOK.at {N : Nat} {fn : Func} {l : List Code} {Λ : Nat → Option LoopSum} (he : loopsIn Λ (bodyOf fn) = l) (h : LoopsOK P N l Λ) : ∀ c, fn.body = some c → ∀ b ∈ loopsIn Λ c, ∀ L, Λ (rid b) = some L → LoopOK P N b L := fun c hc => by
  have : bodyOf fn = c := by unfold bodyOf; rw [hc]
  rw [← this, he]
  exact h

/-! ## a tree whose Bools are all known -/
def RT.chk (Q : V → List RowD → Prop) : RT → List Prop
  | .ret v rows => [Q v rows]
  | .br b t e => match b with | true => t.chk Q | false => e.chk Q
  | .need p t => p :: t.chk Q
  | .both t u => t.chk Q ++ u.chk Q
  | .when b t => match b with | true => t.chk Q | false => []
  | .done => []
  | .bad => [False]

theorem chk_sat {Q : V → List RowD → Prop} : ∀ (t : RT), (∀ p ∈ t.chk Q, p) → t.sat Q
  | .ret v rows, h => h (Q v rows) (List.mem_singleton.2 rfl)
  | .br b t e, h => by
    cases b with
    | true => exact ⟨fun _ => chk_sat t h, fun hb => Bool.noConfusion hb⟩
    | false => exact ⟨fun hb => Bool.noConfusion hb, fun _ => chk_sat e h⟩
  | .need p t, h => ⟨h p List.mem_cons_self, chk_sat t fun q hq => h q (List.mem_cons_of_mem _ hq)⟩
  | .both t u, h => ⟨chk_sat t fun q hq => h q (List.mem_append_left _ hq), chk_sat u fun q hq => h q (List.mem_append_right _ hq)⟩
  | .when b t, h => by
    cases b with
    | true => exact fun _ => chk_sat t h
    | false => exact fun hb => Bool.noConfusion hb
  | .done, _ => trivial
  | .bad, h => (h False (List.mem_singleton.2 rfl)).elim

theorem conj_sat {Q : V → List RowD → Prop} {t : RT} (h : conj (t.chk Q)) : t.sat Q := chk_sat t (conj_all h)

/-! ## contracts, one behind the other -/

abbrev Ctrs := List (FuncId × Ctr)
def CtrsOK (P : Program) (K : Nat) (l : Ctrs) : Prop := ∀ f c, find l f = some c → CtrOK P K f c
theorem CtrsOK.nil {K : Nat} : CtrsOK P K [] := fun f c h => by simp [find] at h
theorem CtrsOK.cons {K : Nat} {f : FuncId} {c : Ctr} {l : Ctrs} (h : CtrOK P K f c) (hl : CtrsOK P K l) : CtrsOK P K ((f, c) :: l) := fun g c' hg => by
  simp only [find] at hg
  cases hb : Nat.beq f g with
  | true => rw [hb] at hg; obtain rfl := Nat.eq_of_beq_eq_true hb; simp only [cond_true, Option.some.injEq] at hg; subst hg; exact h
  | false => rw [hb] at hg; exact hl g c' hg

end Go.Mir

/- Contracts of small functions: slices.Index, slices.Contains. -/
namespace Go.Proofs.Ytogdeefpidccmaa
open Go Go.Mir

abbrev KK : Nat := 4
def cfg (l : Ctrs) (n : Nat) : Cfg := ⟨tbl, find l, KK, n⟩
def cfgF (l : Ctrs) (fn : Func) : Cfg := cfg l fn.ntmps
theorem mixed : Try.prog.follows .mixedOrders = true := by kernel_rfl
theorem cfgOK {l : Ctrs} (h : CtrsOK Try.prog KK l) (n : Nat) : CfgOK Try.prog (cfg l n) := ⟨tbl_ok, by show 1 ≤ KK; decide, h⟩

theorem wrap64 {n : Int} (h1 : -9223372036854775808 ≤ n) (h2 : n ≤ 9223372036854775807) : IntKind.i64.wrap n = n := by
  simp only [IntKind.wrap, IntKind.bits, IntKind.signed]
  simp
  omega

/-- the number of a member, counted from i; -1 for none -/
def idx : List Int → Int → Int → Int
  | [], _, _ => -1
  | x :: xs, v, i => bif v == x then i else idx xs v (i + 1)

theorem idx_none : ∀ (xs : List Int) (v i : Int), v ∉ xs → idx xs v i = -1
  | [], _, _, _ => rfl
  | x :: xs, v, i, h => by
    simp only [List.mem_cons, not_or] at h
    have : (v == x) = false := by simpa using h.1
    simp only [idx, this, cond_false]
    exact idx_none xs v (i + 1) h.2

theorem idx_at : ∀ (xs : List Int) (v i : Int) (k : Nat), xs[k]? = some v → v ∉ xs.take k → idx xs v i = i + k
  | [], _, _, _, h, _ => by simp at h
  | x :: xs, v, i, 0, h, _ => by
    simp only [List.getElem?_cons_zero, Option.some.injEq] at h
    subst h
    simp [idx]
  | x :: xs, v, i, k + 1, h, hn => by
    simp only [List.getElem?_cons_succ] at h
    simp only [List.take_succ_cons, List.mem_cons, not_or] at hn
    have : (v == x) = false := by simpa using hn.1
    simp only [idx, this, cond_false]
    rw [idx_at xs v (i + 1) k h hn.2]
    omega

def J63 (xs : List Int) (v : Int) (i : Nat) : St := ⟨[(0, .fsl (.int .u8) xs), (1, .int .u8 v), (7, .int .i64 xs.length), (8, .int .i64 i)], [], fun _ => none, 0⟩
def T63 (xs : List Int) (v : Int) : Tr := .br (xs.contains v) (.leaf .ret ⟨[(4, .int .i64 (idx xs v 0))], []⟩ 0) (.leaf (.ext 0) ⟨[], []⟩ 0)
def ps63 : Ty := .prod (.slice (.int .u8)) (.prod (.int .u8) .unit)
def Λ63 (x : Den ps63) : Nat → Option LoopSum := find [(2, loopSum ⟨[], [], 0⟩ (J63 x.1 x.2.1 0) (T63 x.1 x.2.1))]
def spec63 : Den ps63 → PRes := fun x => ⟨[], .int .i64 (idx x.1 x.2.1 0), []⟩
def inv63 (xs : List Int) (v : Int) (i : Nat) : Prop := i ≤ xs.length ∧ v ∉ xs.take i
def L63 (i : Nat) : List (Lspec Nat) := [.out [true] [] [], .next (i + 1) [] [], .out [false] [] []]

theorem step63 (xs : List Int) (v : Int) (hx : xs.length ≤ lenB) (i : Nat) (hi : inv63 xs v i) :
    (stepObl (J63 xs v) (inv63 xs v) (fun i => xs.length - i) i (T63 xs v) (evCode (cfg [] 19) (fun _ => none) (loopN Try.f63 0) (J63 xs v i)) (L63 i)).1 := by
  have h : ((decide ((i : Int) < (xs.length : Int)) = true →
    (0 ≤ (i : Int) ∧ (i : Int) < (xs.length : Int)) ∧
      ((v == (xs.getD (i : Int).toNat 0)) = true → xs.contains v = true ∧ ((i : Int) = idx xs v 0 ∧ True) ∧ True) ∧
        ((v == (xs.getD (i : Int).toNat 0)) = false →
          inv63 xs v (i + 1) ∧
            xs.length - (i + 1) < xs.length - i ∧
              (RowD.mk (.int .u8) xs = RowD.mk (.int .u8) xs ∧
                  v = v ∧ (xs.length : Int) = (xs.length : Int) ∧ IntKind.i64.wrap ((i : Int) + 1) = ((i + 1 : Nat) : Int) ∧ True) ∧
                True)) ∧
    (decide ((i : Int) < (xs.length : Int)) = false → xs.contains v = false ∧ True ∧ True)) := by
    have e : (i : Int).toNat = i := by simp
    rw [e]
    refine ⟨fun h1 => ?_, fun h1 => ?_⟩
    · have h1 : i < xs.length := by simpa using h1
      refine ⟨⟨by omega, by omega⟩, fun h2 => ?_, fun h2 => ?_⟩
      · have h2 : v = xs.getD i 0 := by simpa using h2
        have h3 : xs[i]? = some v := by rw [h2, List.getD_eq_getElem?_getD, List.getElem?_eq_getElem h1]; rfl
        refine ⟨by simpa using List.mem_of_getElem? h3, ⟨?_, trivial⟩, trivial⟩
        rw [idx_at xs v 0 i h3 hi.2]; omega
      · have h2 : ¬ v = xs.getD i 0 := by simpa using h2
        have h3 : xs.getD i 0 = xs[i] := by rw [List.getD_eq_getElem?_getD, List.getElem?_eq_getElem h1]; rfl
        refine ⟨⟨by omega, ?_⟩, by omega, ⟨rfl, rfl, rfl, ?_, trivial⟩, trivial⟩
        · rw [List.take_succ_eq_append_getElem h1, List.mem_append, List.mem_singleton, not_or]
          exact ⟨hi.2, by rw [← h3]; exact h2⟩
        · have : xs.length ≤ 140737488355328 := hx
          rw [wrap64 (by omega) (by omega)]; omega
    · have h1 : ¬ i < xs.length := by simpa using h1
      refine ⟨?_, trivial, trivial⟩
      have := hi.2
      rw [List.take_of_length_le (by omega)] at this
      simpa using this
  exact cast (by kernel_rfl) h

theorem den_slice {S : Nat → Prop} {w : World} {t : Ty} {xs : List (Den t)} {cs : List Value} (h : Rd S w (.slice t) xs cs) : xs.length ≤ lenB := by
  cases h with
  | nil => exact Nat.zero_le _
  | slice _ _ _ _ h _ => exact h

theorem wf_slice {t : Ty} {xs : List (Den t)} (h : wfD (.slice t) xs) : xs.length ≤ lenB := by
  obtain ⟨S, w, cs, h⟩ := h
  exact den_slice h
theorem wf_fst {a b : Ty} {x : Den a} {y : Den b} (h : wfD (.prod a b) (x, y)) : wfD a x := by
  obtain ⟨S, w, cs, h⟩ := h
  cases h with | prod h _ => exact ⟨_, _, _, h⟩
theorem wf_snd {a b : Ty} {x : Den a} {y : Den b} (h : wfD (.prod a b) (x, y)) : wfD b y := by
  obtain ⟨S, w, cs, h⟩ := h
  cases h with | prod _ h => exact ⟨_, _, _, h⟩

theorem loops63 (xs : List Int) (v : Int) (hx : xs.length ≤ lenB) : LoopsOK Try.prog 19 [loopN Try.f63 0] (Λ63 (xs, v, ())) := by
  refine .cons (L := loopSum ⟨[], [], 0⟩ (J63 xs v 0) (T63 xs v)) (by kernel_rfl) ?_ .nil
  exact loop_by (cfgOK CtrsOK.nil 19) mixed (J63 xs v) (fun _ => rfl) (inv63 xs v) (fun i => xs.length - i) (fun _ _ => none) (fun _ _ _ _ _ h => by cases h) (T63 xs v) [] [] 0 ⟨Nat.zero_le _, by simp⟩ L63 (fun i hi => step63 xs v hx i hi)

theorem run63 (xs : List Int) (v : Int) : (evFn (cfg [] 19) (Λ63 (xs, v, ())) Try.f63 (argsV ps63 (xs, v, ()))).sat fun v' rows => leV v' (spec63 (xs, v, ())).v ∧ rows = (spec63 (xs, v, ())).rows := by
  have h : ((noH0 fun _ => none) ∧
      (RowD.mk (.int .u8) xs = RowD.mk (.int .u8) xs ∧ v = v ∧ (xs.length : Int) = (xs.length : Int) ∧ (0 : Int) = ((0 : Nat) : Int) ∧ True) ∧ True) ∧
    (xs.contains v = true → idx xs v 0 = idx xs v 0 ∧ ([] : List RowD) = []) ∧ (xs.contains v = false → -1 = idx xs v 0 ∧ ([] : List RowD) = []) := by
    refine ⟨⟨rfl, ⟨rfl, rfl, rfl, rfl, trivial⟩, trivial⟩, fun _ => ⟨rfl, rfl⟩, fun h => ⟨?_, rfl⟩⟩
    rw [idx_none]
    simpa using h
  exact cast (by kernel_rfl) h

theorem ok63 : CtrOK Try.prog KK 63 (pureCtr KK ps63 spec63) := by
  refine pure_ok (C := cfg [] 19) (cfgOK CtrsOK.nil 19) mixed (fn := Try.f63) Try.func63 (by kernel_rfl) (by kernel_rfl) (by kernel_rfl) (Λ := Λ63) ?_ ?_ ?_
  · rintro ⟨xs, v, ⟨⟩⟩ hw _
    exact LoopsOK.at (by kernel_rfl) (loops63 xs v (wf_slice (wf_fst hw)))
  · rintro ⟨xs, v, ⟨⟩⟩
    exact (by decide : 2 ≤ 19)
  · rintro ⟨xs, v, ⟨⟩⟩ _ _
    exact run63 xs v

end Go.Proofs.Ytogdeefpidccmaa

/- The field layer: plain functions. -/
namespace Go.Proofs.Ytogdeefpidccmaa
open Go Go.Mir

abbrev K8 : Nat := 8
def cfg8 (l : Ctrs) (n : Nat) : Cfg := ⟨tbl, find l, K8, n⟩
def cf8 (l : Ctrs) (fn : Func) : Cfg := cfg8 l fn.ntmps
theorem cfg8OK {l : Ctrs} (h : CtrsOK Try.prog K8 l) (n : Nat) : CfgOK Try.prog (cfg8 l n) := ⟨tbl_ok, by show 1 ≤ K8; decide, h⟩

/-- slices in a result are rows, numbered as they come -/
def osls : Nat → List V → List V × List RowD
  | _, [] => ([], [])
  | k, .fsl t xs :: r => (.osl k k :: (osls (k + 1) r).1, ⟨t, xs⟩ :: (osls (k + 1) r).2)
  | k, v :: r => (v :: (osls k r).1, (osls k r).2)
/-- the same, where an empty slice is nil -/
def nils : Nat → List V → List V × List RowD
  | _, [] => ([], [])
  | k, .fsl _ [] :: r => (.nilsl :: (nils k r).1, (nils k r).2)
  | k, .fsl t (x :: xs) :: r => (.osl k k :: (nils (k + 1) r).1, ⟨t, x :: xs⟩ :: (nils (k + 1) r).2)
  | k, v :: r => (v :: (nils k r).1, (nils k r).2)
def rowI (x : Innings) : V := .agg (osls 0 (flat FUEL (.nm .Innings) x)).1
def rowsI (x : Innings) : List RowD := (osls 0 (flat FUEL (.nm .Innings) x)).2

def knownW (x : Innings) (p : Int) : Bool := decide (p ≥ 1) && decide (p ≤ (x.Subs.length : Int))
def subAt (x : Innings) (p : Int) : Bool := x.Subs.getD (p - 1).toNat false
def replacedW (x : Innings) (p : Int) : Bool := knownW x p && subAt x p
def covers (over : Int) (p : Phase) : Bool := decide (p.From ≤ IntKind.i64.wrap (over + 1)) && decide (IntKind.i64.wrap (over + 1) ≤ p.To)
def allowedW (r : Rules) (over : Int) : Int := ((r.Power.find? (covers over)).map Phase.Outside).getD r.Outside
def readyW (r : Rules) (x : Innings) : Int :=
  if !knownW x x.Keeper || replacedW x x.Keeper || x.Keeper == x.Bowler then 17 else if x.Outside > allowedW r x.Complete then 16 else 0
def named1 (x : Innings) (d : Delivery) : Int :=
  if d.Fielder > 0 then (if !knownW x d.Fielder then 3 else if replacedW x d.Fielder != d.Sub then 18 else 0) else 0
def named2 (x : Innings) (d : Delivery) : Int :=
  if d.Second > 0 then (if !knownW x d.Second then 3 else if replacedW x d.Second then 18 else 0) else 0
def namedW (x : Innings) (d : Delivery) : Int :=
  if named1 x d != 0 then named1 x d else if named2 x d != 0 then named2 x d
  else if d.How == 4 && maxI d.Fielder 0 != x.Keeper then 17 else 0
def hereQ (l : List Bool) (k : Nat) : Bool := !l.getD k false
def presentN (l : List Bool) (n : Nat) : List Int := ((List.range n).filter (hereQ l)).map fun k : Nat => (k : Int) + 1
def presentW (x : Innings) : List Int := presentN x.Subs x.Subs.length
def fewW (x : Innings) : Innings := { x with Batters := x.Batters.take 13, Bowlers := x.Bowlers.take 13, Before := x.Before.take 13, Bowled := x.Bowled.take 13, Subs := x.Subs.take 13 }

def keeperY (x : Innings) (p : Int) : Innings := if !knownW x p then x else if replacedW x p then x else if p == x.Bowler || p == x.Keeper then x else { x with Keeper := p }
def keeperL (x : Innings) (p : Int) : Int := if !knownW x p then 3 else if replacedW x p then 18 else if p == x.Bowler || p == x.Keeper then 17 else 0
def putSub (x : Innings) (p : Int) (on : Bool) : Innings :=
  { x with Subs := x.Subs.set (p - 1).toNat on, Keeper := bif on && x.Keeper == p then 0 else x.Keeper, Bowler := bif on && x.Bowler == p then 0 else x.Bowler }
def substY (x : Innings) (p : Int) (on : Bool) : Innings := if !knownW x p then x else if replacedW x p == on then x else putSub x p on
def substL (x : Innings) (p : Int) (on : Bool) : Int := if !knownW x p then 3 else if replacedW x p == on then 18 else 0
def tooFar (x : Innings) (n : Int) : Bool := decide (n < 0) || decide (n > (x.Subs.length : Int) - 2)
def outsideY (x : Innings) (n : Int) : Innings := if tooFar x n then x else { x with Outside := n }
def outsideL (x : Innings) (n : Int) : Int := if tooFar x n then 16 else 0
def eqLI (xs ys : List Int) : Bool := decide (xs = ys)

def smallI (x : Innings) : Prop := x.Batters.length ≤ 1000000 ∧ x.Bowlers.length ≤ 1000000 ∧ x.Before.length ≤ 1000000 ∧ x.Bowled.length ≤ 1000000 ∧ x.Subs.length ≤ 1000000

/-! ## specifications -/
def psI : Ty := .prod (.nm .Innings) .unit
def psII : Ty := .prod (.nm .Innings) (.prod (.int .i64) .unit)
def psIIB : Ty := .prod (.nm .Innings) (.prod (.int .i64) (.prod .bool .unit))
def psLI : Ty := .prod (.slice (.int .i64)) (.prod (.slice (.int .i64)) .unit)
def psR : Ty := .prod (.nm .Rules) (.prod (.int .i64) .unit)
def psRI : Ty := .prod (.nm .Rules) (.prod (.nm .Innings) .unit)
def psID : Ty := .prod (.nm .Innings) (.prod (.nm .Delivery) .unit)
def spec73 : Den psII → PRes := fun x => ⟨[], .bool (knownW x.1 x.2.1), []⟩
def spec74 : Den psII → PRes := fun x => ⟨[], .bool (replacedW x.1 x.2.1), []⟩
def spec75 : Den psR → PRes := fun x => ⟨[], .int .i64 (allowedW x.1 x.2.1), []⟩
def spec40 : Den psRI → PRes := fun x => ⟨[], .int .i64 (readyW x.1 x.2.1), []⟩
def spec42 : Den psID → PRes := fun x => ⟨[], .int .i64 (namedW x.1 x.2.1), []⟩
def spec38 : Den psI → PRes := fun x => ⟨[x.1.Subs.length ≤ 1000000], .osl 0 0, [⟨.int .i64, presentW x.1⟩]⟩
def spec33 : Den psI → PRes := fun x => ⟨[], .agg (flat FUEL (.nm .Innings) (fewW x.1)), []⟩
def spec78 : Den psI → PRes := fun x => ⟨[smallI x.1], rowI x.1, rowsI x.1⟩
def spec66 : Den psII → PRes := fun x => ⟨[smallI x.1], .tup [rowI (keeperY x.1 x.2.1), .int .i64 (keeperL x.1 x.2.1)], rowsI (keeperY x.1 x.2.1)⟩
def spec46 : Den psIIB → PRes := fun x => ⟨[smallI x.1], .tup [rowI (substY x.1 x.2.1 x.2.2.1), .int .i64 (substL x.1 x.2.1 x.2.2.1)], rowsI (substY x.1 x.2.1 x.2.2.1)⟩
def spec67 : Den psII → PRes := fun x => ⟨[smallI x.1], .tup [rowI (outsideY x.1 x.2.1), .int .i64 (outsideL x.1 x.2.1)], rowsI (outsideY x.1 x.2.1)⟩
def spec37 : Den psLI → PRes := fun x => ⟨[], .bool (eqLI x.1 x.2.1), []⟩
def ps45 : Ty := .prod (.slice .bool) .unit
def spec45 : Den ps45 → PRes := fun x => ⟨[x.1.length ≤ 1000000], .osl 0 0, [⟨.bool, x.1⟩]⟩
def ps90 : Ty := .prod (.slice (.int .u8)) .unit
def spec90 : Den ps90 → PRes := fun x => ⟨[x.1.length ≤ 1000000], .osl 0 0, [⟨.int .u8, x.1⟩]⟩
def ps91 : Ty := .prod (.slice (.int .i64)) .unit
def spec91 : Den ps91 → PRes := fun x => ⟨[x.1.length ≤ 1000000], .osl 0 0, [⟨.int .i64, x.1⟩]⟩
def ps0 : Ty := .unit
def zeroI : Innings := { Innings.zero with Subs := [false, false, false, false] }
def spec65 : Den ps0 → PRes := fun _ => ⟨[], rowI zeroI, rowsI zeroI⟩
def spec32 : Den ps0 → PRes := fun _ => ⟨[], .bool true, []⟩

def k73 : FuncId × Ctr := (73, pureCtr K8 psII spec73)
def k76 : FuncId × Ctr := (76, pureCtr K8 psII spec73)
def k74 : FuncId × Ctr := (74, pureCtr K8 psII spec74)
def k72 : FuncId × Ctr := (72, pureCtr K8 psII spec74)
def k75 : FuncId × Ctr := (75, pureCtr K8 psR spec75)
def k77 : FuncId × Ctr := (77, pureCtr K8 psR spec75)
def k40 : FuncId × Ctr := (40, pureCtr K8 psRI spec40)
def k41 : FuncId × Ctr := (41, pureCtr K8 psRI spec40)
def k42 : FuncId × Ctr := (42, pureCtr K8 psID spec42)
def k43 : FuncId × Ctr := (43, pureCtr K8 psID spec42)
def k38 : FuncId × Ctr := (38, pureCtr K8 psI spec38)
def k39 : FuncId × Ctr := (39, pureCtr K8 psI spec38)
def k33 : FuncId × Ctr := (33, pureCtr K8 psI spec33)
def k78 : FuncId × Ctr := (78, pureCtr K8 psI spec78)
def k44 : FuncId × Ctr := (44, pureCtr K8 psI spec78)
def k66 : FuncId × Ctr := (66, pureCtr K8 psII spec66)
def k68 : FuncId × Ctr := (68, pureCtr K8 psII spec66)
def k46 : FuncId × Ctr := (46, pureCtr K8 psIIB spec46)
def k69 : FuncId × Ctr := (69, pureCtr K8 psIIB spec46)
def k67 : FuncId × Ctr := (67, pureCtr K8 psII spec67)
def k70 : FuncId × Ctr := (70, pureCtr K8 psII spec67)
def k37 : FuncId × Ctr := (37, pureCtr K8 psLI spec37)
def k71 : FuncId × Ctr := (71, pureCtr K8 psLI spec37)
def k45 : FuncId × Ctr := (45, pureCtr K8 ps45 spec45)
def k90 : FuncId × Ctr := (90, pureCtr K8 ps90 spec90)
def k91 : FuncId × Ctr := (91, pureCtr K8 ps91 spec91)
def k65 : FuncId × Ctr := (65, pureCtr K8 ps0 spec65)
def psLV : Ty := .prod (.slice (.int .i64)) (.prod (.int .i64) .unit)
def hasLI (xs : List Int) (v : Int) : Bool := xs.contains v
def spec47 : Den psLV → PRes := fun x => ⟨[], .bool (hasLI x.1 x.2.1), []⟩
def spec79 : Den psLV → PRes := fun x => ⟨[], .int .i64 (idx x.1 x.2.1 0), []⟩
def k47 : FuncId × Ctr := (47, pureCtr K8 psLV spec47)
def k79 : FuncId × Ctr := (79, pureCtr K8 psLV spec79)
def k32 : FuncId × Ctr := (32, pureCtr K8 ps0 spec32)

/-! ## loops -/
def invE (xs ys : List Int) (i : Nat) : Prop := i ≤ xs.length ∧ xs.length = ys.length ∧ xs.take i = ys.take i
def LE (i : Nat) : List (Lspec Nat) := [.out [false] [] [], .next (i + 1) [] [], .out [true] [] []]
def T37 (xs ys : List Int) : Tr := .br (eqLI xs ys) (.leaf (.ext 0) ⟨[], []⟩ 72) (.leaf .ret ⟨[(4, .kb false)], []⟩ 72)
def J37 (xs ys : List Int) (i : Nat) : St := ⟨[(0, .fsl (.int .i64) xs), (1, .fsl (.int .i64) ys), (12, .int .i64 xs.length), (13, .int .i64 i)], [], fun _ => none, 72⟩
def Λ37 (xs ys : List Int) : Nat → Option LoopSum := find [(4, (loopSum ⟨[], [], 72⟩ (J37 xs ys 0) (T37 xs ys)).under (xs.length = ys.length))]

def inv79 (xs : List Int) (v : Int) (i : Nat) : Prop := i ≤ xs.length ∧ v ∉ xs.take i
def L79 (i : Nat) : List (Lspec Nat) := [.out [true] [] [], .next (i + 1) [] [], .out [false] [] []]
def J79 (xs : List Int) (v : Int) (i : Nat) : St := ⟨[(0, .fsl (.int .i64) xs), (1, .int .i64 v), (7, .int .i64 xs.length), (8, .int .i64 i)], [], fun _ => none, 0⟩
def T79 (xs : List Int) (v : Int) : Tr := .br (xs.contains v) (.leaf .ret ⟨[(4, .int .i64 (idx xs v 0))], []⟩ 0) (.leaf (.ext 0) ⟨[], []⟩ 0)
def Λ79 (xs : List Int) (v : Int) : Nat → Option LoopSum := find [(2, loopSum ⟨[], [], 0⟩ (J79 xs v 0) (T79 xs v))]

def inv38 (x : Innings) (i : Nat) : Prop := i ≤ x.Subs.length
def L38 (i : Nat) : List (Lspec Nat) := [.next (i + 1) [(57, 160)] [], .next (i + 1) [] [], .out [] [] []]
def T38 (x : Innings) : Tr := .leaf (.ext 0) ⟨[(3, .osl 56 57)], [(56, .row 57 true (.int .i64) (presentW x))]⟩ 64
def J38 (x : Innings) (i : Nat) : St := ⟨[(3, .osl 56 57), (7, .fsl .bool x.Subs), (8, .int .i64 x.Subs.length), (9, .int .i64 i)], [(56, .row 57 true (.int .i64) (presentN x.Subs i))], fun _ => none, 64⟩
def Λ38 (x : Innings) : Nat → Option LoopSum := find [(3, loopSum ⟨[], [56], 64⟩ (J38 x 0) (T38 x))]
def L39 (i : Nat) : List (Lspec Nat) := [.next (i + 1) [(33, 136)] [], .next (i + 1) [] [], .out [] [] []]
def T39 (x : Innings) : Tr := .leaf (.ext 0) ⟨[(3, .osl 32 33)], [(32, .row 33 true (.int .i64) (presentW x))]⟩ 40
def J39 (x : Innings) (i : Nat) : St := ⟨[(1, .ptr 0 0), (3, .osl 32 33), (4, .int .i64 ((i : Int) + 1))], [(32, .row 33 true (.int .i64) (presentN x.Subs i)), (0, .cells (flat FUEL (.nm .Innings) x))], fun _ => none, 40⟩
def Λ39 (x : Innings) : Nat → Option LoopSum := find [(3, loopSum ⟨[], [32], 40⟩ (J39 x 0) (T39 x))]

def inv75 (r : Rules) (o : Int) (i : Nat) : Prop := i ≤ r.Power.length ∧ ∀ p ∈ r.Power.take i, covers o p = false
def L75 (i : Nat) : List (Lspec Nat) := [.out [true] [] [], .next (i + 1) [] [], .out [false] [] []]
def T75 (r : Rules) (o : Int) : Tr := .br (r.Power.any (covers o)) (.leaf .ret ⟨[(4, .int .i64 (allowedW r o))], []⟩ 48) (.leaf (.ext 0) ⟨[(2, .ptr 0 0)], [(0, .cells (flat FUEL (.nm .Rules) r))]⟩ 48)
def J75 (r : Rules) (o : Int) (i : Nat) : St := ⟨[(1, .int .i64 o), (2, .ptr 0 0), (8, .fsl (.nm .Phase) r.Power), (9, .int .i64 r.Power.length), (10, .int .i64 i)], [(0, .cells (flat FUEL (.nm .Rules) r))], fun _ => none, 48⟩
def Λ75 (r : Rules) (o : Int) : Nat → Option LoopSum := find [(2, loopSum ⟨[], [], 48⟩ (J75 r o 0) (T75 r o))]

end Go.Proofs.Ytogdeefpidccmaa

/- Rules and bowlers: plain functions. -/
namespace Go.Proofs.Ytogdeefpidccmaa
open Go Go.Mir

def betweenW (n lo hi : Int) : Bool := decide (n ≥ lo) && decide (n ≤ hi)
def inRangeW (r : Rules) : Bool :=
  betweenW r.Side 2 11 && (betweenW r.Innings 1 2 && (betweenW r.Overs 0 90 && (betweenW r.Balls 4 8 && (betweenW r.Quota 0 90 && (betweenW r.Wide 1 5 && (betweenW r.NoBall 1 5 && (
  betweenW r.NewBall 0 200 && (betweenW r.FollowOn 0 1000 && (betweenW r.Reviews 0 9 && betweenW r.Outside 0 11)))))))))
def phaseAt (r : Rules) (i : Nat) : Phase := r.Power.getD i Phase.zero
def phaseBad (r : Rules) (p : Phase) : Bool := decide (p.From < 1) || (decide (p.From > p.To) || (decide (p.To > r.Overs) || !betweenW p.Outside 0 11))
def phErr (r : Rules) (i : Nat) : Int :=
  if phaseBad r (phaseAt r i) then 2 else if decide ((i : Int) > 0) && decide ((phaseAt r i).From ≤ (phaseAt r (i - 1)).To) then 8 else 0
def scanW (r : Rules) : Nat → Nat → Int
  | _, 0 => 0
  | i, n + 1 => if phErr r i != 0 then phErr r i else scanW r (i + 1) n
def phasesW (r : Rules) : Int := if (r.Power.length : Int) > 8 then 9 else scanW r 0 r.Power.length
def byteAt (s : ByteArray) (i : Nat) : Int := ((s.data.getD i 0).toNat : Int)
def letterW (c : Int) : Bool := decide (c ≥ 65) && decide (c ≤ 90)
def badCh (i : Int) (c : Int) : Bool := !letterW c && (i == 0 || (c != 95 && (c != 45 && (decide (c < 48) || decide (c > 57)))))
def nameW (s : ByteArray) : Bool := (List.range s.size).all (fun i => !badCh i (byteAt s i)) && (decide ((s.size : Int) ≥ 1) && decide ((s.size : Int) ≤ 16))

def ps97 : Ty := .prod (.int .i64) (.prod (.int .i64) (.prod (.int .i64) .unit))
def spec97 : Den ps97 → PRes := fun x => ⟨[], .bool (betweenW x.1 x.2.1 x.2.2.1), []⟩
def psRu : Ty := .prod (.nm .Rules) .unit
def spec93 : Den psRu → PRes := fun x => ⟨[], .bool (inRangeW x.1), []⟩
def spec94 : Den psRu → PRes := fun x => ⟨[], .int .i64 (phasesW x.1), []⟩
def psSt : Ty := .prod .str .unit
def spec95 : Den psSt → PRes := fun x => ⟨[], .bool (nameW x.1), []⟩
def knownB (x : Innings) (p : Int) : Bool := decide (p ≥ 1) && decide (p ≤ (x.Bowled.length : Int))
def spec84 : Den psII → PRes := fun x => ⟨[], .bool (knownB x.1 x.2.1), []⟩
def k97 : FuncId × Ctr := (97, pureCtr K8 ps97 spec97)
def k96 : FuncId × Ctr := (96, pureCtr K8 ps97 spec97)
def k93 : FuncId × Ctr := (93, pureCtr K8 psRu spec93)
def k94 : FuncId × Ctr := (94, pureCtr K8 psRu spec94)
def k95 : FuncId × Ctr := (95, pureCtr K8 psSt spec95)
def k92 : FuncId × Ctr := (92, pureCtr K8 psSt spec95)
def k84 : FuncId × Ctr := (84, pureCtr K8 psII spec84)
def k87 : FuncId × Ctr := (87, pureCtr K8 psII spec84)
def k83 : FuncId × Ctr := (83, pureCtr K8 psI spec78)
def k88 : FuncId × Ctr := (88, pureCtr K8 psLV spec47)

/-! ## loops -/
def inv88 (xs : List Int) (v : Int) (i : Nat) : Prop := i ≤ xs.length ∧ v ∉ xs.take i
def L88 (i : Nat) : List (Lspec Nat) := [.out [true] [] [], .next (i + 1) [] [], .out [false] [] []]
def J88 (xs : List Int) (v : Int) (i : Nat) : St := ⟨[(1, .int .i64 v), (7, .fsl (.int .i64) xs), (8, .int .i64 xs.length), (9, .int .i64 i)], [], fun _ => none, 0⟩
def T88 (xs : List Int) (v : Int) : Tr := .br (xs.contains v) (.leaf .ret ⟨[(4, .kb true)], []⟩ 0) (.leaf (.ext 0) ⟨[], []⟩ 0)
def Λ88 (xs : List Int) (v : Int) : Nat → Option LoopSum := find [(2, loopSum ⟨[], [], 0⟩ (J88 xs v 0) (T88 xs v))]

def inv94 (r : Rules) (i : Nat) : Prop := i ≤ r.Power.length ∧ scanW r 0 r.Power.length = scanW r i (r.Power.length - i)
def L94 (i : Nat) : List (Lspec Nat) := [.out [true] [] [], .out [true] [] [], .next (i + 1) [] [], .out [false] [] []]
def J94 (r : Rules) (i : Nat) : St := ⟨[(1, .ptr 0 0), (10, .fsl (.nm .Phase) r.Power), (11, .int .i64 r.Power.length), (12, .int .i64 i)], [(0, .cells (flat FUEL (.nm .Rules) r))], fun _ => none, 8⟩
def T94 (r : Rules) : Tr := .br (scanW r 0 r.Power.length != 0) (.leaf .ret ⟨[(2, .int .i64 (scanW r 0 r.Power.length))], []⟩ 8) (.leaf (.ext 0) ⟨[], []⟩ 8)
def Λ94 (r : Rules) : Nat → Option LoopSum := find [(4, loopSum ⟨[], [], 8⟩ (J94 r 0) (T94 r))]

def goodTo (s : ByteArray) (i : Nat) : Bool := (List.range i).all (fun k => !badCh k (byteAt s k))
def inv95 (s : ByteArray) (i : Nat) : Prop := i ≤ s.size ∧ goodTo s i = true
def L95 (i : Nat) : List (Lspec Nat) := [.out [false] [] [], .next (i + 1) [] [], .out [true] [] []]
def J95 (s : ByteArray) (i : Nat) : St := ⟨[(0, .str s), (3, .int .i64 i)], [], fun _ => none, 0⟩
def T95 (s : ByteArray) : Tr := .br (goodTo s s.size) (.leaf (.ext 0) ⟨[], []⟩ 0) (.leaf .ret ⟨[(2, .kb false)], []⟩ 0)
def Λ95 (s : ByteArray) : Nat → Option LoopSum := find [(4, loopSum ⟨[], [], 0⟩ (J95 s 0) (T95 s))]

end Go.Proofs.Ytogdeefpidccmaa

/- Rules and bowlers, second part: plain functions. -/
namespace Go.Proofs.Ytogdeefpidccmaa
open Go Go.Mir

def argBad (r : Rules) : Bool := (r.FollowOn != 0 && r.Innings == 1) || ((r.Quota != 0 || decide ((r.Power.length : Int) > 0)) && r.Overs == 0)
def conflW (r : Rules) : Bool := r.Quota != 0 && decide (IntKind.i64.wrap (r.Quota * r.Side) < r.Overs)
def checkW (r : Rules) : Int := if !nameW r.Name then 5 else if !inRangeW r then 2 else if argBad r then 1 else if conflW r then 13 else phasesW r
def spec85 : Den psRu → PRes := fun x => ⟨[], .int .i64 (checkW x.1), []⟩
def k85 : FuncId × Ctr := (85, pureCtr K8 psRu spec85)
def k86 : FuncId × Ctr := (86, pureCtr K8 psRu spec85)

def psRIP : Ty := .prod (.nm .Rules) (.prod (.nm .Innings) (.prod (.int .i64) .unit))
def roomW (r : Rules) (x : Innings) (p : Int) : Int :=
  if !knownB x p || checkW r != 0 then 0 else if r.Quota == 0 then -1
  else maxI (IntKind.i64.wrap (IntKind.i64.wrap (r.Quota * r.Balls) - maxI (x.Bowled.getD (p - 1).toNat 0) 0)) 0
def spec81 : Den psRIP → PRes := fun x => ⟨[], .int .i64 (roomW x.1 x.2.1 x.2.2.1), []⟩
def k81 : FuncId × Ctr := (81, pureCtr K8 psRIP spec81)
def J86 (r : Rules) (i : Nat) : St := ⟨[(1, .ptr 0 0), (115, .fsl (.nm .Phase) r.Power), (116, .int .i64 r.Power.length), (117, .int .i64 i)], [(0, .cells (flat FUEL (.nm .Rules) r))], fun _ => none, 8⟩
def Λ86 (r : Rules) : Nat → Option LoopSum := find [(12, loopSum ⟨[], [], 8⟩ (J86 r 0) (T94 r))]

end Go.Proofs.Ytogdeefpidccmaa

/- Bowlers: plain functions. -/
namespace Go.Proofs.Ytogdeefpidccmaa
open Go Go.Mir

def mayW (r : Rules) (x : Innings) (p : Int) : Int :=
  if !knownB x p || checkW r != 0 then 3
  else if p == x.Keeper || (p == x.Bowler || replacedW x p) then 7
  else if hasLI x.Before p then 8
  else if roomW r x p != -1 && decide (x.InOver < IntKind.i64.wrap (r.Balls - roomW r x p)) then 9 else 0
def spec82 : Den psRIP → PRes := fun x => ⟨[], .int .i64 (mayW x.1 x.2.1 x.2.2.1), []⟩
def k82 : FuncId × Ctr := (82, pureCtr K8 psRIP spec82)
def takeY (r : Rules) (x : Innings) (p : Int) : Innings := if mayW r x p == 0 then { x with Bowler := p } else x
def spec50 : Den psRIP → PRes := fun x => ⟨[smallI x.2.1], .tup [rowI (takeY x.1 x.2.1 x.2.2.1), .int .i64 (mayW x.1 x.2.1 x.2.2.1)], rowsI (takeY x.1 x.2.1 x.2.2.1)⟩
def k50 : FuncId × Ctr := (50, pureCtr K8 psRIP spec50)
def noNew (r : Rules) (x : Innings) : Bool := checkW r != 0 || (r.NewBall == 0 || decide (x.BallAge < IntKind.i64.wrap (r.NewBall * r.Balls)))
def newY (r : Rules) (x : Innings) : Innings := if noNew r x then x else { x with BallAge := 0 }
def newL (r : Rules) (x : Innings) : Int := if noNew r x then 22 else 0
def spec55 : Den psRI → PRes := fun x => ⟨[smallI x.2.1], .tup [rowI (newY x.1 x.2.1), .int .i64 (newL x.1 x.2.1)], rowsI (newY x.1 x.2.1)⟩
def k55 : FuncId × Ctr := (55, pureCtr K8 psRI spec55)
def k56 : FuncId × Ctr := (56, pureCtr K8 psRI spec55)

def bowlersW (x : Innings) : List Int := if hasLI x.Bowlers x.Bowler then x.Bowlers else x.Bowlers ++ [x.Bowler]
def bumpW (x : Innings) : List Int := x.Bowled.set (x.Bowler - 1).toNat (IntKind.i64.wrap (x.Bowled.getD (x.Bowler - 1).toNat 0 + 1))
def countW (x : Innings) (c : Bool) : Innings :=
  if c then { x with Bowlers := bowlersW x, Bowled := bumpW x, InOver := IntKind.i64.wrap (x.InOver + 1), BallAge := IntKind.i64.wrap (x.BallAge + 1) } else { x with Bowlers := bowlersW x }
def overW (y : Innings) : Innings := { y with Complete := IntKind.i64.wrap (y.Complete + 1), InOver := 0, Before := y.Bowlers, Bowlers := [], Bowler := 0 }
def noBall (r : Rules) (x : Innings) : Bool := !knownB x x.Bowler || checkW r != 0
def ballY (r : Rules) (x : Innings) (c : Bool) : Innings := if noBall r x then x else if (countW x c).InOver < r.Balls then countW x c else overW (countW x c)
def ballO (r : Rules) (x : Innings) (c : Bool) : Bool := if noBall r x then false else if (countW x c).InOver < r.Balls then false else true
def psRIB : Ty := .prod (.nm .Rules) (.prod (.nm .Innings) (.prod .bool .unit))
def spec51 : Den psRIB → PRes := fun x => ⟨[smallI x.2.1], .tup [rowI (ballY x.1 x.2.1 x.2.2.1), .bool (ballO x.1 x.2.1 x.2.2.1)], rowsI (ballY x.1 x.2.1 x.2.2.1)⟩
def k51 : FuncId × Ctr := (51, pureCtr K8 psRIB spec51)
def k54 : FuncId × Ctr := (54, pureCtr K8 psRIB spec51)

end Go.Proofs.Ytogdeefpidccmaa

/- Bowlers, second part: plain functions. -/
namespace Go.Proofs.Ytogdeefpidccmaa
open Go Go.Mir

def quotaR : Rules := ⟨{ data := #[82] }, 4, 1, 8, 6, 2, 1, 1, false, 0, 0, 0, 0, []⟩
def spec49 : Den ps0 → PRes := fun _ => ⟨[], .agg (osls 0 (flat FUEL (.nm .Rules) quotaR)).1, (osls 0 (flat FUEL (.nm .Rules) quotaR)).2⟩
def k49 : FuncId × Ctr := (49, pureCtr K8 ps0 spec49)
def name20 (s : ByteArray) : ByteArray := s.extract 0 (if (20 : Int) < (s.size : Int) then (20 : Int) else (s.size : Int)).toNat
def boundW (r : Rules) : Rules := { r with Name := name20 r.Name, Power := r.Power.take 10 }
def spec52 : Den psRu → PRes := fun x => ⟨[], .agg (flat FUEL (.nm .Rules) (boundW x.1)), []⟩
def k52 : FuncId × Ctr := (52, pureCtr K8 psRu spec52)
def k53 : FuncId × Ctr := (53, pureCtr K8 psI spec33)
def ableN (r : Rules) (x : Innings) (n : Nat) : List Int := ((List.range n).filter fun i : Nat => mayW r x ((i : Int) + 1) == 0).map fun k : Nat => (k : Int) + 1
def ableW (r : Rules) (x : Innings) : List Int := ableN r x x.Bowled.length
def spec80 : Den psRI → PRes := fun x => ⟨[x.2.1.Bowled.length ≤ 1000000], .osl 0 0, [⟨.int .i64, ableW x.1 x.2.1⟩]⟩
def k80 : FuncId × Ctr := (80, pureCtr K8 psRI spec80)

def inv80 (x : Innings) (i : Nat) : Prop := i ≤ x.Bowled.length
def L80 (i : Nat) : List (Lspec Nat) := [.next (i + 1) [(65, 176)] [], .next (i + 1) [] [], .out [] [] []]
def J80 (r : Rules) (x : Innings) (i : Nat) : St := ⟨[(2, .ptr 0 0), (3, .ptr 8 0), (5, .osl 64 65), (9, .int .i64 x.Bowled.length), (10, .int .i64 i)],
  [(64, .row 65 true (.int .i64) (ableN r x i)), (0, .cells (flat FUEL (.nm .Rules) r)), (8, .cells (flat FUEL (.nm .Innings) x))], fun _ => none, 72⟩
def T80 (r : Rules) (x : Innings) : Tr := .leaf (.ext 0) ⟨[(5, .osl 64 65)], [(64, .row 65 true (.int .i64) (ableW r x))]⟩ 72
def Λ80 (r : Rules) (x : Innings) : Nat → Option LoopSum := find [(3, loopSum ⟨[], [64], 72⟩ (J80 r x 0) (T80 r x))]

end Go.Proofs.Ytogdeefpidccmaa

/- The field layer: equal states, acts: plain functions. -/
namespace Go.Proofs.Ytogdeefpidccmaa
open Go Go.Mir

def eqLB (xs ys : List Bool) : Bool := decide (xs = ys)
/-- all that is compared at the end -/
def restW (a b : Innings) : Bool :=
  a.Side == b.Side && (a.Target == b.Target && (a.Overs == b.Overs && (a.Runs == b.Runs && (a.Wickets == b.Wickets && (
  (a.Extras.Wides == b.Extras.Wides && (a.Extras.NoBalls == b.Extras.NoBalls && (a.Extras.Byes == b.Extras.Byes && (a.Extras.LegByes == b.Extras.LegByes && (a.Extras.Penalties == b.Extras.Penalties && true))))) && (
  a.Complete == b.Complete && (a.InOver == b.InOver && (a.Striker == b.Striker && (a.Other == b.Other && (a.Bowler == b.Bowler && (a.Fresh == b.Fresh && (a.FreeHit == b.FreeHit && (a.BallAge == b.BallAge && (
  a.Keeper == b.Keeper && (a.Outside == b.Outside && (a.Reviews.1 == b.Reviews.1 && (a.Reviews.2.1 == b.Reviews.2.1 && a.Ending == b.Ending)))))))))))))))))
def sameW (a b : Innings) : Bool :=
  eqLI a.Bowlers b.Bowlers && (eqLI a.Before b.Before && (eqLI a.Bowled b.Bowled && (eqLI a.Batters b.Batters && (eqLB a.Subs b.Subs && restW a b))))
def psSS : Ty := .prod (.nm .Innings) (.prod (.nm .Innings) .unit)
def spec36 : Den psSS → PRes := fun x => ⟨[], .bool (sameW x.1 x.2.1), []⟩
def actY (x : Innings) (a : law11_Act) : Innings := if a.Kind.tmod 3 == 0 then keeperY x a.N else if a.Kind.tmod 3 == 1 then substY x a.N a.On else outsideY x a.N
def actL (x : Innings) (a : law11_Act) : Int := if a.Kind.tmod 3 == 0 then keeperL x a.N else if a.Kind.tmod 3 == 1 then substL x a.N a.On else outsideL x a.N
def psIA : Ty := .prod (.nm .Innings) (.prod (.nm .law11_Act) .unit)
def spec34 : Den psIA → PRes := fun x => ⟨[smallI x.1], .tup [rowI (actY x.1 x.2.1), .int .i64 (actL x.1 x.2.1)], rowsI (actY x.1 x.2.1)⟩

def k36 : FuncId × Ctr := (36, pureCtr K8 psSS spec36)
def k34 : FuncId × Ctr := (34, pureCtr K8 psIA spec34)
def k35 : FuncId × Ctr := (35, pureCtr K8 psIA spec34)

/-! ## loops -/
def J36 (a b : Innings) (i : Nat) : St := ⟨[(2, .ptr 0 0), (3, .ptr 8 0), (49, .int .i64 a.Batters.length), (50, .int .i64 i)], [(0, .cells (flat FUEL (.nm .Innings) a)), (8, .cells (flat FUEL (.nm .Innings) b))], fun _ => none, 376⟩
def T36 (a b : Innings) : Tr := .br (eqLI a.Batters b.Batters) (.leaf (.ext 0) ⟨[(2, .ptr 0 0), (3, .ptr 8 0)], [(0, .cells (flat FUEL (.nm .Innings) a)), (8, .cells (flat FUEL (.nm .Innings) b))]⟩ 376) (.leaf .ret ⟨[(4, .kb false)], []⟩ 376)
def inv36 (a b : Innings) (i : Nat) : Prop := invE a.Batters b.Batters i
def J36b (a b : Innings) (i : Nat) : St := ⟨[(2, .ptr 0 0), (3, .ptr 8 0), (67, .int .i64 a.Subs.length), (68, .int .i64 i)], [(0, .cells (flat FUEL (.nm .Innings) a)), (8, .cells (flat FUEL (.nm .Innings) b))], fun _ => none, 408⟩
def T36b (a b : Innings) : Tr := .br (eqLB a.Subs b.Subs) (.leaf (.ext 2) ⟨[(2, .ptr 0 0), (3, .ptr 8 0)], [(0, .cells (flat FUEL (.nm .Innings) a)), (8, .cells (flat FUEL (.nm .Innings) b))]⟩ 408) (.leaf .ret ⟨[(4, .kb false)], []⟩ 408)
def inv36b (a b : Innings) (i : Nat) : Prop := i ≤ a.Subs.length ∧ a.Subs.length = b.Subs.length ∧ a.Subs.take i = b.Subs.take i
def Λ36 (a b : Innings) : Nat → Option LoopSum := find [(4, (loopSum ⟨[], [], 376⟩ (J36 a b 0) (T36 a b)).under (a.Batters.length = b.Batters.length)), (10, (loopSum ⟨[], [], 408⟩ (J36b a b 0) (T36b a b)).under (a.Subs.length = b.Subs.length))]

end Go.Proofs.Ytogdeefpidccmaa

/- FieldKeeps: states of its loop. -/
namespace Go.Proofs.Ytogdeefpidccmaa
open Go Go.Mir

/-- the cells of a state whose slices are rows, numbered from k on; and these rows -/
def rowC (k : Nat) (x : Innings) : List V := (osls k (flat FUEL (.nm .Innings) x)).1
def flipN (l : List Bool) (i : Nat) : List Bool := (l.take i).map (fun b => !b) ++ l.drop i
def heap11 (y z : Innings) (s : List Bool) : List (Nat × Blk) :=
  [(248, .row 248 true .bool z.Subs), (144, .cells (rowC 112 z)), (112, .row 112 true (.int .u8) z.Batters), (113, .row 113 true (.int .i64) z.Bowlers), (114, .row 114 true (.int .i64) z.Before), (115, .row 115 true (.int .i64) z.Bowled), (116, .row 116 true .bool s),
   (80, .cells (rowC 72 y)), (72, .row 72 true (.int .u8) y.Batters), (73, .row 73 true (.int .i64) y.Bowlers), (74, .row 74 true (.int .i64) y.Before), (75, .row 75 true (.int .i64) y.Bowled), (76, .row 76 true .bool y.Subs), (0, .cells (flat FUEL (.nm .Innings) y))]
def J11 (y z : Innings) (i : Nat) : St := ⟨[(2, .ptr 0 0), (5, .ptr 80 0), (6, .ptr 144 0), (8, .osl 248 248), (43, .int .i64 z.Subs.length), (44, .int .i64 i)], heap11 y z (flipN z.Subs i), fun _ => none, 288⟩
def T11 (y z : Innings) : Tr := .leaf (.ext 0) ⟨[(2, .ptr 0 0), (5, .ptr 80 0), (6, .ptr 144 0), (8, .osl 248 248)], heap11 y z (flipN z.Subs z.Subs.length)⟩ 288
def inv11 (z : Innings) (i : Nat) : Prop := i ≤ z.Subs.length
def L11 (i : Nat) : List (Lspec Nat) := [.next (i + 1) [] [], .out [] [] []]
def Λ11 (x : Innings) (a : law11_Act) : Nat → Option LoopSum := find [(10, loopSum ⟨[], [], 288⟩ (J11 (fewW x) (actY (fewW x) a) 0) (T11 (fewW x) (actY (fewW x) a)))]

end Go.Proofs.Ytogdeefpidccmaa

/- The dismissal layer: the table and what is looked up in it: plain functions. -/
namespace Go.Proofs.Ytogdeefpidccmaa
open Go Go.Mir

def wtab : List dismissal_way :=
  [{ how := 0, name := { data := #[78, 79, 84, 79, 85, 84] }, fair := false, wide := false, no := false, fielder := false, either := false },
   { how := 1, name := { data := #[66, 79, 87, 76, 69, 68] }, fair := true, wide := false, no := false, fielder := false, either := false },
   { how := 2, name := { data := #[67, 65, 85, 71, 72, 84] }, fair := true, wide := false, no := false, fielder := true, either := false },
   { how := 3, name := { data := #[76, 66, 87] }, fair := true, wide := false, no := false, fielder := false, either := false },
   { how := 4, name := { data := #[83, 84, 85, 77, 80, 69, 68] }, fair := true, wide := true, no := false, fielder := true, either := false },
   { how := 5, name := { data := #[72, 73, 84, 87, 73, 67, 75, 69, 84] }, fair := true, wide := true, no := false, fielder := false, either := false },
   { how := 6, name := { data := #[82, 85, 78, 79, 85, 84] }, fair := true, wide := true, no := true, fielder := true, either := true },
   { how := 7, name := { data := #[72, 73, 84, 84, 87, 73, 67, 69] }, fair := true, wide := false, no := true, fielder := false, either := false },
   { how := 8, name := { data := #[79, 66, 83, 84, 82, 85, 67, 84, 73, 78, 71] }, fair := true, wide := true, no := true, fielder := false, either := true },
   { how := 9, name := { data := #[84, 73, 77, 69, 68, 79, 85, 84] }, fair := false, wide := false, no := false, fielder := false, either := false },
   { how := 10, name := { data := #[82, 69, 84, 73, 82, 69, 68] }, fair := false, wide := false, no := false, fielder := false, either := false }]

def onW (w : dismissal_way) (t : Int) : Bool := (t == 1 && w.fair) || (t == 2 && w.wide) || (t == 3 && w.no)
def ofW (h : Int) : dismissal_way := (wtab.find? fun w => w.how == h).getD dismissal_way.zero
def freeW (w : dismissal_way) (t : Int) (free : Bool) : Bool := onW w t && (!free || w.how == 6 || w.how == 7 || w.how == 8)
def waysW (t : Int) (free : Bool) : List Int := (wtab.filter fun w => freeW w t free).map dismissal_way.how
def player (n : Int) : Bool := decide (n ≥ 1) && decide (n ≤ 11)
def fieldersW (d : Delivery) (w : dismissal_way) : Bool :=
  !((w.fielder != player d.Fielder) || (!w.fielder && d.Fielder != 0)) && (d.Second == 0 || (d.How == 6 && player d.Second && d.Second != d.Fielder))
def possibleW (d : Delivery) (free : Bool) : Int :=
  if d.How == 0 then (if d.Victim != 0 then 14 else if d.Fielder != 0 || d.Second != 0 || d.Sub then 15 else 0)
  else if !(waysW d.Typ free).contains d.How then 13
  else if !(d.How == 6 || d.How == 8) && (d.Source != 0 || d.Runs != 0) then 12
  else if d.Victim != 1 && (d.Victim != 2 || !(ofW d.How).either) then 14
  else if !fieldersW d (ofW d.How) then 15
  else if d.Sub && d.How != 2 && d.How != 6 then 18
  else 0

/-! the reference -/
def onFreeR (h : Int) : Bool := h == 6 || h == 7 || h == 8
def onR (h t : Int) : Bool :=
  if h == 1 || h == 2 || h == 3 then t == 1
  else if h == 4 || h == 5 then t == 1 || t == 2
  else if h == 7 then t == 1 || t == 3
  else if h == 6 || h == 8 then t == 1 || t == 2 || t == 3
  else false
def isRun (h : Int) : Bool := h == 6
def oneR (h : Int) : Bool := h == 2 || h == 4 || h == 6
def possibleR (d : Delivery) (free : Bool) : Int :=
  if d.How == 0 then (if d.Victim != 0 then 14 else if d.Fielder != 0 || d.Second != 0 || d.Sub then 15 else 0)
  else if !onR d.How d.Typ || (free && !onFreeR d.How) then 13
  else if !(d.How == 6 || d.How == 8) && (d.Source != 0 || d.Runs != 0) then 12
  else if d.Victim != 1 && !(d.Victim == 2 && (d.How == 6 || d.How == 8)) then 14
  else if (oneR d.How && (decide (d.Fielder < 1) || decide (d.Fielder > 11))) || (!oneR d.How && d.Fielder != 0) then 15
  else if d.Second != 0 && (!(d.How == 6) || decide (d.Second < 1) || decide (d.Second > 11) || d.Second == d.Fielder) then 15
  else if d.Sub && d.How != 2 && d.How != 6 then 18
  else 0

def hasI (xs : List Int) (v : Int) : Bool := xs.contains v

/-! ## specifications -/
def ps61 : Ty := .unit
def spec61 : Den ps61 → PRes := fun _ => ⟨[], .osl 0 0, [⟨.nm .dismissal_way, wtab⟩]⟩
def ps62 : Ty := .prod (.nm .dismissal_way) (.prod (.int .u8) .unit)
def spec62 : Den ps62 → PRes := fun x => ⟨[], .bool (onW x.1 x.2.1), []⟩
def ps57 : Ty := .prod (.int .u8) .unit
def spec57 : Den ps57 → PRes := fun x => ⟨[], .agg (flat FUEL (.nm .dismissal_way) (ofW x.1)), []⟩
def ps20 : Ty := .prod (.int .u8) (.prod .bool .unit)
def spec20 : Den ps20 → PRes := fun x => ⟨[], .osl 0 0, [⟨.int .u8, waysW x.1 x.2.1⟩]⟩
def ps21 : Ty := ps63
def spec21 : Den ps21 → PRes := fun x => ⟨[], .bool (hasI x.1 x.2.1), []⟩
def ps89 : Ty := .prod (.int .i64) .unit
def spec89 : Den ps89 → PRes := fun x => ⟨[], .bool (player x.1), []⟩
def ps58 : Ty := .prod (.nm .Delivery) (.prod (.nm .dismissal_way) .unit)
def spec58 : Den ps58 → PRes := fun x => ⟨[], .bool (fieldersW x.1 x.2.1), []⟩
def psP : Ty := .prod (.nm .Delivery) (.prod .bool .unit)
def spec17 : Den psP → PRes := fun x => ⟨[], .int .i64 (possibleW x.1 x.2.1), []⟩
def spec18 : Den psP → PRes := fun x => ⟨[], .int .i64 (possibleR x.1 x.2.1), []⟩
def spec60 : Den ps57 → PRes := fun x => ⟨[], .bool (onFreeR x.1), []⟩
def psOn : Ty := .prod (.int .u8) (.prod (.int .u8) .unit)
def spec59 : Den psOn → PRes := fun x => ⟨[], .bool (onR x.1 x.2.1), []⟩
def spec29 : Den ps57 → PRes := fun x => ⟨[], .tup [.bool (oneR x.1), .bool (oneR x.1), .bool (isRun x.1)], []⟩
def spec25 : Den ps57 → PRes := fun x => ⟨[], .str (ofW x.1).name, []⟩
def spec16 : Den ps61 → PRes := fun _ => ⟨[], .bool true, []⟩

def k61 : FuncId × Ctr := (61, pureCtr KK ps61 spec61)
def k62 : FuncId × Ctr := (62, pureCtr KK ps62 spec62)
def k57 : FuncId × Ctr := (57, pureCtr KK ps57 spec57)
def k20 : FuncId × Ctr := (20, pureCtr KK ps20 spec20)
def k63 : FuncId × Ctr := (63, pureCtr KK ps63 spec63)
def k21 : FuncId × Ctr := (21, pureCtr KK ps21 spec21)
def k89 : FuncId × Ctr := (89, pureCtr KK ps89 spec89)
def k58 : FuncId × Ctr := (58, pureCtr KK ps58 spec58)
def k17 : FuncId × Ctr := (17, pureCtr KK psP spec17)
def k18 : FuncId × Ctr := (18, pureCtr KK psP spec18)
def k60 : FuncId × Ctr := (60, pureCtr KK ps57 spec60)
def k59 : FuncId × Ctr := (59, pureCtr KK psOn spec59)
def k29 : FuncId × Ctr := (29, pureCtr KK ps57 spec29)
def k25 : FuncId × Ctr := (25, pureCtr KK ps57 spec25)
def k16 : FuncId × Ctr := (16, pureCtr KK ps61 spec16)

/-! ## loops -/
def J57 (h : Int) (i : Nat) : St := ⟨[(0, .int .u8 h), (2, .ptr 0 0), (5, .osl 4 4), (6, .int .i64 wtab.length), (7, .int .i64 i)],
  [(4, .row 4 true (.nm .dismissal_way) wtab), (0, .cells (flat FUEL (.nm .dismissal_way) dismissal_way.zero))], fun _ => none, 16⟩
def T57 (h : Int) : Tr := .br (wtab.any fun w => w.how == h) (.leaf .ret ⟨[(2, .ptr 0 0)], [(0, .cells (flat FUEL (.nm .dismissal_way) (ofW h)))]⟩ 16)
  (.leaf (.ext 0) ⟨[(2, .ptr 0 0)], [(0, .cells (flat FUEL (.nm .dismissal_way) dismissal_way.zero))]⟩ 16)
def inv57 (h : Int) (i : Nat) : Prop := i ≤ 11 ∧ ∀ w ∈ wtab.take i, (w.how == h) = false
def L57 (i : Nat) : List (Lspec Nat) := [.out [true] [] [], .next (i + 1) [] [], .out [false] [] []]
def Λ57 (h : Int) : Nat → Option LoopSum := find [(2, loopSum ⟨[], [], 16⟩ (J57 h 0) (T57 h))]

def waysUp (t : Int) (free : Bool) (i : Nat) : List Int := ((wtab.take i).filter fun w => freeW w t free).map dismissal_way.how
def J20 (t : Int) (free : Bool) (i : Nat) : St := ⟨[(0, .int .u8 t), (1, .bool free), (5, .osl 16 17), (8, .osl 8 8), (9, .int .i64 wtab.length), (10, .int .i64 i)],
  [(8, .row 8 true (.nm .dismissal_way) wtab), (16, .row 17 true (.int .u8) (waysUp t free i))], fun _ => none, 20⟩
def T20 (t : Int) (free : Bool) : Tr := .leaf (.ext 0) ⟨[(5, .osl 16 17)], [(16, .row 17 true (.int .u8) (waysW t free))]⟩ 20
def L20 (i : Nat) : List (Lspec Nat) := [.next (i + 1) [(17, 144)] [], .next (i + 1) [] [], .out [] [] []]
def inv20 (i : Nat) : Prop := i ≤ 11
def Λ20 (t : Int) (free : Bool) : Nat → Option LoopSum := find [(3, loopSum ⟨[], [16], 20⟩ (J20 t free 0) (T20 t free))]

end Go.Proofs.Ytogdeefpidccmaa

/- The dismissal layer: contracts. -/
namespace Go.Proofs.Ytogdeefpidccmaa
open Go Go.Mir
attribute [local irreducible] Go.Mir.RT.sat Go.Mir.evFn Go.Mir.stepObl
theorem run61  : (evFn (cfgF [] Try.f61) (fun _ => none) Try.f61 (argsV ps61 ())).sat fun v' rows => leV v' (spec61 ()).v ∧ rows = (spec61 ()).rows := by
  refine cast (by kernel_rfl) (?_ : (nat_lit 0 = nat_lit 0 ∧ nat_lit 0 = nat_lit 0) ∧ [RowD.mk (Ty.nm Nm.dismissal_way) [dismissal_way.mk (0 : Int) (ByteArray.mk #[(78 : UInt8), (79 : UInt8), (84 : UInt8), (79 : UInt8), (85 : UInt8), (84 : UInt8)]) false false false false false, dismissal_way.mk (1 : Int) (ByteArray.mk #[(66 : UInt8), (79 : UInt8), (87 : UInt8), (76 : UInt8), (69 : UInt8), (68 : UInt8)]) true false false false false, dismissal_way.mk (2 : Int) (ByteArray.mk #[(67 : UInt8), (65 : UInt8), (85 : UInt8), (71 : UInt8), (72 : UInt8), (84 : UInt8)]) true false false true false, dismissal_way.mk (3 : Int) (ByteArray.mk #[(76 : UInt8), (66 : UInt8), (87 : UInt8)]) true false false false false, dismissal_way.mk (4 : Int) (ByteArray.mk #[(83 : UInt8), (84 : UInt8), (85 : UInt8), (77 : UInt8), (80 : UInt8), (69 : UInt8), (68 : UInt8)]) true true false true false, dismissal_way.mk (5 : Int) (ByteArray.mk #[(72 : UInt8), (73 : UInt8), (84 : UInt8), (87 : UInt8), (73 : UInt8), (67 : UInt8), (75 : UInt8), (69 : UInt8), (84 : UInt8)]) true true false false false, dismissal_way.mk (6 : Int) (ByteArray.mk #[(82 : UInt8), (85 : UInt8), (78 : UInt8), (79 : UInt8), (85 : UInt8), (84 : UInt8)]) true true true true true, dismissal_way.mk (7 : Int) (ByteArray.mk #[(72 : UInt8), (73 : UInt8), (84 : UInt8), (84 : UInt8), (87 : UInt8), (73 : UInt8), (67 : UInt8), (69 : UInt8)]) true false true false false, dismissal_way.mk (8 : Int) (ByteArray.mk #[(79 : UInt8), (66 : UInt8), (83 : UInt8), (84 : UInt8), (82 : UInt8), (85 : UInt8), (67 : UInt8), (84 : UInt8), (73 : UInt8), (78 : UInt8), (71 : UInt8)]) true true true false true, dismissal_way.mk (9 : Int) (ByteArray.mk #[(84 : UInt8), (73 : UInt8), (77 : UInt8), (69 : UInt8), (68 : UInt8), (79 : UInt8), (85 : UInt8), (84 : UInt8)]) false false false false false, dismissal_way.mk (10 : Int) (ByteArray.mk #[(82 : UInt8), (69 : UInt8), (84 : UInt8), (73 : UInt8), (82 : UInt8), (69 : UInt8), (68 : UInt8)]) false false false false false]] = [RowD.mk (Ty.nm Nm.dismissal_way) wtab])
  exact ⟨⟨rfl, rfl⟩, by kernel_rfl⟩
theorem ok61 : CtrOK Try.prog KK 61 (pureCtr KK ps61 spec61) := by
  refine pure_ok (C := cfgF [] Try.f61) (cfgOK CtrsOK.nil _) mixed (fn := Try.f61) Try.func61 (by kernel_rfl) (by kernel_rfl) (by kernel_rfl) (Λ := fun _ _ => none) ?_ ?_ ?_
  · exact fun _ _ _ _ _ _ _ _ h => by cases h
  · rintro ⟨⟩
    exact of_decide_eq_true (by kernel_rfl)
  · rintro ⟨⟩ _ _
    exact run61 

theorem run62 (w : dismissal_way) (t : Int) : (evFn (cfgF [] Try.f62) (fun _ => none) Try.f62 (argsV ps62 (w, t, ()))).sat fun v' rows => leV v' (spec62 (w, t, ())).v ∧ rows = (spec62 (w, t, ())).rows := by
  refine cast (by kernel_rfl) (?_ : (bif t == (1 : Int) then bif w.3 then true else bif t == (2 : Int) then bif w.4 then true else bif t == (3 : Int) then w.5 else false else bif t == (3 : Int) then w.5 else false else bif t == (2 : Int) then bif w.4 then true else bif t == (3 : Int) then w.5 else false else bif t == (3 : Int) then w.5 else false) = onW w t ∧ ([] : List RowD) = [])
  simp only [onW]; grind
theorem ok62 : CtrOK Try.prog KK 62 (pureCtr KK ps62 spec62) := by
  refine pure_ok (C := cfgF [] Try.f62) (cfgOK CtrsOK.nil _) mixed (fn := Try.f62) Try.func62 (by kernel_rfl) (by kernel_rfl) (by kernel_rfl) (Λ := fun _ _ => none) ?_ ?_ ?_
  · exact fun _ _ _ _ _ _ _ _ h => by cases h
  · rintro ⟨w, t, ⟨⟩⟩
    exact of_decide_eq_true (by kernel_rfl)
  · rintro ⟨w, t, ⟨⟩⟩ _ _
    exact run62 w t

theorem run89 (n : Int) : (evFn (cfgF [] Try.f89) (fun _ => none) Try.f89 (argsV ps89 (n, ()))).sat fun v' rows => leV v' (spec89 (n, ())).v ∧ rows = (spec89 (n, ())).rows := by
  refine cast (by kernel_rfl) (?_ : (bif decide (n ≥ (1 : Int)) then decide (n ≤ (11 : Int)) else false) = player n ∧ ([] : List RowD) = [])
  simp only [player]; grind
theorem ok89 : CtrOK Try.prog KK 89 (pureCtr KK ps89 spec89) := by
  refine pure_ok (C := cfgF [] Try.f89) (cfgOK CtrsOK.nil _) mixed (fn := Try.f89) Try.func89 (by kernel_rfl) (by kernel_rfl) (by kernel_rfl) (Λ := fun _ _ => none) ?_ ?_ ?_
  · exact fun _ _ _ _ _ _ _ _ h => by cases h
  · rintro ⟨n, ⟨⟩⟩
    exact of_decide_eq_true (by kernel_rfl)
  · rintro ⟨n, ⟨⟩⟩ _ _
    exact run89 n

theorem run60 (n : Int) : (evFn (cfgF [] Try.f60) (fun _ => none) Try.f60 (argsV ps57 (n, ()))).sat fun v' rows => leV v' (spec60 (n, ())).v ∧ rows = (spec60 (n, ())).rows := by
  refine cast (by kernel_rfl) (?_ : (bif n == (6 : Int) then true else bif n == (7 : Int) then true else n == (8 : Int)) = onFreeR n ∧ ([] : List RowD) = [])
  simp only [onFreeR]; grind
theorem ok60 : CtrOK Try.prog KK 60 (pureCtr KK ps57 spec60) := by
  refine pure_ok (C := cfgF [] Try.f60) (cfgOK CtrsOK.nil _) mixed (fn := Try.f60) Try.func60 (by kernel_rfl) (by kernel_rfl) (by kernel_rfl) (Λ := fun _ _ => none) ?_ ?_ ?_
  · exact fun _ _ _ _ _ _ _ _ h => by cases h
  · rintro ⟨n, ⟨⟩⟩
    exact of_decide_eq_true (by kernel_rfl)
  · rintro ⟨n, ⟨⟩⟩ _ _
    exact run60 n

theorem run59 (n : Int) (t : Int) : (evFn (cfgF [] Try.f59) (fun _ => none) Try.f59 (argsV psOn (n, t, ()))).sat fun v' rows => leV v' (spec59 (n, t, ())).v ∧ rows = (spec59 (n, t, ())).rows := by
  refine cast (by kernel_rfl) (?_ : ((bif n == (1 : Int) then n == (1 : Int) else bif n == (2 : Int) then n == (2 : Int) else n == (3 : Int)) = true → (t == (1 : Int)) = onR n t ∧ ([] : List RowD) = []) ∧ ((bif n == (1 : Int) then n == (1 : Int) else bif n == (2 : Int) then n == (2 : Int) else n == (3 : Int)) = false → ((bif n == (4 : Int) then n == (4 : Int) else n == (5 : Int)) = true → (bif t == (1 : Int) then true else t == (2 : Int)) = onR n t ∧ ([] : List RowD) = []) ∧ ((bif n == (4 : Int) then n == (4 : Int) else n == (5 : Int)) = false → ((n == (7 : Int)) = true → (bif t == (1 : Int) then true else t == (3 : Int)) = onR n t ∧ ([] : List RowD) = []) ∧ ((n == (7 : Int)) = false → ((bif n == (6 : Int) then n == (6 : Int) else n == (8 : Int)) = true → (bif t == (1 : Int) then true else bif t == (2 : Int) then true else t == (3 : Int)) = onR n t ∧ ([] : List RowD) = []) ∧ ((bif n == (6 : Int) then n == (6 : Int) else n == (8 : Int)) = false → false = onR n t ∧ ([] : List RowD) = [])))))
  simp only [onR]; grind
theorem ok59 : CtrOK Try.prog KK 59 (pureCtr KK psOn spec59) := by
  refine pure_ok (C := cfgF [] Try.f59) (cfgOK CtrsOK.nil _) mixed (fn := Try.f59) Try.func59 (by kernel_rfl) (by kernel_rfl) (by kernel_rfl) (Λ := fun _ _ => none) ?_ ?_ ?_
  · exact fun _ _ _ _ _ _ _ _ h => by cases h
  · rintro ⟨n, t, ⟨⟩⟩
    exact of_decide_eq_true (by kernel_rfl)
  · rintro ⟨n, t, ⟨⟩⟩ _ _
    exact run59 n t

theorem run29 (n : Int) : (evFn (cfgF [] Try.f29) (fun _ => none) Try.f29 (argsV ps57 (n, ()))).sat fun v' rows => leV v' (spec29 (n, ())).v ∧ rows = (spec29 (n, ())).rows := by
  refine cast (by kernel_rfl) (?_ : ((bif n == (2 : Int) then true else bif n == (4 : Int) then true else n == (6 : Int)) = oneR n ∧ (bif n == (2 : Int) then true else bif n == (4 : Int) then true else n == (6 : Int)) = oneR n ∧ (n == (6 : Int)) = isRun n ∧ True) ∧ ([] : List RowD) = [])
  simp only [oneR, isRun]; grind
theorem ok29 : CtrOK Try.prog KK 29 (pureCtr KK ps57 spec29) := by
  refine pure_ok (C := cfgF [] Try.f29) (cfgOK CtrsOK.nil _) mixed (fn := Try.f29) Try.func29 (by kernel_rfl) (by kernel_rfl) (by kernel_rfl) (Λ := fun _ _ => none) ?_ ?_ ?_
  · exact fun _ _ _ _ _ _ _ _ h => by cases h
  · rintro ⟨n, ⟨⟩⟩
    exact of_decide_eq_true (by kernel_rfl)
  · rintro ⟨n, ⟨⟩⟩ _ _
    exact run29 n

theorem wlen : wtab.length = 11 := rfl

theorem find_at {α : Type} (p : α → Bool) : ∀ (xs : List α) (i : Nat) (x : α), xs[i]? = some x → p x = true → (∀ y ∈ xs.take i, p y = false) → xs.find? p = some x
  | [], _, _, h, _, _ => by simp at h
  | y :: xs, 0, x, h, hp, _ => by simp at h; subst h; simp [hp]
  | y :: xs, i + 1, x, h, hp, hn => by
    have h0 : p y = false := hn y (by simp)
    rw [List.find?_cons_of_neg (by simp [h0])]
    exact find_at p xs i x (by simpa using h) hp (fun z hz => hn z (by simp [hz]))

theorem getD_at {α : Type} {xs : List α} {i : Nat} (z : α) (h : i < xs.length) : xs[i]? = some (xs.getD i z) := by
  rw [List.getD_eq_getElem?_getD, List.getElem?_eq_getElem h]; rfl

theorem step57 (h : Int) (i : Nat) (hi : inv57 h i) : (stepObl (J57 h) (inv57 h) (fun i => 11 - i) i (T57 h) (evCode (cfgF [k61] Try.f57) (fun _ => none) (loopN Try.f57 0) (J57 h i)) (L57 i)).1 := by
  refine cast (by kernel_rfl) (?_ : (decide ((↑i : Int) < (↑wtab.length : Int)) = true → ((0 : Int) ≤ (↑i : Int) ∧ (↑i : Int) < (↑wtab.length : Int)) ∧ (((wtab.getD (↑i : Int).toNat (dflt (Ty.nm Nm.dismissal_way))).1 == h) = true → (wtab.any fun w => w.1 == h) = true ∧ (True ∧ True) ∧ ((wtab.getD (↑i : Int).toNat (dflt (Ty.nm Nm.dismissal_way))).1 = (ofW h).1 ∧ (wtab.getD (↑i : Int).toNat (dflt (Ty.nm Nm.dismissal_way))).2 = (ofW h).2 ∧ (wtab.getD (↑i : Int).toNat (dflt (Ty.nm Nm.dismissal_way))).3 = (ofW h).3 ∧ (wtab.getD (↑i : Int).toNat (dflt (Ty.nm Nm.dismissal_way))).4 = (ofW h).4 ∧ (wtab.getD (↑i : Int).toNat (dflt (Ty.nm Nm.dismissal_way))).5 = (ofW h).5 ∧ (wtab.getD (↑i : Int).toNat (dflt (Ty.nm Nm.dismissal_way))).6 = (ofW h).6 ∧ (wtab.getD (↑i : Int).toNat (dflt (Ty.nm Nm.dismissal_way))).7 = (ofW h).7 ∧ True) ∧ True) ∧ (((wtab.getD (↑i : Int).toNat (dflt (Ty.nm Nm.dismissal_way))).1 == h) = false → inv57 h (i + (1 : Nat)) ∧ (11 : Nat) - (i + (1 : Nat)) < (11 : Nat) - i ∧ (h = h ∧ True ∧ True ∧ (↑wtab.length : Int) = (↑wtab.length : Int) ∧ IntKind.i64.wrap ((↑i : Int) + (1 : Int)) = (↑(i + (1 : Nat)) : Int) ∧ True) ∧ RowD.mk (Ty.nm Nm.dismissal_way) wtab = RowD.mk (Ty.nm Nm.dismissal_way) wtab ∧ ((0 : Int) = (0 : Int) ∧ ByteArray.empty = ByteArray.empty ∧ false = false ∧ false = false ∧ false = false ∧ false = false ∧ false = false ∧ True) ∧ True)) ∧ (decide ((↑i : Int) < (↑wtab.length : Int)) = false → (wtab.any fun w => w.1 == h) = false ∧ (True ∧ True) ∧ ((0 : Int) = (0 : Int) ∧ ByteArray.empty = ByteArray.empty ∧ false = false ∧ false = false ∧ false = false ∧ false = false ∧ false = false ∧ True) ∧ True))
  have e : (i : Int).toNat = i := by simp
  rw [e]
  generalize hw : wtab.getD i (dflt (Ty.nm Nm.dismissal_way)) = w
  refine ⟨fun h1 => ?_, fun h1 => ?_⟩
  · have h1 : i < wtab.length := by simpa using h1
    have h3 : wtab[i]? = some w := by rw [← hw]; exact getD_at _ h1
    refine ⟨⟨by omega, by omega⟩, fun h2 => ?_, fun h2 => ?_⟩
    · have h4 : ofW h = w := by
        unfold ofW
        rw [find_at (fun w => w.how == h) wtab i w h3 h2 hi.2]; rfl
      have h5 : (wtab.any fun w => w.1 == h) = true := List.any_eq_true.2 ⟨w, List.mem_of_getElem? h3, h2⟩
      rw [h4]
      exact ⟨h5, ⟨trivial, trivial⟩, ⟨rfl, rfl, rfl, rfl, rfl, rfl, rfl, trivial⟩, trivial⟩
    · rw [wlen] at h1
      refine ⟨⟨by omega, fun y hy => ?_⟩, by omega, ⟨rfl, trivial, trivial, rfl, ?_, trivial⟩, rfl, ⟨rfl, rfl, rfl, rfl, rfl, rfl, rfl, trivial⟩, trivial⟩
      · rw [List.take_add_one, h3] at hy
        rcases List.mem_append.1 hy with hy | hy
        · exact hi.2 y hy
        · simp at hy; subst hy; exact h2
      · rw [wrap64 (by omega) (by omega)]; omega
  · have h1 : wtab.length ≤ i := by simpa using h1
    refine ⟨?_, ⟨trivial, trivial⟩, ⟨rfl, rfl, rfl, rfl, rfl, rfl, rfl, trivial⟩, trivial⟩
    rw [List.any_eq_false]
    intro x hx
    have := hi.2 x (by rw [List.take_of_length_le h1]; exact hx)
    simpa using this

theorem loops57 (h : Int) : LoopsOK Try.prog Try.f57.ntmps [loopN Try.f57 0] (Λ57 h) :=
  .cons (L := loopSum ⟨[], [], 16⟩ (J57 h 0) (T57 h)) (by kernel_rfl) (loop_by (cfgOK (.cons ok61 .nil) _) mixed (J57 h) (fun _ => rfl) (inv57 h) (fun i => 11 - i) (fun _ _ => none) (fun _ _ _ _ _ h => by cases h) (T57 h) [] [] 0 ⟨Nat.zero_le _, by simp⟩ L57 (step57 h)) .nil

theorem run57 (h : Int) : (evFn (cfgF [k61] Try.f57) (Λ57 h) Try.f57 (argsV ps57 (h, ()))).sat fun v' rows => leV v' (spec57 (h, ())).v ∧ rows = (spec57 (h, ())).rows := by
  refine cast (by kernel_rfl) (?_ : ((noH0 fun x => none) ∧ (h = h ∧ True ∧ True ∧ (↑wtab.length : Int) = (↑wtab.length : Int) ∧ (0 : Int) = (↑(0 : Nat) : Int) ∧ True) ∧ RowD.mk (Ty.nm Nm.dismissal_way) wtab = RowD.mk (Ty.nm Nm.dismissal_way) wtab ∧ ((0 : Int) = (0 : Int) ∧ ByteArray.empty = ByteArray.empty ∧ false = false ∧ false = false ∧ false = false ∧ false = false ∧ false = false ∧ True) ∧ True) ∧ ((wtab.any fun w => w.1 == h) = true → ((ofW h).1 = (ofW h).1 ∧ (ofW h).2 = (ofW h).2 ∧ (ofW h).3 = (ofW h).3 ∧ (ofW h).4 = (ofW h).4 ∧ (ofW h).5 = (ofW h).5 ∧ (ofW h).6 = (ofW h).6 ∧ (ofW h).7 = (ofW h).7 ∧ True) ∧ ([] : List RowD) = []) ∧ ((wtab.any fun w => w.1 == h) = false → ((0 : Int) = (ofW h).1 ∧ ByteArray.empty = (ofW h).2 ∧ false = (ofW h).3 ∧ false = (ofW h).4 ∧ false = (ofW h).5 ∧ false = (ofW h).6 ∧ false = (ofW h).7 ∧ True) ∧ ([] : List RowD) = []))
  refine ⟨⟨rfl, ⟨rfl, trivial, trivial, rfl, rfl, trivial⟩, rfl, ⟨rfl, rfl, rfl, rfl, rfl, rfl, rfl, trivial⟩, trivial⟩, fun _ => ⟨⟨rfl, rfl, rfl, rfl, rfl, rfl, rfl, trivial⟩, rfl⟩, fun h1 => ?_⟩
  have h2 : ofW h = dismissal_way.zero := by
    unfold ofW
    rw [List.find?_eq_none.2]
    · rfl
    · intro x hx hp
      have := (List.any_eq_false.1 h1) x hx
      exact this hp
  rw [h2]
  exact ⟨⟨rfl, rfl, rfl, rfl, rfl, rfl, rfl, trivial⟩, rfl⟩
theorem ok57 : CtrOK Try.prog KK 57 (pureCtr KK ps57 spec57) := by
  refine pure_ok (C := cfgF [k61] Try.f57) (cfgOK (.cons ok61 .nil) _) mixed (fn := Try.f57) Try.func57 (by kernel_rfl) (by kernel_rfl) (by kernel_rfl) (Λ := fun x => Λ57 x.1) ?_ ?_ ?_
  · rintro ⟨h, ⟨⟩⟩ _ _
    exact LoopsOK.at (by kernel_rfl) (loops57 h)
  · rintro ⟨h, ⟨⟩⟩
    exact of_decide_eq_true (by kernel_rfl)
  · rintro ⟨h, ⟨⟩⟩ _ _
    exact run57 h

theorem freeW_eq (w : dismissal_way) (t : Int) (free : Bool) : (bif onW w t then bif !free then true else bif w.1 == (6 : Int) then true else bif w.1 == (7 : Int) then true else w.1 == (8 : Int) else false) = freeW w t free := by
  simp only [freeW]; cases onW w t <;> cases free <;> simp <;> grind

theorem waysUp_succ (t : Int) (free : Bool) (i : Nat) {w : dismissal_way} (h : wtab[i]? = some w) : waysUp t free (i + 1) = waysUp t free i ++ (bif freeW w t free then [w.how] else []) := by
  unfold waysUp
  rw [List.take_add_one, h, List.filter_append, List.map_append]
  congr 1
  cases hf : freeW w t free <;> simp [hf]

theorem waysUp_len (t : Int) (free : Bool) (i : Nat) : (waysUp t free i).length ≤ 11 := by
  unfold waysUp
  rw [List.length_map]
  have h1 := List.length_filter_le (fun w => freeW w t free) (wtab.take i)
  have h2 : (wtab.take i).length ≤ wtab.length := List.length_take_le' _ _
  rw [wlen] at h2
  omega

theorem step20 (t : Int) (free : Bool) (i : Nat) (_ : inv20 i) : (stepObl (J20 t free) inv20 (fun i => 11 - i) i (T20 t free) (evCode (cfgF [k61, k62] Try.f20) (fun _ => none) (loopN Try.f20 0) (J20 t free i)) (L20 i)).1 := by
  refine cast (by kernel_rfl) (?_ : (decide ((↑i : Int) < (↑wtab.length : Int)) = true → ((0 : Int) ≤ (↑i : Int) ∧ (↑i : Int) < (↑wtab.length : Int)) ∧ ((bif onW (wtab.getD (↑i : Int).toNat (dflt (Ty.nm Nm.dismissal_way))) t then bif !free then true else bif (wtab.getD (↑i : Int).toNat (dflt (Ty.nm Nm.dismissal_way))).1 == (6 : Int) then true else bif (wtab.getD (↑i : Int).toNat (dflt (Ty.nm Nm.dismissal_way))).1 == (7 : Int) then true else (wtab.getD (↑i : Int).toNat (dflt (Ty.nm Nm.dismissal_way))).1 == (8 : Int) else false) = true → ((waysUp t free i).length + [(wtab.getD (↑i : Int).toNat (dflt (Ty.nm Nm.dismissal_way))).1].length) * (1 : Nat) ≤ (70368744177664 : Nat) ∧ inv20 (i + (1 : Nat)) ∧ (11 : Nat) - (i + (1 : Nat)) < (11 : Nat) - i ∧ (t = t ∧ free = free ∧ True ∧ True ∧ (↑wtab.length : Int) = (↑wtab.length : Int) ∧ IntKind.i64.wrap ((↑i : Int) + (1 : Int)) = (↑(i + (1 : Nat)) : Int) ∧ True) ∧ RowD.mk (Ty.nm Nm.dismissal_way) wtab = RowD.mk (Ty.nm Nm.dismissal_way) wtab ∧ RowD.mk (Ty.int IntKind.u8) (waysUp t free i ++ [(wtab.getD (↑i : Int).toNat (dflt (Ty.nm Nm.dismissal_way))).1]) = RowD.mk (Ty.int IntKind.u8) (waysUp t free (i + (1 : Nat))) ∧ True) ∧ ((bif onW (wtab.getD (↑i : Int).toNat (dflt (Ty.nm Nm.dismissal_way))) t then bif !free then true else bif (wtab.getD (↑i : Int).toNat (dflt (Ty.nm Nm.dismissal_way))).1 == (6 : Int) then true else bif (wtab.getD (↑i : Int).toNat (dflt (Ty.nm Nm.dismissal_way))).1 == (7 : Int) then true else (wtab.getD (↑i : Int).toNat (dflt (Ty.nm Nm.dismissal_way))).1 == (8 : Int) else false) = false → inv20 (i + (1 : Nat)) ∧ (11 : Nat) - (i + (1 : Nat)) < (11 : Nat) - i ∧ (t = t ∧ free = free ∧ True ∧ True ∧ (↑wtab.length : Int) = (↑wtab.length : Int) ∧ IntKind.i64.wrap ((↑i : Int) + (1 : Int)) = (↑(i + (1 : Nat)) : Int) ∧ True) ∧ RowD.mk (Ty.nm Nm.dismissal_way) wtab = RowD.mk (Ty.nm Nm.dismissal_way) wtab ∧ RowD.mk (Ty.int IntKind.u8) (waysUp t free i) = RowD.mk (Ty.int IntKind.u8) (waysUp t free (i + (1 : Nat))) ∧ True)) ∧ (decide ((↑i : Int) < (↑wtab.length : Int)) = false → True ∧ (True ∧ True) ∧ RowD.mk (Ty.int IntKind.u8) (waysUp t free i) = RowD.mk (Ty.int IntKind.u8) (waysW t free) ∧ True))
  have e : (i : Int).toNat = i := by simp
  rw [e]
  generalize hw : wtab.getD i (dflt (Ty.nm Nm.dismissal_way)) = w
  rw [freeW_eq]
  refine ⟨fun h1 => ?_, fun h1 => ?_⟩
  · have h1 : i < wtab.length := by simpa using h1
    have h3 : wtab[i]? = some w := by rw [← hw]; exact getD_at _ h1
    have hu := waysUp_succ t free i h3
    rw [wlen] at h1
    have hwr : IntKind.i64.wrap ((i : Int) + 1) = ((i + 1 : Nat) : Int) := by rw [wrap64 (by omega) (by omega)]; omega
    refine ⟨⟨by omega, by rw [wlen]; omega⟩, fun h2 => ?_, fun h2 => ?_⟩
    · rw [h2] at hu
      refine ⟨?_, (by unfold inv20; omega), by omega, ⟨rfl, rfl, trivial, trivial, rfl, hwr, trivial⟩, rfl, by rw [hu]; rfl, trivial⟩
      have := waysUp_len t free i
      simp only [List.length_cons, List.length_nil]
      omega
    · rw [h2] at hu
      refine ⟨(by unfold inv20; omega), by omega, ⟨rfl, rfl, trivial, trivial, rfl, hwr, trivial⟩, rfl, by rw [hu]; simp, trivial⟩
  · have h1 : wtab.length ≤ i := by simpa using h1
    have hu : waysUp t free i = waysW t free := by unfold waysUp waysW; rw [List.take_of_length_le h1]
    exact ⟨trivial, ⟨trivial, trivial⟩, by rw [hu], trivial⟩

theorem loops20 (t : Int) (free : Bool) : LoopsOK Try.prog Try.f20.ntmps [loopN Try.f20 0] (Λ20 t free) :=
  .cons (L := loopSum ⟨[], [16], 20⟩ (J20 t free 0) (T20 t free)) (by kernel_rfl) (loop_by (cfgOK (.cons ok61 (.cons ok62 .nil)) _) mixed (J20 t free) (fun _ => rfl) inv20 (fun i => 11 - i) (fun _ _ => none) (fun _ _ _ _ _ h => by cases h) (T20 t free) [] [16] 0 (Nat.zero_le _) L20 (step20 t free)) .nil

theorem run20 (t : Int) (free : Bool) : (evFn (cfgF [k61, k62] Try.f20) (Λ20 t free) Try.f20 (argsV ps20 (t, free, ()))).sat fun v' rows => leV v' (spec20 (t, free, ())).v ∧ rows = (spec20 (t, free, ())).rows := by
  refine cast (by kernel_rfl) (?_ : ((noH0 fun x => none) ∧ (t = t ∧ free = free ∧ True ∧ True ∧ (↑wtab.length : Int) = (↑wtab.length : Int) ∧ (0 : Int) = (↑(0 : Nat) : Int) ∧ True) ∧ RowD.mk (Ty.nm Nm.dismissal_way) wtab = RowD.mk (Ty.nm Nm.dismissal_way) wtab ∧ waysUp t free (0 : Nat) = [] ∧ True) ∧ (nat_lit 0 = nat_lit 0 ∧ nat_lit 0 = nat_lit 0) ∧ [RowD.mk (Ty.int IntKind.u8) (waysW t free)] = [RowD.mk (Ty.int IntKind.u8) (waysW t free)])
  exact ⟨⟨rfl, ⟨rfl, rfl, trivial, trivial, rfl, rfl, trivial⟩, rfl, rfl, trivial⟩, ⟨rfl, rfl⟩, rfl⟩
theorem ok20 : CtrOK Try.prog KK 20 (pureCtr KK ps20 spec20) := by
  refine pure_ok (C := cfgF [k61, k62] Try.f20) (cfgOK (.cons ok61 (.cons ok62 .nil)) _) mixed (fn := Try.f20) Try.func20 (by kernel_rfl) (by kernel_rfl) (by kernel_rfl) (Λ := fun x => Λ20 x.1 x.2.1) ?_ ?_ ?_
  · rintro ⟨t, free, ⟨⟩⟩ _ _
    exact LoopsOK.at (by kernel_rfl) (loops20 t free)
  · rintro ⟨t, free, ⟨⟩⟩
    exact of_decide_eq_true (by kernel_rfl)
  · rintro ⟨t, free, ⟨⟩⟩ _ _
    exact run20 t free

theorem idx_has (xs : List Int) (v i : Int) (hi : 0 ≤ i) : decide (idx xs v i ≥ 0) = hasI xs v := by
  induction xs generalizing i with
  | nil => simp [idx, hasI]
  | cons x xs ih =>
    by_cases hv : v = x
    · subst hv; simp [idx, hasI, hi]
    · have h1 : (v == x) = false := by simpa using hv
      have h2 := ih (i + 1) (by omega)
      simp only [idx, h1, cond_false]
      rw [h2]
      simp [hasI, hv]

theorem run21 (xs : List Int) (v : Int) : (evFn (cfgF [k63] Try.f21) (fun _ => none) Try.f21 (argsV ps21 (xs, v, ()))).sat fun v' rows => leV v' (spec21 (xs, v, ())).v ∧ rows = (spec21 (xs, v, ())).rows := by
  refine cast (by kernel_rfl) (?_ : decide (idx xs v (0 : Int) ≥ (0 : Int)) = hasI xs v ∧ ([] : List RowD) = [])
  exact ⟨idx_has xs v 0 (Int.le_refl 0), rfl⟩
theorem ok21 : CtrOK Try.prog KK 21 (pureCtr KK ps21 spec21) := by
  refine pure_ok (C := cfgF [k63] Try.f21) (cfgOK (.cons ok63 .nil) _) mixed (fn := Try.f21) Try.func21 (by kernel_rfl) (by kernel_rfl) (by kernel_rfl) (Λ := fun _ _ => none) ?_ ?_ ?_
  · exact fun _ _ _ _ _ _ _ _ h => by cases h
  · rintro ⟨xs, v, ⟨⟩⟩
    exact of_decide_eq_true (by kernel_rfl)
  · rintro ⟨xs, v, ⟨⟩⟩ _ _
    exact run21 xs v

theorem run58 (d : Delivery) (w : dismissal_way) : (evFn (cfgF [k89] Try.f58) (fun _ => none) Try.f58 (argsV ps58 (d, w, ()))).sat fun v' rows => leV v' (spec58 (d, w, ())).v ∧ rows = (spec58 (d, w, ())).rows := by
  refine cast (by kernel_rfl) (?_ : ((bif !w.6 == player d.9 then true else bif !w.6 then d.9 != (0 : Int) else false) = true → false = fieldersW d w ∧ ([] : List RowD) = []) ∧ ((bif !w.6 == player d.9 then true else bif !w.6 then d.9 != (0 : Int) else false) = false → (bif d.10 == (0 : Int) then true else bif d.7 == (6 : Int) then bif player d.10 then d.10 != d.9 else false else false) = fieldersW d w ∧ ([] : List RowD) = []))
  simp only [fieldersW]; grind
theorem ok58 : CtrOK Try.prog KK 58 (pureCtr KK ps58 spec58) := by
  refine pure_ok (C := cfgF [k89] Try.f58) (cfgOK (.cons ok89 .nil) _) mixed (fn := Try.f58) Try.func58 (by kernel_rfl) (by kernel_rfl) (by kernel_rfl) (Λ := fun _ _ => none) ?_ ?_ ?_
  · exact fun _ _ _ _ _ _ _ _ h => by cases h
  · rintro ⟨d, w, ⟨⟩⟩
    exact of_decide_eq_true (by kernel_rfl)
  · rintro ⟨d, w, ⟨⟩⟩ _ _
    exact run58 d w

theorem run17 (d : Delivery) (free : Bool) : (evFn (cfgF [k57, k20, k21, k58] Try.f17) (fun _ => none) Try.f17 (argsV psP (d, free, ()))).sat fun v' rows => leV v' (spec17 (d, free, ())).v ∧ rows = (spec17 (d, free, ())).rows := by
  refine cast (by kernel_rfl) (?_ : ((d.7 == (0 : Int)) = true → ((d.8 != (0 : Int)) = true → (14 : Int) = possibleW d free ∧ ([] : List RowD) = []) ∧ ((d.8 != (0 : Int)) = false → ((bif d.9 != (0 : Int) then true else bif d.10 != (0 : Int) then true else d.11) = true → (15 : Int) = possibleW d free ∧ ([] : List RowD) = []) ∧ ((bif d.9 != (0 : Int) then true else bif d.10 != (0 : Int) then true else d.11) = false → (0 : Int) = possibleW d free ∧ ([] : List RowD) = []))) ∧ ((d.7 == (0 : Int)) = false → ((!hasI (waysW d.1 free) d.7) = true → (13 : Int) = possibleW d free ∧ ([] : List RowD) = []) ∧ ((!hasI (waysW d.1 free) d.7) = false → ((bif !bif d.7 == (6 : Int) then true else d.7 == (8 : Int) then bif d.2 != (0 : Int) then true else d.3 != (0 : Int) else false) = true → (12 : Int) = possibleW d free ∧ ([] : List RowD) = []) ∧ ((bif !bif d.7 == (6 : Int) then true else d.7 == (8 : Int) then bif d.2 != (0 : Int) then true else d.3 != (0 : Int) else false) = false → ((bif d.8 != (1 : Int) then bif d.8 != (2 : Int) then true else !(ofW d.7).7 else false) = true → (14 : Int) = possibleW d free ∧ ([] : List RowD) = []) ∧ ((bif d.8 != (1 : Int) then bif d.8 != (2 : Int) then true else !(ofW d.7).7 else false) = false → ((!fieldersW d (ofW d.7)) = true → (15 : Int) = possibleW d free ∧ ([] : List RowD) = []) ∧ ((!fieldersW d (ofW d.7)) = false → ((bif d.11 then bif d.7 != (2 : Int) then d.7 != (6 : Int) else false else false) = true → (18 : Int) = possibleW d free ∧ ([] : List RowD) = []) ∧ ((bif d.11 then bif d.7 != (2 : Int) then d.7 != (6 : Int) else false else false) = false → (0 : Int) = possibleW d free ∧ ([] : List RowD) = [])))))))
  simp only [possibleW, hasI]
  repeat' first | refine And.intro ?_ ?_ | intro _
  all_goals grind
theorem ok17 : CtrOK Try.prog KK 17 (pureCtr KK psP spec17) := by
  refine pure_ok (C := cfgF [k57, k20, k21, k58] Try.f17) (cfgOK (.cons ok57 (.cons ok20 (.cons ok21 (.cons ok58 .nil)))) _) mixed (fn := Try.f17) Try.func17 (by kernel_rfl) (by kernel_rfl) (by kernel_rfl) (Λ := fun _ _ => none) ?_ ?_ ?_
  · exact fun _ _ _ _ _ _ _ _ h => by cases h
  · rintro ⟨d, free, ⟨⟩⟩
    exact of_decide_eq_true (by kernel_rfl)
  · rintro ⟨d, free, ⟨⟩⟩ _ _
    exact run17 d free

theorem run18 (d : Delivery) (free : Bool) : (evFn (cfgF [k29, k59, k60] Try.f18) (fun _ => none) Try.f18 (argsV psP (d, free, ()))).sat fun v' rows => leV v' (spec18 (d, free, ())).v ∧ rows = (spec18 (d, free, ())).rows := by
  refine cast (by kernel_rfl) (?_ : ((d.7 == (0 : Int)) = true → ((d.8 != (0 : Int)) = true → (14 : Int) = possibleR d free ∧ ([] : List RowD) = []) ∧ ((d.8 != (0 : Int)) = false → ((bif d.9 != (0 : Int) then true else bif d.10 != (0 : Int) then true else d.11) = true → (15 : Int) = possibleR d free ∧ ([] : List RowD) = []) ∧ ((bif d.9 != (0 : Int) then true else bif d.10 != (0 : Int) then true else d.11) = false → (0 : Int) = possibleR d free ∧ ([] : List RowD) = []))) ∧ ((d.7 == (0 : Int)) = false → ((bif !onR d.7 d.1 then true else bif free then !onFreeR d.7 else false) = true → (13 : Int) = possibleR d free ∧ ([] : List RowD) = []) ∧ ((bif !onR d.7 d.1 then true else bif free then !onFreeR d.7 else false) = false → ((bif !bif d.7 == (6 : Int) then true else d.7 == (8 : Int) then bif d.2 != (0 : Int) then true else d.3 != (0 : Int) else false) = true → (12 : Int) = possibleR d free ∧ ([] : List RowD) = []) ∧ ((bif !bif d.7 == (6 : Int) then true else d.7 == (8 : Int) then bif d.2 != (0 : Int) then true else d.3 != (0 : Int) else false) = false → ((bif d.8 != (1 : Int) then bif d.8 == (2 : Int) then !bif d.7 == (6 : Int) then true else d.7 == (8 : Int) else !false else false) = true → (14 : Int) = possibleR d free ∧ ([] : List RowD) = []) ∧ ((bif d.8 != (1 : Int) then bif d.8 == (2 : Int) then !bif d.7 == (6 : Int) then true else d.7 == (8 : Int) else !false else false) = false → ((bif oneR d.7 then bif decide (d.9 < (1 : Int)) then true else bif decide (d.9 > (11 : Int)) then true else bif !oneR d.7 then d.9 != (0 : Int) else false else bif !oneR d.7 then d.9 != (0 : Int) else false) = true → (15 : Int) = possibleR d free ∧ ([] : List RowD) = []) ∧ ((bif oneR d.7 then bif decide (d.9 < (1 : Int)) then true else bif decide (d.9 > (11 : Int)) then true else bif !oneR d.7 then d.9 != (0 : Int) else false else bif !oneR d.7 then d.9 != (0 : Int) else false) = false → ((bif d.10 != (0 : Int) then bif !isRun d.7 then true else bif decide (d.10 < (1 : Int)) then true else bif decide (d.10 > (11 : Int)) then true else d.10 == d.9 else false) = true → (15 : Int) = possibleR d free ∧ ([] : List RowD) = []) ∧ ((bif d.10 != (0 : Int) then bif !isRun d.7 then true else bif decide (d.10 < (1 : Int)) then true else bif decide (d.10 > (11 : Int)) then true else d.10 == d.9 else false) = false → ((bif d.11 then bif d.7 != (2 : Int) then d.7 != (6 : Int) else false else false) = true → (18 : Int) = possibleR d free ∧ ([] : List RowD) = []) ∧ ((bif d.11 then bif d.7 != (2 : Int) then d.7 != (6 : Int) else false else false) = false → (0 : Int) = possibleR d free ∧ ([] : List RowD) = []))))))))
  simp only [possibleR, isRun, Bool.cond_true_left, Bool.cond_false_right, Bool.not_false]
  repeat' first | refine And.intro ?_ ?_ | intro _
  all_goals first | rfl | (simp_all; done) | grind
theorem ok18 : CtrOK Try.prog KK 18 (pureCtr KK psP spec18) := by
  refine pure_ok (C := cfgF [k29, k59, k60] Try.f18) (cfgOK (.cons ok29 (.cons ok59 (.cons ok60 .nil))) _) mixed (fn := Try.f18) Try.func18 (by kernel_rfl) (by kernel_rfl) (by kernel_rfl) (Λ := fun _ _ => none) ?_ ?_ ?_
  · exact fun _ _ _ _ _ _ _ _ h => by cases h
  · rintro ⟨d, free, ⟨⟩⟩
    exact of_decide_eq_true (by kernel_rfl)
  · rintro ⟨d, free, ⟨⟩⟩ _ _
    exact run18 d free

theorem run25 (h : Int) : (evFn (cfgF [k57] Try.f25) (fun _ => none) Try.f25 (argsV ps57 (h, ()))).sat fun v' rows => leV v' (spec25 (h, ())).v ∧ rows = (spec25 (h, ())).rows := by
  refine cast (by kernel_rfl) (?_ : (ofW h).2 = (ofW h).2 ∧ ([] : List RowD) = [])
  exact ⟨rfl, rfl⟩
theorem ok25 : CtrOK Try.prog KK 25 (pureCtr KK ps57 spec25) := by
  refine pure_ok (C := cfgF [k57] Try.f25) (cfgOK (.cons ok57 .nil) _) mixed (fn := Try.f25) Try.func25 (by kernel_rfl) (by kernel_rfl) (by kernel_rfl) (Λ := fun _ _ => none) ?_ ?_ ?_
  · exact fun _ _ _ _ _ _ _ _ h => by cases h
  · rintro ⟨h, ⟨⟩⟩
    exact of_decide_eq_true (by kernel_rfl)
  · rintro ⟨h, ⟨⟩⟩ _ _
    exact run25 h

theorem run16  : (evFn (cfgF [k20, k17, k25] Try.f16) (fun _ => none) Try.f16 (argsV ps61 ())).sat fun v' rows => leV v' (spec16 ()).v ∧ rows = (spec16 ()).rows := by
  refine conj_sat (cast (by kernel_rfl) (?_ : ((0 : Int) ≤ (0 : Int) ∧ (0 : Int) < (↑(waysW (2 : Int) true).length : Int)) ∧ ((0 : Int) ≤ (1 : Int) ∧ (1 : Int) < (↑(waysW (2 : Int) true).length : Int)) ∧ (bif (↑(waysW (2 : Int) true).length : Int) == (2 : Int) then bif (waysW (2 : Int) true).getD (Int.toNat (0 : Int)) (dflt (Ty.int IntKind.u8)) == (6 : Int) then bif (waysW (2 : Int) true).getD (Int.toNat (1 : Int)) (dflt (Ty.int IntKind.u8)) == (8 : Int) then bif possibleW (Delivery.mk (1 : Int) (0 : Int) (0 : Int) (0 : Int) (0 : Int) false (1 : Int) (1 : Int) (0 : Int) (0 : Int) false (0 : Int)) false == (0 : Int) then bif possibleW (Delivery.mk (3 : Int) (0 : Int) (0 : Int) (0 : Int) (0 : Int) false (1 : Int) (1 : Int) (0 : Int) (0 : Int) false (0 : Int)) false == (13 : Int) then (ofW (3 : Int)).2.toList == (ByteArray.mk #[(76 : UInt8), (66 : UInt8), (87 : UInt8)]).toList else false else false else false else false else false) = true ∧ ([] : List RowD) = []))
  exact ⟨⟨of_decide_eq_true (by kernel_rfl), of_decide_eq_true (by kernel_rfl)⟩, ⟨of_decide_eq_true (by kernel_rfl), of_decide_eq_true (by kernel_rfl)⟩, by kernel_rfl, rfl⟩
theorem ok16 : CtrOK Try.prog KK 16 (pureCtr KK ps61 spec16) := by
  refine pure_ok (C := cfgF [k20, k17, k25] Try.f16) (cfgOK (.cons ok20 (.cons ok17 (.cons ok25 .nil))) _) mixed (fn := Try.f16) Try.func16 (by kernel_rfl) (by kernel_rfl) (by kernel_rfl) (Λ := fun _ _ => none) ?_ ?_ ?_
  · exact fun _ _ _ _ _ _ _ _ h => by cases h
  · rintro ⟨⟩
    exact of_decide_eq_true (by kernel_rfl)
  · rintro ⟨⟩ _ _
    exact run16 

end Go.Proofs.Ytogdeefpidccmaa

/- The dismissal layer, second part: names, lists, victims: plain functions and states of loops. -/
namespace Go.Proofs.Ytogdeefpidccmaa
open Go Go.Mir

def creditedW (h : Int) : Bool := decide (h ≥ 1) && decide (h ≤ 5)
def spec19 : Den ps57 → PRes := fun x => ⟨[], .bool (creditedW x.1), []⟩
def spec22 : Den ps57 → PRes := fun x => ⟨[], .tup [.bool (ofW x.1).fielder, .bool (ofW x.1).fielder, .bool (isRun x.1)], []⟩
def psS : Ty := .prod .str .unit
def named (s : ByteArray) (w : dismissal_way) : Bool := w.name.toList == s.toList
def parseHow (s : ByteArray) : Int := ((wtab.find? (named s)).getD dismissal_way.zero).how
def parseErr (s : ByteArray) : Int := bif wtab.any (named s) then 0 else 4
def spec23 : Den psS → PRes := fun x => ⟨[], .tup [.int .u8 (parseHow x.1), .int .i64 (parseErr x.1)], []⟩
def ntab : List ByteArray := [{ data := #[78, 79, 84, 79, 85, 84] }, { data := #[66, 79, 87, 76, 69, 68] }, { data := #[67, 65, 85, 71, 72, 84] }, { data := #[76, 66, 87] }, { data := #[83, 84, 85, 77, 80, 69, 68] }, { data := #[72, 73, 84, 87, 73, 67, 75, 69, 84] },
  { data := #[82, 85, 78, 79, 85, 84] }, { data := #[72, 73, 84, 84, 87, 73, 67, 69] }, { data := #[79, 66, 83, 84, 82, 85, 67, 84, 73, 78, 71] }, { data := #[84, 73, 77, 69, 68, 79, 85, 84] }, { data := #[82, 69, 84, 73, 82, 69, 68] }]
def spec64 : Den ps61 → PRes := fun _ => ⟨[], .osl 0 0, [⟨.str, ntab⟩]⟩
def victimW (d : Delivery) (s o : Int) : Int := if d.How == 0 then 0 else if d.Victim == 1 then s else if d.Victim == 2 then o else 0
def psV : Ty := .prod (.nm .Delivery) (.prod (.int .i64) (.prod (.int .i64) .unit))
def spec27 : Den psV → PRes := fun x => ⟨[], .int .i64 (victimW x.1 x.2.1 x.2.2.1), []⟩
def spec31 : Den ps20 → PRes := fun x => ⟨[], .osl 0 0, [⟨.int .u8, waysW x.1 x.2.1⟩]⟩
def eqL (xs ys : List Int) : Bool := decide (xs = ys)
def ps30 : Ty := .prod (.slice (.int .u8)) (.prod (.slice (.int .u8)) .unit)
def spec30 : Den ps30 → PRes := fun x => ⟨[], .bool (eqL x.1 x.2.1), []⟩

def k19 : FuncId × Ctr := (19, pureCtr KK ps57 spec19)
def k22 : FuncId × Ctr := (22, pureCtr KK ps57 spec22)
def k23 : FuncId × Ctr := (23, pureCtr KK psS spec23)
def k24 : FuncId × Ctr := (24, pureCtr KK psS spec23)
def k26 : FuncId × Ctr := (26, pureCtr KK ps57 spec25)
def k27 : FuncId × Ctr := (27, pureCtr KK psV spec27)
def k28 : FuncId × Ctr := (28, pureCtr KK psV spec27)
def k30 : FuncId × Ctr := (30, pureCtr KK ps30 spec30)
def k31 : FuncId × Ctr := (31, pureCtr KK ps20 spec31)
def k64 : FuncId × Ctr := (64, pureCtr KK ps61 spec64)

/-! ## loops -/
def inv23 (s : ByteArray) (i : Nat) : Prop := i ≤ 11 ∧ ∀ w ∈ wtab.take i, named s w = false
def L23 (i : Nat) : List (Lspec Nat) := [.out [true] [] [], .next (i + 1) [] [], .out [false] [] []]
def T23 (s : ByteArray) : Tr := .br (wtab.any (named s)) (.leaf .ret ⟨[(2, .int .u8 (parseHow s)), (3, .int .i64 0)], []⟩ 20) (.leaf (.ext 0) ⟨[], []⟩ 20)
def J23 (s : ByteArray) (i : Nat) : St := ⟨[(0, .str s), (6, .osl 8 8), (7, .int .i64 wtab.length), (8, .int .i64 i)], [(8, .row 8 true (.nm .dismissal_way) wtab)], fun _ => none, 20⟩
def Λ23 (s : ByteArray) : Nat → Option LoopSum := find [(2, loopSum ⟨[], [], 20⟩ (J23 s 0) (T23 s))]
def J24 (s : ByteArray) (i : Nat) : St := ⟨[(0, .str s), (6, .osl 8 8), (7, .int .i64 ntab.length), (8, .int .i64 i)], [(8, .row 8 true .str ntab)], fun _ => none, 20⟩
def Λ24 (s : ByteArray) : Nat → Option LoopSum := find [(2, loopSum ⟨[], [], 20⟩ (J24 s 0) (T23 s))]

def inv30 (xs ys : List Int) (i : Nat) : Prop := i ≤ xs.length ∧ xs.length = ys.length ∧ xs.take i = ys.take i
def L30 (i : Nat) : List (Lspec Nat) := [.out [false] [] [], .next (i + 1) [] [], .out [true] [] []]
def T30 (xs ys : List Int) : Tr := .br (eqL xs ys) (.leaf (.ext 0) ⟨[], []⟩ 36) (.leaf .ret ⟨[(4, .kb false)], []⟩ 36)
def J30 (xs ys : List Int) (i : Nat) : St := ⟨[(0, .fsl (.int .u8) xs), (1, .fsl (.int .u8) ys), (12, .int .i64 xs.length), (13, .int .i64 i)], [], fun _ => none, 36⟩
def Λ30 (xs ys : List Int) : Nat → Option LoopSum := find [(4, (loopSum ⟨[], [], 36⟩ (J30 xs ys 0) (T30 xs ys)).under (xs.length = ys.length))]

def waysR (t : Int) (free : Bool) (i : Nat) : List Int := ((List.range i).map fun k : Nat => (k : Int) + 1).filter fun h => onR h t && (!free || onFreeR h)
def inv31 (i : Nat) : Prop := i ≤ 10
def L31 (i : Nat) : List (Lspec Nat) := [.next (i + 1) [(13, 80)] [], .next (i + 1) [] [], .out [] [] []]
def T31 (t : Int) (free : Bool) : Tr := .leaf (.ext 0) ⟨[(5, .osl 12 13)], [(12, .row 13 true (.int .u8) (waysR t free 10))]⟩ 16
def J31 (t : Int) (free : Bool) (i : Nat) : St := ⟨[(0, .int .u8 t), (1, .bool free), (5, .osl 12 13), (6, .int .u8 ((i : Int) + 1))], [(12, .row 13 true (.int .u8) (waysR t free i))], fun _ => none, 16⟩
def Λ31 (t : Int) (free : Bool) : Nat → Option LoopSum := find [(3, loopSum ⟨[], [12], 16⟩ (J31 t free 0) (T31 t free))]

/-! the law with a loop -/
def J5 (d : Delivery) (free : Bool) (i : Nat) : St := ⟨[(1, .bool free), (2, .ptr 0 0), (34, .osl 28 28), (35, .int .i64 (waysW d.Typ free).length), (36, .int .i64 i)],
  [(28, .row 28 true (.int .u8) (waysW d.Typ free)), (0, .cells (flat FUEL (.nm .Delivery) d))], fun _ => none, 112⟩
def T5 : Tr := .br true (.leaf (.ext 0) ⟨[], []⟩ 112) (.leaf .ret ⟨[(4, .kb false)], []⟩ 112)
def inv5 (d : Delivery) (free : Bool) (i : Nat) : Prop := i ≤ (waysW d.Typ free).length
def L5 (i : Nat) : List (Lspec Nat) := [.out [false] [] [], .next (i + 1) [] [], .out [true] [] []]
def Λ5 (d : Delivery) (free : Bool) : Nat → Option LoopSum := find [(7, loopSum ⟨[], [], 112⟩ (J5 d free 0) T5)]

end Go.Proofs.Ytogdeefpidccmaa

/- The dismissal layer, second part: contracts. -/
namespace Go.Proofs.Ytogdeefpidccmaa
open Go Go.Mir
attribute [local irreducible] Go.Mir.RT.sat Go.Mir.evFn Go.Mir.stepObl
theorem wf_u8 {n : Int} (h : wfD (.int .u8) n) : 0 ≤ n ∧ n ≤ 255 := by
  obtain ⟨S, w, cs, h⟩ := h
  cases h with | int h => exact ⟨by have := h.1; simpa [IntKind.min, IntKind.max, IntKind.signed, IntKind.bits] using this, by have := h.2; simpa [IntKind.min, IntKind.max, IntKind.signed, IntKind.bits] using this⟩

theorem wrapu8 {n : Int} (h1 : 0 ≤ n) (h2 : n ≤ 255) : IntKind.u8.wrap n = n := by
  simp only [IntKind.wrap, IntKind.bits, IntKind.signed]
  simp
  omega

theorem wtab_at (i : Nat) (h : i < 11) : (wtab.getD i (dflt (Ty.nm Nm.dismissal_way))).how = i ∧ ntab.getD i (dflt Ty.str) = (wtab.getD i (dflt (Ty.nm Nm.dismissal_way))).name := by
  have : i = 0 ∨ i = 1 ∨ i = 2 ∨ i = 3 ∨ i = 4 ∨ i = 5 ∨ i = 6 ∨ i = 7 ∨ i = 8 ∨ i = 9 ∨ i = 10 := by omega
  rcases this with rfl | rfl | rfl | rfl | rfl | rfl | rfl | rfl | rfl | rfl | rfl <;> exact ⟨rfl, rfl⟩

theorem ofW_at (i : Nat) (h : i < 11) : ofW i = wtab.getD i (dflt (Ty.nm Nm.dismissal_way)) := by
  have : i = 0 ∨ i = 1 ∨ i = 2 ∨ i = 3 ∨ i = 4 ∨ i = 5 ∨ i = 6 ∨ i = 7 ∨ i = 8 ∨ i = 9 ∨ i = 10 := by omega
  rcases this with rfl | rfl | rfl | rfl | rfl | rfl | rfl | rfl | rfl | rfl | rfl <;> rfl

theorem ofW_out (h : Int) (h1 : h < 0 ∨ 10 < h) : ofW h = dismissal_way.zero := by
  unfold ofW
  rw [List.find?_eq_none.2]
  · rfl
  · intro x hx
    simp only [wtab, List.mem_cons, List.not_mem_nil, or_false] at hx
    rcases hx with rfl | rfl | rfl | rfl | rfl | rfl | rfl | rfl | rfl | rfl | rfl <;> simp <;> omega

theorem run19 (h : Int)  : (evFn (cfgF [] Try.f19) (fun _ => none) Try.f19 (argsV ps57 (h, ()))).sat fun v' rows => leV v' (spec19 (h, ())).v ∧ rows = (spec19 (h, ())).rows := by
  refine cast (by kernel_rfl) (?_ : (bif decide (h ≥ (1 : Int)) then decide (h ≤ (5 : Int)) else false) = creditedW h ∧ ([] : List RowD) = [])
  simp only [creditedW]; grind
theorem ok19 : CtrOK Try.prog KK 19 (pureCtr KK ps57 spec19) := by
  refine pure_ok (C := cfgF [] Try.f19) (cfgOK (CtrsOK.nil) _) mixed (fn := Try.f19) Try.func19 (by kernel_rfl) (by kernel_rfl) (by kernel_rfl) (Λ := fun _ _ => none) ?_ ?_ ?_
  · exact fun _ _ _ _ _ _ _ _ h => by cases h
  · rintro ⟨h, ⟨⟩⟩
    exact of_decide_eq_true (by kernel_rfl)
  · rintro ⟨h, ⟨⟩⟩ hw hn
    exact run19 h

theorem run22 (h : Int)  : (evFn (cfgF [k57] Try.f22) (fun _ => none) Try.f22 (argsV ps57 (h, ()))).sat fun v' rows => leV v' (spec22 (h, ())).v ∧ rows = (spec22 (h, ())).rows := by
  refine cast (by kernel_rfl) (?_ : ((ofW h).6 = (ofW h).6 ∧ (ofW h).6 = (ofW h).6 ∧ (h == (6 : Int)) = isRun h ∧ True) ∧ ([] : List RowD) = [])
  exact ⟨⟨rfl, rfl, rfl, trivial⟩, rfl⟩
theorem ok22 : CtrOK Try.prog KK 22 (pureCtr KK ps57 spec22) := by
  refine pure_ok (C := cfgF [k57] Try.f22) (cfgOK (.cons ok57 .nil) _) mixed (fn := Try.f22) Try.func22 (by kernel_rfl) (by kernel_rfl) (by kernel_rfl) (Λ := fun _ _ => none) ?_ ?_ ?_
  · exact fun _ _ _ _ _ _ _ _ h => by cases h
  · rintro ⟨h, ⟨⟩⟩
    exact of_decide_eq_true (by kernel_rfl)
  · rintro ⟨h, ⟨⟩⟩ hw hn
    exact run22 h

theorem run64   : (evFn (cfgF [] Try.f64) (fun _ => none) Try.f64 (argsV ps61 ())).sat fun v' rows => leV v' (spec64 ()).v ∧ rows = (spec64 ()).rows := by
  refine cast (by kernel_rfl) (?_ : (nat_lit 0 = nat_lit 0 ∧ nat_lit 0 = nat_lit 0) ∧ [RowD.mk Ty.str [ByteArray.mk #[(78 : UInt8), (79 : UInt8), (84 : UInt8), (79 : UInt8), (85 : UInt8), (84 : UInt8)], ByteArray.mk #[(66 : UInt8), (79 : UInt8), (87 : UInt8), (76 : UInt8), (69 : UInt8), (68 : UInt8)], ByteArray.mk #[(67 : UInt8), (65 : UInt8), (85 : UInt8), (71 : UInt8), (72 : UInt8), (84 : UInt8)], ByteArray.mk #[(76 : UInt8), (66 : UInt8), (87 : UInt8)], ByteArray.mk #[(83 : UInt8), (84 : UInt8), (85 : UInt8), (77 : UInt8), (80 : UInt8), (69 : UInt8), (68 : UInt8)], ByteArray.mk #[(72 : UInt8), (73 : UInt8), (84 : UInt8), (87 : UInt8), (73 : UInt8), (67 : UInt8), (75 : UInt8), (69 : UInt8), (84 : UInt8)], ByteArray.mk #[(82 : UInt8), (85 : UInt8), (78 : UInt8), (79 : UInt8), (85 : UInt8), (84 : UInt8)], ByteArray.mk #[(72 : UInt8), (73 : UInt8), (84 : UInt8), (84 : UInt8), (87 : UInt8), (73 : UInt8), (67 : UInt8), (69 : UInt8)], ByteArray.mk #[(79 : UInt8), (66 : UInt8), (83 : UInt8), (84 : UInt8), (82 : UInt8), (85 : UInt8), (67 : UInt8), (84 : UInt8), (73 : UInt8), (78 : UInt8), (71 : UInt8)], ByteArray.mk #[(84 : UInt8), (73 : UInt8), (77 : UInt8), (69 : UInt8), (68 : UInt8), (79 : UInt8), (85 : UInt8), (84 : UInt8)], ByteArray.mk #[(82 : UInt8), (69 : UInt8), (84 : UInt8), (73 : UInt8), (82 : UInt8), (69 : UInt8), (68 : UInt8)]]] = [RowD.mk Ty.str ntab])
  exact ⟨⟨rfl, rfl⟩, by kernel_rfl⟩
theorem ok64 : CtrOK Try.prog KK 64 (pureCtr KK ps61 spec64) := by
  refine pure_ok (C := cfgF [] Try.f64) (cfgOK (CtrsOK.nil) _) mixed (fn := Try.f64) Try.func64 (by kernel_rfl) (by kernel_rfl) (by kernel_rfl) (Λ := fun _ _ => none) ?_ ?_ ?_
  · exact fun _ _ _ _ _ _ _ _ h => by cases h
  · rintro ⟨⟩
    exact of_decide_eq_true (by kernel_rfl)
  · rintro ⟨⟩ hw hn
    exact run64 

theorem run27 (d : Delivery) (s : Int) (o : Int)  : (evFn (cfgF [] Try.f27) (fun _ => none) Try.f27 (argsV psV (d, s, o, ()))).sat fun v' rows => leV v' (spec27 (d, s, o, ())).v ∧ rows = (spec27 (d, s, o, ())).rows := by
  refine cast (by kernel_rfl) (?_ : ((d.7 == (0 : Int)) = true → (0 : Int) = victimW d s o ∧ ([] : List RowD) = []) ∧ ((d.7 == (0 : Int)) = false → ((d.8 == (1 : Int)) = true → s = victimW d s o ∧ ([] : List RowD) = []) ∧ ((d.8 == (1 : Int)) = false → ((d.8 == (2 : Int)) = true → o = victimW d s o ∧ ([] : List RowD) = []) ∧ ((d.8 == (2 : Int)) = false → (0 : Int) = victimW d s o ∧ ([] : List RowD) = []))))
  simp only [victimW]; grind
theorem ok27 : CtrOK Try.prog KK 27 (pureCtr KK psV spec27) := by
  refine pure_ok (C := cfgF [] Try.f27) (cfgOK (CtrsOK.nil) _) mixed (fn := Try.f27) Try.func27 (by kernel_rfl) (by kernel_rfl) (by kernel_rfl) (Λ := fun _ _ => none) ?_ ?_ ?_
  · exact fun _ _ _ _ _ _ _ _ h => by cases h
  · rintro ⟨d, s, o, ⟨⟩⟩
    exact of_decide_eq_true (by kernel_rfl)
  · rintro ⟨d, s, o, ⟨⟩⟩ hw hn
    exact run27 d s o

theorem run28 (d : Delivery) (s : Int) (o : Int)  : (evFn (cfgF [] Try.f28) (fun _ => none) Try.f28 (argsV psV (d, s, o, ()))).sat fun v' rows => leV v' (spec27 (d, s, o, ())).v ∧ rows = (spec27 (d, s, o, ())).rows := by
  refine cast (by kernel_rfl) (?_ : ((d.7 == (0 : Int)) = true → (0 : Int) = victimW d s o ∧ ([] : List RowD) = []) ∧ ((d.7 == (0 : Int)) = false → ((d.8 == (1 : Int)) = true → s = victimW d s o ∧ ([] : List RowD) = []) ∧ ((d.8 == (1 : Int)) = false → ((d.8 == (2 : Int)) = true → o = victimW d s o ∧ ([] : List RowD) = []) ∧ ((d.8 == (2 : Int)) = false → (0 : Int) = victimW d s o ∧ ([] : List RowD) = []))))
  simp only [victimW]; grind
theorem ok28 : CtrOK Try.prog KK 28 (pureCtr KK psV spec27) := by
  refine pure_ok (C := cfgF [] Try.f28) (cfgOK (CtrsOK.nil) _) mixed (fn := Try.f28) Try.func28 (by kernel_rfl) (by kernel_rfl) (by kernel_rfl) (Λ := fun _ _ => none) ?_ ?_ ?_
  · exact fun _ _ _ _ _ _ _ _ h => by cases h
  · rintro ⟨d, s, o, ⟨⟩⟩
    exact of_decide_eq_true (by kernel_rfl)
  · rintro ⟨d, s, o, ⟨⟩⟩ hw hn
    exact run28 d s o

theorem run26 (h : Int) (h0 : 0 ≤ h) : (evFn (cfgF [k64] Try.f26) (fun _ => none) Try.f26 (argsV ps57 (h, ()))).sat fun v' rows => leV v' (spec25 (h, ())).v ∧ rows = (spec25 (h, ())).rows := by
  refine cast (by kernel_rfl) (?_ : (decide (h > (10 : Int)) = true → ByteArray.mk #[] = (ofW h).2 ∧ ([] : List RowD) = []) ∧ (decide (h > (10 : Int)) = false → ((0 : Int) ≤ h ∧ h < (↑ntab.length : Int)) ∧ ntab.getD h.toNat (dflt Ty.str) = (ofW h).2 ∧ ([] : List RowD) = []))
  refine ⟨fun h1 => ⟨?_, rfl⟩, fun h1 => ?_⟩
  · have h1 : 10 < h := by simpa using h1
    rw [ofW_out h (.inr h1)]; rfl
  · have h1 : h ≤ 10 := by simpa using h1
    obtain ⟨i, rfl⟩ : ∃ i : Nat, h = i := ⟨h.toNat, by omega⟩
    have h2 : i < 11 := by omega
    have hn : ntab.length = 11 := rfl
    refine ⟨⟨by omega, by omega⟩, ?_, rfl⟩
    rw [ofW_at i h2, ← (wtab_at i h2).2, Int.toNat_natCast]
theorem ok26 : CtrOK Try.prog KK 26 (pureCtr KK ps57 spec25) := by
  refine pure_ok (C := cfgF [k64] Try.f26) (cfgOK (.cons ok64 .nil) _) mixed (fn := Try.f26) Try.func26 (by kernel_rfl) (by kernel_rfl) (by kernel_rfl) (Λ := fun _ _ => none) ?_ ?_ ?_
  · exact fun _ _ _ _ _ _ _ _ h => by cases h
  · rintro ⟨h, ⟨⟩⟩
    exact of_decide_eq_true (by kernel_rfl)
  · rintro ⟨h, ⟨⟩⟩ hw hn
    exact run26 h (wf_u8 (wf_fst hw)).1

theorem step23 (s : ByteArray)  (i : Nat) (hi : inv23 s i) : (stepObl (J23 s) (inv23 s) (fun i => 11 - i) i (T23 s) (evCode (cfgF [k61] Try.f23) (fun _ => none) (loopN Try.f23 0) (J23 s i)) (L23 i)).1 := by
  refine cast (by kernel_rfl) (?_ : (decide ((↑i : Int) < (↑wtab.length : Int)) = true → ((0 : Int) ≤ (↑i : Int) ∧ (↑i : Int) < (↑wtab.length : Int)) ∧ (((wtab.getD (↑i : Int).toNat (dflt (Ty.nm Nm.dismissal_way))).2.toList == s.toList) = true → wtab.any (named s) = true ∧ ((wtab.getD (↑i : Int).toNat (dflt (Ty.nm Nm.dismissal_way))).1 = parseHow s ∧ (0 : Int) = (0 : Int) ∧ True) ∧ True) ∧ (((wtab.getD (↑i : Int).toNat (dflt (Ty.nm Nm.dismissal_way))).2.toList == s.toList) = false → inv23 s (i + (1 : Nat)) ∧ (11 : Nat) - (i + (1 : Nat)) < (11 : Nat) - i ∧ (s = s ∧ True ∧ (↑wtab.length : Int) = (↑wtab.length : Int) ∧ IntKind.i64.wrap ((↑i : Int) + (1 : Int)) = (↑(i + (1 : Nat)) : Int) ∧ True) ∧ RowD.mk (Ty.nm Nm.dismissal_way) wtab = RowD.mk (Ty.nm Nm.dismissal_way) wtab ∧ True)) ∧ (decide ((↑i : Int) < (↑wtab.length : Int)) = false → wtab.any (named s) = false ∧ True ∧ True))
  have e : (i : Int).toNat = i := by simp
  rw [e]
  generalize hw : wtab.getD i (dflt (Ty.nm Nm.dismissal_way)) = w
  refine ⟨fun h1 => ?_, fun h1 => ?_⟩
  · have h1 : i < wtab.length := by simpa using h1
    have h3 : wtab[i]? = some w := by rw [← hw]; exact getD_at _ h1
    refine ⟨⟨by omega, by omega⟩, fun h2 => ?_, fun h2 => ?_⟩
    · have h4 : parseHow s = w.how := by
        unfold parseHow
        rw [find_at (named s) wtab i w h3 h2 hi.2]; rfl
      have h5 : wtab.any (named s) = true := List.any_eq_true.2 ⟨w, List.mem_of_getElem? h3, h2⟩
      rw [h4]
      exact ⟨h5, ⟨rfl, rfl, trivial⟩, trivial⟩
    · rw [wlen] at h1
      refine ⟨⟨by omega, fun y hy => ?_⟩, by omega, ⟨rfl, trivial, rfl, ?_, trivial⟩, rfl, trivial⟩
      · rw [List.take_add_one, h3] at hy
        rcases List.mem_append.1 hy with hy | hy
        · exact hi.2 y hy
        · simp at hy; subst hy; exact h2
      · rw [wrap64 (by omega) (by omega)]; omega
  · have h1 : wtab.length ≤ i := by simpa using h1
    refine ⟨?_, trivial, trivial⟩
    rw [List.any_eq_false]
    intro x hx
    have := hi.2 x (by rw [List.take_of_length_le h1]; exact hx)
    simpa using this
theorem loop23 (s : ByteArray)  : LoopOK Try.prog Try.f23.ntmps (loopN Try.f23 0) (loopSum ⟨[], [], 20⟩ (J23 s 0) (T23 s)) :=
  loop_by (cfgOK (.cons ok61 .nil) _) mixed (J23 s) (fun _ => rfl) (inv23 s) (fun i => 11 - i) (fun _ _ => none) (fun _ _ _ _ _ h => by cases h) (T23 s) [] [] 0 (⟨Nat.zero_le _, by simp⟩) L23 (fun i hi => step23 s  i hi)
theorem run23 (s : ByteArray)  : (evFn (cfgF [k61] Try.f23) (Λ23 s) Try.f23 (argsV psS (s, ()))).sat fun v' rows => leV v' (spec23 (s, ())).v ∧ rows = (spec23 (s, ())).rows := by
  refine cast (by kernel_rfl) (?_ : ((noH0 fun x => none) ∧ (s = s ∧ True ∧ (↑wtab.length : Int) = (↑wtab.length : Int) ∧ (0 : Int) = (↑(0 : Nat) : Int) ∧ True) ∧ RowD.mk (Ty.nm Nm.dismissal_way) wtab = RowD.mk (Ty.nm Nm.dismissal_way) wtab ∧ True) ∧ (wtab.any (named s) = true → (parseHow s = parseHow s ∧ (0 : Int) = parseErr s ∧ True) ∧ ([] : List RowD) = []) ∧ (wtab.any (named s) = false → ((0 : Int) = parseHow s ∧ (4 : Int) = parseErr s ∧ True) ∧ ([] : List RowD) = []))
  have hE : parseErr s = bif wtab.any (named s) then 0 else 4 := rfl
  have hN : wtab.any (named s) = false → parseHow s = 0 := fun h1 => by
    unfold parseHow
    rw [List.find?_eq_none.2 fun x hx => (List.any_eq_false.1 h1) x hx]; rfl
  refine ⟨⟨rfl, ⟨rfl, trivial, rfl, rfl, trivial⟩, rfl, trivial⟩, fun h1 => ⟨⟨rfl, by rw [hE, h1]; rfl, trivial⟩, rfl⟩, fun h1 => ⟨⟨(hN h1).symm, by rw [hE, h1]; rfl, trivial⟩, rfl⟩⟩
theorem ok23 : CtrOK Try.prog KK 23 (pureCtr KK psS spec23) := by
  refine pure_ok (C := cfgF [k61] Try.f23) (cfgOK (.cons ok61 .nil) _) mixed (fn := Try.f23) Try.func23 (by kernel_rfl) (by kernel_rfl) (by kernel_rfl) (Λ := fun x => Λ23 x.1) ?_ ?_ ?_
  · rintro ⟨s, ⟨⟩⟩ hw _
    exact LoopsOK.at (by kernel_rfl) (.cons (by kernel_rfl) (loop23 s) .nil)
  · rintro ⟨s, ⟨⟩⟩
    exact of_decide_eq_true (by kernel_rfl)
  · rintro ⟨s, ⟨⟩⟩ hw hn
    exact run23 s

theorem step24 (s : ByteArray)  (i : Nat) (hi : inv23 s i) : (stepObl (J24 s) (inv23 s) (fun i => 11 - i) i (T23 s) (evCode (cfgF [k64] Try.f24) (fun _ => none) (loopN Try.f24 0) (J24 s i)) (L23 i)).1 := by
  refine cast (by kernel_rfl) (?_ : (decide ((↑i : Int) < (↑ntab.length : Int)) = true → ((0 : Int) ≤ (↑i : Int) ∧ (↑i : Int) < (↑ntab.length : Int)) ∧ ((ByteArray.toList (ntab.getD (↑i : Int).toNat (dflt Ty.str)) == s.toList) = true → wtab.any (named s) = true ∧ (IntKind.u8.wrap (↑i : Int) = parseHow s ∧ (0 : Int) = (0 : Int) ∧ True) ∧ True) ∧ ((ByteArray.toList (ntab.getD (↑i : Int).toNat (dflt Ty.str)) == s.toList) = false → inv23 s (i + (1 : Nat)) ∧ (11 : Nat) - (i + (1 : Nat)) < (11 : Nat) - i ∧ (s = s ∧ True ∧ (↑ntab.length : Int) = (↑ntab.length : Int) ∧ IntKind.i64.wrap ((↑i : Int) + (1 : Int)) = (↑(i + (1 : Nat)) : Int) ∧ True) ∧ RowD.mk Ty.str ntab = RowD.mk Ty.str ntab ∧ True)) ∧ (decide ((↑i : Int) < (↑ntab.length : Int)) = false → wtab.any (named s) = false ∧ True ∧ True))
  have e : (i : Int).toNat = i := by simp
  rw [e]
  have hnl : ntab.length = 11 := rfl
  refine ⟨fun h1 => ?_, fun h1 => ?_⟩
  · have h1 : i < 11 := by have : (i : Int) < (ntab.length : Int) := by simpa using h1
                           omega
    rw [(wtab_at i h1).2]
    have hh := (wtab_at i h1).1
    generalize hw : wtab.getD i (dflt (Ty.nm Nm.dismissal_way)) = w at *
    have h3 : wtab[i]? = some w := by rw [← hw]; exact getD_at _ (by rw [wlen]; exact h1)
    refine ⟨⟨by omega, by omega⟩, fun h2 => ?_, fun h2 => ?_⟩
    · have h4 : parseHow s = w.how := by
        unfold parseHow
        rw [find_at (named s) wtab i w h3 h2 hi.2]; rfl
      have h5 : wtab.any (named s) = true := List.any_eq_true.2 ⟨w, List.mem_of_getElem? h3, h2⟩
      rw [h4, hh]
      exact ⟨h5, ⟨wrapu8 (by omega) (by omega), rfl, trivial⟩, trivial⟩
    · refine ⟨⟨by omega, fun y hy => ?_⟩, by omega, ⟨rfl, trivial, rfl, ?_, trivial⟩, rfl, trivial⟩
      · rw [List.take_add_one, h3] at hy
        rcases List.mem_append.1 hy with hy | hy
        · exact hi.2 y hy
        · simp at hy; subst hy; exact h2
      · rw [wrap64 (by omega) (by omega)]; omega
  · have h1 : wtab.length ≤ i := by have : ¬ (i : Int) < (ntab.length : Int) := by simpa using h1
                                    rw [wlen]; omega
    refine ⟨?_, trivial, trivial⟩
    rw [List.any_eq_false]
    intro x hx
    have := hi.2 x (by rw [List.take_of_length_le h1]; exact hx)
    simpa using this
theorem loop24 (s : ByteArray)  : LoopOK Try.prog Try.f24.ntmps (loopN Try.f24 0) (loopSum ⟨[], [], 20⟩ (J24 s 0) (T23 s)) :=
  loop_by (cfgOK (.cons ok64 .nil) _) mixed (J24 s) (fun _ => rfl) (inv23 s) (fun i => 11 - i) (fun _ _ => none) (fun _ _ _ _ _ h => by cases h) (T23 s) [] [] 0 (⟨Nat.zero_le _, by simp⟩) L23 (fun i hi => step24 s  i hi)
theorem run24 (s : ByteArray)  : (evFn (cfgF [k64] Try.f24) (Λ24 s) Try.f24 (argsV psS (s, ()))).sat fun v' rows => leV v' (spec23 (s, ())).v ∧ rows = (spec23 (s, ())).rows := by
  refine cast (by kernel_rfl) (?_ : ((noH0 fun x => none) ∧ (s = s ∧ True ∧ (↑ntab.length : Int) = (↑ntab.length : Int) ∧ (0 : Int) = (↑(0 : Nat) : Int) ∧ True) ∧ RowD.mk Ty.str ntab = RowD.mk Ty.str ntab ∧ True) ∧ (wtab.any (named s) = true → (parseHow s = parseHow s ∧ (0 : Int) = parseErr s ∧ True) ∧ ([] : List RowD) = []) ∧ (wtab.any (named s) = false → ((0 : Int) = parseHow s ∧ (4 : Int) = parseErr s ∧ True) ∧ ([] : List RowD) = []))
  have hE : parseErr s = bif wtab.any (named s) then 0 else 4 := rfl
  have hN : wtab.any (named s) = false → parseHow s = 0 := fun h1 => by
    unfold parseHow
    rw [List.find?_eq_none.2 fun x hx => (List.any_eq_false.1 h1) x hx]; rfl
  refine ⟨⟨rfl, ⟨rfl, trivial, rfl, rfl, trivial⟩, rfl, trivial⟩, fun h1 => ⟨⟨rfl, by rw [hE, h1]; rfl, trivial⟩, rfl⟩, fun h1 => ⟨⟨(hN h1).symm, by rw [hE, h1]; rfl, trivial⟩, rfl⟩⟩
theorem ok24 : CtrOK Try.prog KK 24 (pureCtr KK psS spec23) := by
  refine pure_ok (C := cfgF [k64] Try.f24) (cfgOK (.cons ok64 .nil) _) mixed (fn := Try.f24) Try.func24 (by kernel_rfl) (by kernel_rfl) (by kernel_rfl) (Λ := fun x => Λ24 x.1) ?_ ?_ ?_
  · rintro ⟨s, ⟨⟩⟩ hw _
    exact LoopsOK.at (by kernel_rfl) (.cons (by kernel_rfl) (loop24 s) .nil)
  · rintro ⟨s, ⟨⟩⟩
    exact of_decide_eq_true (by kernel_rfl)
  · rintro ⟨s, ⟨⟩⟩ hw hn
    exact run24 s

theorem step30 (xs : List Int) (ys : List Int) (hx : xs.length ≤ lenB) (hl : xs.length = ys.length) (i : Nat) (hi : inv30 xs ys i) : (stepObl (J30 xs ys) (inv30 xs ys) (fun i => xs.length - i) i (T30 xs ys) (evCode (cfgF [] Try.f30) (fun _ => none) (loopN Try.f30 0) (J30 xs ys i)) (L30 i)).1 := by
  refine cast (by kernel_rfl) (?_ : (decide ((↑i : Int) < (↑xs.length : Int)) = true → ((0 : Int) ≤ (↑i : Int) ∧ (↑i : Int) < (↑xs.length : Int)) ∧ ((0 : Int) ≤ (↑i : Int) ∧ (↑i : Int) < (↑ys.length : Int)) ∧ ((xs.getD (↑i : Int).toNat (dflt (Ty.int IntKind.u8)) != ys.getD (↑i : Int).toNat (dflt (Ty.int IntKind.u8))) = true → eqL xs ys = false ∧ (false = false ∧ True) ∧ True) ∧ ((xs.getD (↑i : Int).toNat (dflt (Ty.int IntKind.u8)) != ys.getD (↑i : Int).toNat (dflt (Ty.int IntKind.u8))) = false → inv30 xs ys (i + (1 : Nat)) ∧ xs.length - (i + (1 : Nat)) < xs.length - i ∧ (RowD.mk (Ty.int IntKind.u8) xs = RowD.mk (Ty.int IntKind.u8) xs ∧ RowD.mk (Ty.int IntKind.u8) ys = RowD.mk (Ty.int IntKind.u8) ys ∧ (↑xs.length : Int) = (↑xs.length : Int) ∧ IntKind.i64.wrap ((↑i : Int) + (1 : Int)) = (↑(i + (1 : Nat)) : Int) ∧ True) ∧ True)) ∧ (decide ((↑i : Int) < (↑xs.length : Int)) = false → eqL xs ys = true ∧ True ∧ True))
  have e : (i : Int).toNat = i := by simp
  rw [e]
  have hd : ∀ zs : List Int, i < zs.length → zs[i]? = some (zs.getD i (dflt (Ty.int IntKind.u8))) := fun zs h => getD_at _ h
  refine ⟨fun h1 => ?_, fun h1 => ?_⟩
  · have h1 : i < xs.length := by simpa using h1
    have hdx := hd xs h1
    have hdy := hd ys (by omega)
    refine ⟨⟨by omega, by omega⟩, ⟨by omega, by omega⟩, fun h2 => ?_, fun h2 => ?_⟩
    · refine ⟨?_, ⟨rfl, trivial⟩, trivial⟩
      have h2 : ¬ xs.getD i (dflt (Ty.int IntKind.u8)) = ys.getD i (dflt (Ty.int IntKind.u8)) := by simpa using h2
      refine decide_eq_false fun he => h2 (by rw [he])
    · have h2 : xs.getD i (dflt (Ty.int IntKind.u8)) = ys.getD i (dflt (Ty.int IntKind.u8)) := by simpa using h2
      have hb : xs.length ≤ 140737488355328 := hx
      refine ⟨⟨by omega, hl, ?_⟩, by omega, ⟨rfl, rfl, rfl, by rw [wrap64 (by omega) (by omega)]; omega, trivial⟩, trivial⟩
      rw [List.take_add_one, List.take_add_one, hi.2.2, hdx, hdy, h2]
  · have h1 : xs.length ≤ i := by simpa using h1
    refine ⟨decide_eq_true ?_, trivial, trivial⟩
    have := hi.2.2
    rwa [List.take_of_length_le h1, List.take_of_length_le (by omega)] at this
theorem loop30 (xs : List Int) (ys : List Int) (hx : xs.length ≤ lenB) (hl : xs.length = ys.length) : LoopOK Try.prog Try.f30.ntmps (loopN Try.f30 0) (loopSum ⟨[], [], 36⟩ (J30 xs ys 0) (T30 xs ys)) :=
  loop_by (cfgOK (CtrsOK.nil) _) mixed (J30 xs ys) (fun _ => rfl) (inv30 xs ys) (fun i => xs.length - i) (fun _ _ => none) (fun _ _ _ _ _ h => by cases h) (T30 xs ys) [] [] 0 (⟨Nat.zero_le _, hl, by simp⟩) L30 (fun i hi => step30 xs ys hx hl i hi)
theorem run30 (xs : List Int) (ys : List Int) (hx : xs.length ≤ lenB) : (evFn (cfgF [] Try.f30) (Λ30 xs ys) Try.f30 (argsV ps30 (xs, ys, ()))).sat fun v' rows => leV v' (spec30 (xs, ys, ())).v ∧ rows = (spec30 (xs, ys, ())).rows := by
  refine cast (by kernel_rfl) (?_ : (((↑xs.length : Int) != (↑ys.length : Int)) = true → false = eqL xs ys ∧ ([] : List RowD) = []) ∧ (((↑xs.length : Int) != (↑ys.length : Int)) = false → (xs.length = ys.length ∧ (noH0 fun x => none) ∧ (RowD.mk (Ty.int IntKind.u8) xs = RowD.mk (Ty.int IntKind.u8) xs ∧ RowD.mk (Ty.int IntKind.u8) ys = RowD.mk (Ty.int IntKind.u8) ys ∧ (↑xs.length : Int) = (↑xs.length : Int) ∧ (0 : Int) = (↑(0 : Nat) : Int) ∧ True) ∧ True) ∧ (eqL xs ys = true → true = eqL xs ys ∧ ([] : List RowD) = []) ∧ (eqL xs ys = false → false = eqL xs ys ∧ ([] : List RowD) = [])))
  refine ⟨fun h1 => ⟨?_, rfl⟩, fun h1 => ⟨⟨?_, rfl, ⟨rfl, rfl, rfl, rfl, trivial⟩, trivial⟩, fun h2 => ⟨h2.symm, rfl⟩, fun h2 => ⟨h2.symm, rfl⟩⟩⟩
  · refine (decide_eq_false fun he => ?_).symm
    rw [he] at h1
    simp at h1
  · have h1 : (xs.length : Int) = (ys.length : Int) := by simpa using h1
    omega
theorem ok30 : CtrOK Try.prog KK 30 (pureCtr KK ps30 spec30) := by
  refine pure_ok (C := cfgF [] Try.f30) (cfgOK (CtrsOK.nil) _) mixed (fn := Try.f30) Try.func30 (by kernel_rfl) (by kernel_rfl) (by kernel_rfl) (Λ := fun x => Λ30 x.1 x.2.1) ?_ ?_ ?_
  · rintro ⟨xs, ys, ⟨⟩⟩ hw _
    exact LoopsOK.at (by kernel_rfl) (.cons (by kernel_rfl) (LoopOK.under fun hp => loop30 xs ys (wf_slice (wf_fst hw)) hp) .nil)
  · rintro ⟨xs, ys, ⟨⟩⟩
    exact of_decide_eq_true (by kernel_rfl)
  · rintro ⟨xs, ys, ⟨⟩⟩ hw hn
    exact run30 xs ys (wf_slice (wf_fst hw))

theorem ways_same (t : Int) (free : Bool) : waysR t free 10 = waysW t free := by
  have key : ∀ t : Int, (t = 1 ∨ t = 2 ∨ t = 3) ∨ (t ≠ 1 ∧ t ≠ 2 ∧ t ≠ 3) := fun t => by omega
  rcases key t with (rfl | rfl | rfl) | ⟨h1, h2, h3⟩
  · cases free <;> rfl
  · cases free <;> rfl
  · cases free <;> rfl
  · have hn : ∀ w, freeW w t free = false := fun w => by simp [freeW, onW, h1, h2, h3]
    have hr : ∀ h, onR h t = false := fun h => by unfold onR; repeat' split
                                                  all_goals simp [h1, h2, h3]
    unfold waysW waysR
    rw [List.filter_eq_nil_iff.2 (fun w _ => by rw [hr w]; simp), List.filter_eq_nil_iff.2 (fun w _ => by rw [hn w]; simp)]
    rfl

theorem step31 (t : Int) (free : Bool)  (i : Nat) (hi : inv31 i) : (stepObl (J31 t free) inv31 (fun i => 10 - i) i (T31 t free) (evCode (cfgF [k59, k60] Try.f31) (fun _ => none) (loopN Try.f31 0) (J31 t free i)) (L31 i)).1 := by
  refine cast (by kernel_rfl) (?_ : (decide ((↑i : Int) + (1 : Int) ≤ (10 : Int)) = true → ((bif onR ((↑i : Int) + (1 : Int)) t then bif !free then true else onFreeR ((↑i : Int) + (1 : Int)) else false) = true → ((waysR t free i).length + [(↑i : Int) + (1 : Int)].length) * (1 : Nat) ≤ (70368744177664 : Nat) ∧ inv31 (i + (1 : Nat)) ∧ (10 : Nat) - (i + (1 : Nat)) < (10 : Nat) - i ∧ (t = t ∧ free = free ∧ True ∧ IntKind.u8.wrap ((↑i : Int) + (1 : Int) + (1 : Int)) = (↑(i + (1 : Nat)) : Int) + (1 : Int) ∧ True) ∧ RowD.mk (Ty.int IntKind.u8) (waysR t free i ++ [(↑i : Int) + (1 : Int)]) = RowD.mk (Ty.int IntKind.u8) (waysR t free (i + (1 : Nat))) ∧ True) ∧ ((bif onR ((↑i : Int) + (1 : Int)) t then bif !free then true else onFreeR ((↑i : Int) + (1 : Int)) else false) = false → inv31 (i + (1 : Nat)) ∧ (10 : Nat) - (i + (1 : Nat)) < (10 : Nat) - i ∧ (t = t ∧ free = free ∧ True ∧ IntKind.u8.wrap ((↑i : Int) + (1 : Int) + (1 : Int)) = (↑(i + (1 : Nat)) : Int) + (1 : Int) ∧ True) ∧ RowD.mk (Ty.int IntKind.u8) (waysR t free i) = RowD.mk (Ty.int IntKind.u8) (waysR t free (i + (1 : Nat))) ∧ True)) ∧ (decide ((↑i : Int) + (1 : Int) ≤ (10 : Int)) = false → True ∧ (True ∧ True) ∧ RowD.mk (Ty.int IntKind.u8) (waysR t free i) = RowD.mk (Ty.int IntKind.u8) (waysR t free (10 : Nat)) ∧ True))
  have hu : waysR t free (i + 1) = waysR t free i ++ (bif (bif onR ((i : Int) + 1) t then bif !free then true else onFreeR ((i : Int) + 1) else false) then [(i : Int) + 1] else []) := by
    unfold waysR
    rw [List.range_succ, List.map_append, List.filter_append]
    congr 1
    simp only [List.map_cons, List.map_nil, List.filter_cons, List.filter_nil]
    generalize onR ((i : Int) + 1) t = a
    generalize onFreeR ((i : Int) + 1) = b
    cases a <;> cases b <;> cases free <;> rfl
  have hl : (waysR t free i).length ≤ i := by
    unfold waysR
    refine Nat.le_trans (List.length_filter_le _ _) ?_
    simp
  have hi : i ≤ 10 := hi
  refine ⟨fun h1 => ?_, fun h1 => ?_⟩
  · have h1 : (i : Int) + 1 ≤ 10 := by simpa using h1
    have hwr : IntKind.u8.wrap ((i : Int) + 1 + 1) = ((i + 1 : Nat) : Int) + 1 := by rw [wrapu8 (by omega) (by omega)]; omega
    refine ⟨fun h2 => ?_, fun h2 => ?_⟩
    · rw [h2] at hu
      refine ⟨?_, (by unfold inv31; omega), by omega, ⟨rfl, rfl, trivial, hwr, trivial⟩, by rw [hu]; rfl, trivial⟩
      simp only [List.length_cons, List.length_nil]
      omega
    · rw [h2] at hu
      refine ⟨(by unfold inv31; omega), by omega, ⟨rfl, rfl, trivial, hwr, trivial⟩, by rw [hu]; simp, trivial⟩
  · have h1 : ¬ (i : Int) + 1 ≤ 10 := by simpa using h1
    have h2 : i = 10 := by omega
    subst h2
    exact ⟨trivial, ⟨trivial, trivial⟩, rfl, trivial⟩
theorem loop31 (t : Int) (free : Bool)  : LoopOK Try.prog Try.f31.ntmps (loopN Try.f31 0) (loopSum ⟨[], [12], 16⟩ (J31 t free 0) (T31 t free)) :=
  loop_by (cfgOK (.cons ok59 (.cons ok60 .nil)) _) mixed (J31 t free) (fun _ => rfl) inv31 (fun i => 10 - i) (fun _ _ => none) (fun _ _ _ _ _ h => by cases h) (T31 t free) [] [12] 0 (Nat.zero_le _) L31 (fun i hi => step31 t free  i hi)
theorem run31 (t : Int) (free : Bool)  : (evFn (cfgF [k59, k60] Try.f31) (Λ31 t free) Try.f31 (argsV ps20 (t, free, ()))).sat fun v' rows => leV v' (spec31 (t, free, ())).v ∧ rows = (spec31 (t, free, ())).rows := by
  refine cast (by kernel_rfl) (?_ : ((noH0 fun x => none) ∧ (t = t ∧ free = free ∧ True ∧ (1 : Int) = (↑(0 : Nat) : Int) + (1 : Int) ∧ True) ∧ waysR t free (0 : Nat) = [] ∧ True) ∧ (nat_lit 0 = nat_lit 0 ∧ nat_lit 0 = nat_lit 0) ∧ [RowD.mk (Ty.int IntKind.u8) (waysR t free (10 : Nat))] = [RowD.mk (Ty.int IntKind.u8) (waysW t free)])
  refine ⟨⟨rfl, ⟨rfl, rfl, trivial, rfl, trivial⟩, rfl, trivial⟩, ⟨rfl, rfl⟩, ?_⟩
  rw [ways_same]
theorem ok31 : CtrOK Try.prog KK 31 (pureCtr KK ps20 spec31) := by
  refine pure_ok (C := cfgF [k59, k60] Try.f31) (cfgOK (.cons ok59 (.cons ok60 .nil)) _) mixed (fn := Try.f31) Try.func31 (by kernel_rfl) (by kernel_rfl) (by kernel_rfl) (Λ := fun x => Λ31 x.1 x.2.1) ?_ ?_ ?_
  · rintro ⟨t, free, ⟨⟩⟩ hw _
    exact LoopsOK.at (by kernel_rfl) (.cons (by kernel_rfl) (loop31 t free) .nil)
  · rintro ⟨t, free, ⟨⟩⟩
    exact of_decide_eq_true (by kernel_rfl)
  · rintro ⟨t, free, ⟨⟩⟩ hw hn
    exact run31 t free

end Go.Proofs.Ytogdeefpidccmaa
