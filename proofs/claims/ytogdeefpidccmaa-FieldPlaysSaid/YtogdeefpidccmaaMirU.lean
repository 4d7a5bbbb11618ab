/- The mirror, part 21: code is sound. -/
import Derived.Test.YtogdeefpidccmaaMirT
namespace Go.Mir
open Go.RowKit

variable {P : Program}

/-- what a leaf's delta leaves of a state -/
def at_ (B : Base) (N : Nat) (st : St) (d : Dl) (nx : Nat) (a : Act) (w : World) : Prop := SRel B N (find (d.tm ++ st.tm)) (hset st.H d.hp) (fun n => n < nx) a w
def here (B : Base) (N : Nat) (st : St) (a : Act) (w : World) : Prop := SRel B N (find st.tm) st.H (fun n => n < st.nx) a w

theorem at_here {B : Base} {N : Nat} {st : St} {d : Dl} {nx : Nat} {a : Act} {w : World} : at_ B N st d nx a w ↔ here B N (st.app d nx) a w := by
  unfold at_ here St.app St.H
  rw [hset_append]

theorem at_pre {B : Base} {N : Nat} {st : St} {d d' : Dl} {nx nx' : Nat} {a : Act} {w : World} : at_ B N (st.app d nx) d' nx' a w ↔ at_ B N st ⟨d'.tm ++ d.tm, d'.hp ++ d.hp⟩ nx' a w := by
  unfold at_ St.app St.H
  simp only [hset_append, List.append_assoc]

def exitOf : Lf → Exit
  | .nrm => .normal
  | .ext id => .exit id
  | .ret => .ret

theorem pre_sat {Q : Lf → Dl → Nat → Prop} {d : Dl} : ∀ {t : Tr}, (t.pre d).sat Q ↔ t.sat fun e d' nx => Q e ⟨d'.tm ++ d.tm, d'.hp ++ d.hp⟩ nx
  | .leaf _ _ _ => Iff.rfl
  | .br b t e => by simp only [Tr.pre, Tr.sat, pre_sat (t := t), pre_sat (t := e)]
  | .need p t => by simp only [Tr.pre, Tr.sat, pre_sat (t := t)]
  | .both t u => by simp only [Tr.pre, Tr.sat, pre_sat (t := t), pre_sat (t := u)]
  | .when b t => by simp only [Tr.pre, Tr.sat, pre_sat (t := t)]
  | .done => Iff.rfl
  | .bad => Iff.rfl

theorem Tr.sat_mono {Q Q' : Lf → Dl → Nat → Prop} (h : ∀ e d nx, Q e d nx → Q' e d nx) : ∀ {t : Tr}, t.sat Q → t.sat Q'
  | .leaf _ _ _, hs => h _ _ _ hs
  | .br _ _ _, hs => ⟨fun hb => sat_mono h (hs.1 hb), fun hb => sat_mono h (hs.2 hb)⟩
  | .need _ _, hs => ⟨hs.1, sat_mono h hs.2⟩
  | .both _ _, hs => ⟨sat_mono h hs.1, sat_mono h hs.2⟩
  | .when _ _, hs => fun hb => sat_mono h (hs hb)
  | .done, hs => hs
  | .bad, hs => hs

/-- a tree, its normal ends going on otherwise -/
def thenQ (Y : Dl → Nat → Prop) (Q : Lf → Dl → Nat → Prop) : Lf → Dl → Nat → Prop
  | .nrm, d, nx => Y d nx
  | e, d, nx => Q e d nx

theorem graft_sat {Q : Lf → Dl → Nat → Prop} {k : Dl → Nat → Tr} : ∀ {t : Tr}, (t.graft k).sat Q → t.sat (thenQ (fun d nx => ((k d nx).pre d).sat Q) Q)
  | .leaf .nrm _ _, h => h
  | .leaf (.ext _) _ _, h => h
  | .leaf .ret _ _, h => h
  | .br _ _ _, h => ⟨fun hb => graft_sat (h.1 hb), fun hb => graft_sat (h.2 hb)⟩
  | .need _ _, h => ⟨h.1, graft_sat h.2⟩
  | .both _ _, h => ⟨graft_sat h.1, graft_sat h.2⟩
  | .when _ _, h => fun hb => graft_sat (h hb)
  | .done, h => h
  | .bad, h => h

theorem KB.ite_val (b : Bool) (x y : KB) : (KB.ite b x y).val = cond b x.val y.val := by
  cases x <;> cases y <;> cases b <;> simp [KB.ite, KB.val]
theorem KB.or_val (x y : KB) : (KB.or x y).val = (x.val || y.val) := by
  cases x <;> cases y <;> simp [KB.or, KB.val]
theorem KB.and_val (b : Bool) (x : KB) : (KB.and b x).val = (b && x.val) := by
  cases x <;> simp [KB.and, KB.val]

/-- no normal end: what is left of the tree says all -/
theorem cut_none {st : St} {Q : Lf → Dl → Nat → Prop} {Y : Dl → Nat → Prop} : ∀ {t : Tr}, t.mrg st = some none → t.cut.sat Q → t.sat (thenQ Y Q)
  | .leaf .nrm d nx, h, _ => by simp [Tr.mrg] at h
  | .leaf (.ext id) d nx, _, hs => hs
  | .leaf .ret d nx, _, hs => hs
  | .br b t e, h, hs => by
    simp only [Tr.mrg] at h
    have h2 : t.mrg st = some none ∧ e.mrg st = some none := by
      split at h
      · rename_i h1; exact ⟨h1, h⟩
      · rename_i h1 _; exact ⟨h, h1⟩
      · split at h <;> simp at h
      · simp at h
    exact ⟨fun hb => cut_none h2.1 (hs.1 hb), fun hb => cut_none h2.2 (hs.2 hb)⟩
  | .need p t, h, hs => ⟨hs.1, cut_none (t := t) h hs.2⟩
  | .both t u, h, hs => by
    simp only [Tr.mrg] at h
    have h2 : t.mrg st = some none ∧ u.mrg st = some none := by
      split at h
      · rename_i h1; exact ⟨h1, h⟩
      · rename_i h1 _; exact ⟨h, h1⟩
      · simp at h
    exact ⟨cut_none h2.1 hs.1, cut_none h2.2 hs.2⟩
  | .when b t, h, hs => fun hb => cut_none (t := t) h (hs hb)
  | .done, _, hs => hs
  | .bad, _, hs => hs

/-- the normal ends meet in the merged state -/
theorem cut_some {B : Base} {N : Nat} {st : St} {Q : Lf → Dl → Nat → Prop} {Y : Act → World → Prop} : ∀ {t : Tr} {d : Dl} {nx : Nat}, t.mrg st = some (some (d, nx)) → t.cut.sat Q → (t.isN.val = true → ∀ a w, at_ B N st d nx a w → Y a w) →
    t.sat (thenQ (fun d nx => ∀ a w, at_ B N st d nx a w → Y a w) Q)
  | .leaf .nrm d' nx', d, nx, h, _, hy => by
    simp only [Tr.mrg, Option.some.injEq, Prod.mk.injEq] at h
    obtain ⟨rfl, rfl⟩ := h
    exact hy rfl
  | .leaf (.ext id) _ _, d, nx, h, _, _ => by simp [Tr.mrg] at h
  | .leaf .ret _ _, d, nx, h, _, _ => by simp [Tr.mrg] at h
  | .br b t e, d, nx, h, hs, hy => by
    simp only [Tr.isN, KB.ite_val] at hy
    simp only [Tr.mrg] at h
    split at h
    · rename_i h1
      refine ⟨fun hb => cut_none h1 (hs.1 hb), fun hb => cut_some h (hs.2 hb) (fun hn => hy (by rw [hb]; exact hn))⟩
    · rename_i h1 _
      refine ⟨fun hb => cut_some h (hs.1 hb) (fun hn => hy (by rw [hb]; exact hn)), fun hb => cut_none h1 (hs.2 hb)⟩
    · rename_i d1 n1 d2 n2 e1 e2
      split at h
      case h_2 => cases h
      rename_i dm hm
      simp only [Option.some.injEq, Prod.mk.injEq] at h
      obtain ⟨rfl, rfl⟩ := h
      refine ⟨fun hb => cut_some e1 (hs.1 hb) (fun hn a w ha => ?_), fun hb => cut_some e2 (hs.2 hb) (fun hn a w ha => ?_)⟩
      · refine hy (by rw [hb]; exact hn) a w ?_
        exact (mergeDl_sound hm (fun n h => Nat.lt_of_lt_of_le h (Nat.le_max_left n1 n2))).1 hb ha
      · refine hy (by rw [hb]; exact hn) a w ?_
        exact (mergeDl_sound hm (fun n h => Nat.lt_of_lt_of_le h (Nat.le_max_right n1 n2))).2 hb ha
    · simp at h
  | .need p t, d, nx, h, hs, hy => ⟨hs.1, cut_some (t := t) h hs.2 hy⟩
  | .both t u, d, nx, h, hs, hy => by
    simp only [Tr.isN, KB.or_val, Bool.or_eq_true] at hy
    simp only [Tr.mrg] at h
    split at h
    · rename_i h1
      exact ⟨cut_none h1 hs.1, cut_some h hs.2 (fun hn => hy (.inr hn))⟩
    · rename_i h1 _
      exact ⟨cut_some h hs.1 (fun hn => hy (.inl hn)), cut_none h1 hs.2⟩
    · simp at h
  | .when b t, d, nx, h, hs, hy => fun hb => cut_some (t := t) h (hs hb) (fun hn => hy (by simp only [Tr.isN, KB.and_val, hb, hn, Bool.and_self]))
  | .done, _, _, h, _, _ => by simp [Tr.mrg] at h
  | .bad, _, _, _, hs, _ => hs.elim

theorem clean_cut {Q : Lf → Dl → Nat → Prop} : ∀ {t : Tr}, t.clean = true → t.cut.sat Q
  | .leaf .nrm _ _, _ => trivial
  | .leaf (.ext _) _ _, h => by simp [Tr.clean] at h
  | .leaf .ret _ _, h => by simp [Tr.clean] at h
  | .br b t e, h => by
    simp only [Tr.clean, Bool.and_eq_true] at h
    exact ⟨fun _ => clean_cut h.1, fun _ => clean_cut h.2⟩
  | .need _ _, h => by simp [Tr.clean] at h
  | .both _ _, h => by simp [Tr.clean] at h
  | .when _ _, h => by simp [Tr.clean] at h
  | .done, h => by simp [Tr.clean] at h
  | .bad, h => by simp [Tr.clean] at h

theorem seqT_sat {B : Base} {N : Nat} {st : St} {t : Tr} {k : Dl → Nat → Tr} {Q : Lf → Dl → Nat → Prop} {Y : Act → World → Prop} (h : (seqT st t k).sat Q)
    (hk : ∀ d nx, ((k d nx).pre d).sat Q → ∀ a w, at_ B N st d nx a w → Y a w) : t.sat (thenQ (fun d nx => ∀ a w, at_ B N st d nx a w → Y a w) Q) := by
  have byGraft : (t.graft k).sat Q → t.sat (thenQ (fun d nx => ∀ a w, at_ B N st d nx a w → Y a w) Q) := fun hg =>
    Tr.sat_mono (fun e d nx hq => by
      cases e with
      | nrm => exact hk d nx hq
      | ext id => exact hq
      | ret => exact hq) (graft_sat hg)
  unfold seqT at h
  cases hb : Nat.ble t.nN 1 with
  | true => rw [hb] at h; exact byGraft h
  | false =>
    rw [hb] at h
    simp only [cond_false] at h
    split at h
    · rename_i d nx hm
      cases hc : t.clean with
      | true =>
        rw [hc] at h
        exact cut_some hm (clean_cut hc) (fun _ => hk d nx h)
      | false =>
        rw [hc] at h
        simp only [cond_false, Tr.sat] at h
        exact cut_some hm h.1 (fun hn => hk d nx (h.2 hn))
    · exact byGraft h

theorem catch_sat {Q : Lf → Dl → Nat → Prop} {id : Nat} : ∀ {t : Tr}, (t.catch id).sat Q → t.sat fun e d nx => match e with | .ext id' => if id' = id then Q .nrm d nx else Q (.ext id') d nx | e => Q e d nx
  | .leaf .nrm d nx, h => h
  | .leaf (.ext id') d nx, h => by
    simp only [Tr.catch] at h
    simp only [Tr.sat]
    split
    · rename_i e; rw [if_pos e] at h; exact h
    · rename_i e; rw [if_neg e] at h; exact h
  | .leaf .ret d nx, h => h
  | .br b t e, h => ⟨fun hb => catch_sat (h.1 hb), fun hb => catch_sat (h.2 hb)⟩
  | .need p t, h => ⟨h.1, catch_sat h.2⟩
  | .both t u, h => ⟨catch_sat h.1, catch_sat h.2⟩
  | .when b t, h => fun hb => catch_sat (h hb)
  | .done, h => h
  | .bad, h => h

/-- a loop does what its summary says -/
def LoopOK (P : Program) (N : Nat) (body : Code) (L : LoopSum) : Prop :=
  ∀ (B : Base) (st : St) (Q : Lf → Dl → Nat → Prop) (CQ : Exit → Act → World → Prop), L.pre st → (L.T st).sat Q → (∀ e d nx a w, Q e d nx → at_ B N st d nx a w → CQ (exitOf e) a w) → ∀ a w, here B N st a w → (Code.loop body).wp P CQ a w

theorem here_nil {B : Base} {N : Nat} {st : St} {a : Act} {w : World} (h : here B N st a w) : at_ B N st ⟨[], []⟩ st.nx a w := h

theorem evCode_sound {C : Cfg} (hC : CfgOK P C) (hP : P.follows .mixedOrders = true) {Λ : Nat → Option LoopSum} {B : Base} : ∀ (c : Code), (∀ b ∈ loopsOf c, ∀ L, Λ (rid b) = some L → LoopOK P C.N b L) →
    ∀ (st : St) (Q : Lf → Dl → Nat → Prop) (CQ : Exit → Act → World → Prop), (evCode C Λ c st).sat Q → (∀ e d nx a w, Q e d nx → at_ B C.N st d nx a w → CQ (exitOf e) a w) → ∀ a w, here B C.N st a w → c.wp P CQ a w
  | .skip, _, st, Q, CQ, h, hQ, a, w, hs => wp_skip (hQ .nrm _ _ a w h (here_nil hs))
  | .ret, _, st, Q, CQ, h, hQ, a, w, hs => wp_ret (hQ .ret _ _ a w h (here_nil hs))
  | .exit id, _, st, Q, CQ, h, hQ, a, w, hs => wp_exit (hQ (.ext id) _ _ a w h (here_nil hs))
  | .region id ops dr, _, st, Q, CQ, h, hQ, a, w, hs => by
    simp only [evCode] at h
    obtain ⟨df, rf, hrun, hc, hq⟩ := run_of_sat _ _ _ _ h
    have hfin : ∀ a w, SRel B C.N (find (df.tm ++ st.tm)) (hset st.H df.hp) (fun n => n < st.nx + ops.toList.length * C.K) a w → CQ .normal a w := fun a w h' => hQ .nrm _ _ a w hq h'
    cases dr with
    | false =>
      refine wp_region_list ?_
      have := run_seq hC ops.toList 0 _ _ _ _ hrun (Q := CQ) (B := B) (fun a w h' => hfin a w (by simpa using h')) a w (by simpa [here, hset_nil] using hs)
      simpa using this
    | true =>
      rcases hc with hc | hc
      · cases hc
      · have := draw_sound hC hP hrun hc.1 hc.2 hfin hs id
        simpa using this
  | .seq x y, hL, st, Q, CQ, h, hQ, a, w, hs => by
    simp only [evCode] at h
    have hx := evCode_sound hC hP (Λ := Λ) (B := B) x (fun b hb => hL b (by simp [loopsOf, hb]))
    have hy := evCode_sound hC hP (Λ := Λ) (B := B) y (fun b hb => hL b (by simp [loopsOf, hb]))
    have h2 := seqT_sat (B := B) (N := C.N) (Y := fun a w => y.wp P CQ a w) h (fun d nx hk a w ha => by
      rw [pre_sat] at hk
      exact hy (st.app d nx) _ CQ hk (fun e d' nx' a w hq hat => hQ e _ _ a w hq (at_pre.1 hat)) a w (at_here.1 ha))
    refine wp_seq (hx st _ _ h2 (fun e d nx a w hq hat => ?_) a w hs)
    cases e with
    | nrm => exact hq a w hat
    | ext id => exact hQ (.ext id) d nx a w hq hat
    | ret => exact hQ .ret d nx a w hq hat
  | .cond c x y, hL, st, Q, CQ, h, hQ, a, w, hs => by
    simp only [evCode] at h
    have hx := evCode_sound hC hP (Λ := Λ) (B := B) x (fun b hb => hL b (by simp [loopsOf, hb]))
    have hy := evCode_sound hC hP (Λ := Λ) (B := B) y (fun b hb => hL b (by simp [loopsOf, hb]))
    have hv : ∃ E : Env, tmOK E (find st.tm) a := by
      obtain ⟨⟨E, _, _, _, _, hT⟩, _⟩ := hs
      exact ⟨E, hT⟩
    obtain ⟨E, hT⟩ := hv
    have hc := opnd_sound hT c
    split at h
    · rename_i e; rw [e] at hc; simp only [vrel] at hc
      exact wp_cond_true hc (hx st Q CQ h hQ a w hs)
    · rename_i e; rw [e] at hc; simp only [vrel] at hc
      exact wp_cond_false hc (hy st Q CQ h hQ a w hs)
    · rename_i b e; rw [e] at hc; simp only [vrel] at hc
      exact wp_cond_split hc (fun hb => hx st Q CQ (h.1 hb) hQ a w hs) (fun hb => hy st Q CQ (h.2 hb) hQ a w hs)
    · rename_i q e; rw [e] at hc; simp only [vrel] at hc
      obtain ⟨b, hc, hq⟩ := hc
      exact wp_cond_split hc (fun hb => hx st Q CQ (h.1 (hq hb)) hQ a w hs) (fun _ => hy st Q CQ h.2 hQ a w hs)
    · rename_i q e; rw [e] at hc; simp only [vrel] at hc
      obtain ⟨b, hc, hq⟩ := hc
      exact wp_cond_split hc (fun _ => hx st Q CQ h.1 hQ a w hs) (fun hb => hy st Q CQ (h.2 (hq hb)) hQ a w hs)
    · exact h.elim
  | .block id b, hL, st, Q, CQ, h, hQ, a, w, hs => by
    simp only [evCode] at h
    refine wp_block (evCode_sound hC hP b (fun b' hb => hL b' (by simpa [loopsOf] using hb)) st _ _ (catch_sat h) (fun e d nx a w hq hat => ?_) a w hs)
    cases e with
    | nrm => exact hQ .nrm d nx a w hq hat
    | ret => exact hQ .ret d nx a w hq hat
    | ext id' =>
      simp only [exitOf, Exit.inBlock]
      simp only at hq
      split
      · rename_i e; rw [if_pos e] at hq; exact hQ .nrm d nx a w hq hat
      · rename_i e; rw [if_neg e] at hq; exact hQ (.ext id') d nx a w hq hat
  | .loop b, hL, st, Q, CQ, h, hQ, a, w, hs => by
    simp only [evCode] at h
    split at h
    · rename_i L hl
      exact hL b (by simp [loopsOf]) L hl B st Q CQ h.1 h.2 hQ a w hs
    · exact h.elim
  | .rangeFunc _ _ _ _, _, _, _, _, h, _, _, _, _ => h.elim
  | .scope _, _, _, _, _, h, _, _, _, _ => h.elim
  | .label _, _, _, _, _, h, _, _, _, _ => h.elim
  | .goto _, _, _, _, _, h, _, _, _, _ => h.elim
  | .refuse _, _, _, _, _, h, _, _, _, _ => h.elim

end Go.Mir
