/- The mirror, part 2: how the relation moves along when the world does. -/
import Derived.Test.YtogdeefpidccmaaMir
namespace Go.Mir
open Go.RowKit

structure Ext (E E' : Env) : Prop where
  u : ∀ n, E.U n → E'.U n
  s : ∀ b, E.S b → E'.S b
  keepS : ∀ b, E.S b → E'.w.heap[b]? = E.w.heap[b]?
  hc : ∀ h cs', E.U h → E'.H h = some (.cells cs') → (∃ cs, E.H h = some (.cells cs)) ∧ E'.ρ h = E.ρ h
  hr : ∀ h ver rw' t' xs', E.U h → E.U ver → E'.H h = some (.row ver rw' t' xs') → ∃ rw xs, E.H h = some (.row ver rw t' xs) ∧ xs.length = xs'.length ∧ E'.ρ h = E.ρ h ∧
    (∀ b c T fr, E.ρ h = some b → E.w.heap[b]? = some (.cells c T fr) → ∃ c' T' fr', E'.w.heap[b]? = some (.cells c' T' fr') ∧ c'.size = c.size)

theorem Rd.ext {S S' : Nat → Prop} {w w' : World} (hs : ∀ b, S b → S' b) (hw : ∀ b, S b → w'.heap[b]? = w.heap[b]?) {t : Ty} {x : Den t} {cs : List Value} (h : Rd S w t x cs) : Rd S' w' t x cs := by
  induction h with
  | int h => exact .int h
  | bool => exact .bool
  | str h => exact .str h
  | unit => exact .unit
  | prod _ _ ih1 ih2 => exact .prod ih1 ih2
  | nm _ ih => exact .nm ih
  | nil => exact .nil
  | slice h1 h2 h3 h4 h5 _ ih => exact .slice (hs _ h1) (by rw [hw _ h1]; exact h2) h3 h4 h5 ih

theorem Rd.len {S : Nat → Prop} {w : World} {t : Ty} {x : Den t} {cs : List Value} (h : Rd S w t x cs) : cs.length = sz t := by
  induction h with
  | int h => rfl
  | bool => rfl
  | str => rfl
  | unit => rfl
  | prod _ _ ih1 ih2 => simp [sz, ih1, ih2]
  | @nm n _ _ _ ih => simp [sz, ih, n.size_flds]
  | nil => rfl
  | slice => rfl

mutual
theorem vrel_ext {E E' : Env} (hE : Ext E E') : ∀ (x : V) (v : Value), vrel E x v → vrel E' x v
  | .any, _, _ => by simp [vrel]
  | .int _ _, _, h => by simpa [vrel] using h
  | .bool _, _, h => by simpa [vrel] using h
  | .kb _, _, h => by simpa [vrel] using h
  | .hint _ _, _, h => by simpa [vrel] using h
  | .str _, _, h => by simpa [vrel] using h
  | .nilptr, _, h => by simpa [vrel] using h
  | .ptr hh off, v, h => by
    simp only [vrel] at h ⊢
    refine ⟨hE.u _ h.1, h.2.1, fun cs hcs => ?_⟩
    obtain ⟨⟨cs0, h0⟩, h1⟩ := hE.hc _ _ h.1 hcs
    obtain ⟨b, hb, hv⟩ := h.2.2 _ h0
    exact ⟨b, by rw [h1]; exact hb, hv⟩
  | .fp t xs i off, v, h => by
    simp only [vrel] at h ⊢
    obtain ⟨b, o, c, T, fr, h1, h2, h3, h4, h5, h6, h7⟩ := h
    exact ⟨b, o, c, T, fr, hE.s _ h1, by rw [hE.keepS _ h1]; exact h2, h3, fun j hj => (h4 j hj).ext hE.s hE.keepS, h5, h6, h7⟩
  | .rp hh ver i off, v, h => by
    simp only [vrel] at h ⊢
    refine ⟨hE.u _ h.1, hE.u _ h.2.1, h.2.2.1, fun rw t xs hcs => ?_⟩
    obtain ⟨rw0, xs0, h0, h1, h2, _⟩ := hE.hr _ _ _ _ _ h.1 h.2.1 hcs
    obtain ⟨b, hb, hi, hl, hv⟩ := h.2.2.2 _ _ _ h0
    exact ⟨b, by rw [h2]; exact hb, hi, by omega, hv⟩
  | .nilsl, _, h => by simpa [vrel] using h
  | .esl, _, h => by simpa [vrel] using h
  | .osl hh ver, v, h => by
    simp only [vrel] at h ⊢
    refine ⟨hE.u _ h.1, hE.u _ h.2.1, h.2.2.1, fun rw t xs hcs => ?_⟩
    obtain ⟨rw0, xs0, h0, h1, h2, h3⟩ := hE.hr _ _ _ _ _ h.1 h.2.1 hcs
    rcases h.2.2.2 _ _ _ h0 with ⟨hb, hv⟩ | ⟨b, cap, c, T, fr, hb, hv, hw, hs, hcap⟩
    · exact .inl ⟨by rw [h2]; exact hb, hv⟩
    · obtain ⟨c', T', fr', hw', hs'⟩ := h3 _ _ _ _ hb hw
      exact .inr ⟨b, cap, c', T', fr', by rw [h2]; exact hb, by rw [← h1]; exact hv, hw', by rw [hs']; exact hs, by rw [← h1]; exact hcap⟩
  | .fsl t xs, v, h => by
    simp only [vrel] at h ⊢
    exact h.ext hE.s hE.keepS
  | .nilfn, _, h => by simpa [vrel] using h
  | .nilmap, _, h => by simpa [vrel] using h
  | .fn f caps, v, h => by
    simp only [vrel] at h ⊢
    obtain ⟨l, h1, h2⟩ := h
    exact ⟨l, h1, vrels_ext hE _ _ h2⟩
  | .agg cs, v, h => by
    simp only [vrel] at h ⊢
    obtain ⟨l, h1, h2⟩ := h
    exact ⟨l, h1, vrels_ext hE _ _ h2⟩
  | .tup cs, v, h => by
    simp only [vrel] at h ⊢
    obtain ⟨l, h1, h2⟩ := h
    exact ⟨l, h1, vrels_ext hE _ _ h2⟩
theorem vrels_ext {E E' : Env} (hE : Ext E E') : ∀ (xs : List V) (vs : List Value), vrels E xs vs → vrels E' xs vs
  | [], [], _ => by simp [vrels]
  | _ :: _, [], h => by simp [vrels] at h
  | [], _ :: _, h => by simp [vrels] at h
  | x :: xs, v :: vs, h => by
    simp only [vrels] at h ⊢
    exact ⟨vrel_ext hE x v h.1, vrels_ext hE xs vs h.2⟩
end

theorem vrels_len {E : Env} : ∀ {xs : List V} {vs : List Value}, vrels E xs vs → xs.length = vs.length
  | [], [], _ => rfl
  | _ :: _, [], h => by simp [vrels] at h
  | [], _ :: _, h => by simp [vrels] at h
  | x :: xs, v :: vs, h => by simp only [vrels] at h; simp [vrels_len h.2]

theorem vrels_append {E : Env} : ∀ {xs ys : List V} {vs us : List Value}, vrels E xs vs → vrels E ys us → vrels E (xs ++ ys) (vs ++ us)
  | [], _, [], _, _, h => h
  | _ :: _, _, [], _, h, _ => by simp [vrels] at h
  | [], _, _ :: _, _, h, _ => by simp [vrels] at h
  | x :: xs, ys, v :: vs, us, h, h' => by
    simp only [vrels, List.cons_append] at h ⊢
    exact ⟨h.1, vrels_append h.2 h'⟩

theorem vrels_get {E : Env} : ∀ {xs : List V} {vs : List Value}, vrels E xs vs → ∀ (i : Nat) (x : V), xs[i]? = some x → ∃ v, vs[i]? = some v ∧ vrel E x v
  | [], [], _, i, x, hx => by simp at hx
  | _ :: _, [], h, _, _, _ => by simp [vrels] at h
  | [], _ :: _, h, _, _, _ => by simp [vrels] at h
  | y :: ys, u :: us, h, i, x, hx => by
    simp only [vrels] at h
    cases i with
    | zero => simp at hx; subst hx; exact ⟨u, by simp, h.1⟩
    | succ i => simp at hx; obtain ⟨v, h1, h2⟩ := vrels_get h.2 i x hx; exact ⟨v, by simpa using h1, h2⟩

theorem vrels_drop {E : Env} : ∀ {xs : List V} {vs : List Value}, vrels E xs vs → ∀ n, vrels E (xs.drop n) (vs.drop n)
  | xs, vs, h, 0 => by simpa using h
  | [], [], h, n + 1 => by simp [vrels]
  | _ :: _, [], h, _ + 1 => by simp [vrels] at h
  | [], _ :: _, h, _ + 1 => by simp [vrels] at h
  | _ :: xs, _ :: vs, h, n + 1 => by simp only [vrels] at h; simpa using vrels_drop h.2 n

theorem vrels_take {E : Env} : ∀ {xs : List V} {vs : List Value}, vrels E xs vs → ∀ n, vrels E (xs.take n) (vs.take n)
  | xs, vs, h, 0 => by simp [vrels]
  | [], [], h, n + 1 => by simp [vrels]
  | _ :: _, [], h, _ + 1 => by simp [vrels] at h
  | [], _ :: _, h, _ + 1 => by simp [vrels] at h
  | _ :: xs, _ :: vs, h, n + 1 => by
    simp only [vrels] at h
    simp only [List.take_succ_cons, vrels]
    exact ⟨h.1, vrels_take h.2 n⟩

theorem vrels_replicate_any {E : Env} : ∀ {vs : List Value} (n : Nat), vs.length = n → vrels E (List.replicate n .any) vs
  | [], 0, _ => by simp [vrels]
  | v :: vs, n + 1, h => by
    simp only [List.replicate_succ, vrels, vrel, true_and]
    exact vrels_replicate_any n (by simpa using h)
  | [], _ + 1, h => by simp at h
  | _ :: _, 0, h => by simp at h

/-- what is read, as virtual values -/
theorem Rd.flat {E : Env} : ∀ (f : Nat) {t : Ty} {x : Den t} {cs : List Value}, Rd E.S E.w t x cs → vrels E (flat f t x) cs
  | 0, t, x, cs, h => by
    have := h.len
    unfold Mir.flat
    exact vrels_replicate_any _ this
  | f + 1, .int k, n, cs, h => by
    cases h with | int h => simp [Mir.flat, vrels, vrel, h]
  | f + 1, .bool, n, cs, h => by
    cases h with | bool => simp [Mir.flat, vrels, vrel]
  | f + 1, .str, n, cs, h => by
    cases h with | str h => simp [Mir.flat, vrels, vrel, h]
  | f + 1, .unit, n, cs, h => by
    cases h with | unit => simp [Mir.flat, vrels]
  | f + 1, .prod a b, x, cs, h => by
    cases h with | prod h1 h2 => exact vrels_append (Rd.flat f h1) (Rd.flat f h2)
  | f + 1, .slice t, xs, cs, h => by
    have hl := h.len
    simp only [sz] at hl
    match cs, hl with
    | [c], _ => simp only [Mir.flat, vrels, vrel, and_true]; exact h
  | f + 1, .nm n, x, cs, h => by
    cases h with | nm h => exact Rd.flat f h

def upd {α : Type} (f : Nat → α) (n : Nat) (v : α) : Nat → α := fun m => if m = n then v else f m
theorem upd_same {α : Type} (f : Nat → α) (n : Nat) (v : α) : upd f n v n = v := by simp [upd]
theorem upd_ne {α : Type} (f : Nat → α) {n m : Nat} (v : α) (h : m ≠ n) : upd f n v m = f m := by simp [upd, h]

/-- a block that stays as it was -/
theorem brel_ext {E E' : Env} (hE : Ext E E') {h : Nat} {k : Blk} (hρ : E'.ρ h = E.ρ h) (hb : ∀ b, E.ρ h = some b → E'.w.heap[b]? = E.w.heap[b]?)
    (hS : ∀ b, E.ρ h = some b → wr k = true → ¬ E.S b → ¬ E'.S b) (hk : brel E h k) : brel E' h k := by
  cases k with
  | cells cs =>
    obtain ⟨b, c, T, fr, h1, h2, h3, h4, h5⟩ := hk
    exact ⟨b, c, T, fr, by rw [hρ]; exact h1, by rw [hb _ h1]; exact h2, h3, hS _ h1 rfl h4, vrels_ext hE _ _ h5⟩
  | row ver rw t xs =>
    obtain ⟨hu, hk⟩ := hk
    refine ⟨hE.u _ hu, ?_⟩
    rcases hk with ⟨h1, h2⟩ | ⟨b, c, T, fr, h1, h2, h3, h4, h5, h6, h7, h8⟩
    · exact .inl ⟨by rw [hρ]; exact h1, h2⟩
    · exact .inr ⟨b, c, T, fr, by rw [hρ]; exact h1, by rw [hb _ h1]; exact h2, h3, fun e => hS _ h1 e (h4 e), fun e => hE.s _ (h5 e), h6, h7, fun i hi => (h8 i hi).ext hE.s hE.keepS⟩

theorem Keeps.refl (w : World) (F : Nat → Prop) : Keeps w F w := ⟨rfl, rfl, rfl, Nat.le_refl _, fun _ _ _ => rfl⟩
theorem Keeps.trans {w0 w w' : World} {F G : Nat → Prop} (h : Keeps w0 F w) (h' : Keeps w G w') (hG : ∀ b, G b → F b ∨ w0.heap.size ≤ b) : Keeps w0 F w' :=
  ⟨h'.os.trans h.os, h'.tape.trans h.tape, h'.output.trans h.output, Nat.le_trans h.size h'.size, fun b hb hf => by
    rw [h'.block b (Nat.lt_of_lt_of_le hb h.size) (fun hg => by rcases hG b hg with h1 | h1; exact hf h1; omega), h.block b hb hf]⟩

/-- One handle gets a new content (and perhaps a new place); all else stays. -/
theorem step1 {B : Base} {E : Env} (hE : HRel B E) (h0 : Nat) (k' : Blk) (r' : Option Nat) (w' : World) (U' : Nat → Prop)
    (hU : ∀ n, E.U n → U' n) (hU0 : U' h0)
    (hk : Keeps E.w (fun b => r' = some b) w')
    (hr : ∀ b, r' = some b → (E.w.heap.size ≤ b ∧ b < w'.heap.size) ∨ (E.ρ h0 = some b ∧ ∃ k, E.H h0 = some k ∧ wr k = true))
    (hS : ∀ b, r' = some b → ¬ E.S b)
    (hc : ∀ cs', k' = .cells cs' → E.U h0 → (∃ cs, E.H h0 = some (.cells cs)) ∧ r' = E.ρ h0)
    (hrow : ∀ ver rw t xs', k' = .row ver rw t xs' → E.U h0 → E.U ver → ∃ rw xs, E.H h0 = some (.row ver rw t xs) ∧ xs.length = xs'.length ∧ r' = E.ρ h0 ∧
      (∀ b c T fr, E.ρ h0 = some b → E.w.heap[b]? = some (.cells c T fr) → ∃ c' T' fr', w'.heap[b]? = some (.cells c' T' fr') ∧ c'.size = c.size))
    (hb : Ext E ⟨U', upd E.ρ h0 r', E.S, w', upd E.H h0 (some k')⟩ → brel ⟨U', upd E.ρ h0 r', E.S, w', upd E.H h0 (some k')⟩ h0 k') :
    HRel B ⟨U', upd E.ρ h0 r', E.S, w', upd E.H h0 (some k')⟩ ∧ Ext E ⟨U', upd E.ρ h0 r', E.S, w', upd E.H h0 (some k')⟩ := by
  -- a block that another live handle, or S, holds is kept
  have keep : ∀ h k b, h ≠ h0 → E.H h = some k → E.ρ h = some b → w'.heap[b]? = E.w.heap[b]? := fun h k b hne hh hb' => by
    have hlt := hE.lt h k b hh hb'
    refine hk.block b hlt fun e => ?_
    rcases hr b e with h1 | ⟨h1, k1, h2, _⟩
    · omega
    · exact hne (hE.inj h h0 k k1 b hh h2 hb' h1)
  have keepS : ∀ b, E.S b → w'.heap[b]? = E.w.heap[b]? := fun b hs => hk.block b (hE.stab b hs) fun e => hS b e hs
  have X : Ext E ⟨U', upd E.ρ h0 r', E.S, w', upd E.H h0 (some k')⟩ := by
    refine ⟨hU, fun _ h => h, keepS, fun h cs' hu hh => ?_, fun h ver rw' t' xs' hu hv hh => ?_⟩
    · by_cases e : h = h0
      · subst e
        simp only [upd_same, Option.some.injEq] at hh ⊢
        exact hc cs' hh hu
      · simp only [upd_ne _ _ e] at hh ⊢
        exact ⟨⟨cs', hh⟩, trivial⟩
    · by_cases e : h = h0
      · subst e
        simp only [upd_same, Option.some.injEq] at hh ⊢
        obtain ⟨rw, xs, h1, h2, h3, h4⟩ := hrow ver rw' t' xs' hh hu hv
        exact ⟨rw, xs, h1, h2, h3, h4⟩
      · simp only [upd_ne _ _ e] at hh ⊢
        exact ⟨rw', xs', hh, rfl, trivial, fun b c T fr hb' hw => ⟨c, T, fr, by rw [keep h _ b e hh hb']; exact hw, rfl⟩⟩
  refine ⟨?_, X⟩
  refine ⟨fun h b hh => ?_, fun b hs => ?_, fun h k b hh hb' => ?_, fun h h' k k1 b hh hh' hb1 hb2 => ?_, fun h k hh => ?_, ?_, fun h k b hh hb' => ?_, hE.s0, hE.sb⟩
  · by_cases e : h = h0
    · subst e; exact hU0
    · simp only [upd_ne _ _ e] at hh; exact hU _ (hE.used h b hh)
  · exact Nat.lt_of_lt_of_le (hE.stab b hs) hk.size
  · by_cases e : h = h0
    · subst e
      simp only [upd_same] at hb'
      rcases hr b hb' with h1 | ⟨h1, k1, h2, _⟩
      · exact h1.2
      · exact Nat.lt_of_lt_of_le (hE.lt _ _ _ h2 h1) hk.size
    · simp only [upd_ne _ _ e] at hh hb'
      exact Nat.lt_of_lt_of_le (hE.lt _ _ _ hh hb') hk.size
  · by_cases e : h = h0 <;> by_cases e' : h' = h0
    · rw [e, e']
    · subst e
      simp only [upd_same, upd_ne _ _ e'] at hh hh' hb1 hb2
      rcases hr b hb1 with h1 | ⟨h1, k2, h2, _⟩
      · have := hE.lt _ _ _ hh' hb2; omega
      · exact hE.inj _ _ _ _ _ h2 hh' h1 hb2
    · subst e'
      simp only [upd_same, upd_ne _ _ e] at hh hh' hb1 hb2
      rcases hr b hb2 with h1 | ⟨h1, k2, h2, _⟩
      · have := hE.lt _ _ _ hh hb1; omega
      · exact hE.inj _ _ _ _ _ hh h2 hb1 h1
    · simp only [upd_ne _ _ e, upd_ne _ _ e'] at hh hh' hb1 hb2
      exact hE.inj _ _ _ _ _ hh hh' hb1 hb2
  · by_cases e : h = h0
    · subst e
      simp only [upd_same, Option.some.injEq] at hh
      subst hh
      exact hb X
    · simp only [upd_ne _ _ e] at hh
      exact brel_ext X (upd_ne _ _ e) (fun b hb' => keep h k b e hh hb') (fun b _ _ h => h) (hE.blk h k hh)
  · refine hE.keeps.trans hk fun b e => ?_
    rcases hr b e with h1 | ⟨h1, k1, h2, h3⟩
    · exact .inr (Nat.le_trans hE.keeps.size h1.1)
    · exact hE.own _ _ _ h2 h1
  · by_cases e : h = h0
    · subst e
      simp only [upd_same] at hb'
      rcases hr b hb' with h1 | ⟨h1, k1, h2, h3⟩
      · exact .inr (Nat.le_trans hE.keeps.size h1.1)
      · exact hE.own _ _ _ h2 h1
    · simp only [upd_ne _ _ e] at hh hb'
      exact hE.own _ _ _ hh hb'

/-- the world moves on, its memory as it was -/
theorem step0 {B : Base} {E : Env} (hE : HRel B E) (w' : World) (hh : w'.heap = E.w.heap) (h1 : w'.os = E.w.os) (h2 : w'.tape = E.w.tape) (h3 : w'.output = E.w.output) :
    HRel B { E with w := w' } ∧ Ext E { E with w := w' } := by
  have X : Ext E { E with w := w' } := by
    refine ⟨fun _ h => h, fun _ h => h, fun b _ => by rw [hh], fun h cs _ h => ⟨⟨cs, h⟩, rfl⟩, fun h ver rw t xs _ _ hx => ⟨rw, xs, hx, rfl, rfl, fun b c T fr _ hw => ⟨c, T, fr, by simpa [hh] using hw, rfl⟩⟩⟩
  refine ⟨⟨hE.used, fun b hs => by simpa [hh] using hE.stab b hs, fun h k b a1 a2 => by simpa [hh] using hE.lt h k b a1 a2, hE.inj, fun h k a1 => brel_ext X rfl (fun b _ => by simp [hh]) (fun _ _ _ h => h) (hE.blk h k a1), ?_, hE.own, hE.s0, hE.sb⟩, X⟩
  exact hE.keeps.trans (G := fun _ => False) ⟨h1, h2, h3, by simp [hh], fun b _ _ => by simp [hh]⟩ (fun _ h => h.elim)

/-- more names in use -/
theorem moreU {B : Base} {E : Env} (hE : HRel B E) (U' : Nat → Prop) (hU : ∀ n, E.U n → U' n) : HRel B { E with U := U' } ∧ Ext E { E with U := U' } := by
  have X : Ext E { E with U := U' } :=
    ⟨hU, fun _ h => h, fun _ _ => rfl, fun h cs _ hx => ⟨⟨cs, hx⟩, rfl⟩, fun h ver rw t xs _ _ hx => ⟨rw, xs, hx, rfl, rfl, fun b c T fr _ hw => ⟨c, T, fr, hw, rfl⟩⟩⟩
  exact ⟨⟨fun h b a => hU _ (hE.used h b a), hE.stab, hE.lt, hE.inj, fun h k a1 => brel_ext X rfl (fun b _ => rfl) (fun _ _ _ h => h) (hE.blk h k a1), hE.keeps, hE.own, hE.s0, hE.sb⟩, X⟩

end Go.Mir
