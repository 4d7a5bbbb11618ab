/- The mirror, part 14: the frame rule. -/
import Derived.Test.YtogdeefpidccmaaMirM
namespace Go.Mir
open Go.RowKit

variable {P : Program}

mutual
/-- the handles that a value names -/
def V.hs : V → List Nat
  | .ptr h _ => [h]
  | .rp h _ _ _ => [h]
  | .osl h _ => [h]
  | .fn _ caps => hss caps
  | .agg cs => hss cs
  | .tup vs => hss vs
  | _ => []
def hss : List V → List Nat
  | [] => []
  | v :: vs => v.hs ++ hss vs
end

def Blk.hs : Blk → List Nat
  | .cells cs => hss cs
  | .row _ _ _ _ => []

def memN : List Nat → Nat → Bool
  | [], _ => false
  | k :: r, i => Nat.beq k i || memN r i

theorem memN_iff {l : List Nat} {i : Nat} : memN l i = true ↔ i ∈ l := by
  induction l with
  | nil => simp [memN]
  | cons k r ih => simp only [memN, Bool.or_eq_true, ih, List.mem_cons, Nat.beq_eq]; exact ⟨fun h => h.imp Eq.symm id, fun h => h.imp Eq.symm id⟩

def restr (H : Heap) (R : List Nat) : Heap := fun h => bif memN R h then H h else none

mutual
/-- what a value needs of an environment -/
theorem vrel_same {E E' : Env} (hU : ∀ n, E.U n → E'.U n) (hS : ∀ b, E.S b → E'.S b) (hw : E'.w = E.w) (D : Nat → Prop) (hD : ∀ h, D h → E'.H h = E.H h ∧ E'.ρ h = E.ρ h) : ∀ (x : V) (v : Value), (∀ h ∈ x.hs, D h) → vrel E x v → vrel E' x v
  | .any, _, _, _ => by simp [vrel]
  | .int _ _, _, _, h => by simpa [vrel] using h
  | .bool _, _, _, h => by simpa [vrel] using h
  | .kb _, _, _, h => by simpa [vrel] using h
  | .str _, _, _, h => by simpa [vrel] using h
  | .nilptr, _, _, h => by simpa [vrel] using h
  | .ptr hh off, v, hd, h => by
    simp only [vrel] at h ⊢
    obtain ⟨e1, e2⟩ := hD hh (hd hh (by simp [V.hs]))
    rw [e1, e2]
    exact ⟨hU _ h.1, h.2⟩
  | .fp t xs i off, v, _, h => by
    simp only [vrel] at h ⊢
    obtain ⟨b, o, c, T, fr, h1, h2, h3, h4, h5, h6, h7⟩ := h
    exact ⟨b, o, c, T, fr, hS _ h1, by rw [hw]; exact h2, h3, fun j hj => (h4 j hj).ext hS (fun _ _ => by rw [hw]), h5, h6, h7⟩
  | .rp hh ver i off, v, hd, h => by
    simp only [vrel] at h ⊢
    obtain ⟨e1, e2⟩ := hD hh (hd hh (by simp [V.hs]))
    rw [e1, e2]
    exact ⟨hU _ h.1, hU _ h.2.1, h.2.2⟩
  | .nilsl, _, _, h => by simpa [vrel] using h
  | .esl, _, _, h => by simpa [vrel] using h
  | .osl hh ver, v, hd, h => by
    simp only [vrel] at h ⊢
    obtain ⟨e1, e2⟩ := hD hh (hd hh (by simp [V.hs]))
    rw [e1, e2, hw]
    exact ⟨hU _ h.1, hU _ h.2.1, h.2.2⟩
  | .fsl t xs, v, _, h => by
    simp only [vrel] at h ⊢
    exact h.ext hS (fun _ _ => by rw [hw])
  | .nilfn, _, _, h => by simpa [vrel] using h
  | .nilmap, _, _, h => by simpa [vrel] using h
  | .hint _ _, _, _, h => by simpa [vrel] using h
  | .fn f caps, v, hd, h => by
    simp only [vrel] at h ⊢
    obtain ⟨l, h1, h2⟩ := h
    exact ⟨l, h1, vrels_same hU hS hw D hD _ _ (fun h hh => hd h (by simpa [V.hs] using hh)) h2⟩
  | .agg cs, v, hd, h => by
    simp only [vrel] at h ⊢
    obtain ⟨l, h1, h2⟩ := h
    exact ⟨l, h1, vrels_same hU hS hw D hD _ _ (fun h hh => hd h (by simpa [V.hs] using hh)) h2⟩
  | .tup cs, v, hd, h => by
    simp only [vrel] at h ⊢
    obtain ⟨l, h1, h2⟩ := h
    exact ⟨l, h1, vrels_same hU hS hw D hD _ _ (fun h hh => hd h (by simpa [V.hs] using hh)) h2⟩
theorem vrels_same {E E' : Env} (hU : ∀ n, E.U n → E'.U n) (hS : ∀ b, E.S b → E'.S b) (hw : E'.w = E.w) (D : Nat → Prop) (hD : ∀ h, D h → E'.H h = E.H h ∧ E'.ρ h = E.ρ h) : ∀ (xs : List V) (vs : List Value), (∀ h ∈ hss xs, D h) → vrels E xs vs → vrels E' xs vs
  | [], [], _, _ => by simp [vrels]
  | _ :: _, [], _, h => by simp [vrels] at h
  | [], _ :: _, _, h => by simp [vrels] at h
  | x :: xs, v :: vs, hd, h => by
    simp only [vrels] at h ⊢
    exact ⟨vrel_same hU hS hw D hD x v (fun h hh => hd h (by simp [hss, hh])) h.1, vrels_same hU hS hw D hD xs vs (fun h hh => hd h (by simp [hss, hh])) h.2⟩
end

theorem brel_same {E E' : Env} (hU : ∀ n, E.U n → E'.U n) (hS : ∀ b, E.S b → E'.S b) (hS' : ∀ b, E'.S b → E.S b) (hw : E'.w = E.w) (D : Nat → Prop) (hD : ∀ h, D h → E'.H h = E.H h ∧ E'.ρ h = E.ρ h) {h : Nat} (hh : D h) {k : Blk} (hk : ∀ x ∈ k.hs, D x) (hb : brel E h k) : brel E' h k := by
  obtain ⟨_, e2⟩ := hD h hh
  cases k with
  | cells cs =>
    obtain ⟨b, c, T, fr, h1, h2, h3, h4, h5⟩ := hb
    exact ⟨b, c, T, fr, by rw [e2]; exact h1, by rw [hw]; exact h2, h3, fun hs => h4 (hS' _ hs), vrels_same hU hS hw D hD _ _ hk h5⟩
  | row ver rw t xs =>
    obtain ⟨hu, hb⟩ := hb
    refine ⟨hU _ hu, ?_⟩
    rcases hb with ⟨h1, h2⟩ | ⟨b, c, T, fr, h1, h2, h3, h4, h5, h6, h7, h8⟩
    · exact .inl ⟨by rw [e2]; exact h1, h2⟩
    · exact .inr ⟨b, c, T, fr, by rw [e2]; exact h1, by rw [hw]; exact h2, h3, fun e hs => h4 e (hS' _ hs), fun e => hS _ (h5 e), h6, h7, fun i hi => (h8 i hi).ext hS (fun _ _ => by rw [hw])⟩

/-- the blocks that a part of the heap holds -/
def foot (E : Env) (R : List Nat) : Nat → Prop := fun b => ∃ h, h ∈ R ∧ (∃ k, E.H h = some k) ∧ E.ρ h = some b

def subB (E : Env) (R : List Nat) : Base := ⟨E.w, foot E R, E.S⟩

theorem HRel.restr {B : Base} {E : Env} (hE : HRel B E) (R : List Nat) : HRel (subB E R) { E with H := Mir.restr E.H R } := by
  have get : ∀ h k, Mir.restr E.H R h = some k → h ∈ R ∧ E.H h = some k := fun h k hh => by
    unfold Mir.restr at hh
    cases hm : memN R h with
    | false => rw [hm] at hh; cases hh
    | true => rw [hm] at hh; exact ⟨memN_iff.1 hm, hh⟩
  have X : Ext E { E with H := Mir.restr E.H R } := by
    refine ⟨fun _ h => h, fun _ h => h, fun _ _ => rfl, fun h cs _ hx => ⟨⟨cs, (get _ _ hx).2⟩, rfl⟩, fun h ver rw t xs _ _ hx => ⟨rw, xs, (get _ _ hx).2, rfl, rfl, fun b c T fr _ hw => ⟨c, T, fr, hw, rfl⟩⟩⟩
  refine ⟨fun h b hx => hE.used _ _ (get _ _ hx).2, hE.stab, fun h k b hx hb => hE.lt _ _ _ (get _ _ hx).2 hb, fun h h' k k' b h1 h2 b1 b2 => hE.inj _ _ _ _ _ (get _ _ h1).2 (get _ _ h2).2 b1 b2,
    fun h k hx => brel_ext X rfl (fun _ _ => rfl) (fun _ _ _ h => h) (hE.blk _ _ (get _ _ hx).2), Keeps.refl _ _, fun h k b hx hb => .inl ⟨h, (get _ _ hx).1, ⟨_, (get _ _ hx).2⟩, hb⟩, fun _ h => h, fun _ h => .inl h⟩

/-- THE FRAME RULE: what is done with a part of the heap is done with the whole. -/
theorem frame {B : Base} {E : Env} (hE : HRel B E) {R : List Nat} {m K : Nat} (hm : ∀ n, m ≤ n → n < m + K → ¬ E.U n) {dh : List (Nat × Blk)} {w' : World} {Es : Env} (G : GoodK (subB E R) { E with H := restr E.H R } m K dh w' Es)
    (_ : ∀ h ∈ R, ∃ k, E.H h = some k) (hc : ∀ h ∈ R, ∀ k, E.H h = some k → ∀ x ∈ k.hs, x ∈ R ∨ (m ≤ x ∧ x < m + K))
    (hk : ∀ h k, find dh h = some k → (h ∈ R ∨ (m ≤ h ∧ h < m + K)) ∧ ∀ x ∈ k.hs, x ∈ R ∨ (m ≤ x ∧ x < m + K)) :
    ∃ E', GoodK B E m K dh w' E' ∧ ∀ (v : V) (u : Value), (∀ x ∈ v.hs, x ∈ R ∨ (m ≤ x ∧ x < m + K)) → vrel Es v u → vrel E' v u := by
  classical
  let D : Nat → Prop := fun h => h ∈ R ∨ (m ≤ h ∧ h < m + K)
  let E' : Env := ⟨Es.U, fun h => if D h then Es.ρ h else E.ρ h, Es.S, Es.w, hset E.H dh⟩
  have hEs := G.rel
  have Xs := G.ext
  have hH : ∀ h, D h → E'.H h = Es.H h := fun h hd => by
    show hset E.H dh h = Es.H h
    rw [G.h]
    unfold hset
    cases hf : find dh h with
    | some k => rfl
    | none =>
      simp only
      unfold Mir.restr
      cases hm' : memN R h with
      | true => rfl
      | false =>
        rcases hd with hd | hd
        · rw [memN_iff.2 hd] at hm'; cases hm'
        · cases hx : E.H h with
          | none => rfl
          | some k => exact absurd (hE.used _ _ hx) (hm h hd.1 hd.2)
  have hρ : ∀ h, D h → E'.ρ h = Es.ρ h := fun h hd => if_pos hd
  have hHn : ∀ h, ¬ D h → E'.H h = E.H h := fun h hd => by
    show hset E.H dh h = E.H h
    unfold hset
    cases hf : find dh h with
    | some k => exact absurd (hk h k hf).1 hd
    | none => rfl
  have hρn : ∀ h, ¬ D h → E'.ρ h = E.ρ h := fun h hd => if_neg hd
  have notF : ∀ h k b, ¬ D h → E.H h = some k → E.ρ h = some b → ¬ foot E R b := fun h k b hd hx hb hf => by
    obtain ⟨h2, g1, ⟨k2, g2⟩, g3⟩ := hf
    have := hE.inj _ _ _ _ _ hx g2 hb g3
    subst this
    exact hd (.inl g1)
  have keep : ∀ h k b, ¬ D h → E.H h = some k → E.ρ h = some b → Es.w.heap[b]? = E.w.heap[b]? := fun h k b hd hx hb =>
    hEs.keeps.block b (hE.lt _ _ _ hx hb) (notF h k b hd hx hb)
  have X : Ext E E' := by
    refine ⟨Xs.u, Xs.s, Xs.keepS, fun h cs' hu hx => ?_, fun h ver rw' t' xs' hu hv hx => ?_⟩
    · by_cases hd : D h
      · rw [hH h hd] at hx
        obtain ⟨⟨cs, h1⟩, h2⟩ := Xs.hc h cs' hu hx
        refine ⟨⟨cs, ?_⟩, by rw [hρ h hd]; exact h2⟩
        have h1' : Mir.restr E.H R h = some (.cells cs) := h1
        unfold Mir.restr at h1'
        cases hm' : memN R h with
        | false => rw [hm'] at h1'; cases h1'
        | true => rw [hm'] at h1'; exact h1'
      · rw [hHn h hd] at hx
        exact ⟨⟨cs', hx⟩, hρn h hd⟩
    · by_cases hd : D h
      · rw [hH h hd] at hx
        obtain ⟨rw, xs, h1, h2, h3, h4⟩ := Xs.hr h ver rw' t' xs' hu hv hx
        refine ⟨rw, xs, ?_, h2, by rw [hρ h hd]; exact h3, h4⟩
        have h1' : Mir.restr E.H R h = some (.row ver rw t' xs) := h1
        unfold Mir.restr at h1'
        cases hm' : memN R h with
        | false => rw [hm'] at h1'; cases h1'
        | true => rw [hm'] at h1'; exact h1'
      · rw [hHn h hd] at hx
        exact ⟨rw', xs', hx, rfl, hρn h hd, fun b c T fr hb hw => ⟨c, T, fr, by rw [show E'.w = Es.w from rfl, keep h _ b hd hx hb]; exact hw, rfl⟩⟩
  have trans : ∀ (v : V) (u : Value), (∀ x ∈ v.hs, D x) → vrel Es v u → vrel E' v u := fun v u hd hv =>
    vrel_same (E := Es) (E' := E') (fun _ h => h) (fun _ h => h) rfl D (fun h hd => ⟨hH h hd, hρ h hd⟩) v u hd hv
  have hw0 : E.w.heap.size ≤ Es.w.heap.size := hEs.keeps.size
  have hB0 : B.w0.heap.size ≤ E.w.heap.size := hE.keeps.size
  have hfoot : ∀ b, foot E R b → B.F b ∨ B.w0.heap.size ≤ b := fun b ⟨h2, _, ⟨k2, g2⟩, g3⟩ => hE.own _ _ _ g2 g3
  have R' : HRel B E' := by
    refine ⟨fun h b hx => ?_, hEs.stab, fun h k b hx hb => ?_, fun h h' k k' b h1 h2 b1 b2 => ?_, fun h k hx => ?_, ?_, fun h k b hx hb => ?_, fun b hs => Xs.s _ (hE.s0 b hs), fun b hs => ?_⟩
    · by_cases hd : D h
      · rw [hH h hd] at hx; exact hEs.used _ _ hx
      · rw [hHn h hd] at hx; exact Xs.u _ (hE.used _ _ hx)
    · by_cases hd : D h
      · rw [hH h hd] at hx; rw [hρ h hd] at hb; exact hEs.lt _ _ _ hx hb
      · rw [hHn h hd] at hx; rw [hρn h hd] at hb; exact Nat.lt_of_lt_of_le (hE.lt _ _ _ hx hb) hw0
    · have mix : ∀ h h' k k', D h → ¬ D h' → E'.H h = some k → E'.H h' = some k' → E'.ρ h = some b → E'.ρ h' = some b → False := fun h h' k k' hd hd' h1 h2 b1 b2 => by
        rw [hH h hd] at h1; rw [hρ h hd] at b1; rw [hHn h' hd'] at h2; rw [hρn h' hd'] at b2
        rcases hEs.own _ _ _ h1 b1 with h3 | h3
        · exact notF _ _ _ hd' h2 b2 h3
        · have h4 := hE.lt _ _ _ h2 b2
          have h5 : E.w.heap.size ≤ b := h3
          omega
      by_cases hd : D h <;> by_cases hd' : D h'
      · rw [hH h hd] at h1; rw [hρ h hd] at b1; rw [hH h' hd'] at h2; rw [hρ h' hd'] at b2
        exact hEs.inj _ _ _ _ _ h1 h2 b1 b2
      · exact (mix h h' k k' hd hd' h1 h2 b1 b2).elim
      · exact (mix h' h k' k hd' hd h2 h1 b2 b1).elim
      · rw [hHn h hd] at h1; rw [hρn h hd] at b1; rw [hHn h' hd'] at h2; rw [hρn h' hd'] at b2
        exact hE.inj _ _ _ _ _ h1 h2 b1 b2
    · by_cases hd : D h
      · have hx' := hx
        rw [hH h hd] at hx'
        refine brel_same (E := Es) (E' := E') (fun _ h => h) (fun _ h => h) (fun _ h => h) rfl D (fun h hd => ⟨hH h hd, hρ h hd⟩) hd ?_ (hEs.blk _ _ hx')
        have hx2 : hset E.H dh h = some k := hx
        unfold hset at hx2
        cases hf : find dh h with
        | some k2 => rw [hf] at hx2; simp only [Option.some.injEq] at hx2; subst hx2; exact (hk h _ hf).2
        | none =>
          rw [hf] at hx2
          rcases hd with hd | hd
          · exact hc h hd k hx2
          · exact absurd (hE.used _ _ hx2) (hm h hd.1 hd.2)
      · have hx' := hx
        rw [hHn h hd] at hx'
        refine brel_ext X (hρn h hd) (fun b hb => keep h k b hd hx' hb) (fun b hb _ hs hs' => ?_) (hE.blk _ _ hx')
        rcases hEs.sb b hs' with h1 | h1 | h1
        · exact hs h1
        · exact notF h k b hd hx' hb h1
        · have h4 := hE.lt _ _ _ hx' hb
          have h5 : E.w.heap.size ≤ b := h1
          omega
    · exact hE.keeps.trans hEs.keeps hfoot
    · by_cases hd : D h
      · rw [hH h hd] at hx; rw [hρ h hd] at hb
        rcases hEs.own _ _ _ hx hb with h3 | h3
        · exact hfoot b h3
        · exact .inr (Nat.le_trans hB0 h3)
      · rw [hHn h hd] at hx; rw [hρn h hd] at hb; exact hE.own _ _ _ hx hb
    · rcases hEs.sb b hs with h1 | h1 | h1
      · exact hE.sb b h1
      · exact .inr (hfoot b h1)
      · exact .inr (.inr (Nat.le_trans hB0 h1))
  exact ⟨E', ⟨R', X, G.w, rfl, G.u⟩, trans⟩

end Go.Mir
