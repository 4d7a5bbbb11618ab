/- The mirror, part 20: where ways meet again. -/
import Derived.Test.YtogdeefpidccmaaMirS
namespace Go.Mir
open Go.RowKit

variable {P : Program}

theorem cond_t {α : Sort _} (a b : α) : cond true a b = a := rfl
theorem cond_f {α : Sort _} (a b : α) : cond false a b = b := rfl

set_option maxHeartbeats 1000000 in
mutual
theorem mergeV_sound {E : Env} {p : Bool} : ∀ (x y v : V) (u : Value), mergeV p x y = some v → (p = true → vrel E x u) → (p = false → vrel E y u) → vrel E v u
  | .any, y, v, u, h, _, _ => by simp only [mergeV, Option.some.injEq] at h; subst h; simp [vrel]
  | .int k a, y, v, u, h, h1, h2 => by
    cases y <;> simp only [mergeV, reduceCtorEq, Option.some.injEq] at h
    case any => subst h; simp [vrel]
    case int k' b =>
      split at h
      case isFalse => cases h
      rename_i e; subst e
      cases h
      cases p
      · exact h2 rfl
      · exact h1 rfl
  | .bool a, y, v, u, h, h1, h2 => by
    cases y <;> simp only [mergeV, reduceCtorEq, Option.some.injEq] at h
    case any => subst h; simp [vrel]
    all_goals (subst h; cases p <;> first | exact h1 rfl | (have := h2 rfl; simpa [vrel] using this))
  | .kb a, y, v, u, h, h1, h2 => by
    cases y <;> simp only [mergeV, reduceCtorEq, Option.some.injEq] at h
    case any => subst h; simp [vrel]
    case bool b => subst h; cases p <;> first | (have := h1 rfl; simpa [vrel] using this) | (have := h2 rfl; simpa [vrel] using this)
    case kb b =>
      cases a <;> cases b <;> simp only [Option.some.injEq] at h <;> subst h <;> cases p <;> first | (have := h1 rfl; simpa [vrel] using this) | (have := h2 rfl; simpa [vrel] using this)
  | .str a, y, v, u, h, h1, h2 => by
    cases y <;> simp only [mergeV, reduceCtorEq, Option.some.injEq] at h
    case any => subst h; simp [vrel]
    case str b => subst h; cases p <;> first | exact h1 rfl | exact h2 rfl
  | .nilptr, y, v, u, h, h1, h2 => by
    cases y <;> simp only [mergeV, reduceCtorEq, Option.some.injEq] at h
    case any => subst h; simp [vrel]
    case nilptr => subst h; cases p <;> first | exact h1 rfl | exact h2 rfl
  | .ptr hh o, y, v, u, h, h1, h2 => by
    cases y <;> simp only [mergeV, reduceCtorEq, Option.some.injEq] at h
    case any => subst h; simp [vrel]
    case ptr h' o' =>
      split at h
      case isFalse => cases h
      rename_i e; obtain ⟨rfl, rfl⟩ := e
      cases h
      cases p <;> first | exact h1 rfl | exact h2 rfl
  | .fp t xs i o, y, v, u, h, h1, h2 => by
    cases y <;> simp only [mergeV, reduceCtorEq, Option.some.injEq] at h
    case any => subst h; simp [vrel]
    case fp t' ys j o' =>
      split at h
      case isFalse => cases h
      rename_i e; subst e
      split at h
      case isFalse => cases h
      rename_i e; subst e
      cases h
      cases p <;> first | exact h1 rfl | exact h2 rfl
  | .rp hh ver i o, y, v, u, h, h1, h2 => by
    cases y <;> simp only [mergeV, reduceCtorEq, Option.some.injEq] at h
    case any => subst h; simp [vrel]
    case rp h' ver' j o' =>
      split at h
      case isFalse => cases h
      rename_i e; obtain ⟨rfl, rfl, rfl⟩ := e
      cases h
      cases p <;> first | exact h1 rfl | exact h2 rfl
  | .nilsl, y, v, u, h, h1, h2 => by
    cases y <;> simp only [mergeV, reduceCtorEq, Option.some.injEq] at h
    case any => subst h; simp [vrel]
    case nilsl => subst h; cases p <;> first | exact h1 rfl | exact h2 rfl
    case fsl t ys =>
      subst h
      cases p
      · exact h2 rfl
      · have := h1 rfl
        simp only [vrel] at this ⊢
        subst this
        exact .nil
  | .esl, y, v, u, h, h1, h2 => by
    cases y <;> simp only [mergeV, reduceCtorEq, Option.some.injEq] at h
    case any => subst h; simp [vrel]
    case esl => subst h; cases p <;> first | exact h1 rfl | exact h2 rfl
  | .osl hh ver, y, v, u, h, h1, h2 => by
    cases y <;> simp only [mergeV, reduceCtorEq, Option.some.injEq] at h
    case any => subst h; simp [vrel]
    case osl h' ver' =>
      split at h
      case isFalse => cases h
      rename_i e; obtain ⟨rfl, rfl⟩ := e
      cases h
      cases p <;> first | exact h1 rfl | exact h2 rfl
  | .fsl t xs, y, v, u, h, h1, h2 => by
    cases y <;> simp only [mergeV, reduceCtorEq, Option.some.injEq] at h
    case any => subst h; simp [vrel]
    case fsl t' ys =>
      split at h
      case isFalse => cases h
      rename_i e; subst e
      cases h
      cases p <;> first | exact h1 rfl | exact h2 rfl
    case nilsl =>
      subst h
      cases p
      · have := h2 rfl
        simp only [vrel] at this ⊢
        subst this
        exact .nil
      · exact h1 rfl
  | .hint _ _, y, v, u, h, h1, h2 => by
    simp only [mergeV, Option.some.injEq] at h
    subst h; simp [vrel]
  | .nilfn, y, v, u, h, h1, h2 => by
    cases y <;> simp only [mergeV, reduceCtorEq, Option.some.injEq] at h
    case any => subst h; simp [vrel]
    case nilfn => subst h; cases p <;> first | exact h1 rfl | exact h2 rfl
  | .nilmap, y, v, u, h, h1, h2 => by
    cases y <;> simp only [mergeV, reduceCtorEq, Option.some.injEq] at h
    case any => subst h; simp [vrel]
    case nilmap => subst h; cases p <;> first | exact h1 rfl | exact h2 rfl
  | .fn f cs, y, v, u, h, h1, h2 => by
    cases y <;> simp only [mergeV, reduceCtorEq, Option.some.injEq] at h
    case any => subst h; simp [vrel]
    case fn f' ds =>
      split at h
      case isFalse => cases h
      rename_i e; subst e
      split at h
      case h_2 => cases h
      rename_i l hl
      cases h
      simp only [vrel] at h1 h2 ⊢
      cases p with
      | true =>
        obtain ⟨l', e1, e2⟩ := h1 rfl
        exact ⟨l', e1, mergeVs_sound cs ds l l'.toList hl (fun _ => e2) (fun e => by cases e)⟩
      | false =>
        obtain ⟨l', e1, e2⟩ := h2 rfl
        exact ⟨l', e1, mergeVs_sound cs ds l l'.toList hl (fun e => by cases e) (fun _ => e2)⟩
  | .agg cs, y, v, u, h, h1, h2 => by
    cases y <;> simp only [mergeV, reduceCtorEq, Option.some.injEq] at h
    case any => subst h; simp [vrel]
    case agg ds =>
      split at h
      case h_2 => cases h
      rename_i l hl
      cases h
      simp only [vrel] at h1 h2 ⊢
      cases p with
      | true =>
        obtain ⟨l', e1, e2⟩ := h1 rfl
        exact ⟨l', e1, mergeVs_sound cs ds l l'.toList hl (fun _ => e2) (fun e => by cases e)⟩
      | false =>
        obtain ⟨l', e1, e2⟩ := h2 rfl
        exact ⟨l', e1, mergeVs_sound cs ds l l'.toList hl (fun e => by cases e) (fun _ => e2)⟩
  | .tup cs, y, v, u, h, h1, h2 => by
    cases y <;> simp only [mergeV, reduceCtorEq, Option.some.injEq] at h
    case any => subst h; simp [vrel]
    case tup ds =>
      split at h
      case h_2 => cases h
      rename_i l hl
      cases h
      simp only [vrel] at h1 h2 ⊢
      cases p with
      | true =>
        obtain ⟨l', e1, e2⟩ := h1 rfl
        exact ⟨l', e1, mergeVs_sound cs ds l l'.toList hl (fun _ => e2) (fun e => by cases e)⟩
      | false =>
        obtain ⟨l', e1, e2⟩ := h2 rfl
        exact ⟨l', e1, mergeVs_sound cs ds l l'.toList hl (fun e => by cases e) (fun _ => e2)⟩
theorem mergeVs_sound {E : Env} {p : Bool} : ∀ (xs ys l : List V) (us : List Value), mergeVs p xs ys = some l → (p = true → vrels E xs us) → (p = false → vrels E ys us) → vrels E l us
  | [], [], l, us, h, h1, h2 => by
    simp only [mergeVs, Option.some.injEq] at h
    subst h
    cases p
    · exact h2 rfl
    · exact h1 rfl
  | _ :: _, [], l, us, h, _, _ => by simp [mergeVs] at h
  | [], _ :: _, l, us, h, _, _ => by simp [mergeVs] at h
  | x :: xs, y :: ys, l, us, h, h1, h2 => by
    simp only [mergeVs] at h
    split at h
    case h_2 => cases h
    rename_i v hv
    split at h
    case h_2 => cases h
    rename_i l' hl
    cases h
    cases us with
    | nil =>
      cases p
      · have := h2 rfl; simp [vrels] at this
      · have := h1 rfl; simp [vrels] at this
    | cons u us =>
      simp only [vrels] at h1 h2 ⊢
      exact ⟨mergeV_sound x y v u hv (fun e => (h1 e).1) (fun e => (h2 e).1), mergeVs_sound xs ys l' us hl (fun e => (h1 e).2) (fun e => (h2 e).2)⟩
end

/-- a weaker heap: blocks dropped, cells known less -/
theorem HRel.weak {B : Base} {E : Env} (hE : HRel B E) (H' : Heap) (h : ∀ h k', H' h = some k' → ∃ k, E.H h = some k ∧ (k' = k ∨ ∃ cs cs', k = .cells cs ∧ k' = .cells cs' ∧ ∀ l, vrels E cs l → vrels E cs' l)) :
    HRel B { E with H := H' } ∧ Ext E { E with H := H' } := by
  have X : Ext E { E with H := H' } := by
    refine ⟨fun _ h => h, fun _ h => h, fun _ _ => rfl, fun hh cs _ hx => ?_, fun hh ver rw t xs _ _ hx => ?_⟩
    · obtain ⟨k, h1, h2⟩ := h _ _ hx
      rcases h2 with h2 | ⟨cs1, cs2, h2, h3, _⟩
      · subst h2; exact ⟨⟨_, h1⟩, rfl⟩
      · subst h2; exact ⟨⟨_, h1⟩, rfl⟩
    · obtain ⟨k, h1, h2⟩ := h _ _ hx
      rcases h2 with h2 | ⟨cs1, cs2, h2, h3, _⟩
      · subst h2; exact ⟨rw, xs, h1, rfl, rfl, fun b c T fr _ hw => ⟨c, T, fr, hw, rfl⟩⟩
      · cases h3
  refine ⟨⟨fun hh b hx => ?_, hE.stab, fun hh k b hx hb => ?_, fun h1 h2 k1 k2 b x1 x2 b1 b2 => ?_, fun hh k hx => ?_, hE.keeps, fun hh k b hx hb => ?_, hE.s0, hE.sb⟩, X⟩
  · obtain ⟨k, h1, _⟩ := h _ _ hx; exact hE.used _ _ h1
  · obtain ⟨k, h1, _⟩ := h _ _ hx; exact hE.lt _ _ _ h1 hb
  · obtain ⟨_, y1, _⟩ := h _ _ x1
    obtain ⟨_, y2, _⟩ := h _ _ x2
    exact hE.inj _ _ _ _ _ y1 y2 b1 b2
  · obtain ⟨k0, h1, h2⟩ := h _ _ hx
    rcases h2 with h2 | ⟨cs1, cs2, h2, h3, h4⟩
    · subst h2; exact brel_ext X rfl (fun _ _ => rfl) (fun _ _ _ h => h) (hE.blk _ _ h1)
    · subst h2; subst h3
      obtain ⟨b, c, T, fr, g1, g2, g3, g4, g5⟩ := hE.blk _ _ h1
      exact ⟨b, c, T, fr, g1, g2, g3, g4, vrels_ext X _ _ (h4 _ g5)⟩
  · obtain ⟨k, h1, _⟩ := h _ _ hx; exact hE.own _ _ _ h1 hb

theorem keysOf_mem {α : Type} : ∀ (l : List (Nat × α)) (acc : List Nat) (k : Nat), (k ∈ acc ∨ find l k ≠ none) → k ∈ keysOf l acc
  | [], acc, k, h => by
    rcases h with h | h
    · exact h
    · simp [find] at h
  | (a, b) :: l, acc, k, h => by
    unfold keysOf
    cases hm : memN acc a with
    | true =>
      refine keysOf_mem l acc k ?_
      rcases h with h | h
      · exact .inl h
      · simp only [find] at h
        cases hb : Nat.beq a k with
        | true => obtain rfl := Nat.eq_of_beq_eq_true hb; exact .inl (memN_iff.1 hm)
        | false => rw [hb] at h; exact .inr h
    | false =>
      refine keysOf_mem l (a :: acc) k ?_
      rcases h with h | h
      · exact .inl (List.mem_cons_of_mem _ h)
      · simp only [find] at h
        cases hb : Nat.beq a k with
        | true => obtain rfl := Nat.eq_of_beq_eq_true hb; exact .inl List.mem_cons_self
        | false => rw [hb] at h; exact .inr h

theorem mergeU_sound {E : Env} {p : Bool} {x y v : V} {u : Value} (h : mergeU p x y = some v) (h1 : p = true → vrel E x u) (h2 : p = false → vrel E y u) : vrel E v u := by
  unfold mergeU at h
  cases hb : isUndef x || isUndef y with
  | true => rw [hb] at h; simp only [cond_true, Option.some.injEq] at h; subst h; simp [vrel]
  | false => rw [hb] at h; exact mergeV_sound _ _ _ _ h h1 h2

theorem mergeTm_spec {p : Bool} {t1 t2 : List (Nat × V)} : ∀ {ks : List Nat} {l : List (Nat × V)}, mergeTm p t1 t2 ks = some l → ∀ s v, find l s = some v → s ∈ ks ∧ mergeU p (lookV t1 s) (lookV t2 s) = some v
  | [], l, h, s, v, hf => by simp only [mergeTm, Option.some.injEq] at h; subst h; simp [find] at hf
  | k :: ks, l, h, s, v, hf => by
    simp only [mergeTm] at h
    split at h
    case h_2 => cases h
    rename_i v0 hv
    split at h
    case h_2 => cases h
    rename_i l' hl
    cases h
    simp only [find] at hf
    cases hb : Nat.beq k s with
    | true =>
      obtain rfl := Nat.eq_of_beq_eq_true hb
      rw [hb] at hf; simp only [cond_true, Option.some.injEq] at hf; subst hf
      exact ⟨List.mem_cons_self, hv⟩
    | false =>
      rw [hb] at hf
      obtain ⟨h1, h2⟩ := mergeTm_spec hl s v hf
      exact ⟨List.mem_cons_of_mem _ h1, h2⟩

theorem mergeTm_none {p : Bool} {t1 t2 : List (Nat × V)} : ∀ {ks : List Nat} {l : List (Nat × V)}, mergeTm p t1 t2 ks = some l → ∀ s, find l s = none → s ∉ ks
  | [], l, h, s, hf => by simp
  | k :: ks, l, h, s, hf => by
    simp only [mergeTm] at h
    split at h
    case h_2 => cases h
    split at h
    case h_2 => cases h
    rename_i l' hl
    cases h
    simp only [find] at hf
    cases hb : Nat.beq k s with
    | true => rw [hb] at hf; cases hf
    | false =>
      rw [hb] at hf
      intro hm
      rcases List.mem_cons.1 hm with rfl | hm
      · rw [Nat.beq_refl] at hb; cases hb
      · exact mergeTm_none hl s hf hm

theorem mergeHp_spec {p : Bool} {H H1 H2 : Heap} : ∀ {ks : List Nat} {l : List (Nat × Blk)}, mergeHp p H H1 H2 ks = some l →
    (∀ h b, find l h = some b → ∃ b1 b2, H1 h = some b1 ∧ H2 h = some b2 ∧ mergeB p b1 b2 = some b) ∧ (∀ h, find l h = none → h ∈ ks → H h = none)
  | [], l, h => by simp only [mergeHp, Option.some.injEq] at h; subst h; exact ⟨fun h b hf => by simp [find] at hf, fun h _ hm => by simp at hm⟩
  | k :: ks, l, h => by
    simp only [mergeHp] at h
    split at h
    · rename_i b1 b2 e1 e2
      split at h
      case h_2 => cases h
      rename_i b hb
      split at h
      case h_2 => cases h
      rename_i l' hl
      cases h
      obtain ⟨g1, g2⟩ := mergeHp_spec hl
      refine ⟨fun h b' hf => ?_, fun h hf hm => ?_⟩
      · simp only [find] at hf
        cases hbq : Nat.beq k h with
        | true =>
          obtain rfl := Nat.eq_of_beq_eq_true hbq
          rw [hbq] at hf; simp only [cond_true, Option.some.injEq] at hf; subst hf
          exact ⟨b1, b2, e1, e2, hb⟩
        | false => rw [hbq] at hf; exact g1 h b' hf
      · simp only [find] at hf
        cases hbq : Nat.beq k h with
        | true => rw [hbq] at hf; cases hf
        | false =>
          rw [hbq] at hf
          rcases List.mem_cons.1 hm with rfl | hm
          · rw [Nat.beq_refl] at hbq; cases hbq
          · exact g2 h hf hm
    · split at h
      · cases h
      · rename_i hH
        obtain ⟨g1, g2⟩ := mergeHp_spec h
        refine ⟨g1, fun h hf hm => ?_⟩
        rcases List.mem_cons.1 hm with rfl | hm
        · exact hH
        · exact g2 h hf hm

theorem mergeB_sound {E : Env} {p : Bool} {b1 b2 b : Blk} (h : mergeB p b1 b2 = some b) :
    (p = true → b = b1 ∨ ∃ cs cs', b1 = .cells cs ∧ b = .cells cs' ∧ ∀ l, vrels E cs l → vrels E cs' l) ∧ (p = false → b = b2 ∨ ∃ cs cs', b2 = .cells cs ∧ b = .cells cs' ∧ ∀ l, vrels E cs l → vrels E cs' l) := by
  unfold mergeB at h
  split at h
  · rename_i cs ds
    split at h
    case h_2 => cases h
    rename_i l hl
    cases h
    exact ⟨fun e => .inr ⟨cs, l, rfl, rfl, fun us hu => mergeVs_sound cs ds l us hl (fun _ => hu) (fun e' => by rw [e] at e'; cases e')⟩, fun e => .inr ⟨ds, l, rfl, rfl, fun us hu => mergeVs_sound cs ds l us hl (fun e' => by rw [e] at e'; cases e') (fun _ => hu)⟩⟩
  · split at h
    case isFalse => cases h
    rename_i e
    subst e
    split at h
    case isFalse => cases h
    rename_i e
    obtain ⟨rfl, rfl⟩ := e
    cases h
    exact ⟨fun e => .inl (by subst e; rfl), fun e => .inl (by subst e; rfl)⟩
  · cases h

theorem SRel.weak {B : Base} {N : Nat} {T T' : Nat → Option V} {H H' : Heap} {U U' : Nat → Prop} {a : Act} {w : World} (hs : SRel B N T H U a w) (hU : ∀ n, U n → U' n)
    (hH : ∀ E : Env, E.H = H → ∀ h k', H' h = some k' → ∃ k, H h = some k ∧ (k' = k ∨ ∃ cs cs', k = .cells cs ∧ k' = .cells cs' ∧ ∀ l, vrels E cs l → vrels E cs' l))
    (hT : ∀ E : Env, tmOK E T a → ∀ s v, T' s = some v → vrel E v (a.tmps.getD s undef)) : SRel B N T' H' U' a w := by
  obtain ⟨⟨E, hE, rfl, hEH, hEU, hET⟩, hsz, hd⟩ := hs
  obtain ⟨R, X⟩ := hE.weak H' (fun h k' hx => by rw [hEH]; exact hH E hEH h k' hx)
  exact ⟨⟨_, R, rfl, rfl, fun n hn => hU n (hEU n hn), fun s v hv => vrel_ext X _ _ (hT E hET s v hv)⟩, hsz, hd⟩

/-- both ways come to the merged state -/
theorem mergeDl_sound {B : Base} {N : Nat} {p : Bool} {st : St} {d1 d2 d : Dl} (h : mergeDl p st d1 d2 = some d) {U U' : Nat → Prop} (hU : ∀ n, U n → U' n) {a : Act} {w : World} :
    (p = true → SRel B N (find (d1.tm ++ st.tm)) (hset st.H d1.hp) U a w → SRel B N (find (d.tm ++ st.tm)) (hset st.H d.hp) U' a w) ∧
    (p = false → SRel B N (find (d2.tm ++ st.tm)) (hset st.H d2.hp) U a w → SRel B N (find (d.tm ++ st.tm)) (hset st.H d.hp) U' a w) := by
  unfold mergeDl at h
  split at h
  case h_2 => cases h
  rename_i tm htm
  split at h
  case h_2 => cases h
  rename_i hp hhp
  cases h
  obtain ⟨g1, g2⟩ := mergeHp_spec hhp
  have hTn : ∀ s, find tm s = none → find d1.tm s = none ∧ find d2.tm s = none := fun s hs => by
    have hn := mergeTm_none htm s hs
    constructor
    · cases hf : find d1.tm s with
      | none => rfl
      | some v => exact absurd (keysOf_mem _ _ _ (.inr (by rw [hf]; simp))) hn
    · cases hf : find d2.tm s with
      | none => rfl
      | some v => exact absurd (keysOf_mem _ _ _ (.inl (keysOf_mem _ _ _ (.inr (by rw [hf]; simp))))) hn
  have hHn : ∀ h, find hp h = none → (find d1.hp h = none ∧ find d2.hp h = none) ∨ st.H h = none := fun h hs => by
    by_cases hm : h ∈ keysOf d1.hp (keysOf d2.hp [])
    · exact .inr (g2 h hs hm)
    · left
      constructor
      · cases hf : find d1.hp h with
        | none => rfl
        | some v => exact absurd (keysOf_mem _ _ _ (.inr (by rw [hf]; simp))) hm
      · cases hf : find d2.hp h with
        | none => rfl
        | some v => exact absurd (keysOf_mem _ _ _ (.inl (keysOf_mem _ _ _ (.inr (by rw [hf]; simp))))) hm
  refine ⟨fun hp1 hs => hs.weak hU (fun E hEH h k' hx => ?_) (fun E hE s v hv => ?_), fun hp1 hs => hs.weak hU (fun E hEH h k' hx => ?_) (fun E hE s v hv => ?_)⟩
  · simp only [hset] at hx ⊢
    cases hf : find hp h with
    | some b =>
      rw [hf] at hx
      simp only [Option.some.injEq] at hx
      subst hx
      obtain ⟨b1, b2, e1, e2, e3⟩ := g1 h b hf
      exact ⟨b1, by simpa [hset] using e1, (mergeB_sound (E := E) e3).1 hp1⟩
    | none =>
      rw [hf] at hx
      rcases hHn h hf with ⟨h1, h2⟩ | h1
      · rw [h1]; exact ⟨k', hx, .inl rfl⟩
      · simp only at hx; rw [h1] at hx; cases hx
  · rw [find_append] at hv
    cases hf : find tm s with
    | some x =>
      rw [hf] at hv
      simp only [Option.some.injEq] at hv
      subst hv
      exact mergeU_sound (mergeTm_spec htm s x hf).2 (fun _ => lookV_sound hE s) (fun e => by rw [hp1] at e; cases e)
    | none =>
      rw [hf] at hv
      refine hE s v ?_
      rw [find_append, (hTn s hf).1]; exact hv
  · simp only [hset] at hx ⊢
    cases hf : find hp h with
    | some b =>
      rw [hf] at hx
      simp only [Option.some.injEq] at hx
      subst hx
      obtain ⟨b1, b2, e1, e2, e3⟩ := g1 h b hf
      exact ⟨b2, by simpa [hset] using e2, (mergeB_sound (E := E) e3).2 hp1⟩
    | none =>
      rw [hf] at hx
      rcases hHn h hf with ⟨h1, h2⟩ | h1
      · rw [h2]; exact ⟨k', hx, .inl rfl⟩
      · simp only at hx; rw [h1] at hx; cases hx
  · rw [find_append] at hv
    cases hf : find tm s with
    | some x =>
      rw [hf] at hv
      simp only [Option.some.injEq] at hv
      subst hv
      exact mergeU_sound (mergeTm_spec htm s x hf).2 (fun e => by rw [hp1] at e; cases e) (fun _ => lookV_sound hE s)
    | none =>
      rw [hf] at hv
      refine hE s v ?_
      rw [find_append, (hTn s hf).2]; exact hv

end Go.Mir
