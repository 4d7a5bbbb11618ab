/- The mirror, part 26: a state under other names, and weaker. -/
import Derived.Test.YtogdeefpidccmaaMirY
namespace Go.Mir
open Go.RowKit

variable {P : Program}

/-- how names are changed: 'σ' from the new to the old, 'Z' the new handles of rows that have no block -/
structure Nam where
  σ : List (Nat × Nat)
  Z : List Nat
  nx : Nat

def Nam.at (M : Nam) (n : Nat) : Nat := match find M.σ n with | some k => k | none => n

/-- is the new name n the old one k -/
def Nam.is (M : Nam) (n k : Nat) : Bool := Nat.blt n M.nx && (Nat.beq (M.at n) k && !memN M.Z n)
/-- a version's name -/
def Nam.vs (M : Nam) (n k : Nat) : Bool := Nat.blt n M.nx && Nat.beq (M.at n) k

mutual
/-- the old value, the new one -/
def subV (M : Nam) : V → V → Prop
  | _, .any => True
  | .int k n, .int k' n' => ifB (decide (k = k')) (n = n')
  | .bool b, .bool b' => b = b'
  | .bool b, .kb b' => b = b'
  | .kb b, .bool b' => b = b'
  | .kb b, .kb b' => b = b'
  | .str s, .str s' => s = s'
  | .nilptr, .nilptr => True
  | .nilfn, .nilfn => True
  | .nilmap, .nilmap => True
  | .nilsl, .nilsl => True
  | .esl, .esl => True
  | .nilsl, .esl => True
  | .nilsl, .fsl _ xs => xs = []
  | .esl, .fsl _ xs => xs = []
  | .fsl t xs, .fsl t' xs' => RowD.mk t xs = RowD.mk t' xs'
  | .ptr h off, .ptr h' off' => ifB (M.is h' h && Nat.beq off off') True
  | .fp t xs i off, .fp t' xs' i' off' => ifB (Nat.beq off off') (RowD.mk t xs = RowD.mk t' xs' ∧ i = i')
  | .rp h ver i off, .rp h' ver' i' off' => ifB (M.is h' h && M.vs ver' ver && Nat.beq off off') (i = i')
  | .osl h ver, .osl h' ver' => ifB (M.is h' h && M.vs ver' ver) True
  | .nilsl, .osl h' ver' => ifB (memN M.Z h' && Nat.blt h' M.nx && Nat.blt ver' M.nx) True
  | .esl, .osl h' ver' => ifB (memN M.Z h' && Nat.blt h' M.nx && Nat.blt ver' M.nx) True
  | .fn f cs, .fn f' cs' => ifB (Nat.beq f f') (subVs M cs cs')
  | .agg cs, .agg cs' => subVs M cs cs'
  | .tup cs, .tup cs' => subVs M cs cs'
  | _, _ => False
def subVs (M : Nam) : List V → List V → Prop
  | [], [] => True
  | x :: xs, y :: ys => subV M x y ∧ subVs M xs ys
  | _, _ => False
end

def subK (M : Nam) : Blk → Blk → Prop
  | .cells cs, .cells cs' => subVs M cs cs'
  | .row ver rw t xs, .row ver' rw' t' xs' => ifB (M.vs ver' ver && (rw == rw')) (RowD.mk t xs = RowD.mk t' xs')
  | _, _ => False

def subTm (M : Nam) (tm : List (Nat × V)) : List (Nat × V) → Prop
  | [] => True
  | (s, v) :: r => subV M (lookV tm s) v ∧ subTm M tm r

def zeroB (M : Nam) : Blk → Prop
  | .row ver _ _ xs => ifB (Nat.blt ver M.nx) (xs = [])
  | _ => False

def subHp (M : Nam) (H : Heap) : List (Nat × Blk) → Prop
  | [] => True
  | (h, k) :: r => ifB (Nat.blt h M.nx) (match memN M.Z h with
      | true => zeroB M k
      | false => match H (M.at h) with
        | some k0 => subK M k0 k
        | none => False) ∧ subHp M H r

def nodupN : List Nat → Bool
  | [] => true
  | x :: xs => !memN xs x && nodupN xs

theorem nodupN_iff {l : List Nat} : nodupN l = true ↔ l.Nodup := by
  induction l with
  | nil => simp [nodupN]
  | cons x xs ih =>
    simp only [nodupN, Bool.and_eq_true, ih, List.nodup_cons, Bool.not_eq_true']
    constructor
    · rintro ⟨h1, h2⟩; exact ⟨(fun h => by rw [memN_iff.2 h] at h1; cases h1), h2⟩
    · rintro ⟨h1, h2⟩; exact ⟨by cases h : memN xs x with | true => exact absurd (memN_iff.1 h) h1 | false => rfl, h2⟩

theorem nodup_map_inj {α β : Type} {f : α → β} : ∀ {l : List α}, (l.map f).Nodup → ∀ {x y : α}, x ∈ l → y ∈ l → f x = f y → x = y
  | [], _, _, _, hx, _, _ => by simp at hx
  | a :: l, h, x, y, hx, hy, e => by
    simp only [List.map_cons, List.nodup_cons, List.mem_map, not_exists, not_and] at h
    rcases List.mem_cons.1 hx with h1 | h1
    · rcases List.mem_cons.1 hy with h2 | h2
      · rw [h1, h2]
      · exact absurd (by rw [← e, h1]) (h.1 y h2)
    · rcases List.mem_cons.1 hy with h2 | h2
      · exact absurd (by rw [e, h2]) (h.1 x h1)
      · exact nodup_map_inj h.2 h1 h2 e

def Sub (M : Nam) (s : St) (tm : List (Nat × V)) (hp : List (Nat × Blk)) : Prop :=
  ifB (nodupN (((hp.map (·.1)).filter fun h => !memN M.Z h).map M.at)) (subTm M s.tm tm ∧ subHp M s.H hp)

/-- the state that is named anew -/
def subE (M : Nam) (E : Env) (hp : List (Nat × Blk)) : Env := ⟨fun n => n < M.nx, fun h => if memN M.Z h then none else E.ρ (M.at h), E.S, E.w, hset (fun _ => none) hp⟩

theorem subHp_find {M : Nam} {H : Heap} : ∀ {hp : List (Nat × Blk)} {h : Nat} {k : Blk}, subHp M H hp → (h, k) ∈ hp → h < M.nx ∧ ((memN M.Z h = true ∧ zeroB M k) ∨ (memN M.Z h = false ∧ ∃ k0, H (M.at h) = some k0 ∧ subK M k0 k))
  | [], _, _, _, hm => by simp at hm
  | (n, v) :: r, h, k, hs, hm => by
    simp only [subHp] at hs
    rcases List.mem_cons.1 hm with hm | hm
    · cases hm
      obtain ⟨h1, h2⟩ := ifB_iff.1 hs.1
      refine ⟨by simpa using h1, ?_⟩
      cases hz : memN M.Z n with
      | true => rw [hz] at h2; exact .inl ⟨rfl, h2⟩
      | false =>
        rw [hz] at h2
        simp only at h2
        split at h2
        · rename_i k0 hk; exact .inr ⟨rfl, k0, hk, h2⟩
        · exact h2.elim
    · exact subHp_find hs.2 hm

section
variable {M : Nam} {E : Env} {hp : List (Nat × Blk)}

theorem is_iff {n k : Nat} : M.is n k = true ↔ n < M.nx ∧ M.at n = k ∧ memN M.Z n = false := by
  simp only [Nam.is, Bool.and_eq_true, Nat.blt_eq, Nat.beq_eq, Bool.not_eq_true']
theorem vs_iff {n k : Nat} : M.vs n k = true ↔ n < M.nx ∧ M.at n = k := by
  simp only [Nam.vs, Bool.and_eq_true, Nat.blt_eq, Nat.beq_eq]

/-- what the new heap knows of a name -/
theorem sub_row (hh : subHp M E.H hp) {h ver : Nat} {rw : Bool} {t : Ty} {xs : List (Den t)} (hx : hset (fun _ => none) hp h = some (.row ver rw t xs)) :
    (memN M.Z h = true ∧ xs = []) ∨ (memN M.Z h = false ∧ E.H (M.at h) = some (.row (M.at ver) rw t xs)) := by
  have hf : find hp h = some (.row ver rw t xs) := by unfold hset at hx; cases hf : find hp h with | some k => rw [hf] at hx; exact hx | none => rw [hf] at hx; cases hx
  obtain ⟨_, h2⟩ := subHp_find hh (find_mem hf)
  rcases h2 with ⟨hz, h3⟩ | ⟨hz, k0, h3, h4⟩
  · simp only [zeroB] at h3
    exact .inl ⟨hz, (ifB_iff.1 h3).2⟩
  · cases k0 with
    | cells => simp [subK] at h4
    | row ver0 rw0 t0 xs0 =>
      simp only [subK] at h4
      obtain ⟨h5, h6⟩ := ifB_iff.1 h4
      simp only [Bool.and_eq_true, beq_iff_eq] at h5
      obtain ⟨_, h7⟩ := vs_iff.1 h5.1
      cases h6
      rw [h3, ← h7, h5.2]
      exact .inr ⟨hz, rfl⟩

theorem sub_cells (hh : subHp M E.H hp) {h : Nat} {cs : List V} (hx : hset (fun _ => none) hp h = some (.cells cs)) : memN M.Z h = false ∧ ∃ cs0, E.H (M.at h) = some (.cells cs0) ∧ subVs M cs0 cs := by
  have hf : find hp h = some (.cells cs) := by unfold hset at hx; cases hf : find hp h with | some k => rw [hf] at hx; exact hx | none => rw [hf] at hx; cases hx
  obtain ⟨_, h2⟩ := subHp_find hh (find_mem hf)
  rcases h2 with ⟨hz, h3⟩ | ⟨hz, k0, h3, h4⟩
  · simp [zeroB] at h3
  · cases k0 with
    | cells cs0 => exact ⟨hz, cs0, h3, h4⟩
    | row => simp [subK] at h4

mutual
theorem subV_sound (hh : subHp M E.H hp) : ∀ (x v : V) (u : Value), subV M x v → vrel E x u → vrel (subE M E hp) v u
  | x, .any, u, _, _ => by simp [vrel]
  | x, .int k n, u, h, hv => by
    cases x <;> simp only [subV] at h
    obtain ⟨h1, rfl⟩ := ifB_iff.1 h
    obtain rfl := of_decide_eq_true h1
    simpa [vrel] using hv
  | x, .bool b, u, h, hv => by
    cases x <;> simp only [subV] at h
    all_goals subst h; simpa [vrel] using hv
  | x, .kb b, u, h, hv => by
    cases x <;> simp only [subV] at h
    all_goals subst h; simpa [vrel] using hv
  | x, .str s, u, h, hv => by
    cases x <;> simp only [subV] at h
    subst h; simpa [vrel] using hv
  | x, .nilptr, u, h, hv => by cases x <;> simp only [subV] at h; simpa [vrel] using hv
  | x, .hint _ _, u, h, hv => by cases x <;> simp only [subV] at h
  | x, .nilfn, u, h, hv => by cases x <;> simp only [subV] at h; simpa [vrel] using hv
  | x, .nilmap, u, h, hv => by cases x <;> simp only [subV] at h; simpa [vrel] using hv
  | x, .nilsl, u, h, hv => by cases x <;> simp only [subV] at h; simpa [vrel] using hv
  | x, .esl, u, h, hv => by
    cases x <;> simp only [subV] at h
    · simp only [vrel] at hv ⊢; exact ⟨_, hv⟩
    · simpa [vrel] using hv
  | x, .fsl t xs, u, h, hv => by
    cases x <;> simp only [subV] at h
    · subst h; simp only [vrel] at hv ⊢; subst hv; exact .nil
    · subst h; simp only [vrel] at hv ⊢; obtain ⟨a, rfl⟩ := hv; exact .nil
    · cases h; simpa [vrel, subE] using hv
  | x, .ptr h0 off, u, h, hv => by
    cases x <;> simp only [subV] at h
    obtain ⟨h1, _⟩ := ifB_iff.1 h
    simp only [Bool.and_eq_true, Nat.beq_eq] at h1
    obtain ⟨h2, rfl⟩ := h1
    obtain ⟨h3, rfl, hz⟩ := is_iff.1 h2
    simp only [vrel] at hv ⊢
    refine ⟨h3, hv.2.1, fun cs hx => ?_⟩
    obtain ⟨_, cs0, hx0, _⟩ := sub_cells hh hx
    obtain ⟨b, hb, hu⟩ := hv.2.2 _ hx0
    exact ⟨b, by simp only [subE, hz, Bool.false_eq_true, if_false]; exact hb, hu⟩
  | x, .fp t xs i off, u, h, hv => by
    cases x <;> simp only [subV] at h
    obtain ⟨h1, h2, rfl⟩ := ifB_iff.1 h
    simp only [Nat.beq_eq] at h1
    subst h1
    cases h2
    simpa [vrel, subE] using hv
  | x, .rp h0 ver i off, u, h, hv => by
    cases x <;> simp only [subV] at h
    obtain ⟨h1, rfl⟩ := ifB_iff.1 h
    simp only [Bool.and_eq_true, Nat.beq_eq] at h1
    obtain ⟨⟨h2, h4⟩, rfl⟩ := h1
    obtain ⟨h3, rfl, hz⟩ := is_iff.1 h2
    obtain ⟨h5, rfl⟩ := vs_iff.1 h4
    simp only [vrel] at hv ⊢
    refine ⟨h3, h5, hv.2.2.1, fun rw t xs hx => ?_⟩
    rcases sub_row hh hx with ⟨hz', _⟩ | ⟨_, hx0⟩
    · rw [hz] at hz'; cases hz'
    · obtain ⟨b, hb, hu⟩ := hv.2.2.2 _ _ _ hx0
      exact ⟨b, by simp only [subE, hz, Bool.false_eq_true, if_false]; exact hb, hu⟩
  | x, .osl h0 ver, u, h, hv => by
    have zero : ∀ (a : Option Addr), u = .slice a 0 0 → (memN M.Z h0 && Nat.blt h0 M.nx && Nat.blt ver M.nx) = true → vrel (subE M E hp) (.osl h0 ver) u := fun a hu h1 => by
      simp only [Bool.and_eq_true, Nat.blt_eq] at h1
      simp only [vrel]
      refine ⟨h1.1.2, h1.2, ⟨_, _, _, hu⟩, fun rw t xs hx => .inl ⟨by simp only [subE, h1.1.1, if_true], a, hu⟩⟩
    cases x <;> simp only [subV] at h
    · simp only [vrel] at hv; exact zero none hv (ifB_iff.1 h).1
    · simp only [vrel] at hv; obtain ⟨a, hv⟩ := hv; exact zero a hv (ifB_iff.1 h).1
    · obtain ⟨h1, _⟩ := ifB_iff.1 h
      simp only [Bool.and_eq_true] at h1
      obtain ⟨h3, rfl, hz⟩ := is_iff.1 h1.1
      obtain ⟨h5, rfl⟩ := vs_iff.1 h1.2
      simp only [vrel] at hv ⊢
      refine ⟨h3, h5, hv.2.2.1, fun rw t xs hx => ?_⟩
      rcases sub_row hh hx with ⟨hz', _⟩ | ⟨_, hx0⟩
      · rw [hz] at hz'; cases hz'
      · have e : (subE M E hp).ρ h0 = E.ρ (M.at h0) := by simp only [subE, hz, Bool.false_eq_true, if_false]
        rw [e]
        exact hv.2.2.2 _ _ _ hx0
  | x, .fn f cs, u, h, hv => by
    cases x <;> simp only [subV] at h
    obtain ⟨h1, h2⟩ := ifB_iff.1 h
    simp only [Nat.beq_eq] at h1
    subst h1
    simp only [vrel] at hv ⊢
    obtain ⟨l, rfl, hl⟩ := hv
    exact ⟨l, rfl, subVs_sound hh _ _ _ h2 hl⟩
  | x, .agg cs, u, h, hv => by
    cases x <;> simp only [subV] at h
    simp only [vrel] at hv ⊢
    obtain ⟨l, rfl, hl⟩ := hv
    exact ⟨l, rfl, subVs_sound hh _ _ _ h hl⟩
  | x, .tup cs, u, h, hv => by
    cases x <;> simp only [subV] at h
    simp only [vrel] at hv ⊢
    obtain ⟨l, rfl, hl⟩ := hv
    exact ⟨l, rfl, subVs_sound hh _ _ _ h hl⟩
theorem subVs_sound (hh : subHp M E.H hp) : ∀ (xs vs : List V) (us : List Value), subVs M xs vs → vrels E xs us → vrels (subE M E hp) vs us
  | [], [], us, _, hv => by cases us <;> simp_all [vrels]
  | [], _ :: _, _, h, _ => by simp [subVs] at h
  | _ :: _, [], _, h, _ => by simp [subVs] at h
  | x :: xs, v :: vs, us, h, hv => by
    cases us with
    | nil => simp [vrels] at hv
    | cons u us =>
      simp only [subVs] at h
      simp only [vrels] at hv ⊢
      exact ⟨subV_sound hh _ _ _ h.1 hv.1, subVs_sound hh _ _ _ h.2 hv.2⟩
end

theorem subTm_find {tm : List (Nat × V)} : ∀ {tm' : List (Nat × V)} {s : Nat} {v : V}, subTm M tm tm' → (s, v) ∈ tm' → subV M (lookV tm s) v
  | [], _, _, _, hm => by simp at hm
  | (n, x) :: r, s, v, h, hm => by
    simp only [subTm] at h
    rcases List.mem_cons.1 hm with hm | hm
    · cases hm; exact h.1
    · exact subTm_find h.2 hm

theorem subE_rel {B : Base} (hE : HRel B E) (hh : subHp M E.H hp) (hn : nodupN (((hp.map (·.1)).filter fun h => !memN M.Z h).map M.at) = true) : HRel B (subE M E hp) := by
  have hfind : ∀ h k, (subE M E hp).H h = some k → find hp h = some k := fun h k hx => by
    have hx' : hset (fun _ => none) hp h = some k := hx
    unfold hset at hx'; cases hf : find hp h with | some k => rw [hf] at hx'; exact hx' | none => rw [hf] at hx'; cases hx'
  have old : ∀ h k b, (subE M E hp).H h = some k → (subE M E hp).ρ h = some b → memN M.Z h = false ∧ (∃ k0, E.H (M.at h) = some k0 ∧ subK M k0 k) ∧ E.ρ (M.at h) = some b := fun h k b hx hb => by
    obtain ⟨_, h2⟩ := subHp_find hh (find_mem (hfind _ _ hx))
    simp only [subE] at hb
    rcases h2 with ⟨hz, _⟩ | ⟨hz, h3⟩
    · rw [hz] at hb; simp at hb
    · rw [hz] at hb; exact ⟨hz, h3, by simpa using hb⟩
  refine ⟨fun h k hx => (subHp_find hh (find_mem (hfind _ _ hx))).1, hE.stab, fun h k b hx hb => ?_, fun h h' k k' b h1 h2 b1 b2 => ?_, fun h k hx => ?_, hE.keeps, fun h k b hx hb => ?_, hE.s0, hE.sb⟩
  · obtain ⟨_, ⟨k0, h1, _⟩, h2⟩ := old h k b hx hb
    exact hE.lt _ _ _ h1 h2
  · obtain ⟨z1, ⟨q1, x1, _⟩, y1⟩ := old h k b h1 b1
    obtain ⟨z2, ⟨q2, x2, _⟩, y2⟩ := old h' k' b h2 b2
    have e := hE.inj _ _ _ _ _ x1 x2 y1 y2
    have nd := nodupN_iff.1 hn
    have mem : ∀ {h k}, (h, k) ∈ hp → memN M.Z h = false → h ∈ ((hp.map (·.1)).filter fun h => !memN M.Z h) := fun {h k} hm hz => by
      rw [List.mem_filter]
      exact ⟨List.mem_map.2 ⟨_, hm, rfl⟩, by simp [hz]⟩
    exact nodup_map_inj nd (mem (find_mem (hfind _ _ h1)) z1) (mem (find_mem (hfind _ _ h2)) z2) e
  · cases k with
    | cells cs =>
      obtain ⟨hz, cs0, hx0, hs⟩ := sub_cells hh hx
      obtain ⟨b, c, T, fr, h1, h2, h3, h4, h5⟩ := hE.blk _ _ hx0
      exact ⟨b, c, T, fr, by simp only [subE, hz, Bool.false_eq_true, if_false]; exact h1, h2, h3, h4, subVs_sound hh _ _ _ hs h5⟩
    | row ver rw t xs =>
      have hv : ver < M.nx := by
        obtain ⟨_, h2⟩ := subHp_find hh (find_mem (hfind _ _ hx))
        rcases h2 with ⟨_, h3⟩ | ⟨_, k0, _, h4⟩
        · simp only [zeroB] at h3; simpa using (ifB_iff.1 h3).1
        · cases k0 with
          | cells => simp [subK] at h4
          | row =>
            simp only [subK] at h4
            have := (ifB_iff.1 h4).1
            simp only [Bool.and_eq_true] at this
            exact (vs_iff.1 this.1).1
      refine ⟨hv, ?_⟩
      rcases sub_row hh hx with ⟨hz, rfl⟩ | ⟨hz, hx0⟩
      · exact .inl ⟨by simp only [subE, hz, if_true], rfl⟩
      · have e : (subE M E hp).ρ h = E.ρ (M.at h) := by simp only [subE, hz, Bool.false_eq_true, if_false]
        rw [e]
        exact (hE.blk _ _ hx0).2
  · obtain ⟨_, ⟨k0, h1, _⟩, h2⟩ := old h k b hx hb
    exact hE.own _ _ _ h1 h2

theorem sub_here {B : Base} {N : Nat} {s : St} {tm : List (Nat × V)} (h : Sub M s tm hp) {a : Act} {w : World} (hs : here B N s a w) : here B N ⟨tm, hp, fun _ => none, M.nx⟩ a w := by
  obtain ⟨hn, ht, hh⟩ := ifB_iff.1 h
  obtain ⟨⟨E, hE, rfl, hH, _, hT⟩, hsz, hdf⟩ := hs
  rw [← hH] at hh
  refine ⟨⟨subE M E hp, subE_rel hE hh hn, rfl, rfl, fun n hn => hn, fun sl v hv => ?_⟩, hsz, hdf⟩
  exact subV_sound hh _ _ _ (subTm_find ht (find_mem hv)) (lookV_sound hT sl)
end

end Go.Mir
