/- The mirror, part 25: contracts of functions that only read are sound. -/
import Derived.Test.YtogdeefpidccmaaMirX
namespace Go.Mir
open Go.RowKit

variable {P : Program}

theorem find_rowsHp (m : Nat) : ∀ (rows : List RowD) (i h : Nat), find (rowsHp m i rows) h = if m + i ≤ h ∧ h < m + i + rows.length then (rows[h - (m + i)]?).map fun r => .row h true r.t r.xs else none
  | [], i, h => by simp [rowsHp, find]
  | r :: rs, i, h => by
    simp only [rowsHp, find]
    cases hb : Nat.beq (m + i) h with
    | true =>
      obtain rfl := Nat.eq_of_beq_eq_true hb
      simp
    | false =>
      have hne : m + i ≠ h := fun e => by subst e; rw [Nat.beq_refl] at hb; cases hb
      simp only [cond_false]
      rw [find_rowsHp m rs (i + 1) h]
      by_cases hc : m + i ≤ h ∧ h < m + i + (r :: rs).length
      · have hc2 : m + (i + 1) ≤ h ∧ h < m + (i + 1) + rs.length := by simp at hc; omega
        rw [if_pos hc, if_pos hc2]
        have : h - (m + i) = (h - (m + (i + 1))) + 1 := by omega
        rw [this, List.getElem?_cons_succ]
      · have hc2 : ¬ (m + (i + 1) ≤ h ∧ h < m + (i + 1) + rs.length) := by simp at hc; omega
        rw [if_neg hc, if_neg hc2]

theorem find_seals (H : Heap) (L : List Nat) (h : Nat) : hset H (seals H L) h = roL H L h := by
  have key : find (seals H L) h = if h ∈ L then (match H h with | some (.row ver _ t xs) => some (.row ver false t xs) | _ => none) else none := by
    induction L with
    | nil => simp [seals, find]
    | cons x L ih =>
      by_cases hx : x = h
      · subst hx
        simp only [List.mem_cons, true_or, if_true]
        cases hH : H x with
        | none => simp only [seals, hH]; rw [ih]; simp [hH]
        | some k =>
          cases k with
          | cells cs => simp only [seals, hH]; rw [ih]; simp [hH]
          | row ver rw t xs => simp [seals, hH, find]
      · have hmem : h ∈ x :: L ↔ h ∈ L := by simp [Ne.symm hx]
        have hs : find (seals H (x :: L)) h = find (seals H L) h := by
          cases hH : H x with
          | none => simp only [seals, hH]
          | some k =>
            cases k with
            | cells cs => simp only [seals, hH]
            | row ver rw t xs =>
              simp only [seals, hH, find]
              cases hb : Nat.beq x h with
              | true => exact absurd (Nat.eq_of_beq_eq_true hb) hx
              | false => rfl
        rw [hs, ih]
        simp only [hmem]
  unfold hset roL
  rw [key]
  by_cases hm : h ∈ L
  · rw [if_pos hm]
    cases hH : H h with
    | none => rfl
    | some k =>
      cases k with
      | cells cs => rfl
      | row ver rw t xs => simp [memN_iff.2 hm]
  · rw [if_neg hm]
    have hf : memN L h = false := by cases hx : memN L h with | true => exact absurd (memN_iff.1 hx) hm | false => rfl
    cases hH : H h with
    | none => rfl
    | some k =>
      cases k with
      | cells cs => rfl
      | row ver rw t xs => simp [hf]

/-- The caller takes a callee's rows over. -/
theorem adopt {B : Base} {Eb : Env} (hEb : HRel B Eb) {m K : Nat} (hm : ∀ n, m ≤ n → n < m + K → ¬ Eb.U n) {S1 : Nat → Prop} (_ : ∀ b, Eb.S b → S1 b) {Ec : Env} (hEc : HRel ⟨Eb.w, fun _ => False, S1⟩ Ec) {acc : Acc} (ha : AccOK Ec acc) (hK : acc.length ≤ K)
    (hfl : (∀ b, S1 b → Eb.S b) ∨ ∀ q ∈ acc, q.2.t.flatB = true) :
    ∃ E', GoodK B Eb m K (rowsHp m 0 (acc.map (·.2))) Ec.w E' ∧ Ren Ec E' m acc ∧ ((∀ b, S1 b → Eb.S b) → ∀ b, Ec.S b → E'.S b) := by
  classical
  let D : Nat → Prop := fun h => m ≤ h ∧ h < m + K
  let ρ' : Nat → Option Nat := fun h => if D h then (match acc[h - m]? with | some q => Ec.ρ q.1 | none => none) else Eb.ρ h
  let E' : Env := ⟨fun n => Eb.U n ∨ D n, ρ', fun b => Eb.S b ∨ (Ec.S b ∧ Eb.w.heap.size ≤ b), Ec.w, hset Eb.H (rowsHp m 0 (acc.map (·.2)))⟩
  have hfind : ∀ h, find (rowsHp m 0 (acc.map (·.2))) h = if m ≤ h ∧ h < m + acc.length then (acc[h - m]?).map fun q => Blk.row h true q.2.t q.2.xs else none := fun h => by
    rw [find_rowsHp]
    simp only [Nat.add_zero, List.length_map, List.getElem?_map, Option.map_map]
    rfl
  have hHn : ∀ h, ¬ D h → E'.H h = Eb.H h := fun h hd => by
    show hset Eb.H _ h = Eb.H h
    unfold hset
    rw [hfind, if_neg (fun hc => hd ⟨hc.1, by omega⟩)]
  have hρn : ∀ h, ¬ D h → E'.ρ h = Eb.ρ h := fun h hd => if_neg hd
  have hHd : ∀ h k, D h → E'.H h = some k → ∃ h0 r, acc[h - m]? = some (h0, r) ∧ k = .row h true r.t r.xs := fun h k hd hk => by
    have hk' : hset Eb.H (rowsHp m 0 (acc.map (·.2))) h = some k := hk
    unfold hset at hk'
    rw [hfind] at hk'
    by_cases hc : m ≤ h ∧ h < m + acc.length
    · rw [if_pos hc] at hk'
      cases hq : acc[h - m]? with
      | none => rw [List.getElem?_eq_none_iff] at hq; omega
      | some q =>
        obtain ⟨h0, r⟩ := q
        rw [hq] at hk'
        simp only [Option.map_some, Option.some.injEq] at hk'
        exact ⟨h0, r, rfl, hk'.symm⟩
    · rw [if_neg hc] at hk'
      simp only at hk'
      exact absurd (hEb.used _ _ hk') (hm h hd.1 hd.2)
  have hρd : ∀ h h0 r, D h → acc[h - m]? = some (h0, r) → E'.ρ h = Ec.ρ h0 := fun h h0 r hd hq => by
    show (if D h then _ else _) = _
    rw [if_pos hd, hq]
  have used' : ∀ h k, Eb.H h = some k → ¬ D h := fun h k hx hd => hm h hd.1 hd.2 (hEb.used _ _ hx)
  have hw0 : Eb.w.heap.size ≤ Ec.w.heap.size := hEc.keeps.size
  have hB0 : B.w0.heap.size ≤ Eb.w.heap.size := hEb.keeps.size
  have same : ∀ b, b < Eb.w.heap.size → Ec.w.heap[b]? = Eb.w.heap[b]? := fun b hb => hEc.keeps.block b hb (fun h => h)
  have newb : ∀ h0 r b, (h0, r) ∈ acc → Ec.ρ h0 = some b → Eb.w.heap.size ≤ b := fun h0 r b hq hb => by
    obtain ⟨ver, hx⟩ := ha.row _ _ hq
    rcases hEc.own _ _ _ hx hb with h | h
    · exact h.elim
    · exact h
  have X : Ext Eb E' := by
    refine ⟨fun _ h => .inl h, fun _ h => .inl h, fun b hb => same b (hEb.stab b hb), fun h cs hu hx => ?_, fun h ver rw t xs hu hv hx => ?_⟩
    · have hd : ¬ D h := fun hd => hm h hd.1 hd.2 hu
      rw [hHn h hd] at hx
      exact ⟨⟨cs, hx⟩, hρn h hd⟩
    · have hd : ¬ D h := fun hd => hm h hd.1 hd.2 hu
      rw [hHn h hd] at hx
      exact ⟨rw, xs, hx, rfl, hρn h hd, fun b c T fr hb hw => ⟨c, T, fr, by rw [show E'.w = Ec.w from rfl, same b (hEb.lt _ _ _ hx hb)]; exact hw, rfl⟩⟩
  have R : HRel B E' := by
    refine ⟨fun h k hx => ?_, fun b hs => ?_, fun h k b hx hb => ?_, fun h h' k k' b h1 h2 b1 b2 => ?_, fun h k hx => ?_, ?_, fun h k b hx hb => ?_, fun b hs => .inl (hEb.s0 b hs), fun b hs => ?_⟩
    · by_cases hd : D h
      · exact .inr hd
      · rw [hHn h hd] at hx; exact .inl (hEb.used _ _ hx)
    · rcases hs with hs | hs
      · exact Nat.lt_of_lt_of_le (hEb.stab b hs) hw0
      · exact hEc.stab b hs.1
    · by_cases hd : D h
      · obtain ⟨h0, r, hq, rfl⟩ := hHd h k hd hx
        rw [hρd h h0 r hd hq] at hb
        obtain ⟨ver, hx0⟩ := ha.row _ _ (List.mem_of_getElem? hq)
        exact hEc.lt _ _ _ hx0 hb
      · rw [hHn h hd] at hx; rw [hρn h hd] at hb; exact Nat.lt_of_lt_of_le (hEb.lt _ _ _ hx hb) hw0
    · have mix : ∀ h h' k k', D h → ¬ D h' → E'.H h = some k → E'.H h' = some k' → E'.ρ h = some b → E'.ρ h' = some b → False := fun h h' k k' hd hd' h1 h2 b1 b2 => by
        obtain ⟨h0, r, hq, rfl⟩ := hHd h k hd h1
        rw [hρd h h0 r hd hq] at b1; rw [hHn h' hd'] at h2; rw [hρn h' hd'] at b2
        have h3 := newb _ _ _ (List.mem_of_getElem? hq) b1
        have h4 := hEb.lt _ _ _ h2 b2
        omega
      by_cases hd : D h <;> by_cases hd' : D h'
      · obtain ⟨a0, r, hq, rfl⟩ := hHd h k hd h1
        obtain ⟨a0', r', hq', rfl⟩ := hHd h' k' hd' h2
        rw [hρd h _ _ hd hq] at b1; rw [hρd h' _ _ hd' hq'] at b2
        obtain ⟨_, x1⟩ := ha.row _ _ (List.mem_of_getElem? hq)
        obtain ⟨_, x2⟩ := ha.row _ _ (List.mem_of_getElem? hq')
        have e := hEc.inj _ _ _ _ _ x1 x2 b1 b2
        have n1 : (acc.map (·.1))[h - m]? = some a0 := by simp [hq]
        have n2 : (acc.map (·.1))[h' - m]? = some a0 := by simp [hq', e]
        have hl : h - m < (acc.map (·.1)).length := by
          rcases Nat.lt_or_ge (h - m) (acc.map (·.1)).length with h1 | h1
          · exact h1
          · rw [List.getElem?_eq_none h1] at n1; cases n1
        have := (List.getElem?_inj hl ha.nodup).1 (n1.trans n2.symm)
        have := hd.1; have := hd'.1
        omega
      · exact (mix h h' k k' hd hd' h1 h2 b1 b2).elim
      · exact (mix h' h k' k hd' hd h2 h1 b2 b1).elim
      · rw [hHn h hd] at h1; rw [hρn h hd] at b1; rw [hHn h' hd'] at h2; rw [hρn h' hd'] at b2
        exact hEb.inj _ _ _ _ _ h1 h2 b1 b2
    · by_cases hd : D h
      · obtain ⟨h0, r, hq, rfl⟩ := hHd h k hd hx
        have hmem := List.mem_of_getElem? hq
        obtain ⟨ver, hx0⟩ := ha.row _ _ hmem
        obtain ⟨_, hbl⟩ := hEc.blk _ _ hx0
        refine ⟨.inr hd, ?_⟩
        rw [hρd h h0 r hd hq]
        rcases hbl with hbl | ⟨b, c, T, fr, k1, k2, k3, k4, k5, k6, k7, k8⟩
        · exact .inl hbl
        · refine .inr ⟨b, c, T, fr, k1, k2, k3, fun _ hs => ?_, (fun h => by cases h), k6, k7, fun i hi => ?_⟩
          · rcases hs with hs | hs
            · have h3 := hEb.stab b hs
              have h4 := newb _ _ _ hmem k1
              omega
            · exact k4 rfl hs.1
          · rcases hfl with hfl | hfl
            · refine (k8 i hi).ext (fun b hs => ?_) (fun b _ => rfl)
              rcases hEc.sb b hs with h | h | h
              · exact .inl (hfl b h)
              · exact h.elim
              · exact .inr ⟨hs, h⟩
            · exact (k8 i hi).flatB (hfl _ hmem)
      · have hx' := hx
        rw [hHn h hd] at hx'
        refine brel_ext X (hρn h hd) (fun b hb => same b (hEb.lt _ _ _ hx' hb)) (fun b hb _ hs hs' => ?_) (hEb.blk _ _ hx')
        rcases hs' with hs' | hs'
        · exact hs hs'
        · have h4 := hEb.lt _ _ _ hx' hb
          have := hs'.2
          omega
    · exact hEb.keeps.trans hEc.keeps (fun b h => h.elim)
    · by_cases hd : D h
      · obtain ⟨h0, r, hq, rfl⟩ := hHd h k hd hx
        rw [hρd h h0 r hd hq] at hb
        exact .inr (Nat.le_trans hB0 (newb _ _ _ (List.mem_of_getElem? hq) hb))
      · rw [hHn h hd] at hx; rw [hρn h hd] at hb; exact hEb.own _ _ _ hx hb
    · rcases hs with hs | hs
      · exact hEb.sb b hs
      · exact .inr (.inr (Nat.le_trans hB0 hs.2))
  refine ⟨E', ⟨R, X, rfl, rfl, fun n h => h⟩, fun i h0 r hq => ?_, fun hs b hb => ?_⟩
  · have hi : i < acc.length := by
      rcases Nat.lt_or_ge i acc.length with h1 | h1
      · exact h1
      · rw [List.getElem?_eq_none h1] at hq; cases hq
    have hd : D (m + i) := ⟨by omega, by omega⟩
    refine ⟨.inr hd, hρd _ h0 r hd (by rw [Nat.add_sub_cancel_left]; exact hq), ?_⟩
    show hset Eb.H _ (m + i) = _
    unfold hset
    rw [hfind, if_pos ⟨by omega, by omega⟩, Nat.add_sub_cancel_left, hq]
    rfl
  · rcases hEc.sb b hb with h | h | h
    · exact .inl (hs b h)
    · exact h.elim
    · exact .inr ⟨hb, h⟩

/-! ## a function's whole body -/

theorem find_number {α : Type} : ∀ (l : List α) (n i : Nat), find (number n l) i = if n ≤ i then l[i - n]? else none
  | [], n, i => by simp [number, find]
  | x :: l, n, i => by
    simp only [number, find]
    cases hb : Nat.beq n i with
    | true => obtain rfl := Nat.eq_of_beq_eq_true hb; simp
    | false =>
      have hne : n ≠ i := fun e => by subst e; rw [Nat.beq_refl] at hb; cases hb
      simp only [cond_false]
      rw [find_number l (n + 1) i]
      by_cases hc : n ≤ i
      · rw [if_pos hc, if_pos (by omega)]
        have : i - n = (i - (n + 1)) + 1 := by omega
        rw [this, List.getElem?_cons_succ]
      · rw [if_neg hc, if_neg (by omega)]

/-- what becomes of a state when nil slices become rows -/
structure Mat (B : Base) (E : Env) (n : Nat) (dh : List (Nat × Blk)) (E' : Env) : Prop where
  rel : HRel B E'
  ext : Ext E E'
  w : E'.w = E.w
  h : E'.H = hset E.H dh
  u : ∀ k, E'.U k → k < n + dh.length

theorem Mat.refl {B : Base} {E : Env} (hE : HRel B E) {n : Nat} (hn : ∀ k, E.U k → k < n) : Mat B E n [] E :=
  ⟨hE, ⟨fun _ h => h, fun _ h => h, fun _ _ => rfl, fun _ cs _ h => ⟨⟨cs, h⟩, rfl⟩, fun _ ver rw t xs _ _ hx => ⟨rw, xs, hx, rfl, rfl, fun b c T fr _ hw => ⟨c, T, fr, hw, rfl⟩⟩⟩, rfl, by funext h; simp [hset, find], by simpa using hn⟩



theorem Mat.trans {B : Base} {E E1 E2 : Env} {n : Nat} {d1 d2 : List (Nat × Blk)} (h1 : Mat B E n d1 E1) (h2 : Mat B E1 (n + d1.length) d2 E2) : Mat B E n (d2 ++ d1) E2 :=
  ⟨h2.rel, h1.ext.trans h2.ext, h2.w.trans h1.w, by rw [h2.h, h1.h, hset_append], fun k hk => by have := h2.u k hk; simp only [List.length_append]; omega⟩

theorem mat_one {B : Base} {E : Env} (hE : HRel B E) {n : Nat} (hn : ∀ k, E.U k → k < n) (t : Ty) : ∃ E', Mat B E n [(n, .row n true t [])] E' ∧ vrel E' (.osl n n) (.slice none 0 0) := by
  have hnot : ¬ E.U n := fun h => Nat.lt_irrefl _ (hn n h)
  obtain ⟨R, X⟩ := step1 hE n (.row n true t []) none E.w (fun k => E.U k ∨ k = n) (fun _ h => .inl h) (.inr rfl) (Keeps.refl _ _) (fun b h => by cases h) (fun b h => by cases h) (fun cs h => by cases h) (fun _ _ _ _ _ h => absurd h hnot)
    (fun _ => ⟨.inr rfl, .inl ⟨upd_same _ _ _, rfl⟩⟩)
  refine ⟨_, ⟨R, X, rfl, (hset_one _ _ _).symm, fun k hk => ?_⟩, ?_⟩
  · rcases hk with hk | rfl
    · have := hn k hk; simp only [List.length_cons, List.length_nil]; omega
    · simp
  · simp only [vrel]
    exact ⟨.inr trivial, .inr trivial, ⟨_, _, _, rfl⟩, fun rw t' xs hx => .inl ⟨upd_same _ _ _, _, rfl⟩⟩

theorem matC_sound {B : Base} : ∀ (ts : List (Option Ty)) (cs : List V) (n : Nat) (E : Env) (vs : List Value), HRel B E → (∀ k, E.U k → k < n) → vrels E cs vs →
    ∃ E', Mat B E n (matC ts cs n).2 E' ∧ vrels E' (matC ts cs n).1 vs
  | [], cs, n, E, vs, hE, hn, hv => ⟨E, by simpa [matC] using Mat.refl hE hn, by simpa [matC] using hv⟩
  | _ :: _, [], n, E, vs, hE, hn, hv => ⟨E, by simpa [matC] using Mat.refl hE hn, by simpa [matC] using hv⟩
  | o :: ts, c :: cs, n, E, vs, hE, hn, hv => by
    cases vs with
    | nil => simp [vrels] at hv
    | cons v vs =>
      simp only [vrels] at hv
      simp only [matC]
      split
      · rename_i t
        have hv1 := hv.1
        simp only [vrel] at hv1
        subst hv1
        obtain ⟨E1, M1, r1⟩ := mat_one hE hn t
        obtain ⟨E2, M2, r2⟩ := matC_sound ts cs (n + 1) E1 vs M1.rel (fun k hk => by simpa using M1.u k hk) (vrels_ext M1.ext _ _ hv.2)
        exact ⟨E2, M1.trans M2, by simp only [vrels]; exact ⟨vrel_ext M2.ext _ _ r1, r2⟩⟩
      · obtain ⟨E2, M2, r2⟩ := matC_sound ts cs n E vs hE hn hv.2
        exact ⟨E2, M2, by simp only [vrels]; exact ⟨vrel_ext M2.ext _ _ hv.1, r2⟩⟩

theorem matT_sound {B : Base} {E : Env} (hE : HRel B E) {n : Nat} (hn : ∀ k, E.U k → k < n) (o : Option Ty) {v : V} {u : Value} (hv : vrel E v u) : ∃ E', Mat B E n (matT o v n).2 E' ∧ vrel E' (matT o v n).1 u := by
  unfold matT
  split
  · split
    · rename_i ty _ cs
      simp only [vrel] at hv
      obtain ⟨l, rfl, hl⟩ := hv
      obtain ⟨E', M, r⟩ := matC_sound (slTys FUEL ty) cs n E l.toList hE hn hl
      exact ⟨E', M, by simp only [vrel]; exact ⟨l, rfl, r⟩⟩
    · split
      · simp only [vrel] at hv
        subst hv
        exact mat_one hE hn _
      · exact ⟨E, Mat.refl hE hn, hv⟩
    · exact ⟨E, Mat.refl hE hn, hv⟩
  · exact ⟨E, Mat.refl hE hn, hv⟩

theorem matL_sound {B : Base} (tb : Tbl) : ∀ (ts : List TypeId) (vs : List V) (n : Nat) (E : Env) (us : List Value), HRel B E → (∀ k, E.U k → k < n) → vrels E vs us →
    ∃ E', Mat B E n (matL tb ts vs n).2 E' ∧ vrels E' (matL tb ts vs n).1 us
  | [], vs, n, E, us, hE, hn, hv => ⟨E, by simpa [matL] using Mat.refl hE hn, by simpa [matL] using hv⟩
  | _ :: _, [], n, E, us, hE, hn, hv => ⟨E, by simpa [matL] using Mat.refl hE hn, by simpa [matL] using hv⟩
  | t :: ts, v :: vs, n, E, us, hE, hn, hv => by
    cases us with
    | nil => simp [vrels] at hv
    | cons u us =>
      simp only [vrels] at hv
      simp only [matL]
      obtain ⟨E1, M1, r1⟩ := matT_sound hE hn (tyOf tb t) hv.1
      obtain ⟨E2, M2, r2⟩ := matL_sound tb ts vs _ E1 us M1.rel M1.u (vrels_ext M1.ext _ _ hv.2)
      exact ⟨E2, M1.trans M2, by simp only [vrels]; exact ⟨vrel_ext M2.ext _ _ r1, r2⟩⟩

theorem matR_sound {B : Base} {E : Env} (hE : HRel B E) {n : Nat} (hn : ∀ k, E.U k → k < n) (tb : Tbl) (ts : List TypeId) {v : V} {u : Value} (hv : vrel E v u) : ∃ E', Mat B E n (matR tb ts v n).2 E' ∧ vrel E' (matR tb ts v n).1 u := by
  unfold matR
  split
  · exact matT_sound hE hn _ hv
  · split
    · rename_i vs
      simp only [vrel] at hv
      obtain ⟨l, rfl, hl⟩ := hv
      obtain ⟨E', M, r⟩ := matL_sound tb ts vs n E l.toList hE hn hl
      exact ⟨E', M, by simp only [vrel]; exact ⟨l, rfl, r⟩⟩
    · exact ⟨E, Mat.refl hE hn, hv⟩

/-- what a body's end says -/
def ends (_ : Base) (Q : V → List RowD → Prop) (tb : Tbl) (rs : List ResultVar) (ts : List TypeId) (st : St) : Lf → Dl → Nat → Prop
  | .ext _, _, _ => False
  | _, d, nx => ∃ v0 v acc, resV tb (d.tm ++ st.tm) (hset st.H d.hp) rs = some v0 ∧ canV (hset (hset st.H d.hp) (matR tb ts v0 nx).2) (matR tb ts v0 nx).1 [] = some (v, acc) ∧ Q v (acc.map (·.2))

theorem toRT_sat {B : Base} {Q : V → List RowD → Prop} {tb : Tbl} {rs : List ResultVar} {ts : List TypeId} {st : St} : ∀ {t : Tr}, (toRT tb rs ts st t).sat Q → t.sat (ends B Q tb rs ts st)
  | .leaf (.ext _) _ _, h => h.elim
  | .leaf .nrm d nx, h => by
    simp only [toRT] at h
    split at h
    case h_2 => exact h.elim
    rename_i v0 hv
    split at h
    case h_2 => exact h.elim
    rename_i v acc hc
    exact ⟨v0, v, acc, hv, hc, h⟩
  | .leaf .ret d nx, h => by
    simp only [toRT] at h
    split at h
    case h_2 => exact h.elim
    rename_i v0 hv
    split at h
    case h_2 => exact h.elim
    rename_i v acc hc
    exact ⟨v0, v, acc, hv, hc, h⟩
  | .br b t e, h => ⟨fun hb => toRT_sat (h.1 hb), fun hb => toRT_sat (h.2 hb)⟩
  | .need p t, h => ⟨h.1, toRT_sat h.2⟩
  | .both t u, h => ⟨toRT_sat h.1, toRT_sat h.2⟩
  | .when b t, h => fun hb => toRT_sat (h hb)
  | .done, h => h
  | .bad, h => h

theorem evFn_sound {C : Cfg} (hC : CfgOK P C) (hP : P.follows .mixedOrders = true) {Λ : Nat → Option LoopSum} {f : FuncId} {fn : Func} (hf : P.funcs[f]? = some fn) (hN : C.N = fn.ntmps)
    (hΛ : ∀ c, fn.body = some c → ∀ b ∈ loopsOf c, ∀ L, Λ (rid b) = some L → LoopOK P C.N b L) {args : List V} {Q : V → List RowD → Prop} (h : (evFn C Λ fn args).sat Q)
    {B : Base} {E : Env} (hE : HRel B E) (hH : E.H = fun _ => none) (hU : ∀ n, ¬ E.U n) {av : List Value} (hav : vrels E args av) (hlen : av.length ≤ fn.ntmps) :
    Calls P f av.toArray E.w fun e w' => ∃ Ec v' v0 v acc, e = .returned v' ∧ HRel B Ec ∧ Ec.w = w' ∧ vrel Ec v0 v' ∧ canV Ec.H v0 [] = some (v, acc) ∧ Q v (acc.map (·.2)) := by
  unfold evFn at h
  split at h
  case h_2 => exact h.elim
  rename_i c hc
  refine calls_of_wp hf hc ?_
  have hs := toRT_sat (B := B) h
  refine evCode_sound hC hP (B := B) c (hΛ c hc) (startOf args) _ _ hs (fun e d nx a w hq hat => ?_) _ _ ?_
  · obtain ⟨⟨Ec, hEc, rfl, hHc, hUc, hT⟩, hsz, hdf⟩ := hat
    have fin : (∃ v0 v acc, resV C.tb (d.tm ++ (startOf args).tm) (hset (startOf args).H d.hp) fn.results.toList = some v0 ∧ canV (hset (hset (startOf args).H d.hp) (matR C.tb fn.resultTypes.toList v0 nx).2) (matR C.tb fn.resultTypes.toList v0 nx).1 [] = some (v, acc) ∧ Q v (acc.map (·.2))) →
        ∃ v', (results fn a.tmps).run P Ec.w = .ok v' Ec.w ∧ ∃ Ec' v'' v0 v acc, (Ending.returned v') = .returned v'' ∧ HRel B Ec' ∧ Ec'.w = Ec.w ∧ vrel Ec' v0 v'' ∧ canV Ec'.H v0 [] = some (v, acc) ∧ Q v (acc.map (·.2)) := fun ⟨v0, v, acc, h1, h2, h3⟩ => by
      rw [← hHc] at h1 h2
      obtain ⟨v', k1, k2⟩ := resV_sound hEc hC.tb hT h1
      obtain ⟨Em, Mm, k3⟩ := matR_sound hEc hUc C.tb fn.resultTypes.toList k2
      rw [← Mm.h] at h2
      exact ⟨v', k1, Em, v', _, v, acc, rfl, Mm.rel, Mm.w, k3, h2, h3⟩
    cases e with
    | ext id => exact hq.elim
    | nrm => exact ⟨hdf, fin hq⟩
    | ret => exact ⟨hdf, fin hq⟩
  · refine ⟨⟨E, hE, rfl, ?_, fun n hn => absurd hn (hU n), fun s v hv => ?_⟩, ?_, rfl⟩
    · rw [hH]; rfl
    · simp only [startOf, find_number, Nat.zero_le, if_true, Nat.sub_zero] at hv
      obtain ⟨v', h1, h2⟩ := vrels_get hav s v hv
      have : (av.toArray ++ Array.replicate (fn.ntmps - av.toArray.size) undef).getD s undef = v' := by
        rw [Array.getD_eq_getD_getElem?]
        have hl : s < av.toArray.size := by
          rcases Nat.lt_or_ge s av.length with h3 | h3
          · simpa using h3
          · rw [List.getElem?_eq_none h3] at h1; cases h1
        rw [Array.getElem?_append_left hl]
        simp [h1]
      rw [this]
      exact h2
    · simp only [Array.size_append, Array.size_replicate, List.size_toArray]; omega

def ifB (b : Bool) (p : Prop) : Prop := match b with | true => p | false => False

theorem ifB_iff {b : Bool} {p : Prop} : ifB b p ↔ b = true ∧ p := by cases b <;> simp [ifB]

mutual
/-- a value says no less than another -/
def leV : V → V → Prop
  | .any, .any => True
  | .int k n, .int k' n' => ifB (decide (k = k')) (n = n')
  | .bool b, .bool b' => b = b'
  | .bool b, .kb b' => b = b'
  | .kb b, .bool b' => b = b'
  | .kb b, .kb b' => b = b'
  | .str s, .str s' => s = s'
  | .nilptr, .nilptr => True
  | .nilfn, .nilfn => True
  | .nilmap, .nilmap => True
  | .nilsl, .nilsl => True
  | .esl, .esl => True
  | .nilsl, .fsl _ xs => xs = []
  | .esl, .fsl _ xs => xs = []
  | .fsl t xs, .fsl t' xs' => RowD.mk t xs = RowD.mk t' xs'
  | .osl h ver, .osl h' ver' => h = h' ∧ ver = ver'
  | .agg cs, .agg cs' => leVs cs cs'
  | .tup cs, .tup cs' => leVs cs cs'
  | _, _ => False
def leVs : List V → List V → Prop
  | [], [] => True
  | x :: xs, y :: ys => leV x y ∧ leVs xs ys
  | _, _ => False
end

mutual
theorem leV_sound {E : Env} {m : Nat} : ∀ (x y : V) (u : Value), leV x y → vrel E (x.shift m) u → vrel E (y.shift m) u
  | x, .any, u, h, hv => by simp [V.shift, vrel]
  | x, .int k n, u, h, hv => by
    cases x <;> simp only [leV] at h
    obtain ⟨h1, rfl⟩ := ifB_iff.1 h
    obtain rfl := of_decide_eq_true h1
    exact hv
  | x, .bool b, u, h, hv => by cases x <;> simp only [leV] at h <;> subst h <;> simpa [V.shift, vrel] using hv
  | x, .kb b, u, h, hv => by cases x <;> simp only [leV] at h <;> subst h <;> simpa [V.shift, vrel] using hv
  | x, .str b, u, h, hv => by cases x <;> simp only [leV] at h <;> subst h <;> exact hv
  | x, .nilptr, u, h, hv => by cases x <;> simp only [leV] at h; exact hv
  | x, .nilfn, u, h, hv => by cases x <;> simp only [leV] at h; exact hv
  | x, .nilmap, u, h, hv => by cases x <;> simp only [leV] at h; exact hv
  | x, .nilsl, u, h, hv => by cases x <;> simp only [leV] at h; exact hv
  | x, .esl, u, h, hv => by cases x <;> simp only [leV] at h; exact hv
  | x, .fsl t xs, u, h, hv => by
    cases x <;> simp only [leV] at h
    · subst h; simp only [V.shift, vrel] at hv ⊢; subst hv; exact .nil
    · subst h; simp only [V.shift, vrel] at hv ⊢; obtain ⟨a, rfl⟩ := hv; exact .nil
    · cases h; exact hv
  | x, .osl t xs, u, h, hv => by
    cases x <;> simp only [leV] at h
    obtain ⟨rfl, rfl⟩ := h; exact hv
  | x, .agg cs, u, h, hv => by
    cases x <;> simp only [leV] at h
    simp only [V.shift, vrel] at hv ⊢
    obtain ⟨l, rfl, hl⟩ := hv
    exact ⟨l, rfl, leVs_sound _ _ _ h hl⟩
  | x, .tup cs, u, h, hv => by
    cases x <;> simp only [leV] at h
    simp only [V.shift, vrel] at hv ⊢
    obtain ⟨l, rfl, hl⟩ := hv
    exact ⟨l, rfl, leVs_sound _ _ _ h hl⟩
  | x, .ptr _ _, u, h, hv => by cases x <;> simp only [leV] at h
  | x, .fp _ _ _ _, u, h, hv => by cases x <;> simp only [leV] at h
  | x, .rp _ _ _ _, u, h, hv => by cases x <;> simp only [leV] at h
  | x, .fn _ _, u, h, hv => by cases x <;> simp only [leV] at h
  | x, .hint _ _, u, h, hv => by cases x <;> simp only [leV] at h
theorem leVs_sound {E : Env} {m : Nat} : ∀ (xs ys : List V) (us : List Value), leVs xs ys → vrels E (shifts m xs) us → vrels E (shifts m ys) us
  | [], [], us, _, hv => hv
  | [], _ :: _, _, h, _ => by simp [leVs] at h
  | _ :: _, [], _, h, _ => by simp [leVs] at h
  | x :: xs, y :: ys, us, h, hv => by
    cases us with
    | nil => simp [shifts, vrels] at hv
    | cons u us =>
      simp only [leVs] at h
      simp only [shifts, vrels] at hv ⊢
      exact ⟨leV_sound _ _ _ h.1 hv.1, leVs_sound _ _ _ h.2 hv.2⟩
end

mutual
theorem leV_noF : ∀ (x y : V), leV x y → y.noF = true → x.noF = true
  | x, .any, h, _ => by cases x <;> simp only [leV] at h; rfl
  | x, .int k n, h, _ => by cases x <;> simp only [leV] at h; rfl
  | x, .bool b, h, _ => by cases x <;> simp only [leV] at h <;> rfl
  | x, .kb b, h, _ => by cases x <;> simp only [leV] at h <;> rfl
  | x, .str b, h, _ => by cases x <;> simp only [leV] at h; rfl
  | x, .nilptr, h, _ => by cases x <;> simp only [leV] at h; rfl
  | x, .nilfn, h, _ => by cases x <;> simp only [leV] at h; rfl
  | x, .nilmap, h, _ => by cases x <;> simp only [leV] at h; rfl
  | x, .nilsl, h, _ => by cases x <;> simp only [leV] at h; rfl
  | x, .esl, h, _ => by cases x <;> simp only [leV] at h; rfl
  | x, .fsl t xs, h, hf => by simp [V.noF] at hf
  | x, .osl t xs, h, _ => by cases x <;> simp only [leV] at h; rfl
  | x, .agg cs, h, hf => by
    cases x <;> simp only [leV] at h
    simp only [V.noF] at hf ⊢
    exact leVs_noF _ _ h hf
  | x, .tup cs, h, hf => by
    cases x <;> simp only [leV] at h
    simp only [V.noF] at hf ⊢
    exact leVs_noF _ _ h hf
  | x, .ptr _ _, h, _ => by cases x <;> simp only [leV] at h
  | x, .fp _ _ _ _, h, _ => by cases x <;> simp only [leV] at h
  | x, .rp _ _ _ _, h, _ => by cases x <;> simp only [leV] at h
  | x, .fn _ _, h, _ => by cases x <;> simp only [leV] at h
  | x, .hint _ _, h, _ => by cases x <;> simp only [leV] at h
theorem leVs_noF : ∀ (xs ys : List V), leVs xs ys → noFs ys = true → noFs xs = true
  | [], [], _, _ => rfl
  | [], _ :: _, h, _ => by simp [leVs] at h
  | _ :: _, [], h, _ => by simp [leVs] at h
  | x :: xs, y :: ys, h, hf => by
    simp only [leVs] at h
    simp only [noFs, Bool.and_eq_true] at hf ⊢
    exact ⟨leV_noF _ _ h.1 hf.1, leVs_noF _ _ h.2 hf.2⟩
end

/-- THE CONTRACT OF A FUNCTION THAT ONLY READS -/
theorem pure_ok {C : Cfg} (hC : CfgOK P C) (hP : P.follows .mixedOrders = true) {f : FuncId} {fn : Func} (hf : P.funcs[f]? = some fn) (hbody : fn.body.isSome = true) (hname : (fn.name == "runtime.NumGoroutine") = false) (hN : C.N = fn.ntmps)
    {ps : Ty} {spec : Den ps → PRes} {Λ : Den ps → Nat → Option LoopSum}
    (hΛ : ∀ x : Den ps, wfD ps x → (∀ p ∈ (spec x).needs, p) → ∀ c, fn.body = some c → ∀ b ∈ loopsOf c, ∀ L, Λ x (rid b) = some L → LoopOK P C.N b L) (hlen : ∀ x : Den ps, (argsV ps x).length ≤ fn.ntmps)
    (h : ∀ x : Den ps, wfD ps x → (∀ p ∈ (spec x).needs, p) → (evFn C (Λ x) fn (argsV ps x)).sat fun v rows => leV v (spec x).v ∧ rows = (spec x).rows) : CtrOK P C.K f (pureCtr C.K ps spec) := by
  refine ⟨⟨fn, hf, hbody, hname⟩, fun B E hE args av hav m hm ps' v dh hct hps => ?_⟩
  unfold pureCtr at hct
  simp only at hct
  split at hct
  case h_2 => cases hct
  rename_i x hx
  cases hle : Nat.ble (spec x).rows.length C.K with
  | false => rw [hle] at hct; cases hct
  | true =>
    rw [hle] at hct
    simp only [cond_true, Option.some.injEq, Prod.mk.injEq] at hct
    obtain ⟨rfl, rfl, rfl⟩ := hct
    obtain ⟨hSE, XS⟩ := sealE_sound hE (hss args)
    let E0 : Env := ⟨fun _ => False, fun _ => none, (sealE E (hss args)).S, E.w, fun _ => none⟩
    have hE0 : HRel ⟨E.w, fun _ => False, (sealE E (hss args)).S⟩ E0 := by
      refine ⟨fun h b hx => ?_, fun b hb => hSE.stab b hb, fun h k b hx => ?_, fun h h' k k' b hx => ?_, fun h k hx => ?_, Keeps.refl _ _, fun h k b hx => ?_, fun _ h => h, fun _ h => .inl h⟩ <;> cases hx
    obtain ⟨hav0, cs, hrd⟩ := packArgs_sound hSE (Ec := E0) rfl rfl (vrels_ext XS _ _ hav) hx
    have hwf : wfD ps x := ⟨_, _, _, hrd⟩
    have hl0 : av.length ≤ fn.ntmps := by rw [← vrels_len hav0]; exact hlen x
    refine Calls.mono (evFn_sound hC hP hf hN (hΛ x hwf hps) (h x hwf hps) hE0 rfl (fun _ h => h) hav0 hl0) fun e w' hr => ?_
    obtain ⟨Ec, v', v0, v, acc, rfl, hEc, rfl, hv, hcan, hq1, hq2⟩ := hr
    have hcs := canV_sound hEc m v0 [] v acc v' hcan hv
    have hacc := hcs.acc ⟨by simp, fun h r hr => by simp at hr⟩
    have hlenK : acc.length ≤ C.K := by
      have := Nat.le_of_ble_eq_true hle
      rw [← hq2] at this
      simpa using this
    cases hfl : (spec x).flat with
    | true =>
      simp only [PRes.flat, Bool.and_eq_true, List.all_eq_true] at hfl
      obtain ⟨E', G, hren, _⟩ := adopt hE hm (S1 := (sealE E (hss args)).S) (fun b hb => .inl hb) hEc hacc hlenK (.inr fun q hq => hfl.2 _ (by rw [← hq2]; exact List.mem_map_of_mem hq))
      refine ⟨E', v', rfl, ?_, ?_⟩
      · simp only [cond_true, List.append_nil]
        rw [← hq2]; exact G
      · exact leV_sound _ _ _ hq1 (hcs.rel E' G.w (.inr (leV_noF _ _ hq1 hfl.1)) hren)
    | false =>
      have hm' : ∀ n, m ≤ n → n < m + C.K → ¬ (sealE E (hss args)).U n := hm
      obtain ⟨E', G, hren, hs⟩ := adopt hSE hm' (S1 := (sealE E (hss args)).S) (fun b hb => hb) hEc hacc hlenK (.inl fun b hb => hb)
      refine ⟨E', v', rfl, ⟨G.rel, XS.trans G.ext, G.w, ?_, G.u⟩, ?_⟩
      · rw [G.h, hq2]
        simp only [cond_false]
        rw [hset_append]
        congr 1
        funext h
        exact (find_seals E.H (hss args) h).symm
      · exact leV_sound _ _ _ hq1 (hcs.rel E' G.w (.inl (hs fun b hb => hb)) hren)

end Go.Mir
