/- The mirror, part 5: loads, stores and new blocks of the machine, in terms of the mirror. -/
import Derived.Test.YtogdeefpidccmaaMirD
namespace Go.Mir
open Go.RowKit

def KN : Nat := 1

def hset (H : Heap) (dh : List (Nat × Blk)) : Heap := fun h => match find dh h with | some b => some b | none => H h

theorem hset_nil (H : Heap) : hset H [] = H := rfl
theorem hset_one (H : Heap) (h : Nat) (b : Blk) : hset H [(h, b)] = upd H h (some b) := by
  funext k
  by_cases e : k = h
  · subst e
    have : Nat.beq k k = true := Nat.beq_refl k
    simp [hset, upd, find]
  · have : Nat.beq h k = false := by
      cases hb : Nat.beq h k with
      | false => rfl
      | true => exact absurd (Nat.eq_of_beq_eq_true hb).symm e
    simp [hset, upd, find, e, this]

structure Good (B : Base) (E : Env) (m : Nat) (dh : List (Nat × Blk)) (w' : World) (E' : Env) : Prop where
  rel : HRel B E'
  ext : Ext E E'
  w : E'.w = w'
  h : E'.H = hset E.H dh
  u : ∀ n, E'.U n → E.U n ∨ (m ≤ n ∧ n < m + KN)

theorem Ext.refl (E : Env) : Ext E E := ⟨fun _ h => h, fun _ h => h, fun _ _ => rfl, fun _ cs _ hx => ⟨⟨cs, hx⟩, rfl⟩, fun _ _ rw _ xs _ _ hx => ⟨rw, xs, hx, rfl, rfl, fun _ c T fr _ hw => ⟨c, T, fr, hw, rfl⟩⟩⟩

theorem good_same {B : Base} {E : Env} (hE : HRel B E) (m : Nat) : Good B E m [] E.w E := ⟨hE, Ext.refl E, rfl, (hset_nil _).symm, fun _ h => .inl h⟩

theorem Ext.trans {E E' E'' : Env} (h : Ext E E') (k : Ext E' E'') : Ext E E'' := by
  refine ⟨fun n a => k.u _ (h.u _ a), fun b a => k.s _ (h.s _ a), fun b a => (k.keepS b (h.s _ a)).trans (h.keepS b a), fun hh cs' hu hx => ?_, fun hh ver rw' t' xs' hu hv hx => ?_⟩
  · obtain ⟨⟨cs1, h1⟩, e1⟩ := k.hc hh cs' (h.u _ hu) hx
    obtain ⟨h2, e2⟩ := h.hc hh cs1 hu h1
    exact ⟨h2, e1.trans e2⟩
  · obtain ⟨rw1, xs1, h1, l1, e1, s1⟩ := k.hr hh ver rw' t' xs' (h.u _ hu) (h.u _ hv) hx
    obtain ⟨rw2, xs2, h2, l2, e2, s2⟩ := h.hr hh ver rw1 t' xs1 hu hv h1
    refine ⟨rw2, xs2, h2, l2.trans l1, e1.trans e2, fun b c T fr hb hw => ?_⟩
    obtain ⟨c1, T1, fr1, hw1, hs1⟩ := s2 b c T fr hb hw
    obtain ⟨c2, T2, fr2, hw2, hs2⟩ := s1 b c1 T1 fr1 (e2.trans hb) hw1
    exact ⟨c2, T2, fr2, hw2, hs2.trans hs1⟩

/-! ## types, run -/

section
variable {P : Program} {t : TypeId} {td : TD}

theorem TDok.sizeOf (h : TDok P t td) (w : World) : (sizeOf t).run P w = .ok td.size w := by
  obtain ⟨i, z, h1, h2, _⟩ := h.info
  simp [Go.sizeOf, typeInfo, h1, h2]
theorem TDok.bytes (h : TDok P t td) (w : World) : (typeInfo t).run P w = .ok ((P.info? t).getD default) w ∧ ((P.info? t).getD default).bytes = td.bytes := by
  obtain ⟨i, z, h1, h2, h3, _⟩ := h.info
  simp [typeInfo, h1, h3]
theorem TDok.zeroValue (h : TDok P t td) (w : World) : ∃ z, (zeroValue t).run P w = .ok z w ∧ zeqs td.zero z.cells.toList = true := by
  obtain ⟨i, z, h1, h2, h3, h4, h5⟩ := h.info
  exact ⟨z, by simp [Go.zeroValue, typeInfo, h1, h4], h5⟩
theorem TDok.isAgg (h : TDok P t td) (w : World) : (isAgg t).run P w = .ok td.kind.agg w := by
  have hk := h.kind
  cases hx : td.kind <;> rw [hx] at hk <;> simp only [kindOK] at hk
  case struct fs =>
    obtain ⟨fields, hk, _⟩ := hk
    simp [Go.isAgg, run_underlying hk, TK.agg]
  all_goals simp [Go.isAgg, run_underlying hk, TK.agg]
end

theorem addr_add (b o n : Nat) : (⟨b, o, none⟩ : Addr).add n = ⟨b, o + n, none⟩ := by unfold Addr.add; split <;> simp_all

theorem cell_of {w : World} {b : Nat} {c : Array Value} {T : TypeId} {fr : Nat × Nat} (h : w.heap[b]? = some (.cells c T fr)) (k : Nat) : w.cell? ⟨b, k, none⟩ = c.toList[k]? := by
  simp [World.cell?, h]

theorem frozen_of {w : World} {b : Nat} {c : Array Value} {T : TypeId} {fr : Nat × Nat} (h : w.heap[b]? = some (.cells c T fr)) (hn : nofrz fr c.size) {k : Nat} (hk : k < c.size) : w.frozen? ⟨b, k, none⟩ = false := by
  have := hn k hk
  simp only [World.frozen?, h]
  obtain ⟨lo, hi⟩ := fr
  simp only [Bool.and_eq_false_iff, decide_eq_false_iff_not] at this ⊢
  by_cases h1 : lo ≤ k
  · exact .inr fun h2 => this ⟨h1, h2⟩
  · exact .inl h1

/-- a load inside a segment of a block -/
theorem ld_sound {P : Program} {E : Env} {t : TypeId} {td : TD} (ht : TDok P t td) {b p n : Nat} {c : Array Value} {T : TypeId} {fr : Nat × Nat} (hb : E.w.heap[b]? = some (.cells c T fr)) (hp : p + n ≤ c.size)
    {cs : List V} (hcs : vrels E cs (seg c p n)) {off : Nat} {ps : List Prop} {v : V} {dh : List (Nat × Blk)} (h : ld td cs off = .val ps v dh) :
    dh = [] ∧ ∃ v', (loadVar t ⟨b, p + off, none⟩).run P E.w = .ok v' E.w ∧ vrel E v v' := by
  have hlen : cs.length = n := by
    have := vrels_len hcs
    simp only [seg, List.length_take, List.length_drop, Array.length_toList] at this
    omega
  unfold ld at h
  split at h
  · rename_i hagg
    split at h
    · rename_i hsz
      cases h
      refine ⟨rfl, .agg ((c.toList.drop (p + off)).take td.size).toArray, ?_, ?_⟩
      · have hl : ((c.toList.drop (p + off)).take td.size).length = td.size := by simp only [List.length_take, List.length_drop, Array.length_toList]; omega
        have hcells := run_loadCells_list (P := P) E.w ⟨b, p + off, none⟩ ((c.toList.drop (p + off)).take td.size) (fun j u hj => by
          have hjl : j < td.size := by
            rcases Nat.lt_or_ge j td.size with h' | h'
            · exact h'
            · rw [List.getElem?_eq_none (by omega)] at hj; cases hj
          rw [addr_add, cell_of hb]
          rw [List.getElem?_take_of_lt hjl, List.getElem?_drop] at hj
          exact hj)
        rw [hl] at hcells
        simp only [loadVar, Sem.run_bind, ht.isAgg, hagg, Result.andThen_ok, if_true, ht.sizeOf, hcells, Sem.run_pure]
      · simp only [vrel]
        refine ⟨_, rfl, ?_⟩
        have := vrels_take (vrels_drop hcs off) td.size
        have e : ((seg c p n).drop off).take td.size = (c.toList.drop (p + off)).take td.size := by
          simp only [seg, List.drop_take, List.drop_drop, List.take_take]
          congr 1
          omega
        rw [e] at this
        simpa using this
    · cases h
  · rename_i hagg
    split at h
    · rename_i u hu
      cases h
      obtain ⟨v', h1, h2⟩ := vrels_get hcs off v hu
      refine ⟨rfl, v', ?_, h2⟩
      have hoff : off < n := by
        rcases Nat.lt_or_ge off cs.length with h' | h'
        · omega
        · rw [List.getElem?_eq_none h'] at hu; cases hu
      have : E.w.cell? ⟨b, p + off, none⟩ = some v' := by
        rw [cell_of hb, ← List.getElem?_drop, ← h1]
        simp only [seg]
        rw [List.getElem?_take_of_lt hoff]
      have hagg' : td.kind.agg = false := by simpa using hagg
      simp only [loadVar, Sem.run_bind, ht.isAgg, hagg', Result.andThen_ok, Bool.false_eq_true, if_false, run_load, this]
    · cases h

/-! ## stores -/

theorem setCells_heap (b : Nat) {T : TypeId} {fr : Nat × Nat} : ∀ (vs : List Value) (o : Nat) (w : World) (c : Array Value), w.heap[b]? = some (.cells c T fr) → o + vs.length ≤ c.size →
    ∃ c', (w.setCells b o vs).heap[b]? = some (.cells c' T fr) ∧ c'.toList = c.toList.take o ++ vs ++ c.toList.drop (o + vs.length)
  | [], o, w, c, h, _ => ⟨c, h, by simp⟩
  | v :: r, o, w, c, h, hl => by
    have hl' : o + r.length + 1 ≤ c.size := by simpa [Nat.add_assoc] using hl
    have h1 : (w.setCell ⟨b, o, none⟩ v).heap[b]? = some (.cells (c.setIfInBounds o v) T fr) := by
      simp [World.setCell, Array.getElem?_modify, h]
    obtain ⟨c', h2, h3⟩ := setCells_heap b r (o + 1) _ _ h1 (by simp; omega)
    refine ⟨c', h2, ?_⟩
    rw [h3]
    have ho : o < c.toList.length := by simp; omega
    simp only [Array.toList_setIfInBounds]
    rw [List.take_set, List.take_succ_eq_append_getElem ho, List.drop_set_of_lt (by omega)]
    rw [List.set_append_right _ _ (by simp; omega)]
    simp [Nat.min_eq_left (Nat.le_of_lt (by simpa using ho)), Nat.add_assoc, Nat.add_comm 1]

theorem setCells_keeps (b : Nat) (F : Nat → Prop) (hF : F b) : ∀ (vs : List Value) (o : Nat) (w : World), Keeps w F (w.setCells b o vs)
  | [], _, w => Keeps.refl _ _
  | v :: r, o, w => by
    refine Keeps.trans (G := F) ?_ (setCells_keeps b F hF r (o + 1) (w.setCell ⟨b, o, none⟩ v)) (fun _ h => .inl h)
    exact ⟨rfl, rfl, rfl, by simp, fun k hk hf => Below.heap_setCell _ _ _ _ (fun e => hf (by rw [e]; exact hF))⟩

theorem one_oneCell {E : Env} {x : V} {v : Value} (h1 : x.one = true) (h : vrel E x v) : v.oneCell' = true := by
  cases x <;> simp only [V.one, Bool.false_eq_true] at h1 <;> simp only [vrel] at h
  case int => rw [h.1]; rfl
  case bool => rw [h]; rfl
  case kb => rw [h]; rfl
  case str => rw [h.1]; rfl
  case nilptr => rw [h]; rfl
  case ptr hh off => obtain ⟨_, ⟨a, h⟩, _⟩ := h; rw [h]; rfl
  case fp => obtain ⟨b, o, c, T, fr, _, _, _, _, _, _, h⟩ := h; rw [h]; rfl
  case rp => obtain ⟨_, _, ⟨a, h⟩, _⟩ := h; rw [h]; rfl
  case nilsl => rw [h]; rfl
  case esl => obtain ⟨a, h⟩ := h; rw [h]; rfl
  case osl => obtain ⟨_, _, ⟨a, l, c, h⟩, _⟩ := h; rw [h]; rfl
  case fsl =>
    generalize hl : [v] = l at h
    cases h with
    | nil => cases hl; rfl
    | slice => cases hl; rfl
  case nilfn => rw [h]; rfl
  case nilmap => rw [h]; rfl
  case fn => obtain ⟨l, h, _⟩ := h; rw [h]; rfl

end Go.Mir
