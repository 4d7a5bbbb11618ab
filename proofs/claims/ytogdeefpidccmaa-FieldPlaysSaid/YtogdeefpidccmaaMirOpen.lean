/- The mirror, part 28: what a call is handed, read; and the law's contract. -/
import Derived.Test.YtogdeefpidccmaaMirLoop
import Derived.Test.YtogdeefpidccmaaTab
import Derived.Test.YtogdeefpidccmaaRows
import Derived.ProofKit
import Derived.OpenShut
namespace Go.Mir
open Go.RowKit Go.ChangeShapes Go.WideShapes

/-- does a type of the program have the shape of a type of the mirror -/
def shpFs (sh : TypeId → Ty → Bool) (P : Program) : List Field → Nat → Ty → Bool
  | [], _, .unit => true
  | fd :: r, o, .prod a b => Nat.beq fd.offset o && (Nat.beq (P.cellsOf fd.type) (sz a) && (sh fd.type a && shpFs sh P r (o + sz a) b))
  | _, _, _ => false
def shpArr (sh : TypeId → Ty → Bool) (P : Program) (e : TypeId) : Nat → Ty → Bool
  | 0, .unit => true
  | n + 1, .prod a b => Nat.beq (P.cellsOf e) (sz a) && (sh e a && shpArr sh P e n b)
  | _, _ => false
def shp (P : Program) : Nat → TypeId → Ty → Bool
  | 0, _, _ => false
  | f + 1, T, t => match P.underlying T, t with
    | some (.int k), .int k' => decide (k = k')
    | some .bool, .bool => true
    | some .string, .str => true
    | some (.slice e), .slice t => shp P f e t && (Nat.beq (P.cellsOf e) (sz t) && (Nat.blt 0 (sz t) && Nat.blt 0 (P.bytesOf e)))
    | some (.struct fs), .nm n => shpFs (shp P f) P fs.toList 0 n.flds && Nat.beq (P.cellsOf T) n.size
    | some (.struct fs), .prod a b => shpFs (shp P f) P fs.toList 0 (.prod a b) && Nat.beq (P.cellsOf T) (sz (.prod a b))
    | some (.array n e), .prod a b => shpArr (shp P f) P e n (.prod a b) && Nat.beq (P.cellsOf T) (sz (.prod a b))
    | _, _ => false

/-- how much a datum holds -/
def bulkD : Nat → (t : Ty) → Den t → Nat
  | 0, _, _ => 0
  | _ + 1, .int _, _ => 1
  | _ + 1, .bool, _ => 1
  | _ + 1, .str, s => s.size + 1
  | _ + 1, .unit, _ => 0
  | f + 1, .prod a b, x => bulkD f a x.1 + bulkD f b x.2
  | f + 1, .slice t, xs => (xs.map (bulkD f t)).sum + 1
  | f + 1, .nm n, x => bulkD f n.flds (n.to x)

open Go.Proofs.Ytogdeefpidccmaa.Rows (uptoBulk uptoBulkAll)

section
variable {H : Type} {enc : TypeId × Value → H} {P : Program} {w : World}

def blocks (w : World) : Nat → Prop := fun b => b < w.heap.size

/-- what is asked of a reading: its weights are small -/
def light (P : Program) (T : TypeId) (d : DataW H) : Prop := ∀ n ∈ d.weights P T, n ≤ lenB

/-- what comes of a reading -/
def Opens (w : World) (t : Ty) (cs : List Value) (d : DataW H) : Prop := ∃ x : Den t, Rd (blocks w) w t x cs ∧ ∀ g, bulkD g t x ≤ uptoBulk d

def OpenAt (enc : TypeId × Value → H) (P : Program) (w : World) (f : Nat) : Prop := ∀ (T : TypeId) (t : Ty) (fuel : Nat) (cs : List Value) (z : DataW H × List MemPlace), shp P f T t = true → DataW.trod enc P w 0 (fun _ => true) true fuel T cs = some z → light P T z.1 → Opens w t cs z.1

theorem take_add_drop (cs : List Value) (o a b : Nat) : (cs.drop o).take (a + b) = (cs.drop o).take a ++ (cs.drop (o + a)).take b := by
  rw [List.take_add, List.drop_drop]

theorem bulkAll_append (l r : List (DataW H)) : uptoBulkAll (l ++ r) = uptoBulkAll l + uptoBulkAll r := by
  induction l with
  | nil => simp [uptoBulkAll]
  | cons x l ih => simp only [List.cons_append, uptoBulkAll, ih]; omega

theorem open_fs {f n : Nat} (ih : OpenAt enc P w f) {cs : List Value} : ∀ (l : List Field) (ys : List (DataW H × List MemPlace)) (o : Nat) (t : Ty), shpFs (shp P f) P l o t = true → ys.length = l.length →
    (∀ (i : Nat) (fd : Field), l[i]? = some fd → DataW.trod enc P w 0 (fun _ => true) true n fd.type ((cs.drop fd.offset).take (P.cellsOf fd.type)) = ys[i]?) →
    (∀ m ∈ DataW.weightsEach P (l.map (·.type)) (ys.map (·.1)), m ≤ lenB) → ∃ x : Den t, Rd (blocks w) w t x ((cs.drop o).take (sz t)) ∧ ∀ g, bulkD g t x ≤ uptoBulkAll (ys.map (·.1))
  | [], ys, o, t, hs, hl, _, _ => by
    cases t <;> simp only [shpFs, Bool.false_eq_true] at hs
    refine ⟨(), by simpa [sz] using Rd.unit, fun g => ?_⟩
    cases g <;> simp [bulkD]
  | fd :: l, ys, o, t, hs, hl, hy, hw => by
    cases t <;> simp only [shpFs, Bool.false_eq_true] at hs
    rename_i a b
    simp only [Bool.and_eq_true, Nat.beq_eq] at hs
    obtain ⟨rfl, h2, h3, h4⟩ := hs
    cases ys with
    | nil => simp at hl
    | cons y ys =>
      have h0 := hy 0 fd rfl
      simp only [List.getElem?_cons_zero] at h0
      simp only [List.map_cons, DataW.weightsEach, List.mem_append] at hw
      obtain ⟨x, hx, bx⟩ := ih fd.type a _ _ y h3 h0 (fun m hm => hw m (.inl hm))
      obtain ⟨z, hz, bz⟩ := open_fs ih l ys (fd.offset + sz a) b h4 (by simpa using hl) (fun i f' hf => by simpa using hy (i + 1) f' (by simpa using hf)) (fun m hm => hw m (.inr hm))
      refine ⟨(x, z), ?_, fun g => ?_⟩
      · show Rd _ _ (.prod a b) (x, z) ((cs.drop fd.offset).take (sz a + sz b))
        rw [take_add_drop]
        rw [h2] at hx
        exact .prod hx hz
      · cases g with
        | zero => simp [bulkD]
        | succ g => simp only [bulkD, List.map_cons, uptoBulkAll]; have := bx g; have := bz g; omega

theorem open_arr {f n : Nat} (ih : OpenAt enc P w f) {cs : List Value} {e : TypeId} : ∀ (k j : Nat) (ys : List (DataW H × List MemPlace)) (t : Ty), shpArr (shp P f) P e k t = true → ys.length = k →
    (∀ i : Nat, i < k → DataW.trod enc P w 0 (fun _ => true) true n e ((cs.drop ((j + i) * P.cellsOf e)).take (P.cellsOf e)) = ys[i]?) →
    (∀ m ∈ DataW.weightsAll P e (ys.map (·.1)), m ≤ lenB) → ∃ x : Den t, Rd (blocks w) w t x ((cs.drop (j * P.cellsOf e)).take (sz t)) ∧ ∀ g, bulkD g t x ≤ uptoBulkAll (ys.map (·.1))
  | 0, j, ys, t, hs, hl, _, _ => by
    cases t <;> simp only [shpArr, Bool.false_eq_true] at hs
    refine ⟨(), by simpa [sz] using Rd.unit, fun g => ?_⟩
    cases g <;> simp [bulkD]
  | k + 1, j, ys, t, hs, hl, hy, hw => by
    cases t <;> simp only [shpArr, Bool.false_eq_true] at hs
    rename_i a b
    simp only [Bool.and_eq_true, Nat.beq_eq] at hs
    obtain ⟨h2, h3, h4⟩ := hs
    cases ys with
    | nil => simp at hl
    | cons y ys =>
      have h0 := hy 0 (by omega)
      simp only [List.getElem?_cons_zero, Nat.add_zero] at h0
      simp only [List.map_cons, DataW.weightsAll, List.mem_append] at hw
      obtain ⟨x, hx, bx⟩ := ih e a _ _ y h3 h0 (fun m hm => hw m (.inl hm))
      obtain ⟨z, hz, bz⟩ := open_arr ih k (j + 1) ys b h4 (by simpa using hl) (fun i hi => by
        have := hy (i + 1) (by omega)
        simpa [Nat.add_assoc, Nat.add_comm 1 i] using this) (fun m hm => hw m (.inr hm))
      refine ⟨(x, z), ?_, fun g => ?_⟩
      · show Rd _ _ (.prod a b) (x, z) ((cs.drop (j * P.cellsOf e)).take (sz a + sz b))
        rw [take_add_drop]
        rw [h2] at hx hz ⊢
        rw [Nat.add_mul, Nat.one_mul] at hz
        exact .prod hx hz
      · cases g with
        | zero => simp [bulkD]
        | succ g => simp only [bulkD, List.map_cons, uptoBulkAll]; have := bx g; have := bz g; omega

theorem mapM_cells {α : Type} (f : Nat → Option α) : ∀ (l : List Nat) (r : List α), l.mapM f = some r → r.length = l.length ∧ ∀ (i j : Nat), l[i]? = some j → r[i]? = f j
  | [], r, h => by simp at h; subst h; simp
  | x :: l, r, h => by
    rw [List.mapM_cons] at h
    cases hx : f x with
    | none => rw [hx] at h; cases h
    | some v =>
      rw [hx] at h
      cases hl : l.mapM f with
      | none => simp [hl] at h
      | some r' =>
        simp [hl] at h
        subst h
        obtain ⟨h1, h2⟩ := mapM_cells f l r' hl
        refine ⟨by simp [h1], fun i j hi => ?_⟩
        cases i with
        | zero => simp at hi; subst hi; simp [hx]
        | succ i => simpa using h2 i j (by simpa using hi)

/-- cells of a row, read -/
theorem cells_seg {a : Addr} {n : Nat} {r : List Value} (h : w.cells? 0 a n = some r) (hn : 0 < n) : a.spot = none ∧ ∃ c T fr, w.heap[a.block]? = some (.cells c T fr) ∧ a.off + n ≤ c.size ∧ r = seg c a.off n := by
  unfold World.cells? at h
  rw [if_pos (Nat.zero_le _)] at h
  obtain ⟨h1, h2⟩ := mapM_cells _ _ _ h
  simp only [List.length_range] at h1
  have h0 := h2 0 0 (by simp [hn])
  have hr0 : r[0]? = some (r[0]'(by omega)) := List.getElem?_eq_getElem _
  rw [hr0] at h0
  simp only [Addr.add, if_true] at h0
  unfold World.cell? at h0
  split at h0
  case h_2 => cases h0
  rename_i c T fr hb
  split at h0
  case isTrue => cases h0
  rename_i hsp
  have hsp : a.spot = none := by simpa using hsp
  have get : ∀ i, i < n → ∃ v, r[i]? = some v ∧ c.toList[a.off + i]? = some v := fun i hi => by
    have h3 := h2 i i (by simp [hi])
    have hri : r[i]? = some (r[i]'(by omega)) := List.getElem?_eq_getElem _
    have e : a.add i = ⟨a.block, a.off + i, none⟩ := by
      unfold Addr.add
      split
      · rename_i e; subst e; cases a; simp_all
      · rfl
    rw [e, hri] at h3
    unfold World.cell? at h3
    simp only [hb, Option.isSome_none, Bool.false_eq_true, if_false] at h3
    exact ⟨_, hri, by rw [Array.getElem?_toList]; exact h3.symm⟩
  have hsz : a.off + n ≤ c.size := by
    obtain ⟨v, _, hv⟩ := get (n - 1) (by omega)
    have : a.off + (n - 1) < c.toList.length := by
      rcases Nat.lt_or_ge (a.off + (n - 1)) c.toList.length with h4 | h4
      · exact h4
      · rw [List.getElem?_eq_none h4] at hv; cases hv
    simp at this; omega
  refine ⟨hsp, c, T, fr, hb, hsz, ?_⟩
  apply List.ext_getElem?
  intro i
  by_cases hi : i < n
  · obtain ⟨v, h3, h4⟩ := get i hi
    rw [h3]
    simp only [seg, List.getElem?_take, if_pos hi, List.getElem?_drop, h4]
  · rw [List.getElem?_eq_none (by omega), List.getElem?_eq_none]
    simp [seg]; omega

theorem open_list {f n : Nat} (ih : OpenAt enc P w f) {e : TypeId} {t : Ty} (hs : shp P f e t = true) (hc : P.cellsOf e = sz t) (hpos : 0 < sz t) {a : Addr} : ∀ (k j : Nat) (ys : List (DataW H × List MemPlace)), ys.length = k →
    (∀ i, i < k → (w.cells? 0 (a.add ((j + i) * sz t)) (sz t)).bind (DataW.trod enc P w 0 (fun _ => true) true n e) = ys[i]?) →
    (∀ m ∈ DataW.weightsAll P e (ys.map (·.1)), m ≤ lenB) →
    ∃ xs : List (Den t), xs.length = k ∧ (∀ (i : Nat) (hi : i < xs.length), ∃ r, w.cells? 0 (a.add ((j + i) * sz t)) (sz t) = some r ∧ Rd (blocks w) w t xs[i] r) ∧ ∀ g, (xs.map (bulkD g t)).sum ≤ uptoBulkAll (ys.map (·.1))
  | 0, j, ys, hl, _, _ => ⟨[], rfl, fun i hi => by simp at hi, fun g => by simp⟩
  | k + 1, j, ys, hl, hy, hw => by
    cases ys with
    | nil => simp at hl
    | cons y ys =>
      have h0 := hy 0 (by omega)
      simp only [List.getElem?_cons_zero, Nat.add_zero] at h0
      simp only [List.map_cons, DataW.weightsAll, List.mem_append] at hw
      cases hr : w.cells? 0 (a.add (j * sz t)) (sz t) with
      | none => rw [hr] at h0; cases h0
      | some r =>
        rw [hr] at h0
        simp only [Option.bind_some] at h0
        obtain ⟨x, hx, bx⟩ := ih e t _ _ y hs h0 (fun m hm => hw m (.inl hm))
        obtain ⟨xs, h1, h2, h3⟩ := open_list ih hs hc hpos k (j + 1) ys (by simpa using hl) (fun i hi => by
          have := hy (i + 1) (by omega)
          simpa [Nat.add_assoc, Nat.add_comm 1 i] using this) (fun m hm => hw m (.inr hm))
        refine ⟨x :: xs, by simp [h1], fun i hi => ?_, fun g => ?_⟩
        · cases i with
          | zero => exact ⟨r, by simpa using hr, hx⟩
          | succ i =>
            obtain ⟨r', h4, h5⟩ := h2 i (by simpa using hi)
            exact ⟨r', by rw [← h4]; simp [Nat.add_assoc, Nat.add_comm 1 i], by simpa using h5⟩
        · simp only [List.map_cons, List.sum_cons, uptoBulkAll]; have := bx g; have := h3 g; omega

theorem weightsAll_append (e : TypeId) : ∀ (l r : List (DataW H)), DataW.weightsAll P e (l ++ r) = DataW.weightsAll P e l ++ DataW.weightsAll P e r
  | [], r => by simp [DataW.weightsAll]
  | x :: l, r => by simp [DataW.weightsAll, weightsAll_append e l r]

theorem open_at : ∀ f, OpenAt enc P w f
  | 0 => fun T t fuel cs z hs _ _ => by simp [shp] at hs
  | f + 1 => fun T t fuel cs z hs h hw => by
    have ih := open_at f
    unfold shp at hs
    split at hs
    · rename_i k k' hT
      obtain ⟨n, rfl, rfl, hwf⟩ := DataW.trod_int hT h
      have e : k = k' := by simpa using hs
      subst e
      refine ⟨n, .int ?_, fun g => ?_⟩
      · simpa [Lit.wf, ok] using hwf
      · cases g <;> simp [bulkD, uptoBulk]
    · rename_i hT
      obtain ⟨b, rfl, rfl⟩ := DataW.trod_bool hT h
      refine ⟨b, .bool, fun g => ?_⟩
      cases g <;> simp [bulkD, uptoBulk]
    · rename_i hT
      obtain ⟨s, rfl, rfl, hwf⟩ := DataW.trod_string hT h
      have hl : s.size ≤ lenB := hw _ (by show s.size ∈ [s.data.toList.length]; rw [Array.length_toList]; exact List.mem_singleton.2 rfl)
      refine ⟨s, .str hl, fun g => ?_⟩
      cases g with
      | zero => exact Nat.zero_le _
      | succ g =>
        show s.size + 1 ≤ s.data.toList.length + 1
        rw [Array.length_toList]
        exact Nat.le_refl _
    · rename_i e t' hT
      simp only [Bool.and_eq_true, Nat.beq_eq, Nat.blt_eq] at hs
      obtain ⟨h1, h2, h3, h4⟩ := hs
      rcases DataW.trod_slice hT h with ⟨rfl, rfl⟩ | ⟨a, len, cap, elems, rest, n, rfl, rfl, rfl, hb, hl, hm, hlen, hel, hsp, _⟩
      · refine ⟨[], .nil, fun g => ?_⟩
        cases g <;> simp [bulkD, uptoBulk]
      · simp only [light, DataW.weights, hT] at hw
        rw [h2] at hel
        obtain ⟨xs, k1, k2, k3⟩ := open_list ih h1 h2 h3 len 0 elems hlen (fun i hi => by simpa using hel i hi) (fun m hm => hw m (List.mem_cons_of_mem _ (List.mem_append_left _ hm)))
        have hlb : xs.length ≤ lenB := by
          have hw0 := hw _ List.mem_cons_self
          rw [List.length_map, List.length_map] at hw0
          have h5 : (elems.length + rest.length) * 1 ≤ (elems.length + rest.length) * P.bytesOf e := Nat.mul_le_mul_left _ h4
          omega
        refine ⟨xs, ?_, fun g => ?_⟩
        · cases hx : len with
          | zero =>
            have : xs = [] := List.eq_nil_of_length_eq_zero (by omega)
            subst this
            exact .nil
          | succ len' =>
            obtain ⟨r0, q1, q2⟩ := k2 0 (by omega)
            simp only [Nat.zero_add, Nat.zero_mul] at q1
            have ha0 : a.add 0 = a := rfl
            rw [ha0] at q1
            obtain ⟨hspot, c, T0, fr, hblk, hsz0, _⟩ := cells_seg q1 h3
            have hat : ∀ i, a.add (i * sz t') = ⟨a.block, a.off + i * sz t', none⟩ := fun i => by
              unfold Addr.add
              split
              · rename_i e0; cases a; simp_all
              · rfl
            have hread : ∀ (i : Nat) (hi : i < xs.length), a.off + i * sz t' + sz t' ≤ c.size ∧ Rd (blocks w) w t' xs[i] (seg c (a.off + i * sz t') (sz t')) := fun i hi => by
              obtain ⟨r, q3, q4⟩ := k2 i hi
              rw [Nat.zero_add, hat] at q3
              obtain ⟨_, c', T', fr', hblk', hsz', rfl⟩ := cells_seg q3 h3
              simp only at hblk' hsz' q4
              rw [hblk] at hblk'
              cases hblk'
              exact ⟨hsz', q4⟩
            have ea : a = ⟨a.block, a.off, none⟩ := by cases a; simp_all
            rw [ea, ← hx, ← k1]
            have hlast := (hread (xs.length - 1) (by omega)).1
            have hmul : (xs.length - 1) * sz t' + sz t' = xs.length * sz t' := by
              rw [← Nat.succ_mul]; congr 1; omega
            refine .slice ?_ hblk (by omega) (by omega) hlb (fun i hi => (hread i hi).2)
            show a.block < w.heap.size
            rcases Nat.lt_or_ge a.block w.heap.size with h6 | h6
            · exact h6
            · rw [Array.getElem?_eq_none h6] at hblk; cases hblk
        · cases g with
          | zero => simp [bulkD]
          | succ g => simp only [bulkD, uptoBulk]; have := k3 g; omega
    · rename_i fs n hT
      simp only [Bool.and_eq_true, Nat.beq_eq] at hs
      obtain ⟨xs, m, rfl, rfl, hlen, hl, hx⟩ := DataW.trod_struct hT h
      simp only [light, DataW.weights, hT] at hw
      obtain ⟨x, h1, h2⟩ := open_fs ih (cs := cs) fs.toList xs 0 n.flds hs.1 (by simpa using hl) (fun i fd hf => hx i fd (by simpa using hf)) hw
      have hsz : sz n.flds = n.size := n.size_flds
      rw [hsz, List.drop_zero, List.take_of_length_le (by omega)] at h1
      refine ⟨n.of x, .nm (by rw [n.to_of]; exact h1), fun g => ?_⟩
      cases g with
      | zero => simp [bulkD]
      | succ g => simp only [bulkD, uptoBulk, n.to_of]; have := h2 g; omega
    · rename_i fs a b hT
      simp only [Bool.and_eq_true, Nat.beq_eq] at hs
      obtain ⟨xs, m, rfl, rfl, hlen, hl, hx⟩ := DataW.trod_struct hT h
      simp only [light, DataW.weights, hT] at hw
      obtain ⟨x, h1, h2⟩ := open_fs ih (cs := cs) fs.toList xs 0 (.prod a b) hs.1 (by simpa using hl) (fun i fd hf => hx i fd (by simpa using hf)) hw
      rw [List.drop_zero, List.take_of_length_le (by omega)] at h1
      refine ⟨x, h1, fun g => ?_⟩
      have := h2 g; simp only [uptoBulk]; omega
    · rename_i n e a b hT
      simp only [Bool.and_eq_true, Nat.beq_eq] at hs
      obtain ⟨xs, m, rfl, rfl, hlen, hl, hx⟩ := DataW.trod_array hT h
      simp only [light, DataW.weights, hT] at hw
      obtain ⟨x, h1, h2⟩ := open_arr ih (cs := cs) n 0 xs (.prod a b) hs.1 hl (fun i hi => by simpa using hx i hi) hw
      rw [Nat.zero_mul, List.drop_zero, List.take_of_length_le (by omega)] at h1
      refine ⟨x, h1, fun g => ?_⟩
      have := h2 g; simp only [uptoBulk]; omega
    · cases hs
end

end Go.Mir
