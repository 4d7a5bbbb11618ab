/- The mirror, part 11: literals of structs and slices, make, append. -/
import Derived.Test.YtogdeefpidccmaaMirJ
namespace Go.Mir
open Go.RowKit

variable {P : Program}

theorem zipIdx_fold : ∀ (l : List Value) (k off : Nat) (cells : Array Value), off + k + l.length ≤ cells.size →
    ((l.zipIdx k).foldl (fun cs q => cs.setIfInBounds (off + q.2) q.1) cells).toList = cells.toList.take (off + k) ++ l ++ cells.toList.drop (off + k + l.length)
  | [], k, off, cells, _ => by simp
  | v :: r, k, off, cells, h => by
    have hl : off + k + r.length + 1 ≤ cells.size := by simpa [Nat.add_assoc] using h
    rw [List.zipIdx_cons, List.foldl_cons, zipIdx_fold r (k + 1) off _ (by simp; omega)]
    have ho : off + k < cells.toList.length := by simp; omega
    rw [Array.toList_setIfInBounds, ← Nat.add_assoc, List.take_set, List.take_succ_eq_append_getElem ho, List.drop_set_of_lt (by omega), List.set_append_right _ _ (by simp; omega)]
    simp [Nat.min_eq_left (Nat.le_of_lt (by simpa using ho)), Nat.add_assoc, Nat.add_comm 1]

def prel (E : Env) : List (Nat × V) → List (Nat × Value) → Prop
  | [], [] => True
  | p :: ps, q :: qs => p.1 = q.1 ∧ vrel E p.2 q.2 ∧ prel E ps qs
  | _, _ => False

theorem fill_sound {E : Env} {f : Nat → Option (Nat × Nat)} : ∀ {parts : List (Nat × V)} {pv : List (Nat × Value)} {cs : List V} {cells : Array Value} {cs' : List V}, prel E parts pv → vrels E cs cells.toList → fillV f cs parts = some cs' →
    ∃ cells', Instr.fill f cells pv = some cells' ∧ vrels E cs' cells'.toList
  | [], [], cs, cells, cs', _, h, hf => by
    simp only [fillV, Option.some.injEq] at hf
    subst hf
    exact ⟨cells, rfl, h⟩
  | p :: ps, [], _, _, _, hp, _, _ => by simp [prel] at hp
  | [], q :: qs, _, _, _, hp, _, _ => by simp [prel] at hp
  | (i, v) :: ps, (j, u) :: qs, cs, cells, cs', hp, h, hf => by
    simp only [prel] at hp
    obtain ⟨rfl, hv, hp⟩ := hp
    simp only [fillV] at hf
    split at hf
    case h_2 => cases hf
    rename_i off size hfi
    split at hf
    case h_2 => cases hf
    rename_i xs hxs
    split at hf
    case isFalse => cases hf
    rename_i h1
    split at hf
    case isFalse => cases hf
    rename_i h2
    have hc := cellsOf_sound hv hxs
    have hl := vrels_len hc
    have hlc := vrels_len h
    simp only [Array.length_toList] at hl hlc
    have e := zipIdx_fold u.cells.toList 0 off cells (by simp; omega)
    have hfold : (u.cells.zipIdx.foldl (fun cs q => cs.setIfInBounds (off + q.2) q.1) cells).toList = cells.toList.take off ++ u.cells.toList ++ cells.toList.drop (off + u.cells.toList.length) := by
      rw [← Array.foldl_toList, Array.toList_zipIdx]
      simpa using e
    have hs := vrels_splice h hc off
    rw [← hfold] at hs
    obtain ⟨cells', r1, r2⟩ := fill_sound hp hs hf
    refine ⟨cells', ?_, r2⟩
    unfold Instr.fill
    simp only [hfi]
    rw [if_neg (by simp; omega)]
    exact r1

theorem run_mapM_list {α β : Type} (f : α → Sem β) (g : α → β) (w : World) : ∀ (l : List α), (∀ x ∈ l, (f x).run P w = .ok (g x) w) → (l.mapM f).run P w = .ok (l.map g) w
  | [], _ => by simp
  | x :: l, h => by
    simp [List.mapM_cons, h x (by simp), run_mapM_list f g w l (fun y hy => h y (by simp [hy]))]

theorem run_mapM_array {α β : Type} (f : α → Sem β) (g : α → β) (w : World) (l : Array α) (h : ∀ x ∈ l.toList, (f x).run P w = .ok (g x) w) : (l.mapM f).run P w = .ok (l.map g) w := by
  rw [Array.mapM_eq_mapM_toList, Sem.run_map, run_mapM_list f g w l.toList h]
  simp only [Result.andThen_ok]
  congr 1
  apply Array.ext'
  simp

theorem evBuild_sound {E : Env} {tb : Tbl} (hT : TblOK P tb) {t : TypeId} {td : TD} (ht : TDok P t td) {parts : List (Nat × V)} {pv : Array (Nat × Value)} (hp : prel E parts pv.toList) {ps : List Prop} {v : V} {dh : List (Nat × Blk)}
    (h : evBuild tb td parts = .val ps v dh) : dh = [] ∧ ∃ v', (Instr.build t pv).run P E.w = .ok v' E.w ∧ vrel E v v' := by
  have hk := ht.kind
  obtain ⟨z, hz, hzz⟩ := ht.zeroValue E.w
  have hzr : vrels E td.zero z.cells.toList := zeqs_vrels hzz
  unfold evBuild at h
  split at h
  · rename_i fs h1
    rw [h1] at hk
    obtain ⟨fields, hu, hfs⟩ := hk
    split at h
    case isFalse => cases h
    rename_i hall
    split at h
    case h_2 => cases h
    rename_i cs hcs
    cases h
    have hm := run_mapM_array (P := P) (fun f : Field => do pure (f.offset, ← sizeOf f.type)) (fun f => (f.offset, ((tb f.type).map TD.size).getD 0)) E.w fields (fun f hf => by
      have hmem : (f.offset, f.type) ∈ fs := by rw [← hfs]; exact List.mem_map.2 ⟨f, hf, rfl⟩
      have := List.all_eq_true.1 hall _ hmem
      obtain ⟨tf, htf⟩ := Option.isSome_iff_exists.1 this
      simp only at htf
      simp [(hT _ _ htf).sizeOf, htf])
    have hf : (fun i => (fields.map (fun f => (f.offset, ((tb f.type).map TD.size).getD 0)))[i]?) = fun (i : Nat) => (fs[i]?).map fun (q : Nat × TypeId) => (q.1, ((tb q.2).map TD.size).getD 0) := by
      funext i
      rw [← hfs, List.getElem?_map, Array.getElem?_map, Option.map_map]
      simp only [Array.getElem?_toList]
      rfl
    rw [← hf] at hcs
    obtain ⟨cells', r1, r2⟩ := fill_sound hp hzr hcs
    refine ⟨rfl, .agg cells', ?_, ?_⟩
    · unfold Instr.build
      simp only [Sem.run_bind, hz, Result.andThen_ok, run_underlying hu, hm, Sem.run_pure, r1]
    · simp only [vrel]; exact ⟨_, rfl, r2⟩
  · rename_i n e h1
    rw [h1] at hk
    simp only [kindOK] at hk
    split at h
    case h_2 => cases h
    rename_i te hte
    split at h
    case h_2 => cases h
    rename_i cs hcs
    cases h
    obtain ⟨cells', r1, r2⟩ := fill_sound hp hzr hcs
    refine ⟨rfl, .agg cells', ?_, ?_⟩
    · unfold Instr.build
      simp only [Sem.run_bind, hz, Result.andThen_ok, run_underlying hk, (hT _ _ hte).sizeOf, Sem.run_pure, r1]
    · simp only [vrel]; exact ⟨_, rfl, r2⟩
  · cases h

theorem reps_len (cs : List V) : ∀ n, (reps cs n).length = n * cs.length
  | 0 => by simp [reps]
  | n + 1 => by simp [reps, reps_len cs n, Nat.add_mul, Nat.add_comm]

theorem range_reps (z : Array Value) : ∀ n, ((List.range (n * z.size)).map fun i => z[i % z.size]!) = (List.replicate n z.toList).flatten
  | 0 => by simp
  | n + 1 => by
    rw [List.replicate_succ', List.flatten_append, ← range_reps z n, Nat.add_mul, Nat.one_mul, List.range_add, List.map_append, List.map_map]
    congr 1
    simp only [List.flatten_cons, List.flatten_nil, List.append_nil]
    apply List.ext_getElem
    · simp
    · intro i h1 h2
      have hi : i < z.size := by simpa using h2
      simp only [List.getElem_map, List.getElem_range, Function.comp, Array.getElem_toList]
      have e : (n * z.size + i) % z.size = i := by rw [Nat.mul_comm, Nat.mul_add_mod, Nat.mod_eq_of_lt hi]
      rw [e]
      exact getElem!_pos z i hi

theorem vrels_reps {E : Env} {cs : List V} {l : List Value} (h : vrels E cs l) : ∀ n, vrels E (reps cs n) (List.replicate n l).flatten
  | 0 => by simp [reps, vrels]
  | n + 1 => by
    rw [List.replicate_succ, List.flatten_cons]
    exact vrels_append h (vrels_reps h n)

theorem packs_sound {B : Base} {E : Env} (hE : HRel B E) {t : Ty} : ∀ {n : Nat} {vs : List V} {xs : List (Den t)} {cs : List Value}, packs E.H t n vs = some xs → vrels E vs cs →
    xs.length = n ∧ cs.length = n * sz t ∧ ∀ (i : Nat) (h : i < xs.length), Rd E.S E.w t xs[i] ((cs.drop (i * sz t)).take (sz t))
  | 0, [], xs, cs, h, hv => by
    simp only [packs, Option.some.injEq] at h
    subst h
    cases cs with
    | nil => exact ⟨rfl, by simp, fun i h => by simp at h⟩
    | cons => simp [vrels] at hv
  | 0, _ :: _, xs, cs, h, _ => by simp [packs] at h
  | n + 1, vs, xs, cs, h, hv => by
    simp only [packs] at h
    split at h
    case h_2 => cases h
    rename_i x r h1
    split at h
    case h_2 => cases h
    rename_i ys h2
    cases h
    obtain ⟨c1, c2, rfl, k1, k2⟩ := packF_sound hE _ h1 hv
    obtain ⟨g1, g2, g3⟩ := packs_sound hE h2 k2
    have hl := k1.len
    refine ⟨by simp [g1], by simp [hl, g2, Nat.add_mul, Nat.add_comm], fun i hi => ?_⟩
    cases i with
    | zero => simpa [← hl] using k1
    | succ i =>
      have := g3 i (by simpa using hi)
      have e : ((c1 ++ c2).drop ((i + 1) * sz t)) = c2.drop (i * sz t) := by
        rw [Nat.add_mul, Nat.one_mul, ← hl, List.drop_append, List.drop_eq_nil_of_le (by omega)]
        simp
      rw [e]
      exact this

/-- a fresh row of cells that read as data -/
theorem new_row_list {B : Base} {E : Env} (hE : HRel B E) (m : Nat) (hm : ¬ E.U m) (t : Ty) (xs : List (Den t)) (l : List Value) (T : TypeId) (cap : Nat) (hcap : l.length = cap * sz t) (hlc : xs.length ≤ cap) (hl : xs.length ≤ lenB)
    (hx : ∀ (i : Nat) (h : i < xs.length), Rd E.S E.w t xs[i] ((l.drop (i * sz t)).take (sz t))) (c : Array Value) (hc : c.toList = l) :
    ∃ E', Good B E m [(m, .row m true t xs)] { E.w with heap := E.w.heap.push (.cells c T (0, 0)) } E' ∧ vrel E' (.osl m m) (.slice (some ⟨E.w.heap.size, 0, none⟩) xs.length cap) := by
  subst hc
  exact new_row hE m hm t xs c T cap (by simpa using hcap) hlc hl (fun i h => by simpa [seg] using hx i h)

theorem evBuildSlice_sound {B : Base} {E : Env} (hE : HRel B E) {tb : Tbl} (hT : TblOK P tb) {t : TypeId} {td : TD} (ht : TDok P t td) (m : Nat) (hm : ¬ E.U m) {n : Nat} {parts : List (Nat × V)} {pv : Array (Nat × Value)} (hp : prel E parts pv.toList)
    {ps : List Prop} {v : V} {dh : List (Nat × Blk)} (h : evBuildSlice tb td E.H m n parts = .val ps v dh) : ∃ v' w' E', (Instr.buildSlice t n pv).run P E.w = .ok v' w' ∧ Good B E m dh w' E' ∧ vrel E' v v' := by
  have hk := ht.kind
  unfold evBuildSlice at h
  split at h
  case h_2 => cases h
  rename_i e h1
  rw [h1] at hk
  simp only [kindOK] at hk
  split at h
  case h_2 => cases h
  rename_i te hte
  have hte' := hT _ _ hte
  split at h
  case h_2 => cases h
  rename_i t' ht'
  split at h
  case isFalse => cases h
  rename_i hc
  obtain ⟨c1, c2, c3, c4⟩ := hc
  split at h
  case h_2 => cases h
  rename_i cs hcs
  split at h
  case h_2 => cases h
  rename_i xs hxs
  cases h
  obtain ⟨z, hz, hzz⟩ := hte'.zeroValue E.w
  have hzr : vrels E te.zero z.cells.toList := zeqs_vrels hzz
  have hzl : z.cells.size = te.size := by have := vrels_len hzr; simp at this; omega
  have hsmall : ¬ (n * te.size > 2 ^ 24) := by
    have := Nat.mul_le_mul c2 c3
    omega
  -- the zero cells
  have hzero : ∃ zc : Array Value, ((n * te.size = 0 ∧ zc = #[]) ∨ (n * te.size ≠ 0 ∧ zc = z.cells)) ∧ ((Array.range (n * te.size)).map (zc[· % zc.size]!)).toList = (List.replicate n z.cells.toList).flatten := by
    by_cases h0 : n * te.size = 0
    · refine ⟨#[], .inl ⟨h0, rfl⟩, ?_⟩
      rw [h0]
      rcases Nat.mul_eq_zero.1 h0 with h0 | h0
      · subst h0; simp
      · have : z.cells.toList = [] := List.eq_nil_of_length_eq_zero (by rw [Array.length_toList]; omega)
        rw [this]; simp
    · refine ⟨z.cells, .inr ⟨h0, rfl⟩, ?_⟩
      rw [← hzl, Array.toList_map, Array.toList_range]
      exact range_reps _ _
  obtain ⟨zc, hz1, hz2⟩ := hzero
  have hzv := vrels_reps hzr n
  rw [← hz2] at hzv
  obtain ⟨cells', r1, r2⟩ := fill_sound hp hzv hcs
  obtain ⟨g1, g2, g3⟩ := packs_sound hE hxs r2
  obtain ⟨E', G, hv⟩ := new_row_list hE m hm t' xs cells'.toList e n g2 (by omega) (by rw [g1]; unfold lenB; omega) g3 cells' rfl
  refine ⟨_, _, E', ?_, G, hv⟩
  rw [g1]
  unfold Instr.buildSlice
  simp only [Sem.run_bind, run_underlying hk, Result.andThen_ok, hte'.sizeOf, hsmall, if_false]
  rcases hz1 with ⟨h0, rfl⟩ | ⟨h0, rfl⟩
  · simp only [h0, if_true, Sem.run_bind, Sem.run_pure, Result.andThen_ok] at r1 ⊢
    simp only [r1, newRow, Sem.run_bind, run_newObj, Result.andThen_ok, Sem.run_pure]
  · simp only [h0, if_false, Sem.run_bind, hz, Sem.run_pure, Result.andThen_ok, r1, newRow, run_newObj]

theorem evMakeSlice_sound {B : Base} {E : Env} (hE : HRel B E) {tb : Tbl} (hT : TblOK P tb) {t : TypeId} {td : TD} (ht : TDok P t td) (m : Nat) (hm : ¬ E.U m) {l c : V} {lv cv : Value} (hl : vrel E l lv) (hc : vrel E c cv)
    {ps : List Prop} {v : V} {dh : List (Nat × Blk)} (h : evMakeSlice tb td E.H m l c = .val ps v dh) (hps : ∀ p ∈ ps, p) : ∃ v' w' E', (Instr.makeSlice t lv cv).run P E.w = .ok v' w' ∧ Good B E m dh w' E' ∧ vrel E' v v' := by
  have hk := ht.kind
  unfold evMakeSlice at h
  split at h
  case h_2 => cases h
  rename_i k1 n k2 c
  split at h
  case h_2 => cases h
  rename_i e h1
  rw [h1] at hk
  simp only [kindOK] at hk
  split at h
  case h_2 => cases h
  rename_i te hte
  have hte' := hT _ _ hte
  split at h
  case h_2 => cases h
  rename_i t' ht'
  split at h
  case isFalse => cases h
  rename_i hcc
  obtain ⟨c1, c2, c4⟩ := hcc
  split at h
  case h_2 => cases h
  rename_i zd hzd
  cases h
  have hp := hps _ (List.mem_singleton.2 rfl)
  obtain ⟨p1, p2, p3⟩ := hp
  subst p2
  simp only [vrel] at hl hc
  obtain ⟨rfl, _⟩ := hl
  obtain ⟨rfl, _⟩ := hc
  obtain ⟨z, hz, hzz⟩ := hte'.zeroValue E.w
  have hzr : vrels E te.zero z.cells.toList := zeqs_vrels hzz
  have hzl : z.cells.size = te.size := by have := vrels_len hzr; simp at this; omega
  have hrd := pack_sound hE hzd hzr
  obtain ⟨N, rfl⟩ := Int.eq_ofNat_of_zero_le p1
  have hN : N ≤ 17179869184 := by omega
  have hwrap : IntKind.i64.wrap (N : Int) = (N : Int) := by
    unfold IntKind.wrap
    simp [IntKind.bits, IntKind.signed]
    omega
  have hbytes : ((te.bytes : Int) * (N : Int)) ≤ 281474976710656 := by
    have : te.bytes * N ≤ 1000 * 17179869184 := Nat.mul_le_mul c2 hN
    have h2 : ((te.bytes * N : Nat) : Int) ≤ 17179869184000 := by omega
    rw [Int.natCast_mul] at h2
    omega
  obtain ⟨hb1, hb2⟩ := hte'.bytes E.w
  -- the cells
  have hzero : ∃ zc : Array Value, ((N * te.size = 0 ∧ zc = #[]) ∨ (N * te.size ≠ 0 ∧ zc = z.cells)) ∧ ((Array.range (N * te.size)).map (zc[· % zc.size]!)).toList = (List.replicate N z.cells.toList).flatten := by
    by_cases h0 : N * te.size = 0
    · refine ⟨#[], .inl ⟨h0, rfl⟩, ?_⟩
      rw [h0]
      rcases Nat.mul_eq_zero.1 h0 with h0 | h0
      · subst h0; simp
      · have : z.cells.toList = [] := List.eq_nil_of_length_eq_zero (by rw [Array.length_toList]; omega)
        rw [this]; simp
    · refine ⟨z.cells, .inr ⟨h0, rfl⟩, ?_⟩
      rw [← hzl, Array.toList_map, Array.toList_range]
      exact range_reps _ _
  obtain ⟨zc, hz1, hz2⟩ := hzero
  have hflat : ∀ (i : Nat), i < N → ((List.replicate N z.cells.toList).flatten.drop (i * sz t')).take (sz t') = z.cells.toList := fun i hi => by
    obtain ⟨d, rfl⟩ : ∃ d, N = i + (d + 1) := ⟨N - i - 1, by omega⟩
    have hzl' : z.cells.toList.length = sz t' := by simp; omega
    rw [← List.replicate_append_replicate, List.flatten_append, List.drop_append]
    have hfl : ((List.replicate i z.cells.toList).flatten).length = i * sz t' := by simp [hzl, c1]
    rw [List.drop_eq_nil_of_le (by omega), hfl, Nat.sub_self, List.drop_zero, List.nil_append, List.replicate_succ, List.flatten_cons, List.take_append_of_le_length (by omega), List.take_of_length_le (by omega)]
  obtain ⟨E', G, hv⟩ := new_row_list hE m hm t' (List.replicate N zd) ((List.replicate N z.cells.toList).flatten) e N (by simp [hzl, c1]) (by simp) (by simp; unfold lenB; omega)
    (fun i hi => by
      have hi' : i < N := by simpa using hi
      rw [hflat i hi', List.getElem_replicate]
      exact hrd) ((Array.range (N * te.size)).map (zc[· % zc.size]!)) hz2
  rw [List.length_replicate] at hv
  refine ⟨_, _, E', ?_, by simpa using G, by simpa using hv⟩
  unfold Instr.makeSlice
  have q1 : ¬ ((N : Int) < 0) := by omega
  have q2 : ¬ ((te.bytes : Int) * (N : Int) > 281474976710656) := by omega
  have q3 : ¬ ((N : Int) > (N : Int)) := by omega
  simp only [Sem.run_bind, run_underlying hk, Result.andThen_ok, asInt, asIntOf, Sem.run_pure, hb1, hb2, hwrap]
  have hcond : ¬ ((decide ((N : Int) < 0) || decide ((te.bytes : Int) * (N : Int) > 2 ^ 48) || decide ((N : Int) < 0) || decide ((N : Int) > (N : Int))) = true) := by
    have e48 : (2 : Int) ^ 48 = 281474976710656 := by decide
    rw [e48]
    simp only [Bool.or_eq_true, decide_eq_true_eq]
    omega
  rw [if_neg hcond]
  simp only [Sem.run_bind, run_askRoom, Result.andThen_ok, hte'.sizeOf, Int.toNat_natCast]
  rcases hz1 with ⟨h0, rfl⟩ | ⟨h0, rfl⟩
  · simp only [h0, if_true, Sem.run_bind, Sem.run_pure, Result.andThen_ok, newRow, run_newObj]
    rfl
  · simp only [h0, if_false, Sem.run_bind, hz, Sem.run_pure, Result.andThen_ok, newRow, run_newObj]
    rfl

end Go.Mir
