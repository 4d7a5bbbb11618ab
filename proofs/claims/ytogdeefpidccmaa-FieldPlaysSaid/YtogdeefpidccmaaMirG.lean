/- The mirror, part 7: loads, stores, new blocks. -/
import Derived.Test.YtogdeefpidccmaaMirF
namespace Go.Mir
open Go.RowKit

theorem spl_get {α : Type} (l vs : List α) (p k : Nat) (h : p + vs.length ≤ l.length) :
    (l.take p ++ vs ++ l.drop (p + vs.length))[k]? = if k < p then l[k]? else if k < p + vs.length then vs[k - p]? else l[k]? := by
  have hp : (l.take p).length = p := by simp; omega
  by_cases h1 : k < p
  · rw [if_pos h1, List.append_assoc, List.getElem?_append_left (by omega), List.getElem?_take_of_lt h1]
  · rw [if_neg h1]
    by_cases h2 : k < p + vs.length
    · rw [if_pos h2, List.append_assoc, List.getElem?_append_right (by omega), List.getElem?_append_left (by omega), hp]
    · rw [if_neg h2, List.getElem?_append_right (by simp; omega), List.getElem?_drop]
      congr 1
      simp
      omega

theorem seg_get (c : Array Value) (o n k : Nat) : (seg c o n)[k]? = if k < n then c.toList[o + k]? else none := by
  unfold seg
  by_cases h : k < n
  · rw [if_pos h, List.getElem?_take_of_lt h, List.getElem?_drop]
  · rw [if_neg h, List.getElem?_take_eq_none (by omega)]

theorem seg_len (c : Array Value) (o n : Nat) (h : o + n ≤ c.size) : (seg c o n).length = n := by
  simp [seg]; omega

theorem seg_spl_same (c c' : Array Value) (o s off : Nat) (vs : List Value) (ho : o + s ≤ c.size) (hoff : off + vs.length ≤ s) (h : c'.toList = c.toList.take (o + off) ++ vs ++ c.toList.drop (o + off + vs.length)) :
    seg c' o s = (seg c o s).take off ++ vs ++ (seg c o s).drop (off + vs.length) := by
  apply List.ext_getElem?
  intro k
  rw [spl_get _ _ _ _ (by rw [seg_len _ _ _ ho]; exact hoff), seg_get, h, spl_get _ _ _ _ (by simp; omega), seg_get]
  by_cases hk : k < s
  · simp only [if_pos hk]
    by_cases h1 : k < off
    · rw [if_pos h1, if_pos (by omega)]
    · rw [if_neg h1, if_neg (by omega)]
      by_cases h2 : k < off + vs.length
      · rw [if_pos h2, if_pos (by omega)]; congr 1; omega
      · rw [if_neg h2, if_neg (by omega)]
  · simp only [if_neg hk]
    rw [if_neg (by omega), if_neg (by omega)]

theorem seg_spl_other (c c' : Array Value) (o s p : Nat) (vs : List Value) (hp : p + vs.length ≤ c.size) (hd : o + s ≤ p ∨ p + vs.length ≤ o) (h : c'.toList = c.toList.take p ++ vs ++ c.toList.drop (p + vs.length)) :
    seg c' o s = seg c o s := by
  apply List.ext_getElem?
  intro k
  rw [seg_get, seg_get, h, spl_get _ _ _ _ (by simpa using hp)]
  by_cases hk : k < s
  · simp only [if_pos hk]
    by_cases h1 : o + k < p
    · rw [if_pos h1]
    · rw [if_neg h1, if_neg (by omega)]
  · simp only [if_neg hk]

theorem vrels_splice {E : Env} {cs : List V} {l : List Value} (h : vrels E cs l) {xs : List V} {vs : List Value} (hx : vrels E xs vs) (off : Nat) : vrels E (splice cs off xs) (l.take off ++ vs ++ l.drop (off + vs.length)) := by
  unfold splice
  rw [vrels_len hx]
  exact vrels_append (vrels_append (vrels_take h off) hx) (vrels_drop h _)

theorem nofrz_size {fr : Nat × Nat} {n m : Nat} (h : nofrz fr n) (e : m = n) : nofrz fr m := by subst e; exact h

theorem elemCells_sound {E : Env} {t : Ty} {xs : List (Den t)} {i : Int} (hi : i.toNat < xs.length) {l : List Value} (h : Rd E.S E.w t xs[i.toNat] l) : vrels E (elemCells t xs i) l := by
  have := h.flat FUEL
  unfold elemCells
  have e : xs.getD i.toNat (dflt t) = xs[i.toNat] := by simp [List.getD, hi]
  rw [e]
  exact this

theorem evLoad_sound {B : Base} {E : Env} (hE : HRel B E) {P : Program} {t : TypeId} {td : TD} (ht : TDok P t td) {a : V} {av : Value} (ha : vrel E a av) {ps : List Prop} {v : V} {dh : List (Nat × Blk)} (h : evLoad td E.H a = .val ps v dh) :
    dh = [] ∧ ∃ v', (Instr.loadAt t av).run P E.w = .ok v' E.w ∧ vrel E v v' := by
  unfold evLoad at h
  split at h
  · rename_i hh off
    split at h
    · rename_i cs hH
      obtain ⟨b, c, T, fr, h1, h2, h3, h4, h5⟩ := hE.blk _ _ hH
      simp only [vrel] at ha
      obtain ⟨b', hb', rfl⟩ := ha.2.2 _ hH
      rw [h1] at hb'; cases hb'
      have := ld_sound ht h2 (p := 0) (n := c.size) (by omega) (cs := cs) (by simp only [seg, List.drop_zero]; rw [List.take_of_length_le (by simp)]; exact h5) h
      simpa [Instr.loadAt, Instr.sureAddr] using this
    · cases h
  · rename_i t' xs i off
    simp only [vrel] at ha
    obtain ⟨b, o, c, T, fr, h1, h2, h3, h4, h5, h6, rfl⟩ := ha
    have hm : (i.toNat + 1) * sz t' ≤ xs.length * sz t' := Nat.mul_le_mul_right _ h6
    rw [Nat.add_mul] at hm
    have := ld_sound ht h2 (p := o + i.toNat * sz t') (n := sz t') (by omega) (elemCells_sound h6 (h4 _ h6)) h
    simpa [Instr.loadAt, Instr.sureAddr] using this
  · rename_i hh ver i off
    split at h
    · rename_i ver' rw' t' xs hH
      split at h
      · rename_i e
        subst e
        simp only [vrel] at ha
        obtain ⟨b', hb', h5, h6, rfl⟩ := ha.2.2.2 _ _ _ hH
        obtain ⟨_, hk⟩ := hE.blk _ _ hH
        rcases hk with ⟨k1, k2⟩ | ⟨b, c, T, fr, k1, k2, k3, k4, k5, k6, k7, k8⟩
        · rw [hb'] at k1; cases k1
        · rw [hb'] at k1; cases k1
          have hm : (i.toNat + 1) * sz t' ≤ xs.length * sz t' := Nat.mul_le_mul_right _ h6
          rw [Nat.add_mul] at hm
          have := ld_sound ht k2 (p := i.toNat * sz t') (n := sz t') (by omega) (elemCells_sound h6 (k8 _ h6)) h
          simpa [Instr.loadAt, Instr.sureAddr] using this
      · cases h
    · cases h
  · cases h

theorem cellsOf_sound {E : Env} {x : V} {v : Value} (h : vrel E x v) {xs : List V} (hc : cellsOf x = some xs) : vrels E xs v.cells.toList := by
  have one : ∀ {y : V}, y = x → v.cells = #[v] → vrels E [y] v.cells.toList := fun e hv => by rw [hv]; subst e; simp [vrels, h]
  cases x <;> simp only [cellsOf, Option.some.injEq, reduceCtorEq] at hc
  case agg cs =>
    simp only [vrel] at h
    obtain ⟨l, rfl, h⟩ := h
    subst hc
    exact h
  all_goals
    have ho : v.oneCell' = true := one_oneCell rfl h
    subst hc
    refine one rfl ?_
    cases v <;> first | rfl | (simp [Value.oneCell'] at ho)

theorem all_one {E : Env} : ∀ {xs : List V} {vs : List Value}, xs.all V.one = true → vrels E xs vs → ∀ v ∈ vs, v.oneCell' = true
  | [], [], _, _, v, hv => by cases hv
  | _ :: _, [], _, h, _, _ => by simp [vrels] at h
  | [], _ :: _, _, h, _, _ => by simp [vrels] at h
  | x :: xs, u :: us, ho, h, v, hv => by
    simp only [List.all_cons, Bool.and_eq_true] at ho
    simp only [vrels] at h
    cases hv with
    | head => exact one_oneCell ho.1 h.1
    | tail _ hv => exact all_one ho.2 h.2 v hv

theorem evStore_sound {B : Base} {E : Env} (hE : HRel B E) {P : Program} {t : TypeId} {td : TD} (ht : TDok P t td) {a x : V} {av xv : Value} (ha : vrel E a av) (hx : vrel E x xv) (m : Nat) {ps : List Prop} {dh : List (Nat × Blk)} (h : evStore td E.H a x = .skip ps dh) :
    ∃ w' E', (Instr.storeAt t av xv).run P E.w = .ok () w' ∧ Good B E m dh w' E' := by
  unfold evStore at h
  split at h
  · cases h
  rename_i xs hxs
  split at h
  case isFalse => cases h
  rename_i hlen
  obtain ⟨hlen, hone⟩ := hlen
  have hvs := cellsOf_sound hx hxs
  have hvl : xv.cells.toList.length = td.size := by rw [← vrels_len hvs]; exact hlen
  have hvl' : xv.cells.size = td.size := by simpa using hvl
  have h1c := all_one hone hvs
  -- the run of the store, once the place is known
  have run : ∀ (b o : Nat) (c : Array Value) (T : TypeId) (fr : Nat × Nat), E.w.heap[b]? = some (.cells c T fr) → nofrz fr c.size → o + td.size ≤ c.size →
      (Instr.storeAt t (.pointer (some ⟨b, o, none⟩)) xv).run P E.w = .ok () (E.w.setCells b o xv.cells.toList) := fun b o c T fr hb hn hsz => by
    have := run_storeCells_cells (P := P) b o xv.cells.toList 0 E.w (fun j hj => by rw [cell_of hb]; simp; omega) (fun j hj => frozen_of hb hn (by omega)) h1c
    simp only [Instr.storeAt, Instr.sureAddr, storeVar, Sem.run_bind, Sem.run_pure, Result.andThen_ok, ht.sizeOf, hvl', ne_eq, not_true_eq_false, if_false, this, Nat.add_zero]
  split at h
  · rename_i hh off
    split at h
    · rename_i cs hH
      split at h
      · rename_i hsz
        cases h
        obtain ⟨b, c, T, fr, h1, h2, h3, h4, h5⟩ := hE.blk _ _ hH
        simp only [vrel] at ha
        obtain ⟨b', hb', rfl⟩ := ha.2.2 _ hH
        rw [h1] at hb'; cases hb'
        have hcl : cs.length = c.size := by rw [vrels_len h5]; simp
        obtain ⟨c', g1, g2⟩ := setCells_heap b xv.cells.toList off E.w c h2 (by omega)
        have hcs : c'.size = c.size := by
          have := congrArg List.length g2
          simp at this
          omega
        obtain ⟨R, X⟩ := step1 hE hh (.cells (splice cs off xs)) (some b) (E.w.setCells b off xv.cells.toList) E.U (fun _ h => h) (hE.used _ _ hH)
          (setCells_keeps b (fun b1 => some b = some b1) rfl _ _ _) (fun b1 e => by cases e; exact .inr ⟨h1, _, hH, rfl⟩) (fun b1 e => by cases e; exact h4) (fun _ _ _ => ⟨⟨cs, hH⟩, h1.symm⟩) (fun _ _ _ _ e => by cases e)
          (fun X => ⟨b, c', T, fr, upd_same _ _ _, g1, nofrz_size h3 hcs, h4, by
            rw [g2]
            exact vrels_splice (vrels_ext X _ _ h5) (vrels_ext X _ _ hvs) off⟩)
        exact ⟨_, _, run b off c T fr h2 h3 (by omega), R, X, rfl, (hset_one _ _ _).symm, fun _ h => .inl h⟩
      · cases h
    · cases h
  · rename_i hh ver i off
    split at h
    · rename_i ver' t' ys hH
      split at h
      · rename_i e
        subst e
        dsimp only at h
        split at h
        · rename_i hsz
          split at h
          · rename_i y hy
            cases h
            simp only [vrel] at ha
            obtain ⟨b', hb', h5, h6, rfl⟩ := ha.2.2.2 _ _ _ hH
            obtain ⟨hu, hk⟩ := hE.blk _ _ hH
            rcases hk with ⟨k1, k2⟩ | ⟨b, c, T, fr, k1, k2, k3, k4, k5, k6, k7, k8⟩
            · rw [hb'] at k1; cases k1
            rw [hb'] at k1; cases k1
            have hm : (i.toNat + 1) * sz t' ≤ ys.length * sz t' := Nat.mul_le_mul_right _ h6
            rw [Nat.add_mul] at hm
            have hbd : i.toNat * sz t' + off + xv.cells.toList.length ≤ c.size := by omega
            obtain ⟨c', g1, g2⟩ := setCells_heap b' xv.cells.toList (i.toNat * sz t' + off) E.w c k2 hbd
            have hcs : c'.size = c.size := by
              have := congrArg List.length g2
              simp at this
              omega
            obtain ⟨R, X⟩ := step1 hE hh (.row ver true t' (ys.set i.toNat y)) (some b') (E.w.setCells b' (i.toNat * sz t' + off) xv.cells.toList) E.U (fun _ h => h) (hE.used _ _ hH)
              (setCells_keeps b' (fun b1 => some b' = some b1) rfl _ _ _) (fun b1 e => by cases e; exact .inr ⟨hb', _, hH, rfl⟩) (fun b1 e => by cases e; exact k4 rfl) (fun _ e _ => by cases e)
              (fun ver2 rw2 t2 xs2 e _ _ => by
                cases e
                refine ⟨true, ys, hH, by simp, hb'.symm, fun b1 c1 T1 fr1 e1 e2 => ?_⟩
                rw [hb'] at e1; cases e1
                rw [k2] at e2; cases e2
                exact ⟨c', T, fr, g1, hcs⟩)
              (fun X => ⟨hu, .inr ⟨b', c', T, fr, upd_same _ _ _, g1, nofrz_size k3 hcs, fun _ => k4 rfl, (fun e => by cases e), by simp; omega, by simpa using k7, fun j hj => by
                have hj' : j < ys.length := by simpa using hj
                by_cases hji : j = i.toNat
                · subst hji
                  rw [List.getElem_set_self]
                  have hold := elemCells_sound h6 (k8 _ h6)
                  have hnew := vrels_splice hold hvs off
                  rw [← seg_spl_same c c' (i.toNat * sz t') (sz t') off xv.cells.toList (by omega) (by omega) g2] at hnew
                  exact (pack_sound hE hy hnew).ext X.s X.keepS
                · rw [List.getElem_set_ne (Ne.symm hji)]
                  have hd : j * sz t' + sz t' ≤ i.toNat * sz t' + off ∨ i.toNat * sz t' + off + xv.cells.toList.length ≤ j * sz t' := by
                    rcases Nat.lt_or_gt_of_ne hji with hlt | hgt
                    · have := Nat.mul_le_mul_right (sz t') (show j + 1 ≤ i.toNat from hlt)
                      rw [Nat.add_mul] at this
                      omega
                    · have := Nat.mul_le_mul_right (sz t') (show i.toNat + 1 ≤ j from hgt)
                      rw [Nat.add_mul] at this
                      omega
                  rw [seg_spl_other c c' (j * sz t') (sz t') _ _ hbd hd g2]
                  exact (k8 j hj').ext X.s X.keepS⟩⟩)
            exact ⟨_, _, run b' _ c T fr k2 k3 (by omega), R, X, rfl, (hset_one _ _ _).symm, fun _ h => .inl h⟩
          · cases h
        · cases h
      · cases h
    · cases h
  · cases h

/-- a new block under a new name -/
theorem new_block {B : Base} {E : Env} (hE : HRel B E) (m : Nat) (hm : ¬ E.U m) (k : Blk) (c : Array Value) (T : TypeId)
    (hb : ∀ E', Ext E E' → E'.U m → E'.ρ m = some E.w.heap.size → E'.w.heap[E.w.heap.size]? = some (.cells c T (0, 0)) → ¬ E'.S E.w.heap.size → E'.S = E.S → brel E' m k)
    (U' : Nat → Prop) (hU : ∀ n, U' n ↔ E.U n ∨ n = m) :
    ∃ E', Good B E m [(m, k)] { E.w with heap := E.w.heap.push (.cells c T (0, 0)) } E' ∧ E'.U m ∧ E'.ρ m = some E.w.heap.size ∧ E'.w.heap[E.w.heap.size]? = some (.cells c T (0, 0)) := by
  have hS : ¬ E.S E.w.heap.size := fun h => Nat.lt_irrefl _ (hE.stab _ h)
  have hget : (E.w.heap.push (.cells c T (0, 0)))[E.w.heap.size]? = some (.cells c T (0, 0)) := by simp
  obtain ⟨R, X⟩ := step1 hE m k (some E.w.heap.size) { E.w with heap := E.w.heap.push (.cells c T (0, 0)) } U' (fun n h => (hU n).2 (.inl h)) ((hU m).2 (.inr rfl))
    ⟨rfl, rfl, rfl, by simp, fun b hb' _ => Below.heap_alloc E.w _ b hb'⟩ (fun b e => by cases e; exact .inl ⟨Nat.le_refl _, by simp⟩) (fun b e => by cases e; exact hS)
    (fun _ _ h => absurd h hm) (fun _ _ _ _ _ h _ => absurd h hm)
    (fun X => hb _ X ((hU m).2 (.inr rfl)) (upd_same _ _ _) hget hS rfl)
  refine ⟨_, ⟨R, X, rfl, (hset_one _ _ _).symm, fun n h => ?_⟩, (hU m).2 (.inr rfl), upd_same _ _ _, hget⟩
  rcases (hU n).1 h with h | h
  · exact .inl h
  · exact .inr ⟨by omega, by unfold KN; omega⟩

theorem new_cells {B : Base} {E : Env} (hE : HRel B E) (m : Nat) (hm : ¬ E.U m) (cs : List V) (c : Array Value) (T : TypeId) (hc : vrels E cs c.toList) :
    ∃ E', Good B E m [(m, .cells cs)] { E.w with heap := E.w.heap.push (.cells c T (0, 0)) } E' ∧ vrel E' (.ptr m 0) (.pointer (some ⟨E.w.heap.size, 0, none⟩)) := by
  obtain ⟨E', G, h1, h2, h3⟩ := new_block hE m hm (.cells cs) c T (fun E' X hu hρ hw hS _ => ⟨_, c, T, (0, 0), hρ, hw, fun i _ h => by simp at h, hS, vrels_ext X _ _ hc⟩) (fun n => E.U n ∨ n = m) (fun _ => Iff.rfl)
  refine ⟨E', G, ?_⟩
  simp only [vrel]
  exact ⟨h1, ⟨_, rfl⟩, fun _ _ => ⟨_, h2, rfl⟩⟩

theorem new_row {B : Base} {E : Env} (hE : HRel B E) (m : Nat) (hm : ¬ E.U m) (t : Ty) (xs : List (Den t)) (c : Array Value) (T : TypeId) (cap : Nat) (hcap : c.size = cap * sz t) (hlc : xs.length ≤ cap) (hl : xs.length ≤ lenB)
    (hx : ∀ (i : Nat) (h : i < xs.length), Rd E.S E.w t xs[i] (seg c (i * sz t) (sz t))) :
    ∃ E', Good B E m [(m, .row m true t xs)] { E.w with heap := E.w.heap.push (.cells c T (0, 0)) } E' ∧ vrel E' (.osl m m) (.slice (some ⟨E.w.heap.size, 0, none⟩) xs.length cap) := by
  have hsz : xs.length * sz t ≤ c.size := by rw [hcap]; exact Nat.mul_le_mul_right _ hlc
  obtain ⟨E', G, h1, h2, h3⟩ := new_block hE m hm (.row m true t xs) c T
    (fun E' X hu hρ hw hS e => ⟨hu, .inr ⟨_, c, T, (0, 0), hρ, hw, (fun i _ h => by simp at h), (fun _ => hS), (fun e => by cases e), hsz, hl, fun i hi => (hx i hi).ext X.s X.keepS⟩⟩) (fun n => E.U n ∨ n = m) (fun _ => Iff.rfl)
  refine ⟨E', G, ?_⟩
  simp only [vrel]
  refine ⟨h1, h1, ⟨_, _, _, rfl⟩, fun rw t' xs' hH => .inr ⟨_, cap, c, T, (0, 0), h2, ?_⟩⟩
  rw [G.h, hset_one, upd_same] at hH
  cases hH
  exact ⟨rfl, h3, hcap, hlc⟩

/-- a new row that has no block: an empty slice -/
theorem new_row_nil {B : Base} {E : Env} (hE : HRel B E) (m : Nat) (hm : ¬ E.U m) (t : Ty) (a : Option Addr) :
    ∃ E', Good B E m [(m, .row m true t [])] E.w E' ∧ vrel E' (.osl m m) (.slice a 0 0) := by
  obtain ⟨R, X⟩ := step1 hE m (.row m true t []) none E.w (fun n => E.U n ∨ n = m) (fun n h => .inl h) (.inr rfl)
    ((Keeps.refl E.w _)) (fun b e => by cases e) (fun b e => by cases e) (fun _ _ h => absurd h hm) (fun _ _ _ _ _ h _ => absurd h hm)
    (fun X => ⟨.inr rfl, .inl ⟨upd_same _ _ _, rfl⟩⟩)
  refine ⟨_, ⟨R, X, rfl, (hset_one _ _ _).symm, fun n h => ?_⟩, ?_⟩
  · rcases h with h | h
    · exact .inl h
    · exact .inr ⟨by omega, by unfold KN; omega⟩
  · simp only [vrel]
    exact ⟨.inr trivial, .inr trivial, ⟨_, _, _, rfl⟩, fun _ _ _ _ => .inl ⟨upd_same _ _ _, a, rfl⟩⟩

end Go.Mir
