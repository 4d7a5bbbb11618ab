/- The mirror, part 12: append. -/
import Derived.Test.YtogdeefpidccmaaMirK
namespace Go.Mir
open Go.RowKit

variable {P : Program}

theorem Rd.one {S : Nat → Prop} {w : World} {t : Ty} {x : Den t} {cs : List Value} (h : Rd S w t x cs) : ∀ v ∈ cs, v.oneCell' = true := by
  induction h with
  | int h => intro v hv; simp at hv; subst hv; rfl
  | bool => intro v hv; simp at hv; subst hv; rfl
  | str => intro v hv; simp at hv; subst hv; rfl
  | unit => intro v hv; cases hv
  | prod _ _ ih1 ih2 => intro v hv; rcases List.mem_append.1 hv with h | h; exact ih1 v h; exact ih2 v h
  | nm _ ih => exact ih
  | nil => intro v hv; simp at hv; subst hv; rfl
  | slice => intro v hv; simp at hv; subst hv; rfl

/-- a slice that is read, and its cells -/
structure Src (P : Program) (E : Env) (t : Ty) (ys : List (Den t)) (xv : Value) (a : Option Addr) (cap : Nat) (l : List Value) : Prop where
  val : xv = .slice a ys.length cap
  lb : ys.length ≤ lenB
  len : l.length = ys.length * sz t
  run : ∀ (w : World), w.heap = E.w.heap → (Builtin.firstCells (sz t) ys.length xv).run P w = .ok l.toArray w
  rd : ∀ (i : Nat) (hi : i < ys.length), Rd E.S E.w t ys[i] ((l.drop (i * sz t)).take (sz t))
  one : ∀ v ∈ l, v.oneCell' = true

theorem listOf_sound {B : Base} {E : Env} (hE : HRel B E) {t : Ty} {x : V} {xv : Value} (hx : vrel E x xv) {ys : List (Den t)} (h : listOf E.H t x = some ys) :
    ∃ a cap l, Src P E t ys xv a cap l := by
  have empty : ∀ (a : Option Addr) (cap : Nat), ys = [] → xv = .slice a 0 cap → ∃ a cap l, Src P E t ys xv a cap l := fun a cap e1 e2 => by
    subst e1; subst e2
    refine ⟨a, cap, [], rfl, Nat.zero_le _, by simp, fun w _ => ?_, fun i hi => by simp at hi, fun v hv => by cases hv⟩
    cases a with
    | none => simp [Builtin.firstCells]
    | some a =>
      have := run_loadCells_list (P := P) w a [] (fun j v hj => by simp at hj)
      simpa [Builtin.firstCells] using this
  have cells : ∀ (b o cap : Nat) (c : Array Value) (T : TypeId) (fr : Nat × Nat), E.w.heap[b]? = some (.cells c T fr) → o + ys.length * sz t ≤ c.size → ys.length ≤ lenB → xv = .slice (some ⟨b, o, none⟩) ys.length cap →
      (∀ (i : Nat) (hi : i < ys.length), Rd E.S E.w t ys[i] (seg c (o + i * sz t) (sz t))) →
      ∃ a cap l, Src P E t ys xv a cap l := fun b o cap c T fr hb hsz hlb e hrd => by
    have hl : (seg c o (ys.length * sz t)).length = ys.length * sz t := seg_len _ _ _ hsz
    have hseg : ∀ i, i < ys.length → ((seg c o (ys.length * sz t)).drop (i * sz t)).take (sz t) = seg c (o + i * sz t) (sz t) := fun i hi => by
      have hm : (i + 1) * sz t ≤ ys.length * sz t := Nat.mul_le_mul_right _ hi
      rw [Nat.add_mul] at hm
      simp only [seg, List.drop_take, List.drop_drop, List.take_take]
      congr 1
      omega
    refine ⟨some ⟨b, o, none⟩, cap, seg c o (ys.length * sz t), e, hlb, hl, fun w hw => ?_, fun i hi => by rw [hseg i hi]; exact hrd i hi, fun v hv => ?_⟩
    · subst e
      have hbw : w.heap[b]? = some (.cells c T fr) := by rw [hw]; exact hb
      have := run_loadCells_list (P := P) w ⟨b, o, none⟩ (seg c o (ys.length * sz t)) (fun j v hj => by
        rw [addr_add, cell_of hbw]
        rw [seg_get] at hj
        split at hj
        · exact hj
        · cases hj)
      rw [hl] at this
      simpa [Builtin.firstCells] using this
    · obtain ⟨k, hk, hkv⟩ := List.getElem_of_mem hv
      have hk' : k < ys.length * sz t := by omega
      have hpos : 0 < sz t := by
        rcases Nat.eq_zero_or_pos (sz t) with h0 | h0
        · rw [h0] at hk'; omega
        · exact h0
      have hi : k / sz t < ys.length := Nat.div_lt_of_lt_mul (by rw [Nat.mul_comm]; exact hk')
      have h1 := (hrd _ hi).one v
      apply h1
      rw [← hseg _ hi]
      have hkk : k / sz t * sz t + k % sz t = k := by rw [Nat.mul_comm]; exact Nat.div_add_mod _ _
      have hmod := Nat.mod_lt k hpos
      have : (((seg c o (ys.length * sz t)).drop (k / sz t * sz t)).take (sz t))[k % sz t]? = some v := by
        rw [List.getElem?_take_of_lt hmod, List.getElem?_drop, hkk, List.getElem?_eq_getElem hk, hkv]
      exact List.mem_of_getElem? this
  unfold listOf at h
  split at h
  · rename_i t' xs
    split at h
    case isFalse => cases h
    rename_i e
    subst e
    cases h
    simp only [vrel] at hx
    generalize hl : [xv] = l0 at hx
    cases hx with
    | nil => cases hl; exact empty _ _ rfl rfl
    | slice h1 h2 h3 h4 h5 h6 => cases hl; exact cells _ _ _ _ _ _ h2 h3 h5 rfl h6
  · cases h; simp only [vrel] at hx; exact empty _ _ rfl hx
  · cases h; simp only [vrel] at hx; obtain ⟨a, hx⟩ := hx; exact empty _ _ rfl hx
  · rename_i hh ver
    split at h
    case h_2 => cases h
    rename_i ver' rw' t' xs hH
    split at h
    case isFalse => cases h
    rename_i e
    subst e
    split at h
    case isFalse => cases h
    rename_i e2
    subst e2
    cases h
    rcases osl_row hE hH hx with ⟨_, h3, a, rfl⟩ | ⟨b, cap, c, T, fr, h3, rfl, h5, h6, hcap, h7, h8, h9, h10, h11, h12⟩
    · exact empty _ _ h3 rfl
    · exact cells b 0 cap c T fr h5 (by rw [Nat.zero_add]; exact h10) h11 rfl (fun i hi => by rw [Nat.zero_add]; exact h12 i hi)
  · cases h

theorem growBy_le (newLen : Nat) : ∀ (rounds c : Nat), Builtin.growBy newLen rounds c ≤ max c (newLen + (newLen + 768) / 4)
  | 0, c => by simp [Builtin.growBy]; omega
  | r + 1, c => by
    unfold Builtin.growBy
    split
    · omega
    · have := growBy_le newLen r (c + (c + 768) / 4)
      omega

theorem nextcap_le {need old : Nat} (h : old < need) : Builtin.nextslicecap need old ≤ 2 * need + 1000 := by
  unfold Builtin.nextslicecap
  split
  · omega
  · split
    · omega
    · have := growBy_le need 4 old
      omega

theorem nextcap_room {need old bytes : Nat} (h : old < need) (hb : bytes ≤ 1000) (hn : need * bytes ≤ 70368744177664) : ¬ (Builtin.nextslicecap need old * bytes > 2 ^ 48) := by
  have h1 := Nat.mul_le_mul_right bytes (nextcap_le h)
  have h2 : (2 * need + 1000) * bytes = 2 * (need * bytes) + 1000 * bytes := by rw [Nat.add_mul, Nat.mul_assoc]
  omega

theorem zeroCells_len (z : Array Value) (n : Nat) : (Builtin.zeroCells z n).size = n * z.size := by simp [Builtin.zeroCells]

/-- the run of append where the old slice has no room -/
theorem run_append_grows {B : Base} {E : Env} (_ : HRel B E) {tS tX : TypeId} {tdS tdX te : TD} (hS : TDok P tS tdS) (hX : TDok P tX tdX) {e eX : TypeId} (hk : tdS.kind = .slice e) (hkX : tdX.kind = .slice eX) (hte : TDok P e te)
    {t : Ty} (hsz : te.size = sz t) (hzl : te.zero.length = te.size) (hb0 : 0 < te.bytes) (hb1 : te.bytes ≤ 1000) {ys : List (Den t)} {xv : Value} {a : Option Addr} {cap : Nat} {l : List Value} (src : Src P E t ys xv a cap l)
    (base : Option Addr) (sLen sCap : Nat) (old : List Value) (hold : old.length = sLen * sz t) (hrun : ∀ (w : World), w.heap = E.w.heap → (Builtin.firstCells (sz t) sLen (.slice base sLen sCap)).run P w = .ok old.toArray w)
    (hroom : sCap < sLen + ys.length) (hn : (sLen + ys.length) * te.bytes ≤ 70368744177664) (ty : TypeId) :
    ∃ nc c, sLen + ys.length ≤ nc ∧ c.size = nc * sz t ∧ c.toList.take ((sLen + ys.length) * sz t) = old ++ l ∧
      (Builtin.append_ #[tS, tX] ty #[.slice base sLen sCap, xv]).run P E.w = .ok (.slice (some ⟨E.w.heap.size, 0, none⟩) (sLen + ys.length) nc) { E.w.drew with heap := E.w.heap.push (.cells c e (0, 0)) } := by
  have hkS := hS.kind
  rw [hk] at hkS
  simp only [kindOK] at hkS
  have hkX' := hX.kind
  rw [hkX] at hkX'
  simp only [kindOK] at hkX'
  obtain ⟨z, hz, hzz⟩ := hte.zeroValue E.w.drew
  have hzr : vrels E te.zero z.cells.toList := zeqs_vrels hzz
  have hzs : z.cells.size = sz t := by have := vrels_len hzr; simp at this; omega
  obtain ⟨hbb, hbb2⟩ := hte.bytes E.w
  have hq : (Question.appendCap (sLen + ys.length) sCap e).forced = false := rfl
  let nc := (Question.appendCap (sLen + ys.length) sCap e).cut (E.w.tape E.w.drawn (.appendCap (sLen + ys.length) sCap e))
  have hnc : sLen + ys.length ≤ nc := Nat.le_add_right _ _
  have h1 := nextcap_room hroom hb1 hn
  have hmax : ¬ (((sLen + ys.length : Nat) : Int) > IntKind.i64.max ∧ (false = true ∨ te.bytes = 0)) := by
    rintro ⟨_, h2⟩
    rcases h2 with h2 | h2
    · cases h2
    · omega
  refine ⟨nc, old.toArray ++ l.toArray ++ Builtin.zeroCells z.cells (nc - (sLen + ys.length)), hnc, ?_, ?_, ?_⟩
  · simp only [Array.size_append, zeroCells_len, List.size_toArray, hold, src.len, hzs]
    rw [← Nat.add_mul, ← Nat.add_mul]
    congr 1
    omega
  · simp only [Array.toList_append]
    rw [List.take_append_of_le_length (by simp [hold, src.len, Nat.add_mul]), List.take_of_length_le (by simp [hold, src.len, Nat.add_mul])]
  · have hfx := src.run E.w.drew rfl
    have hfo := hrun E.w.drew rfl
    rw [src.val] at hfx ⊢
    have hne : ¬ (false = true) := by decide
    have hnn : (!false) = true := rfl
    have hb2 : ∀ w, (typeInfo e).run P w = .ok ((P.info? e).getD default) w := fun w => (hte.bytes w).1
    simp only [Builtin.append_, List.getElem?_toArray, List.getElem?_cons_zero, List.getElem?_cons_succ, Sem.run_bind, run_underlying hkS, Result.andThen_ok, hte.sizeOf, hsz, run_underlying hkX', Sem.run_pure, Builtin.lenOf, if_neg hne]
    rw [if_neg (by omega : ¬ sLen + ys.length ≤ sCap)]
    simp only [Sem.run_bind, hb2, hbb2, Result.andThen_ok, if_neg hmax, if_neg h1]
    simp only [run_choose, hq, if_neg hne, Result.andThen_ok, run_askRoom]
    simp only [World.drew] at hfo hfx hz ⊢
    simp only [hfo, hfx, hz, hnn, if_true, Result.andThen_ok, newRow, Sem.run_bind, run_newObj, Sem.run_pure]
    rfl

/-- the run of append where there is room -/
theorem run_append_fits {E : Env} {tS tX : TypeId} {tdS tdX te : TD} (hS : TDok P tS tdS) (hX : TDok P tX tdX) {e eX : TypeId} (hk : tdS.kind = .slice e) (hkX : tdX.kind = .slice eX) (hte : TDok P e te)
    {t : Ty} (hsz : te.size = sz t) {ys : List (Den t)} {xv : Value} {a : Option Addr} {cap : Nat} {l : List Value} (src : Src P E t ys xv a cap l)
    (base : Option Addr) (sLen sCap : Nat) (hroom : sLen + ys.length ≤ sCap) (ty : TypeId) (w' : World) (hst : ∀ a', base = some a' → (storeCells (a'.add (sLen * sz t)) l).run P E.w = .ok () w') (hno : base = none → w' = E.w) :
    (Builtin.append_ #[tS, tX] ty #[.slice base sLen sCap, xv]).run P E.w = .ok (.slice base (sLen + ys.length) sCap) w' := by
  have hkS := hS.kind
  rw [hk] at hkS
  simp only [kindOK] at hkS
  have hkX' := hX.kind
  rw [hkX] at hkX'
  simp only [kindOK] at hkX'
  have hfx := src.run E.w rfl
  rw [src.val] at hfx ⊢
  have hne : ¬ (false = true) := by decide
  have hnn : (!false) = true := rfl
  simp only [Builtin.append_, List.getElem?_toArray, List.getElem?_cons_zero, List.getElem?_cons_succ, Sem.run_bind, run_underlying hkS, Result.andThen_ok, hte.sizeOf, hsz, run_underlying hkX', Sem.run_pure, Builtin.lenOf, if_neg hne]
  rw [if_pos hroom]
  simp only [Sem.run_bind, hnn, if_true, hfx, Result.andThen_ok]
  cases base with
  | none => rw [hno rfl]; rfl
  | some a' => simp only [Sem.run_bind, hst a' rfl, Result.andThen_ok, Sem.run_pure]

/-- a row gets a new block -/
theorem put_row {B : Base} {E : Env} (hE : HRel B E) (m : Nat) (hm : ¬ E.U m) (h0 : Nat) (hh : E.U h0 ∨ h0 = m) (t : Ty) (xs : List (Den t)) (c : Array Value) (T : TypeId) (cap : Nat) (hcap : c.size = cap * sz t) (hlc : xs.length ≤ cap) (hl : xs.length ≤ lenB)
    (hx : ∀ (i : Nat) (h : i < xs.length), Rd E.S E.w t xs[i] (seg c (i * sz t) (sz t))) :
    ∃ E', Good B E m [(h0, .row m true t xs)] { E.w with heap := E.w.heap.push (.cells c T (0, 0)) } E' ∧ vrel E' (.osl h0 m) (.slice (some ⟨E.w.heap.size, 0, none⟩) xs.length cap) := by
  have hsz : xs.length * sz t ≤ c.size := by rw [hcap]; exact Nat.mul_le_mul_right _ hlc
  have hS : ¬ E.S E.w.heap.size := fun h => Nat.lt_irrefl _ (hE.stab _ h)
  have hget : (E.w.heap.push (.cells c T (0, 0)))[E.w.heap.size]? = some (.cells c T (0, 0)) := by simp
  obtain ⟨R, X⟩ := step1 hE h0 (.row m true t xs) (some E.w.heap.size) { E.w with heap := E.w.heap.push (.cells c T (0, 0)) } (fun n => E.U n ∨ n = m) (fun n h => .inl h) hh
    ⟨rfl, rfl, rfl, by simp, fun b hb' _ => Below.heap_alloc E.w _ b hb'⟩ (fun b e => by cases e; exact .inl ⟨Nat.le_refl _, by simp⟩) (fun b e => by cases e; exact hS)
    (fun _ e _ => by cases e) (fun _ _ _ _ e _ h => by cases e; exact absurd h hm)
    (fun X => ⟨.inr rfl, .inr ⟨_, c, T, (0, 0), upd_same _ _ _, hget, (fun i _ h => by simp at h), (fun _ => hS), (fun e => by cases e), hsz, hl, fun i hi => (hx i hi).ext X.s X.keepS⟩⟩)
  refine ⟨_, ⟨R, X, rfl, (hset_one _ _ _).symm, fun n h => ?_⟩, ?_⟩
  · rcases h with h | h
    · exact .inl h
    · exact .inr ⟨by omega, by unfold KN; omega⟩
  · simp only [vrel]
    refine ⟨hh, .inr trivial, ⟨_, _, _, rfl⟩, fun rw t' xs' hH => .inr ⟨_, cap, c, T, (0, 0), upd_same _ _ _, ?_⟩⟩
    simp only [upd_same, Option.some.injEq] at hH
    cases hH
    exact ⟨rfl, hget, hcap, hlc⟩

/-- a row stays without a block -/
theorem put_nil {B : Base} {E : Env} (hE : HRel B E) (m : Nat) (hm : ¬ E.U m) (h0 : Nat) (hh : E.U h0 ∨ h0 = m) (t : Ty) (a : Option Addr) :
    ∃ E', Good B E m [(h0, .row m true t [])] E.w E' ∧ vrel E' (.osl h0 m) (.slice a 0 0) := by
  obtain ⟨R, X⟩ := step1 hE h0 (.row m true t []) none E.w (fun n => E.U n ∨ n = m) (fun n h => .inl h) hh
    ((Keeps.refl E.w _)) (fun b e => by cases e) (fun b e => by cases e) (fun _ e _ => by cases e) (fun _ _ _ _ e _ h => by cases e; exact absurd h hm)
    (fun X => ⟨.inr rfl, .inl ⟨upd_same _ _ _, rfl⟩⟩)
  refine ⟨_, ⟨R, X, rfl, (hset_one _ _ _).symm, fun n h => ?_⟩, ?_⟩
  · rcases h with h | h
    · exact .inl h
    · exact .inr ⟨by omega, by unfold KN; omega⟩
  · simp only [vrel]
    exact ⟨hh, .inr trivial, ⟨_, _, _, rfl⟩, fun _ _ _ _ => .inl ⟨upd_same _ _ _, a, rfl⟩⟩

theorem good_world {B : Base} {E : Env} {w1 : World} {m : Nat} {dh : List (Nat × Blk)} {w' : World} {E' : Env} (X : Ext E { E with w := w1 }) (G : Good B { E with w := w1 } m dh w' E') : Good B E m dh w' E' :=
  ⟨G.rel, X.trans G.ext, G.w, G.h, G.u⟩

theorem append_rd {t : Ty} {S : Nat → Prop} {w : World} {xs ys : List (Den t)} {l0 : List Value} (h0 : l0.length = xs.length * sz t) {l : List Value} (hx : ∀ (i : Nat) (h : i < xs.length), Rd S w t xs[i] ((l0.drop (i * sz t)).take (sz t)))
    (hy : ∀ (i : Nat) (h : i < ys.length), Rd S w t ys[i] ((l.drop (i * sz t)).take (sz t))) (i : Nat) (h : i < (xs ++ ys).length) : Rd S w t (xs ++ ys)[i] (((l0 ++ l).drop (i * sz t)).take (sz t)) := by
  by_cases hi : i < xs.length
  · rw [List.getElem_append_left hi]
    have hm : (i + 1) * sz t ≤ xs.length * sz t := Nat.mul_le_mul_right _ hi
    rw [Nat.add_mul] at hm
    rw [List.drop_append_of_le_length (by omega), List.take_append_of_le_length (by simp; omega)]
    exact hx i hi
  · have hi' : i - xs.length < ys.length := by simp at h; omega
    rw [List.getElem_append_right (by omega)]
    obtain ⟨d, rfl⟩ : ∃ d, i = xs.length + d := ⟨i - xs.length, by omega⟩
    have e : ((l0 ++ l).drop ((xs.length + d) * sz t)) = l.drop (d * sz t) := by
      rw [Nat.add_mul, ← h0, List.drop_append, List.drop_eq_nil_of_le (by omega)]
      simp
    rw [e]
    have := hy d (by omega)
    simpa using this

theorem evAppend_sound {B : Base} {E : Env} (hE : HRel B E) {tb : Tbl} (hT : TblOK P tb) {tS tX : TypeId} {tdS tdX : TD} (hS : TDok P tS tdS) (hX : TDok P tX tdX) {eX : TypeId} (hkX : tdX.kind = .slice eX) (m : Nat) (hm : ¬ E.U m) {s x : V} {sv xv : Value}
    (hs : vrel E s sv) (hx : vrel E x xv) (ty : TypeId) {ps : List Prop} {v : V} {dh : List (Nat × Blk)} (h : evAppend tb tdS E.H m s x = .val ps v dh) (hps : ∀ p ∈ ps, p) :
    ∃ v' w' E', (Builtin.append_ #[tS, tX] ty #[sv, xv]).run P E.w = .ok v' w' ∧ Good B E m dh w' E' ∧ vrel E' v v' := by
  unfold evAppend at h
  split at h
  case h_2 => cases h
  rename_i e hk
  split at h
  case h_2 => cases h
  rename_i te hte0
  have hte := hT _ _ hte0
  split at h
  case h_2 => cases h
  rename_i t ht
  split at h
  case isFalse => cases h
  rename_i hc
  obtain ⟨c1, c2, c3, c4⟩ := hc
  split at h
  case h_2 => cases h
  rename_i ys hys
  obtain ⟨a, cap, l, src⟩ := listOf_sound (P := P) hE hx hys
  obtain ⟨R0, X0⟩ := step0 hE E.w.drew rfl rfl rfl rfl
  have hsmall : ∀ n, n * te.bytes ≤ 70368744177664 → n ≤ lenB := fun n hn => by
    have : n * 1 ≤ n * te.bytes := Nat.mul_le_mul_left _ c2
    unfold lenB
    omega
  -- onto a slice without cells
  have onto : ∀ (h0 : Nat) (hh : E.U h0 ∨ h0 = m) (base : Option Addr), ys.length * te.bytes ≤ 70368744177664 → sv = .slice base 0 0 →
      ∃ v' w' E', (Builtin.append_ #[tS, tX] ty #[sv, xv]).run P E.w = .ok v' w' ∧ Good B E m [(h0, .row m true t ys)] w' E' ∧ vrel E' (.osl h0 m) v' := fun h0 hh base hp esv => by
    subst esv
    rcases Nat.eq_zero_or_pos ys.length with hz | hz
    · have hy0 : ys = [] := List.eq_nil_of_length_eq_zero hz
      have hl0 : l = [] := List.eq_nil_of_length_eq_zero (by rw [src.len, hz, Nat.zero_mul])
      obtain ⟨E', G, hv⟩ := put_nil hE m hm h0 hh t base
      have hrun := run_append_fits hS hX hk hkX hte c1 src base 0 0 (by omega) ty E.w (fun a' _ => by rw [hl0]; rfl) (fun _ => rfl)
      rw [hz] at hrun
      subst hy0
      exact ⟨_, _, E', hrun, G, hv⟩
    · have hold : ∀ (w : World), w.heap = E.w.heap → (Builtin.firstCells (sz t) 0 (.slice base 0 0)).run P w = .ok ([] : List Value).toArray w := fun w _ => by
        cases base with
        | none => simp [Builtin.firstCells]
        | some a => simpa [Builtin.firstCells] using run_loadCells_list (P := P) w a [] (fun j v hj => by simp at hj)
      obtain ⟨nc, c, g1, g2, g3, g4⟩ := run_append_grows hE hS hX hk hkX hte c1 c4 c2 c3 src base 0 0 [] (by simp) hold (by omega) (by rw [Nat.zero_add]; exact hp) ty
      simp only [Nat.zero_add, List.nil_append] at g1 g3 g4
      have hrd : ∀ (i : Nat) (h : i < ys.length), Rd E.S E.w.drew t ys[i] (seg c (i * sz t) (sz t)) := fun i hi => by
        have h1 := src.rd i hi
        rw [← g3] at h1
        have hm : (i + 1) * sz t ≤ ys.length * sz t := Nat.mul_le_mul_right _ hi
        rw [Nat.add_mul] at hm
        have e : ((c.toList.take (ys.length * sz t)).drop (i * sz t)).take (sz t) = seg c (i * sz t) (sz t) := by
          simp only [seg, List.drop_take, List.take_take]
          congr 1
          omega
        rw [e] at h1
        exact h1.ext X0.s X0.keepS
      obtain ⟨E', G, hv⟩ := put_row R0 m hm h0 hh t ys c e nc g2 g1 (hsmall _ hp) hrd
      exact ⟨_, _, E', g4, good_world X0 G, hv⟩
  split at h
  · cases h
    simp only [vrel] at hs
    exact onto m (.inr rfl) none (hps _ (List.mem_singleton.2 rfl)) hs
  · cases h
    simp only [vrel] at hs
    obtain ⟨b0, hs⟩ := hs
    exact onto m (.inr rfl) b0 (hps _ (List.mem_singleton.2 rfl)) hs
  · rename_i hh ver
    split at h
    case h_2 => cases h
    rename_i ver' t' xs hH
    split at h
    case isFalse => cases h
    rename_i e1
    subst e1
    split at h
    case isFalse => cases h
    rename_i e2
    subst e2
    cases h
    have hp := hps _ (List.mem_singleton.2 rfl)
    have hU := hE.used _ _ hH
    rcases osl_row hE hH hs with ⟨h2, h3, b0, h4⟩ | ⟨b, cap', c, T, fr, h3, h4, h5, h6, hcap, h7, h8, h9, h10, h11, h12⟩
    · subst h3
      have := onto hh (.inl hU) b0 (by simpa using hp) h4
      simpa using this
    · by_cases hroom : xs.length + ys.length ≤ cap'
      · -- there is room
        have hbd : xs.length * sz t' + l.length ≤ c.size := by
          rw [src.len, h6, ← Nat.add_mul]
          exact Nat.mul_le_mul_right _ hroom
        obtain ⟨c', g1, g2⟩ := setCells_heap b l (xs.length * sz t') E.w c h5 hbd
        have hcs : c'.size = c.size := by
          have := congrArg List.length g2
          simp at this
          omega
        have hrun := run_append_fits hS hX hk hkX hte c1 src (some ⟨b, 0, none⟩) xs.length cap' hroom ty (E.w.setCells b (xs.length * sz t') l) (fun a' ea => by
          cases ea
          have := run_storeCells_cells (P := P) b (xs.length * sz t') l 0 E.w (fun j hj => by rw [cell_of h5]; simp; omega) (fun j hj => frozen_of h5 h7 (by omega)) src.one
          rw [addr_add]
          simpa using this) (fun en => by cases en)
        obtain ⟨R, X⟩ := step1 hE hh (.row m true t' (xs ++ ys)) (some b) (E.w.setCells b (xs.length * sz t') l) (fun n => E.U n ∨ n = m) (fun n h => .inl h) (.inl hU)
          (setCells_keeps b (fun b1 => some b = some b1) rfl _ _ _) (fun b1 e => by cases e; exact .inr ⟨h3, _, hH, rfl⟩) (fun b1 e => by cases e; exact h8 rfl)
          (fun _ e _ => by cases e) (fun _ _ _ _ e _ h => by cases e; exact absurd h hm)
          (fun X => ⟨.inr rfl, .inr ⟨b, c', T, fr, upd_same _ _ _, g1, nofrz_size h7 hcs, fun _ => h8 rfl, (fun e => by cases e), by
            rw [hcs, h6, List.length_append]; exact Nat.mul_le_mul_right _ hroom, by rw [List.length_append]; exact hsmall _ hp, fun i hi => by
              have key : Rd E.S E.w t' (xs ++ ys)[i] ((((c.toList.take (xs.length * sz t')) ++ l).drop (i * sz t')).take (sz t')) := by
                refine append_rd (by simp; omega) (fun j hj => ?_) src.rd i hi
                have h1 := h12 j hj
                have hm : (j + 1) * sz t' ≤ xs.length * sz t' := Nat.mul_le_mul_right _ hj
                rw [Nat.add_mul] at hm
                have e : ((c.toList.take (xs.length * sz t')).drop (j * sz t')).take (sz t') = seg c (j * sz t') (sz t') := by
                  simp only [seg, List.drop_take, List.take_take]
                  congr 1
                  omega
                rw [e]; exact h1
              have hi2 : (i + 1) * sz t' ≤ (xs.length + ys.length) * sz t' := Nat.mul_le_mul_right _ (by rw [List.length_append] at hi; exact hi)
              rw [Nat.add_mul, Nat.add_mul] at hi2
              have e : seg c' (i * sz t') (sz t') = (((c.toList.take (xs.length * sz t')) ++ l).drop (i * sz t')).take (sz t') := by
                unfold seg
                rw [g2]
                have hlen : (c.toList.take (xs.length * sz t') ++ l).length = (xs.length + ys.length) * sz t' := by
                  simp [src.len, Nat.add_mul]; omega
                rw [List.drop_append_of_le_length (by rw [hlen, Nat.add_mul]; omega), List.take_append_of_le_length (by rw [List.length_drop, hlen, Nat.add_mul]; omega)]
              show Rd E.S (E.w.setCells b (xs.length * sz t') l) t' (xs ++ ys)[i] (seg c' (i * sz t') (sz t'))
              rw [e]
              exact key.ext X.s X.keepS⟩⟩)
        refine ⟨_, _, _, by rw [h4]; exact hrun, ⟨R, X, rfl, (hset_one _ _ _).symm, fun n h => ?_⟩, ?_⟩
        · rcases h with h | h
          · exact .inl h
          · exact .inr ⟨by omega, by unfold KN; omega⟩
        · simp only [vrel]
          refine ⟨.inl hU, .inr trivial, ⟨_, _, _, rfl⟩, fun rw t2 xs2 hH2 => .inr ⟨b, cap', c', T, fr, upd_same _ _ _, ?_⟩⟩
          simp only [upd_same, Option.some.injEq] at hH2
          cases hH2
          exact ⟨by rw [List.length_append], g1, by rw [hcs]; exact h6, by rw [List.length_append]; exact hroom⟩
      · -- there is none
        have hl0 : (seg c 0 (xs.length * sz t')).length = xs.length * sz t' := seg_len _ _ _ (by omega)
        obtain ⟨nc, c', g1, g2, g3, g4⟩ := run_append_grows hE hS hX hk hkX hte c1 c4 c2 c3 src (some ⟨b, 0, none⟩) xs.length cap' (seg c 0 (xs.length * sz t')) hl0 (fun w hw => by
          have hbw : w.heap[b]? = some (.cells c T fr) := by rw [hw]; exact h5
          have := run_loadCells_list (P := P) w ⟨b, 0, none⟩ (seg c 0 (xs.length * sz t')) (fun j v hj => by
            rw [addr_add, cell_of hbw]
            rw [seg_get] at hj
            split at hj
            · exact hj
            · cases hj)
          rw [hl0] at this
          simpa [Builtin.firstCells] using this) (by omega) hp ty
        have hrd : ∀ (i : Nat) (h : i < (xs ++ ys).length), Rd E.S E.w.drew t' (xs ++ ys)[i] (seg c' (i * sz t') (sz t')) := fun i hi => by
          have key : Rd E.S E.w t' (xs ++ ys)[i] (((seg c 0 (xs.length * sz t') ++ l).drop (i * sz t')).take (sz t')) := by
            refine append_rd hl0 (fun j hj => ?_) src.rd i hi
            have h1 := h12 j hj
            have hm : (j + 1) * sz t' ≤ xs.length * sz t' := Nat.mul_le_mul_right _ hj
            rw [Nat.add_mul] at hm
            have e : ((seg c 0 (xs.length * sz t')).drop (j * sz t')).take (sz t') = seg c (j * sz t') (sz t') := by
              simp only [seg, List.drop_zero, List.drop_take, List.take_take]
              congr 1
              omega
            rw [e]; exact h1
          rw [← g3] at key
          have hi2 : (i + 1) * sz t' ≤ (xs.length + ys.length) * sz t' := Nat.mul_le_mul_right _ (by rw [List.length_append] at hi; exact hi)
          rw [Nat.add_mul] at hi2
          have e : ((c'.toList.take ((xs.length + ys.length) * sz t')).drop (i * sz t')).take (sz t') = seg c' (i * sz t') (sz t') := by
            simp only [seg, List.drop_take, List.take_take]
            congr 1
            omega
          rw [e] at key
          exact key.ext X0.s X0.keepS
        obtain ⟨E', G, hv⟩ := put_row R0 m hm hh (.inl hU) t' (xs ++ ys) c' e nc g2 (by rw [List.length_append]; exact g1) (by rw [List.length_append]; exact hsmall _ hp) hrd
        refine ⟨_, _, E', by rw [h4]; exact g4, good_world X0 G, ?_⟩
        rw [List.length_append] at hv
        exact hv
  · cases h

end Go.Mir
