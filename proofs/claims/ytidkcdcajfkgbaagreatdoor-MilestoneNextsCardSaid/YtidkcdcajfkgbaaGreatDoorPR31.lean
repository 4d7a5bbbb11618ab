/- Texts of the mirror and contracts, put together. -/
import Derived.Test.YtidkcdcajfkgbaaGreatDoorPR30
import Derived.DeepKeys3
import Derived.MapKept

/- The mirror, part 10: arithmetic, literals. -/
namespace Go.Mir
open Go.RowKit

variable {P : Program}

theorem vint {E : Env} {k : IntKind} {n : Int} (h : ok k n) : vrel E (.int k n) (.int k n) := by simp [vrel, h]
theorem vbool {E : Env} (b : Bool) : vrel E (.bool b) (.bool b) := by simp [vrel]
theorem vkb {E : Env} (b : Bool) : vrel E (.kb b) (.bool b) := by simp [vrel]
theorem vstr {E : Env} {s : ByteArray} (h : s.size ≤ lenB) : vrel E (.str s) (.string s) := by simp [vrel, h]

theorem run_eqIn_bool {t : TypeId} (h : P.underlying t = some .bool) (d : Nat) (a b : Bool) (w : World) : (Op.equalIn (d + 1) t (.bool a) (.bool b)).run P w = .ok (a == b) w := by
  simp [Op.equalIn, run_underlying h]

theorem run_eq_bool {t : TypeId} (h : P.underlying t = some .bool) (a b : Bool) (w : World) : (Op.equal t (.bool a) (.bool b)).run P w = .ok (a == b) w := run_eqIn_bool h 9999 a b w

theorem ok_u8 (b : UInt8) : ok .u8 (b.toNat : Int) := by
  have := b.toNat_lt
  unfold ok IntKind.min IntKind.max
  simp [IntKind.bits, IntKind.signed]
  omega

theorem eqGuard_plain (op : BinOp) (t : TypeId) (x y : Operand) (a b : Value) (w : World) (ha : ∀ l, a ≠ .agg l) (hn : a ≠ .nilIface) : (eqGuard op t x y a b).run P w = .ok () w := by
  unfold eqGuard
  cases op <;> simp <;> (cases a <;> simp_all)

theorem eks_cons {v : V} {vs : List V} {ks : List EK} (h : eks (v :: vs) = some ks) : ∃ k r, ekV v = some k ∧ eks vs = some r ∧ ks = k :: r := by
  simp only [eks] at h
  split at h
  case h_2 => cases h
  rename_i k r h1 h2
  cases h
  exact ⟨k, r, h1, h2, rfl⟩

/-- a plain cell, its kind and its literal -/
theorem plain_cell {E : Env} {x : V} {v : Value} {k : EK} (hk : ekV x = some k) (h : vrel E x v) :
    (∃ q n, x = .int q n ∧ k = .int q ∧ v = .int q n ∧ ok q n) ∨ (∃ b, asB x = some b ∧ k = .bool ∧ v = .bool b ∧ (∀ q n, x ≠ .int q n) ∧ ∀ s, x ≠ .str s) ∨ ∃ s, x = .str s ∧ k = .str ∧ v = .string s ∧ s.size ≤ lenB := by
  cases x <;> simp only [ekV, reduceCtorEq, Option.some.injEq] at hk <;> subst hk <;> simp only [vrel] at h
  · exact .inl ⟨_, _, rfl, rfl, h.1, h.2⟩
  · exact .inr (.inl ⟨_, rfl, rfl, h, by simp, by simp⟩)
  · exact .inr (.inl ⟨_, rfl, rfl, h, by simp, by simp⟩)
  · exact .inr (.inr ⟨_, rfl, rfl, h.1, h.2⟩)

theorem fit_of {E : Env} : ∀ (xs : List V) (vs : List Value) (ks : List EK), eks xs = some ks → vrels E xs vs → fitL ks vs
  | [], [], ks, h, _ => by simp only [eks, Option.some.injEq] at h; subst h; trivial
  | [], _ :: _, _, _, h => by simp [vrels] at h
  | _ :: _, [], _, _, h => by simp [vrels] at h
  | x :: xs, v :: vs, ks, h, hv => by
    obtain ⟨k, r, h1, h2, rfl⟩ := eks_cons h
    simp only [vrels] at hv
    have ih := fit_of xs vs r h2 hv.2
    rcases plain_cell h1 hv.1 with ⟨q, n, rfl, rfl, rfl, h3⟩ | ⟨b, _, rfl, rfl, _, _⟩ | ⟨s, rfl, rfl, rfl, h3⟩
    · exact ⟨rfl, by simp only [Lit.wf, Bool.and_eq_true, decide_eq_true_eq]; exact h3, ih⟩
    · exact ih
    · exact ⟨Nat.le_trans h3 (by decide), ih⟩

theorem bytes_eq_iff {a b : ByteArray} : (a.toList == b.toList) = true ↔ a.data.toList = b.data.toList := by
  rw [beq_iff_eq, ByteArray.toList_eq, ByteArray.toList_eq]

theorem eqCs_iff {E : Env} : ∀ (xs ys : List V) (vs us : List Value) (ks : List EK), eks xs = some ks → eks ys = some ks → vrels E xs vs → vrels E ys us → (eqCs xs ys = true ↔ vs.map litV = us.map litV)
  | [], [], [], [], _, _, _, _, _ => by simp [eqCs]
  | [], y :: ys, _, _, ks, h1, h2, _, _ => by
    obtain ⟨k, r, _, _, rfl⟩ := eks_cons h2
    simp [eks] at h1
  | x :: xs, [], _, _, ks, h1, h2, _, _ => by
    obtain ⟨k, r, _, _, rfl⟩ := eks_cons h1
    simp [eks] at h2
  | [], [], _ :: _, _, _, _, _, h, _ => by simp [vrels] at h
  | [], [], _, _ :: _, _, _, _, _, h => by simp [vrels] at h
  | _ :: _, _ :: _, [], _, _, _, _, h, _ => by simp [vrels] at h
  | _ :: _, _ :: _, _, [], _, _, _, _, h => by simp [vrels] at h
  | x :: xs, y :: ys, v :: vs, u :: us, ks, h1, h2, hv, hu => by
    obtain ⟨k, r, a1, a2, rfl⟩ := eks_cons h1
    obtain ⟨k', r', b1, b2, e⟩ := eks_cons h2
    cases e
    simp only [vrels] at hv hu
    have ih := eqCs_iff xs ys vs us r a2 b2 hv.2 hu.2
    have h0 : eq1 x y = true ↔ litV v = litV u := by
      rcases plain_cell a1 hv.1 with ⟨q, n, rfl, rfl, rfl, h3⟩ | ⟨b, hb, rfl, rfl, hx1, hx2⟩ | ⟨s, rfl, rfl, rfl, h3⟩
      · rcases plain_cell b1 hu.1 with ⟨q', n', rfl, h4, rfl, h5⟩ | ⟨b, _, h4, _, _⟩ | ⟨s, _, h4, _, _⟩
        · cases h4; simp [eq1, litV]
        · cases h4
        · cases h4
      · rcases plain_cell b1 hu.1 with ⟨q', n', rfl, h4, rfl, h5⟩ | ⟨b', hb', h4, rfl, _⟩ | ⟨s, _, h4, _, _⟩
        · cases h4
        · have : eq1 x y = (b == b') := by
            unfold eq1
            split
            · exact absurd rfl (hx1 _ _)
            · exact absurd rfl (hx2 _)
            · rw [hb, hb']
          rw [this]; simp [litV]
        · cases h4
      · rcases plain_cell b1 hu.1 with ⟨q', n', rfl, h4, rfl, h5⟩ | ⟨b', hb', h4, rfl, _⟩ | ⟨s', rfl, h4, rfl, _⟩
        · cases h4
        · cases h4
        · simp only [eq1, bytes_eq_iff, litV, Lit.string.injEq]
    simp only [eqCs, Bool.and_eq_true, List.map_cons, List.cons.injEq, h0, ih]

theorem run_eq_agg {E : Env} {t : TypeId} {td : TD} (ht : TDok P t td) (hp : td.plain = true) {xs ys : List V} {cs ds : Array Value} (hx : vrels E xs cs.toList) (hy : vrels E ys ds.toList)
    (h1 : eks xs = eks td.zero) (h2 : eks ys = eks td.zero) : (Op.equal t (.agg cs) (.agg ds)).run P E.w = .ok (eqCs xs ys) E.w ∧ ∀ (op : BinOp) (xo yo : Operand), (eqGuard op t xo yo (.agg cs) (.agg ds)).run P E.w = .ok () E.w := by
  have hp' := hp
  unfold TD.plain at hp'
  simp only [Bool.and_eq_true] at hp'
  obtain ⟨hagg, hsome⟩ := hp'
  obtain ⟨ks, hks⟩ := Option.isSome_iff_exists.1 hsome
  rw [hks] at h1 h2
  have hB := ht.eqk hp ks hks
  simp only [eqB, Bool.and_eq_true, decide_eq_true_eq, Bool.not_eq_true'] at hB
  obtain ⟨⟨hl, hkt⟩, hg⟩ := hB
  have len : ∀ (zs : List V) (es : Array Value), eks zs = some ks → vrels E zs es.toList → P.keyLits 9 t es.toList = some (es.toList.map litV) ∧ es.size = P.cellsOf t := fun zs es hz hv => by
    obtain ⟨a1, a2, a3⟩ := lin_ok (P := P) 9 t ks [] hl es.toList (fit_of zs _ ks hz hv)
    have h0 : es.toList.drop (P.cellsOf t) = [] := by
      cases hd : es.toList.drop (P.cellsOf t) with
      | nil => rfl
      | cons v l => rw [hd] at a2; simp [fitL] at a2
    have h3 : es.toList.length ≤ P.cellsOf t := List.drop_eq_nil_iff.1 h0
    rw [List.take_of_length_le h3] at a1
    exact ⟨a1, by simp only [Array.length_toList] at h3 a3; omega⟩
  have formed : ∀ es : Array Value, es.size = P.cellsOf t → (Value.agg es).formed P t = true := fun es he => by
    have hkd := ht.kind
    cases hk : td.kind <;> rw [hk] at hagg hkd <;> simp only [TK.agg, Bool.false_eq_true] at hagg <;> simp only [kindOK] at hkd
    · obtain ⟨fs, hu, _⟩ := hkd
      simp [Value.formed, hu, he]
    · simp [Value.formed, hkd, he]
  obtain ⟨c1, c2⟩ := len xs cs h1 hx
  obtain ⟨d1, d2⟩ := len ys ds h2 hy
  obtain ⟨r, hr, hiff⟩ := run_equalIn_deep (P := P) 9991 9 t hkt E.w 9 9 (.agg cs) (.agg ds) _ _ (formed cs c2) (formed ds d2) (by simpa [Value.cells] using c1) (by simpa [Value.cells] using d1)
  have e := eqCs_iff xs ys cs.toList ds.toList ks h1 h2 hx hy
  have hre : r = eqCs xs ys := by
    cases hr2 : r with
    | true => exact (e.2 (hiff.1 hr2)).symm
    | false =>
      cases he : eqCs xs ys with
      | false => rfl
      | true => rw [hiff.2 (e.1 he)] at hr2; cases hr2
  refine ⟨?_, fun op xo yo => ?_⟩
  · rw [← hre]; exact hr
  · unfold eqGuard
    cases op <;> simp [hg]

/-- is a value nil? -/
theorem isNil_sound {E : Env} {t : TypeId} {k : TK} (hk : kindOK P t k) {x y : V} {xv yv : Value} (hx : vrel E x xv) (hy : vrel E y yv) (hc : isNilC k y = true) {v : V} (h : isNil k x = some v) :
    ∃ b : Bool, (Op.equal t xv yv).run P E.w = .ok b E.w ∧ vrel E v (.bool b) ∧ (∀ l, xv ≠ .agg l) ∧ xv ≠ .nilIface ∧ (∀ q n, xv ≠ .int q n) ∧ (∀ s, xv ≠ .string s) ∧ (∀ q n, xv ≠ .float q n) ∧ (∀ q a b, xv ≠ .complex q a b) := by
  have sl : ∀ e, P.underlying t = some (.slice e) → ∀ (a : Option Addr) n c, (Op.equal t (.slice a n c) (.slice none 0 0)).run P E.w = .ok a.isNone E.w := fun e hu a n c => by
    have h : ∀ d : Nat, (Op.equalIn (d + 1) t (.slice a n c) (.slice none 0 0)).run P E.w = .ok a.isNone E.w := fun d => by
      cases a <;> simp [Op.equalIn, run_underlying hu]
    simp [Op.equal, Op.maxDepth, h 9999]
  have pt : ∀ e, P.underlying t = some (.pointer e) → ∀ (a : Option Addr), (Op.equal t (.pointer a) (.pointer none)).run P E.w = .ok a.isNone E.w := fun e hu a => by
    have h : ∀ d : Nat, (Op.equalIn (d + 1) t (.pointer a) (.pointer none)).run P E.w = .ok a.isNone E.w := fun d => by
      cases a <;> simp [Op.equalIn, run_underlying hu]
    simp [Op.equal, Op.maxDepth, h 9999]
  cases k <;> simp only [isNil, reduceCtorEq] at h
  case ptr e =>
    simp only [kindOK] at hk
    cases y <;> simp only [isNilC, Bool.false_eq_true] at hc
    simp only [vrel] at hy
    subst hy
    cases x <;> simp only [reduceCtorEq, Option.some.injEq] at h <;> subst h <;> simp only [vrel] at hx
    · subst hx; exact ⟨true, pt e hk none, by simp [vrel], by simp⟩
    · obtain ⟨_, ⟨a, rfl⟩, _⟩ := hx; exact ⟨false, pt e hk (some a), by simp [vrel], by simp⟩
    · obtain ⟨b, o, c, T, fr, _, _, _, _, _, _, rfl⟩ := hx; exact ⟨false, pt e hk _, by simp [vrel], by simp⟩
    · obtain ⟨_, _, ⟨a, rfl⟩, _⟩ := hx; exact ⟨false, pt e hk (some a), by simp [vrel], by simp⟩
    · obtain ⟨_, _, ⟨a, rfl⟩, _⟩ := hx; exact ⟨false, pt e hk (some a), by simp [vrel], by simp⟩
  case slice e =>
    simp only [kindOK] at hk
    cases y <;> simp only [isNilC, Bool.false_eq_true] at hc
    simp only [vrel] at hy
    subst hy
    cases x <;> simp only [reduceCtorEq, Option.some.injEq] at h <;> subst h <;> simp only [vrel] at hx
    · subst hx; exact ⟨true, sl e hk none 0 0, by simp [vrel], by simp⟩
    · obtain ⟨a, rfl⟩ := hx; exact ⟨a.isNone, sl e hk a 0 0, by simp [vrel], by simp⟩
    · obtain ⟨_, _, ⟨a, l, c, rfl⟩, _⟩ := hx; exact ⟨a.isNone, sl e hk a l c, by simp [vrel], by simp⟩
    · rename_i t' xs
      generalize hl : [xv] = l0 at hx
      cases hx with
      | nil => cases hl; exact ⟨_, sl e hk _ 0 _, by simp [vrel], by simp⟩
      | slice => cases hl; exact ⟨_, sl e hk _ _ _, by simp [vrel], by simp⟩
    · obtain ⟨_, _, ⟨a, l, c, rfl⟩, _⟩ := hx; exact ⟨false, sl e hk (some a) l c, by simp [vrel], by simp⟩
  case map a b =>
    simp only [kindOK] at hk
    cases y <;> simp only [isNilC, Bool.false_eq_true] at hc
    simp only [vrel] at hy
    subst hy
    have mp : ∀ r : Option Nat, (Op.equal t (.map r) (.map none)).run P E.w = .ok r.isNone E.w := fun r => by
      have h : ∀ d : Nat, (Op.equalIn (d + 1) t (.map r) (.map none)).run P E.w = .ok r.isNone E.w := fun d => by
        cases r <;> simp [Op.equalIn, run_underlying hk]
      simp [Op.equal, Op.maxDepth, h 9999]
    cases x <;> simp only [reduceCtorEq, Option.some.injEq] at h <;> subst h <;> simp only [vrel] at hx
    · obtain ⟨_, ⟨r, rfl⟩, _⟩ := hx; exact ⟨false, mp (some r), by simp [vrel], by simp⟩
    · subst hx; exact ⟨true, mp none, by simp [vrel], by simp⟩

theorem noV_sound {E : Env} {v : V} {b : Bool} (h : vrel E v (.bool b)) (hk : ∃ k x, isNil k x = some v) : vrel E (noV v) (.bool (!b)) := by
  obtain ⟨k, x, hk⟩ := hk
  have : (∃ c, v = .kb c) ∨ ∃ q p, v = .hint q p := by
    cases k <;> simp only [isNil, reduceCtorEq] at hk <;> cases x <;> simp only [reduceCtorEq, Option.some.injEq] at hk <;> subst hk <;> simp
  rcases this with ⟨c, rfl⟩ | ⟨q, p, rfl⟩
  · simp only [vrel, noV, Value.bool.injEq] at h ⊢; rw [h]
  · simp only [vrel, noV, Value.bool.injEq] at h ⊢
    obtain ⟨b', rfl, h⟩ := h
    exact ⟨!b, rfl, fun e => h (by cases b <;> cases p <;> simp_all)⟩

theorem evBin_sound {E : Env} {t : TypeId} {td : TD} (ht : TDok P t td) {op : BinOp} {x y : V} {xv yv : Value} (hx : vrel E x xv) (hy : vrel E y yv) (xo yo : Operand) {ps : List Ob} {v : V} {dh : List (Nat × Blk)}
    (h : evBin td op x y = .val ps v dh) (hps : ∀ p ∈ ps, p.holds) : dh = [] ∧ ∃ v', (do eqGuard op t xo yo xv yv; binOp op t xv yv : Sem Value).run P E.w = .ok v' E.w ∧ vrel E v v' := by
  have hkd := ht.kind
  unfold evBin at h
  split at h
  · rename_i k a k' b
    split at h
    case isFalse => cases h
    rename_i e
    subst e
    simp only [vrel] at hx hy
    obtain ⟨rfl, ha⟩ := hx
    obtain ⟨rfl, hb⟩ := hy
    rw [Sem.run_bind, eqGuard_plain _ _ _ _ _ _ _ (by simp) (by simp)]
    simp only [Result.andThen_ok]
    cases op <;> simp only [reduceCtorEq, Res.val.injEq] at h <;> obtain ⟨rfl, rfl, rfl⟩ := h <;> refine ⟨rfl, ?_⟩
    case add => exact ⟨_, by simp [binOp, Op.intArith], vint (wrap_ok _ _)⟩
    case sub => exact ⟨_, by simp [binOp, Op.intArith], vint (wrap_ok _ _)⟩
    case mul => exact ⟨_, by simp [binOp, Op.intArith], vint (wrap_ok _ _)⟩
    case quo =>
      have hp := hps _ (List.mem_singleton.2 rfl)
      simp only [Ob.holds] at hp
      exact ⟨_, by simp [binOp, Op.intDiv, hp], vint (wrap_ok _ _)⟩
    case rem =>
      have hp := hps _ (List.mem_singleton.2 rfl)
      simp only [Ob.holds] at hp
      exact ⟨_, by simp [binOp, Op.intDiv, hp], vint (tmod_ok ha)⟩
    all_goals exact ⟨_, by simp [binOp, Op.intCmp], vbool _⟩
  · rename_i a b
    simp only [vrel] at hx hy
    obtain ⟨rfl, ha⟩ := hx
    obtain ⟨rfl, hb⟩ := hy
    rw [Sem.run_bind, eqGuard_plain _ _ _ _ _ _ _ (by simp) (by simp)]
    simp only [Result.andThen_ok]
    cases op <;> simp only [reduceCtorEq, Res.val.injEq] at h <;> obtain ⟨rfl, rfl, rfl⟩ := h <;> refine ⟨rfl, ?_⟩
    case add =>
      have hp := hps _ (List.mem_singleton.2 rfl)
      simp only [Ob.holds] at hp
      have hmax : ¬ ((9223372036854775807 : Int) < (a.size : Int) + (b.size : Int)) := by
        unfold lenB at hp
        omega
      exact ⟨_, by simp [binOp, Op.stringOp, IntKind.max, IntKind.signed, IntKind.bits, hmax], vstr (by rw [ByteArray.size_append]; exact hp)⟩
    all_goals exact ⟨_, by simp only [binOp, Op.stringOp, Sem.run_pure], vbool _⟩
  · rename_i xs ys
    split at h
    case isFalse => cases h
    rename_i e
    obtain ⟨e1, e2, e3⟩ := e
    simp only [vrel] at hx hy
    obtain ⟨cs, rfl, hx⟩ := hx
    obtain ⟨ds, rfl, hy⟩ := hy
    obtain ⟨hr, hg⟩ := run_eq_agg ht e1 hx hy e2 e3
    rw [Sem.run_bind, hg]
    simp only [Result.andThen_ok]
    cases op <;> simp only [reduceCtorEq, Res.val.injEq] at h <;> obtain ⟨rfl, rfl, rfl⟩ := h <;> refine ⟨rfl, ?_⟩
    all_goals exact ⟨_, by simp [binOp, hr], vbool _⟩
  · split at h
    case h_2 =>
      rename_i k _
      split at h
      case h_2 => cases h
      rename_i v0 hc hn
      obtain ⟨b, hr, hv, g1, g2, g3, g4, g5, g6⟩ := isNil_sound hkd hx hy hc hn
      rw [Sem.run_bind, eqGuard_plain _ _ _ _ _ _ _ g1 g2]
      simp only [Result.andThen_ok]
      cases op <;> simp only [reduceCtorEq, Res.val.injEq] at h <;> obtain ⟨rfl, rfl, rfl⟩ := h <;> refine ⟨rfl, ?_⟩
      · refine ⟨.bool b, ?_, hv⟩
        have : binOp .eql t xv yv = (do pure (.bool (← Op.equal t xv yv)) : Sem Value) := by
          cases xv <;> first | rfl | (exfalso; simp_all; done)
        rw [this]; simp [hr]
      · refine ⟨.bool (!b), ?_, noV_sound hv ⟨_, _, hn⟩⟩
        have : binOp .neq t xv yv = (do pure (.bool (!(← Op.equal t xv yv))) : Sem Value) := by
          cases xv <;> first | rfl | (exfalso; simp_all; done)
        rw [this]; simp [hr]
    rename_i a b h1 h2 hk
    rw [hk] at hkd
    simp only [kindOK] at hkd
    have ex : xv = .bool a := by
      cases x <;> simp only [asB, reduceCtorEq, Option.some.injEq] at h1 <;> subst h1 <;> simpa [vrel] using hx
    have ey : yv = .bool b := by
      cases y <;> simp only [asB, reduceCtorEq, Option.some.injEq] at h2 <;> subst h2 <;> simpa [vrel] using hy
    subst ex; subst ey
    rw [Sem.run_bind, eqGuard_plain _ _ _ _ _ _ _ (by simp) (by simp)]
    simp only [Result.andThen_ok]
    cases op <;> simp only [reduceCtorEq, Res.val.injEq] at h <;> obtain ⟨rfl, rfl, rfl⟩ := h <;> refine ⟨rfl, ?_⟩
    all_goals exact ⟨_, by simp [binOp, run_eq_bool hkd], vbool _⟩

theorem evUn_sound {E : Env} {op : UnOp} {x : V} {xv : Value} (hx : vrel E x xv) {ps : List Ob} {v : V} {dh : List (Nat × Blk)}
    (h : evUn op x = .val ps v dh) : dh = [] ∧ ∃ v', (Op.unary op xv).run P E.w = .ok v' E.w ∧ vrel E v v' := by
  unfold evUn at h
  split at h
  · cases h; simp only [vrel] at hx; subst hx; exact ⟨rfl, _, by simp [Op.unary], vbool _⟩
  · cases h; simp only [vrel] at hx; subst hx; exact ⟨rfl, _, by simp [Op.unary], vkb _⟩
  · rename_i q p
    cases h; simp only [vrel] at hx; obtain ⟨b, rfl, hb⟩ := hx
    exact ⟨rfl, .bool (!b), by simp [Op.unary], by simp only [vrel]; exact ⟨!b, rfl, fun e => hb (by cases b <;> cases p <;> simp_all)⟩⟩
  · cases h; simp only [vrel] at hx; obtain ⟨rfl, _⟩ := hx
    exact ⟨rfl, _, by simp only [Op.unary, Op.intArith, Sem.run_pure], vint (wrap_ok _ _)⟩
  · cases h

theorem evConv_sound {E : Env} {s d : TypeId} {ts td : TD} (hs : TDok P s ts) (hd : TDok P d td) {x : V} {xv : Value} (hx : vrel E x xv) {ps : List Ob} {v : V} {dh : List (Nat × Blk)}
    (h : evConv ts td x = .val ps v dh) : dh = [] ∧ ∃ v', (convert s d xv).run P E.w = .ok v' E.w ∧ vrel E v v' := by
  have hsk := hs.kind
  have hdk := hd.kind
  unfold evConv at h
  split at h
  · rename_i h1 h2
    cases h
    rw [h1] at hsk; rw [h2] at hdk
    simp only [kindOK] at hsk hdk
    simp only [vrel] at hx
    obtain ⟨rfl, _⟩ := hx
    exact ⟨rfl, _, by simp [convert, run_underlying hsk, run_underlying hdk, Conv.intToInt], vint (wrap_ok _ _)⟩
  · rename_i h1 h2
    cases h
    rw [h1] at hsk; rw [h2] at hdk
    simp only [kindOK] at hsk hdk
    simp only [vrel] at hx
    obtain ⟨rfl, hl⟩ := hx
    exact ⟨rfl, _, by simp [convert, run_underlying hsk, run_underlying hdk], vstr hl⟩
  · cases h

theorem evIdxVal_sound {E : Env} {tb : Tbl} (hT : TblOK P tb) {t : TypeId} {td : TD} (ht : TDok P t td) {x i : V} {xv iv : Value} (hx : vrel E x xv) (hi : vrel E i iv) {ps : List Ob} {v : V} {dh : List (Nat × Blk)}
    (h : evIdxVal tb td x i = .val ps v dh) (hps : ∀ p ∈ ps, p.holds) : dh = [] ∧ ∃ v', (Instr.index t xv iv).run P E.w = .ok v' E.w ∧ vrel E v v' := by
  have hk := ht.kind
  unfold evIdxVal at h
  split at h
  · rename_i s k n h1
    cases h
    rw [h1] at hk
    simp only [kindOK] at hk
    simp only [vrel] at hx hi
    obtain ⟨rfl, hs⟩ := hx
    obtain ⟨rfl, _⟩ := hi
    have hp := hps _ (List.mem_singleton.2 rfl)
    simp only [Ob.holds] at hp
    have hlt : n.toNat < s.size := by omega
    have e : s[n.toNat]? = some (s.data.getD n.toNat 0) := by
      rw [getElem?_pos s n.toNat hlt]
      congr 1
      show s.data[n.toNat] = s.data.getD n.toNat 0
      have : n.toNat < s.data.size := hlt
      rw [Array.getD_eq_getD_getElem?, Array.getElem?_eq_getElem this]
      rfl
    refine ⟨rfl, .int .u8 ((s.data.getD n.toNat 0).toNat : Int), ?_, vint (ok_u8 _)⟩
    simp only [Instr.index, asIntOf, Sem.run_bind, Sem.run_pure, Result.andThen_ok, run_underlying hk, hp.1, if_true, e]
  · rename_i len e cs k n h1
    rw [h1] at hk
    simp only [kindOK] at hk
    split at h
    case h_2 => cases h
    rename_i te hte
    split at h
    case h_2 => cases h
    rename_i ps1 v1 dh1 hld
    cases h
    have hp := hps _ (List.mem_singleton.2 rfl)
    simp only [Ob.holds] at hp
    simp only [vrel] at hx hi
    obtain ⟨l, rfl, hl⟩ := hx
    obtain ⟨rfl, _⟩ := hi
    obtain ⟨_, v', hr, hv⟩ := part_sound (hT _ _ hte) hl hld
    refine ⟨rfl, v', ?_, hv⟩
    simp [Instr.index, asIntOf, run_underlying hk, (hT _ _ hte).sizeOf, hp.1, hp.2, hr]
  · cases h

theorem evPick_sound {E : Env} {c a b : V} {cv av bv : Value} (hc : vrel E c cv) (ha : vrel E a av) (hb : vrel E b bv) {ps : List Ob} {v : V} {dh : List (Nat × Blk)}
    (h : evPick c a b = .val ps v dh) : dh = [] ∧ ∃ q, (asBool cv).run P E.w = .ok q E.w ∧ vrel E v (if q then av else bv) := by
  cases c <;> simp only [evPick, reduceCtorEq, Res.val.injEq] at h
  case kb p =>
    obtain ⟨rfl, rfl, rfl⟩ := h
    simp only [vrel] at hc
    subst hc
    refine ⟨rfl, p, by simp [asBool], ?_⟩
    cases p
    · simpa using hb
    · simpa using ha
  case bool p =>
    simp only [vrel] at hc
    subst hc
    split at h
    case h_2 => cases h
    rename_i u hu
    cases h
    refine ⟨rfl, p, by simp [asBool], ?_⟩
    cases a <;> cases b <;> simp only [ite2, reduceCtorEq, Option.some.injEq] at hu
    all_goals first
      | (split at hu
         · rename_i e; subst e; simp only [Option.some.injEq] at hu; subst hu; cases p <;> simp_all [vrel]
         · cases hu)
      | (subst hu; cases p <;> simp_all [vrel])

theorem evFold_min {E : Env} : ∀ {xs : List V} {vs : List Value} {x : V} {xv : Value}, vrel E x xv → vrels E xs vs → ∀ {ps : List Ob} {v : V} {dh : List (Nat × Blk)}, evFold minI x xs = .val ps v dh →
    dh = [] ∧ ∃ v', (vs.foldlM Builtin.min2 xv : Sem Value).run P E.w = .ok v' E.w ∧ vrel E v v'
  | xs, vs, x, xv, hx, hv, ps, v, dh, h => by
    match xs, vs, hv with
    | [], [], _ =>
      unfold evFold at h
      split at h
      · cases h; exact ⟨rfl, xv, by simp, hx⟩
      · contradiction
      · cases h
    | y :: ys, u :: us, hv =>
      simp only [vrels] at hv
      unfold evFold at h
      split at h
      · contradiction
      · rename_i k a k' b r hh
        cases hh
        split at h
        case isFalse => cases h
        rename_i e
        subst e
        simp only [vrel] at hx hv
        obtain ⟨rfl, ha⟩ := hx
        obtain ⟨⟨rfl, hb⟩, hr⟩ := hv
        have hm : vrel E (.int k (minI a b)) (.int k (minI a b)) := by
          simp only [vrel, true_and]; unfold minI; split <;> assumption
        obtain ⟨e, v', h1, h2⟩ := evFold_min hm hr h
        refine ⟨e, v', ?_, h2⟩
        simp only [List.foldlM_cons, Sem.run_bind, Builtin.min2, Sem.run_pure, Result.andThen_ok]
        exact h1
      · cases h

theorem evFold_max {E : Env} : ∀ {xs : List V} {vs : List Value} {x : V} {xv : Value}, vrel E x xv → vrels E xs vs → ∀ {ps : List Ob} {v : V} {dh : List (Nat × Blk)}, evFold maxI x xs = .val ps v dh →
    dh = [] ∧ ∃ v', (vs.foldlM Builtin.max2 xv : Sem Value).run P E.w = .ok v' E.w ∧ vrel E v v'
  | xs, vs, x, xv, hx, hv, ps, v, dh, h => by
    match xs, vs, hv with
    | [], [], _ =>
      unfold evFold at h
      split at h
      · cases h; exact ⟨rfl, xv, by simp, hx⟩
      · contradiction
      · cases h
    | y :: ys, u :: us, hv =>
      simp only [vrels] at hv
      unfold evFold at h
      split at h
      · contradiction
      · rename_i k a k' b r hh
        cases hh
        split at h
        case isFalse => cases h
        rename_i e
        subst e
        simp only [vrel] at hx hv
        obtain ⟨rfl, ha⟩ := hx
        obtain ⟨⟨rfl, hb⟩, hr⟩ := hv
        have hm : vrel E (.int k (maxI a b)) (.int k (maxI a b)) := by
          simp only [vrel, true_and]; unfold maxI; split <;> assumption
        obtain ⟨e, v', h1, h2⟩ := evFold_max hm hr h
        refine ⟨e, v', ?_, h2⟩
        simp only [List.foldlM_cons, Sem.run_bind, Builtin.max2, Sem.run_pure, Result.andThen_ok]
        exact h1
      · cases h

theorem evLen_sound {B : Base} {E : Env} (hE : HRel B E) {t : TypeId} {td : TD} (ht : TDok P t td) {x : V} {xv : Value} (hx : vrel E x xv) (ty : TypeId) {ps : List Ob} {v : V} {dh : List (Nat × Blk)}
    (h : evLen td E.H x = .val ps v dh) : dh = [] ∧ ∃ v', (Builtin.len_ #[t] ty #[xv]).run P E.w = .ok v' E.w ∧ vrel E v v' := by
  have hk := ht.kind
  unfold evLen at h
  split at h
  · rename_i s h1
    cases h
    rw [h1] at hk; simp only [kindOK] at hk
    simp only [vrel] at hx
    obtain ⟨rfl, hs⟩ := hx
    exact ⟨rfl, _, by simp [Builtin.len_, run_underlying hk, goInt], vint (ok_len hs)⟩
  · rename_i e t' xs h1
    cases h
    rw [h1] at hk; simp only [kindOK] at hk
    simp only [vrel] at hx
    generalize hl : [xv] = l at hx
    cases hx with
    | nil => cases hl; exact ⟨rfl, _, by simp [Builtin.len_, run_underlying hk, goInt], vint (ok_len (n := 0) (Nat.zero_le _))⟩
    | slice _ _ _ _ h5 => cases hl; exact ⟨rfl, _, by simp [Builtin.len_, run_underlying hk, goInt], vint (ok_len h5)⟩
  · rename_i e h1
    cases h
    rw [h1] at hk; simp only [kindOK] at hk
    simp only [vrel] at hx
    subst hx
    exact ⟨rfl, _, by simp [Builtin.len_, run_underlying hk, goInt], vint (ok_len (n := 0) (Nat.zero_le _))⟩
  · rename_i e h1
    cases h
    rw [h1] at hk; simp only [kindOK] at hk
    simp only [vrel] at hx
    obtain ⟨a, rfl⟩ := hx
    exact ⟨rfl, _, by simp [Builtin.len_, run_underlying hk, goInt], vint (ok_len (n := 0) (Nat.zero_le _))⟩
  · rename_i e hh ver h1
    rw [h1] at hk; simp only [kindOK] at hk
    split at h
    case h_2 => cases h
    rename_i ver' rw' t' xs hH
    split at h
    case isFalse => cases h
    rename_i e1
    subst e1
    cases h
    rcases osl_row hE hH hx with ⟨_, h3, a, rfl⟩ | ⟨b, cap, c, T, fr, h3, rfl, h5, h6, hcap, h7, h8, h9, h10, h11, h12⟩
    · subst h3; exact ⟨rfl, _, by simp [Builtin.len_, run_underlying hk, goInt], vint (ok_len (n := 0) (Nat.zero_le _))⟩
    · exact ⟨rfl, _, by simp [Builtin.len_, run_underlying hk, goInt], vint (ok_len h11)⟩
  · rename_i n e x' h1
    rw [h1] at hk; simp only [kindOK] at hk
    split at h
    case isFalse => cases h
    rename_i hn
    cases h
    exact ⟨rfl, _, by simp [Builtin.len_, run_underlying hk, goInt], vint (ok_len (by unfold lenB; omega))⟩
  · cases h

end Go.Mir

/- The mirror, part 11: literals of structs and slices, make, append. -/
namespace Go.Mir
open Go.RowKit

variable {P : Program}

theorem zipIdx_fold : ∀ (l : List Value) (k off : Nat) (cells : Array Value), off + k + l.length ≤ cells.size →
    ((l.zipIdx k).foldl (fun cs q => cs.setIfInBounds (off + q.2) q.1) cells).toList = cells.toList.take (off + k) ++ l ++ cells.toList.drop (off + k + l.length)
  | [], k, off, cells, _ => by simp
  | v :: r, k, off, cells, h => by
    have hl : off + k + r.length + 1 ≤ cells.size := by simpa [Nat.add_assoc] using h
    rw [List.zipIdx_cons, List.foldl_cons, zipIdx_fold r (k + 1) off _ (by simp; omega)]
    have ho : off + k < cells.toList.length := by simp; omega
    rw [Array.toList_setIfInBounds, ← Nat.add_assoc, List.take_set, List.take_succ_eq_append_getElem ho, List.drop_set_of_lt (by omega), List.set_append_right _ _ (by simp; omega)]
    simp [Nat.min_eq_left (Nat.le_of_lt (by simpa using ho)), Nat.add_assoc, Nat.add_comm 1]

def prel (E : Env) : List (Nat × V) → List (Nat × Value) → Prop
  | [], [] => True
  | p :: ps, q :: qs => p.1 = q.1 ∧ vrel E p.2 q.2 ∧ prel E ps qs
  | _, _ => False

theorem fill_sound {E : Env} {f : Nat → Option (Nat × Nat)} : ∀ {parts : List (Nat × V)} {pv : List (Nat × Value)} {cs : List V} {cells : Array Value} {cs' : List V}, prel E parts pv → vrels E cs cells.toList → fillV f cs parts = some cs' →
    ∃ cells', Instr.fill f cells pv = some cells' ∧ vrels E cs' cells'.toList
  | [], [], cs, cells, cs', _, h, hf => by
    simp only [fillV, Option.some.injEq] at hf
    subst hf
    exact ⟨cells, rfl, h⟩
  | p :: ps, [], _, _, _, hp, _, _ => by simp [prel] at hp
  | [], q :: qs, _, _, _, hp, _, _ => by simp [prel] at hp
  | (i, v) :: ps, (j, u) :: qs, cs, cells, cs', hp, h, hf => by
    simp only [prel] at hp
    obtain ⟨rfl, hv, hp⟩ := hp
    simp only [fillV] at hf
    split at hf
    case h_2 => cases hf
    rename_i off size hfi
    split at hf
    case h_2 => cases hf
    rename_i xs hxs
    split at hf
    case isFalse => cases hf
    rename_i h1
    split at hf
    case isFalse => cases hf
    rename_i h2
    have hc := cellsOf_sound hv hxs
    have hl := vrels_len hc
    have hlc := vrels_len h
    simp only [Array.length_toList] at hl hlc
    have e := zipIdx_fold u.cells.toList 0 off cells (by simp; omega)
    have hfold : (u.cells.zipIdx.foldl (fun cs q => cs.setIfInBounds (off + q.2) q.1) cells).toList = cells.toList.take off ++ u.cells.toList ++ cells.toList.drop (off + u.cells.toList.length) := by
      rw [← Array.foldl_toList, Array.toList_zipIdx]
      simpa using e
    have hs := vrels_splice h hc off
    rw [← hfold] at hs
    obtain ⟨cells', r1, r2⟩ := fill_sound hp hs hf
    refine ⟨cells', ?_, r2⟩
    unfold Instr.fill
    simp only [hfi]
    rw [if_neg (by simp; omega)]
    exact r1

theorem run_mapM_list {α β : Type} (f : α → Sem β) (g : α → β) (w : World) : ∀ (l : List α), (∀ x ∈ l, (f x).run P w = .ok (g x) w) → (l.mapM f).run P w = .ok (l.map g) w
  | [], _ => by simp
  | x :: l, h => by
    simp [List.mapM_cons, h x (by simp), run_mapM_list f g w l (fun y hy => h y (by simp [hy]))]

theorem run_mapM_array {α β : Type} (f : α → Sem β) (g : α → β) (w : World) (l : Array α) (h : ∀ x ∈ l.toList, (f x).run P w = .ok (g x) w) : (l.mapM f).run P w = .ok (l.map g) w := by
  rw [Array.mapM_eq_mapM_toList, Sem.run_map, run_mapM_list f g w l.toList h]
  simp only [Result.andThen_ok]
  congr 1
  apply Array.ext'
  simp

theorem evBuild_sound {E : Env} {tb : Tbl} (hT : TblOK P tb) {t : TypeId} {td : TD} (ht : TDok P t td) {parts : List (Nat × V)} {pv : Array (Nat × Value)} (hp : prel E parts pv.toList) {ps : List Ob} {v : V} {dh : List (Nat × Blk)}
    (h : evBuild tb td parts = .val ps v dh) : dh = [] ∧ ∃ v', (Instr.build t pv).run P E.w = .ok v' E.w ∧ vrel E v v' := by
  have hk := ht.kind
  obtain ⟨z, hz, hzz⟩ := ht.zeroValue E.w
  have hzr : vrels E td.zero z.cells.toList := zeqs_vrels hzz
  unfold evBuild at h
  split at h
  · rename_i fs h1
    rw [h1] at hk
    obtain ⟨fields, hu, hfs⟩ := hk
    split at h
    case isFalse => cases h
    rename_i hall
    split at h
    case h_2 => cases h
    rename_i cs hcs
    cases h
    have hm := run_mapM_array (P := P) (fun f : Field => do pure (f.offset, ← sizeOf f.type)) (fun f => (f.offset, ((tb f.type).map TD.size).getD 0)) E.w fields (fun f hf => by
      have hmem : (f.offset, f.type) ∈ fs := by rw [← hfs]; exact List.mem_map.2 ⟨f, hf, rfl⟩
      have := List.all_eq_true.1 hall _ hmem
      obtain ⟨tf, htf⟩ := Option.isSome_iff_exists.1 this
      simp only at htf
      simp [(hT _ _ htf).sizeOf, htf])
    have hf : (fun i => (fields.map (fun f => (f.offset, ((tb f.type).map TD.size).getD 0)))[i]?) = fun (i : Nat) => (fs[i]?).map fun (q : Nat × TypeId) => (q.1, ((tb q.2).map TD.size).getD 0) := by
      funext i
      rw [← hfs, List.getElem?_map, Array.getElem?_map, Option.map_map]
      simp only [Array.getElem?_toList]
      rfl
    rw [← hf] at hcs
    obtain ⟨cells', r1, r2⟩ := fill_sound hp hzr hcs
    refine ⟨rfl, .agg cells', ?_, ?_⟩
    · unfold Instr.build
      simp only [Sem.run_bind, hz, Result.andThen_ok, run_underlying hu, hm, Sem.run_pure, r1]
    · simp only [vrel]; exact ⟨_, rfl, r2⟩
  · rename_i n e h1
    rw [h1] at hk
    simp only [kindOK] at hk
    split at h
    case h_2 => cases h
    rename_i te hte
    split at h
    case h_2 => cases h
    rename_i cs hcs
    cases h
    obtain ⟨cells', r1, r2⟩ := fill_sound hp hzr hcs
    refine ⟨rfl, .agg cells', ?_, ?_⟩
    · unfold Instr.build
      simp only [Sem.run_bind, hz, Result.andThen_ok, run_underlying hk, (hT _ _ hte).sizeOf, Sem.run_pure, r1]
    · simp only [vrel]; exact ⟨_, rfl, r2⟩
  · cases h

theorem reps_len (cs : List V) : ∀ n, (reps cs n).length = n * cs.length
  | 0 => by simp [reps]
  | n + 1 => by simp [reps, reps_len cs n, Nat.add_mul, Nat.add_comm]

theorem range_reps (z : Array Value) : ∀ n, ((List.range (n * z.size)).map fun i => z[i % z.size]!) = (List.replicate n z.toList).flatten
  | 0 => by simp
  | n + 1 => by
    rw [List.replicate_succ', List.flatten_append, ← range_reps z n, Nat.add_mul, Nat.one_mul, List.range_add, List.map_append, List.map_map]
    congr 1
    simp only [List.flatten_cons, List.flatten_nil, List.append_nil]
    apply List.ext_getElem
    · simp
    · intro i h1 h2
      have hi : i < z.size := by simpa using h2
      simp only [List.getElem_map, List.getElem_range, Function.comp, Array.getElem_toList]
      have e : (n * z.size + i) % z.size = i := by rw [Nat.mul_comm, Nat.mul_add_mod, Nat.mod_eq_of_lt hi]
      rw [e]
      exact getElem!_pos z i hi

theorem vrels_reps {E : Env} {cs : List V} {l : List Value} (h : vrels E cs l) : ∀ n, vrels E (reps cs n) (List.replicate n l).flatten
  | 0 => by simp [reps, vrels]
  | n + 1 => by
    rw [List.replicate_succ, List.flatten_cons]
    exact vrels_append h (vrels_reps h n)

theorem packs_sound {B : Base} {E : Env} (hE : HRel B E) {t : Ty} : ∀ {n : Nat} {vs : List V} {xs : List (Den t)} {cs : List Value}, packs E.H t n vs = some xs → vrels E vs cs →
    xs.length = n ∧ cs.length = n * sz t ∧ ∀ (i : Nat) (h : i < xs.length), Rd E.S E.w t xs[i] ((cs.drop (i * sz t)).take (sz t))
  | 0, [], xs, cs, h, hv => by
    simp only [packs, Option.some.injEq] at h
    subst h
    cases cs with
    | nil => exact ⟨rfl, by simp, fun i h => by simp at h⟩
    | cons => simp [vrels] at hv
  | 0, _ :: _, xs, cs, h, _ => by simp [packs] at h
  | n + 1, vs, xs, cs, h, hv => by
    simp only [packs] at h
    split at h
    case h_2 => cases h
    rename_i x r h1
    split at h
    case h_2 => cases h
    rename_i ys h2
    cases h
    obtain ⟨c1, c2, rfl, k1, k2⟩ := packF_sound hE _ h1 hv
    obtain ⟨g1, g2, g3⟩ := packs_sound hE h2 k2
    have hl := k1.len
    refine ⟨by simp [g1], by simp [hl, g2, Nat.add_mul, Nat.add_comm], fun i hi => ?_⟩
    cases i with
    | zero => simpa [← hl] using k1
    | succ i =>
      have := g3 i (by simpa using hi)
      have e : ((c1 ++ c2).drop ((i + 1) * sz t)) = c2.drop (i * sz t) := by
        rw [Nat.add_mul, Nat.one_mul, ← hl, List.drop_append, List.drop_eq_nil_of_le (by omega)]
        simp
      rw [e]
      exact this

/-- a fresh row of cells that read as data -/
theorem new_row_list {B : Base} {E : Env} (hE : HRel B E) (m : Nat) (hm : ¬ E.U m) (t : Ty) (xs : List (Den t)) (l : List Value) (T : TypeId) (cap : Nat) (hcap : l.length = cap * sz t) (hlc : xs.length ≤ cap) (hl : xs.length ≤ lenB)
    (hx : ∀ (i : Nat) (h : i < xs.length), Rd E.S E.w t xs[i] ((l.drop (i * sz t)).take (sz t))) (c : Array Value) (hc : c.toList = l) :
    ∃ E', Good B E m [(m, .row m true t xs)] { E.w with heap := E.w.heap.push (.cells c T (0, 0)) } E' ∧ vrel E' (.osl m m) (.slice (some ⟨E.w.heap.size, 0, none⟩) xs.length cap) := by
  subst hc
  exact new_row hE m hm t xs c T cap (by simpa using hcap) hlc hl (fun i h => by simpa [seg] using hx i h)

theorem evBuildSlice_sound {B : Base} {E : Env} (hE : HRel B E) {tb : Tbl} (hT : TblOK P tb) {t : TypeId} {td : TD} (ht : TDok P t td) (m : Nat) (hm : ¬ E.U m) {n : Nat} {parts : List (Nat × V)} {pv : Array (Nat × Value)} (hp : prel E parts pv.toList)
    {ps : List Ob} {v : V} {dh : List (Nat × Blk)} (h : evBuildSlice tb td E.H m n parts = .val ps v dh) : ∃ v' w' E', (Instr.buildSlice t n pv).run P E.w = .ok v' w' ∧ Good B E m dh w' E' ∧ vrel E' v v' := by
  have hk := ht.kind
  unfold evBuildSlice at h
  split at h
  case h_2 => cases h
  rename_i e h1
  rw [h1] at hk
  simp only [kindOK] at hk
  split at h
  case h_2 => cases h
  rename_i te hte
  have hte' := hT _ _ hte
  split at h
  case h_2 => cases h
  rename_i t' ht'
  split at h
  case isFalse => cases h
  rename_i hc
  obtain ⟨c1, c2, c3, c4⟩ := hc
  split at h
  case h_2 => cases h
  rename_i cs hcs
  split at h
  case h_2 => cases h
  rename_i xs hxs
  cases h
  obtain ⟨z, hz, hzz⟩ := hte'.zeroValue E.w
  have hzr : vrels E te.zero z.cells.toList := zeqs_vrels hzz
  have hzl : z.cells.size = te.size := by have := vrels_len hzr; simp at this; omega
  have hsmall : ¬ (n * te.size > 2 ^ 24) := by
    have := Nat.mul_le_mul c2 c3
    omega
  -- the zero cells
  have hzero : ∃ zc : Array Value, ((n * te.size = 0 ∧ zc = #[]) ∨ (n * te.size ≠ 0 ∧ zc = z.cells)) ∧ ((Array.range (n * te.size)).map (zc[· % zc.size]!)).toList = (List.replicate n z.cells.toList).flatten := by
    by_cases h0 : n * te.size = 0
    · refine ⟨#[], .inl ⟨h0, rfl⟩, ?_⟩
      rw [h0]
      rcases Nat.mul_eq_zero.1 h0 with h0 | h0
      · subst h0; simp
      · have : z.cells.toList = [] := List.eq_nil_of_length_eq_zero (by rw [Array.length_toList]; omega)
        rw [this]; simp
    · refine ⟨z.cells, .inr ⟨h0, rfl⟩, ?_⟩
      rw [← hzl, Array.toList_map, Array.toList_range]
      exact range_reps _ _
  obtain ⟨zc, hz1, hz2⟩ := hzero
  have hzv := vrels_reps hzr n
  rw [← hz2] at hzv
  obtain ⟨cells', r1, r2⟩ := fill_sound hp hzv hcs
  obtain ⟨g1, g2, g3⟩ := packs_sound hE hxs r2
  obtain ⟨E', G, hv⟩ := new_row_list hE m hm t' xs cells'.toList e n g2 (by omega) (by rw [g1]; unfold lenB; omega) g3 cells' rfl
  refine ⟨_, _, E', ?_, G, hv⟩
  rw [g1]
  unfold Instr.buildSlice
  simp only [Sem.run_bind, run_underlying hk, Result.andThen_ok, hte'.sizeOf, hsmall, if_false]
  rcases hz1 with ⟨h0, rfl⟩ | ⟨h0, rfl⟩
  · simp only [h0, if_true, Sem.run_bind, Sem.run_pure, Result.andThen_ok] at r1 ⊢
    simp only [r1, newRow, Sem.run_bind, run_newObj, Result.andThen_ok, Sem.run_pure]
  · simp only [h0, if_false, Sem.run_bind, hz, Sem.run_pure, Result.andThen_ok, r1, newRow, run_newObj]

theorem evMakeSlice_sound {B : Base} {E : Env} (hE : HRel B E) {tb : Tbl} (hT : TblOK P tb) {t : TypeId} {td : TD} (ht : TDok P t td) (m : Nat) (hm : ¬ E.U m) {l c : V} {lv cv : Value} (hl : vrel E l lv) (hc : vrel E c cv)
    {ps : List Ob} {v : V} {dh : List (Nat × Blk)} (h : evMakeSlice tb td E.H m l c = .val ps v dh) (hps : ∀ p ∈ ps, p.holds) : ∃ v' w' E', (Instr.makeSlice t lv cv).run P E.w = .ok v' w' ∧ Good B E m dh w' E' ∧ vrel E' v v' := by
  have hk := ht.kind
  unfold evMakeSlice at h
  split at h
  case h_2 => cases h
  rename_i k1 n k2 c
  split at h
  case h_2 => cases h
  rename_i e h1
  rw [h1] at hk
  simp only [kindOK] at hk
  split at h
  case h_2 => cases h
  rename_i te hte
  have hte' := hT _ _ hte
  split at h
  case h_2 => cases h
  rename_i t' ht'
  split at h
  case isFalse => cases h
  rename_i hcc
  obtain ⟨c1, c2, c4⟩ := hcc
  split at h
  case h_2 => cases h
  rename_i zd hzd
  cases h
  have hp := hps _ (List.mem_singleton.2 rfl)
  simp only [Ob.holds] at hp
  obtain ⟨p1, p2, p3⟩ := hp
  subst p2
  simp only [vrel] at hl hc
  obtain ⟨rfl, _⟩ := hl
  obtain ⟨rfl, _⟩ := hc
  obtain ⟨z, hz, hzz⟩ := hte'.zeroValue E.w
  have hzr : vrels E te.zero z.cells.toList := zeqs_vrels hzz
  have hzl : z.cells.size = te.size := by have := vrels_len hzr; simp at this; omega
  have hrd := pack_sound hE hzd hzr
  obtain ⟨N, rfl⟩ := Int.eq_ofNat_of_zero_le p1
  have hN : N ≤ 17179869184 := by omega
  have hwrap : IntKind.i64.wrap (N : Int) = (N : Int) := by
    unfold IntKind.wrap
    simp [IntKind.bits, IntKind.signed]
    omega
  have hbytes : ((te.bytes : Int) * (N : Int)) ≤ 281474976710656 := by
    have : te.bytes * N ≤ 1000 * 17179869184 := Nat.mul_le_mul c2 hN
    have h2 : ((te.bytes * N : Nat) : Int) ≤ 17179869184000 := by omega
    rw [Int.natCast_mul] at h2
    omega
  obtain ⟨hb1, hb2⟩ := hte'.bytes E.w
  -- the cells
  have hzero : ∃ zc : Array Value, ((N * te.size = 0 ∧ zc = #[]) ∨ (N * te.size ≠ 0 ∧ zc = z.cells)) ∧ ((Array.range (N * te.size)).map (zc[· % zc.size]!)).toList = (List.replicate N z.cells.toList).flatten := by
    by_cases h0 : N * te.size = 0
    · refine ⟨#[], .inl ⟨h0, rfl⟩, ?_⟩
      rw [h0]
      rcases Nat.mul_eq_zero.1 h0 with h0 | h0
      · subst h0; simp
      · have : z.cells.toList = [] := List.eq_nil_of_length_eq_zero (by rw [Array.length_toList]; omega)
        rw [this]; simp
    · refine ⟨z.cells, .inr ⟨h0, rfl⟩, ?_⟩
      rw [← hzl, Array.toList_map, Array.toList_range]
      exact range_reps _ _
  obtain ⟨zc, hz1, hz2⟩ := hzero
  have hflat : ∀ (i : Nat), i < N → ((List.replicate N z.cells.toList).flatten.drop (i * sz t')).take (sz t') = z.cells.toList := fun i hi => by
    obtain ⟨d, rfl⟩ : ∃ d, N = i + (d + 1) := ⟨N - i - 1, by omega⟩
    have hzl' : z.cells.toList.length = sz t' := by simp; omega
    rw [← List.replicate_append_replicate, List.flatten_append, List.drop_append]
    have hfl : ((List.replicate i z.cells.toList).flatten).length = i * sz t' := by simp [hzl, c1]
    rw [List.drop_eq_nil_of_le (by omega), hfl, Nat.sub_self, List.drop_zero, List.nil_append, List.replicate_succ, List.flatten_cons, List.take_append_of_le_length (by omega), List.take_of_length_le (by omega)]
  obtain ⟨E', G, hv⟩ := new_row_list hE m hm t' (List.replicate N zd) ((List.replicate N z.cells.toList).flatten) e N (by simp [hzl, c1]) (by simp) (by simp; unfold lenB; omega)
    (fun i hi => by
      have hi' : i < N := by simpa using hi
      rw [hflat i hi', List.getElem_replicate]
      exact hrd) ((Array.range (N * te.size)).map (zc[· % zc.size]!)) hz2
  rw [List.length_replicate] at hv
  refine ⟨_, _, E', ?_, by simpa using G, by simpa using hv⟩
  unfold Instr.makeSlice
  have q1 : ¬ ((N : Int) < 0) := by omega
  have q2 : ¬ ((te.bytes : Int) * (N : Int) > 281474976710656) := by omega
  have q3 : ¬ ((N : Int) > (N : Int)) := by omega
  simp only [Sem.run_bind, run_underlying hk, Result.andThen_ok, asInt, asIntOf, Sem.run_pure, hb1, hb2, hwrap]
  have hcond : ¬ ((decide ((N : Int) < 0) || decide ((te.bytes : Int) * (N : Int) > 2 ^ 48) || decide ((N : Int) < 0) || decide ((N : Int) > (N : Int))) = true) := by
    have e48 : (2 : Int) ^ 48 = 281474976710656 := by decide
    rw [e48]
    simp only [Bool.or_eq_true, decide_eq_true_eq]
    omega
  rw [if_neg hcond]
  simp only [Sem.run_bind, run_askRoom, Result.andThen_ok, hte'.sizeOf, Int.toNat_natCast]
  rcases hz1 with ⟨h0, rfl⟩ | ⟨h0, rfl⟩
  · simp only [h0, if_true, Sem.run_bind, Sem.run_pure, Result.andThen_ok, newRow, run_newObj]
    rfl
  · simp only [h0, if_false, Sem.run_bind, hz, Sem.run_pure, Result.andThen_ok, newRow, run_newObj]
    rfl

end Go.Mir

/- The mirror, part 12: append. -/
namespace Go.Mir
open Go.RowKit

variable {P : Program}

theorem Rd.one {S : Nat → Prop} {w : World} {t : Ty} {x : Den t} {cs : List Value} (h : Rd S w t x cs) : ∀ v ∈ cs, v.oneCell' = true := by
  induction h with
  | int h => intro v hv; simp at hv; subst hv; rfl
  | bool => intro v hv; simp at hv; subst hv; rfl
  | str => intro v hv; simp at hv; subst hv; rfl
  | unit => intro v hv; cases hv
  | prod _ _ ih1 ih2 => intro v hv; rcases List.mem_append.1 hv with h | h; exact ih1 v h; exact ih2 v h
  | nm _ ih => exact ih
  | nil => intro v hv; simp at hv; subst hv; rfl
  | slice => intro v hv; simp at hv; subst hv; rfl

/-- a slice of n elements of z cells that is read, and its cells -/
structure SrcC (P : Program) (E : Env) (z n : Nat) (xv : Value) (a : Option Addr) (cap : Nat) (l : List Value) : Prop where
  val : xv = .slice a n cap
  len : l.length = n * z
  run : ∀ (w : World), w.heap = E.w.heap → (Builtin.firstCells z n xv).run P w = .ok l.toArray w
  one : ∀ v ∈ l, v.oneCell' = true

/-- the same, the elements known as data -/
structure Src (P : Program) (E : Env) (t : Ty) (ys : List (Den t)) (xv : Value) (a : Option Addr) (cap : Nat) (l : List Value) : Prop extends SrcC P E (sz t) ys.length xv a cap l where
  lb : ys.length ≤ lenB
  rd : ∀ (i : Nat) (hi : i < ys.length), Rd E.S E.w t ys[i] ((l.drop (i * sz t)).take (sz t))

theorem listOf_sound {B : Base} {E : Env} (hE : HRel B E) {t : Ty} {x : V} {xv : Value} (hx : vrel E x xv) {ys : List (Den t)} (h : listOf E.H t x = some ys) :
    ∃ a cap l, Src P E t ys xv a cap l := by
  have empty : ∀ (a : Option Addr) (cap : Nat), ys = [] → xv = .slice a 0 cap → ∃ a cap l, Src P E t ys xv a cap l := fun a cap e1 e2 => by
    subst e1; subst e2
    refine ⟨a, cap, [], ⟨rfl, by simp, fun w _ => ?_, fun v hv => by cases hv⟩, Nat.zero_le _, fun i hi => by simp at hi⟩
    cases a with
    | none => simp [Builtin.firstCells]
    | some a =>
      have := run_loadCells_list (P := P) w a [] (fun j v hj => by simp at hj)
      simpa [Builtin.firstCells] using this
  have cells : ∀ (b o cap : Nat) (c : Array Value) (T : TypeId) (fr : Nat × Nat), E.w.heap[b]? = some (.cells c T fr) → o + ys.length * sz t ≤ c.size → ys.length ≤ lenB → xv = .slice (some ⟨b, o, none⟩) ys.length cap →
      (∀ (i : Nat) (hi : i < ys.length), Rd E.S E.w t ys[i] (seg c (o + i * sz t) (sz t))) →
      ∃ a cap l, Src P E t ys xv a cap l := fun b o cap c T fr hb hsz hlb e hrd => by
    have hl : (seg c o (ys.length * sz t)).length = ys.length * sz t := seg_len _ _ _ hsz
    have hseg : ∀ i, i < ys.length → ((seg c o (ys.length * sz t)).drop (i * sz t)).take (sz t) = seg c (o + i * sz t) (sz t) := fun i hi => by
      have hm : (i + 1) * sz t ≤ ys.length * sz t := Nat.mul_le_mul_right _ hi
      rw [Nat.add_mul] at hm
      simp only [seg, List.drop_take, List.drop_drop, List.take_take]
      congr 1
      omega
    refine ⟨some ⟨b, o, none⟩, cap, seg c o (ys.length * sz t), ⟨e, hl, fun w hw => ?_, fun v hv => ?_⟩, hlb, fun i hi => by rw [hseg i hi]; exact hrd i hi⟩
    · subst e
      have hbw : w.heap[b]? = some (.cells c T fr) := by rw [hw]; exact hb
      have := run_loadCells_list (P := P) w ⟨b, o, none⟩ (seg c o (ys.length * sz t)) (fun j v hj => by
        rw [addr_add, cell_of hbw]
        rw [seg_get] at hj
        split at hj
        · exact hj
        · cases hj)
      rw [hl] at this
      simpa [Builtin.firstCells] using this
    · obtain ⟨k, hk, hkv⟩ := List.getElem_of_mem hv
      have hk' : k < ys.length * sz t := by omega
      have hpos : 0 < sz t := by
        rcases Nat.eq_zero_or_pos (sz t) with h0 | h0
        · rw [h0] at hk'; omega
        · exact h0
      have hi : k / sz t < ys.length := Nat.div_lt_of_lt_mul (by rw [Nat.mul_comm]; exact hk')
      have h1 := (hrd _ hi).one v
      apply h1
      rw [← hseg _ hi]
      have hkk : k / sz t * sz t + k % sz t = k := by rw [Nat.mul_comm]; exact Nat.div_add_mod _ _
      have hmod := Nat.mod_lt k hpos
      have : (((seg c o (ys.length * sz t)).drop (k / sz t * sz t)).take (sz t))[k % sz t]? = some v := by
        rw [List.getElem?_take_of_lt hmod, List.getElem?_drop, hkk, List.getElem?_eq_getElem hk, hkv]
      exact List.mem_of_getElem? this
  unfold listOf at h
  split at h
  · rename_i t' xs
    split at h
    case isFalse => cases h
    rename_i e
    subst e
    cases h
    simp only [vrel] at hx
    generalize hl : [xv] = l0 at hx
    cases hx with
    | nil => cases hl; exact empty _ _ rfl rfl
    | slice h1 h2 h3 h4 h5 h6 => cases hl; exact cells _ _ _ _ _ _ h2 h3 h5 rfl h6
  · cases h; simp only [vrel] at hx; exact empty _ _ rfl hx
  · cases h; simp only [vrel] at hx; obtain ⟨a, hx⟩ := hx; exact empty _ _ rfl hx
  · rename_i hh ver
    split at h
    case h_2 => cases h
    rename_i ver' rw' t' xs hH
    split at h
    case isFalse => cases h
    rename_i e
    subst e
    split at h
    case isFalse => cases h
    rename_i e2
    subst e2
    cases h
    rcases osl_row hE hH hx with ⟨_, h3, a, rfl⟩ | ⟨b, cap, c, T, fr, h3, rfl, h5, h6, hcap, h7, h8, h9, h10, h11, h12⟩
    · exact empty _ _ h3 rfl
    · exact cells b 0 cap c T fr h5 (by rw [Nat.zero_add]; exact h10) h11 rfl (fun i hi => by rw [Nat.zero_add]; exact h12 i hi)
  · cases h

theorem growBy_le (newLen : Nat) : ∀ (rounds c : Nat), Builtin.growBy newLen rounds c ≤ max c (newLen + (newLen + 768) / 4)
  | 0, c => by simp [Builtin.growBy]; omega
  | r + 1, c => by
    unfold Builtin.growBy
    split
    · omega
    · have := growBy_le newLen r (c + (c + 768) / 4)
      omega

theorem nextcap_le {need old : Nat} (h : old < need) : Builtin.nextslicecap need old ≤ 2 * need + 1000 := by
  unfold Builtin.nextslicecap
  split
  · omega
  · split
    · omega
    · have := growBy_le need 4 old
      omega

theorem nextcap_room {need old bytes : Nat} (h : old < need) (hb : bytes ≤ 1000) (hn : need * bytes ≤ 70368744177664) : ¬ (Builtin.nextslicecap need old * bytes > 2 ^ 48) := by
  have h1 := Nat.mul_le_mul_right bytes (nextcap_le h)
  have h2 : (2 * need + 1000) * bytes = 2 * (need * bytes) + 1000 * bytes := by rw [Nat.add_mul, Nat.mul_assoc]
  omega

theorem zeroCells_len (z : Array Value) (n : Nat) : (Builtin.zeroCells z n).size = n * z.size := by simp [Builtin.zeroCells]

/-- the run of append where the old slice has no room -/
theorem run_append_grows {B : Base} {E : Env} (_ : HRel B E) {tS tX : TypeId} {tdS tdX te : TD} (hS : TDok P tS tdS) (hX : TDok P tX tdX) {e eX : TypeId} (hk : tdS.kind = .slice e) (hkX : tdX.kind = .slice eX) (hte : TDok P e te)
    {z0 n0 : Nat} (hsz : te.size = z0) (hzl : te.zero.length = te.size) (hb0 : 0 < te.bytes) (hb1 : te.bytes ≤ 1000) {xv : Value} {a : Option Addr} {cap : Nat} {l : List Value} (src : SrcC P E z0 n0 xv a cap l)
    (base : Option Addr) (sLen sCap : Nat) (old : List Value) (hold : old.length = sLen * z0) (hrun : ∀ (w : World), w.heap = E.w.heap → (Builtin.firstCells (z0) sLen (.slice base sLen sCap)).run P w = .ok old.toArray w)
    (hroom : sCap < sLen + n0) (hn : (sLen + n0) * te.bytes ≤ 70368744177664) (ty : TypeId) :
    ∃ nc c, sLen + n0 ≤ nc ∧ c.size = nc * z0 ∧ c.toList.take ((sLen + n0) * z0) = old ++ l ∧
      (Builtin.append_ #[tS, tX] ty #[.slice base sLen sCap, xv]).run P E.w = .ok (.slice (some ⟨E.w.heap.size, 0, none⟩) (sLen + n0) nc) { E.w.drew with heap := E.w.heap.push (.cells c e (0, 0)) } := by
  have hkS := hS.kind
  rw [hk] at hkS
  simp only [kindOK] at hkS
  have hkX' := hX.kind
  rw [hkX] at hkX'
  simp only [kindOK] at hkX'
  obtain ⟨z, hz, hzz⟩ := hte.zeroValue E.w.drew
  have hzr : vrels E te.zero z.cells.toList := zeqs_vrels hzz
  have hzs : z.cells.size = z0 := by have := vrels_len hzr; simp at this; omega
  obtain ⟨hbb, hbb2⟩ := hte.bytes E.w
  have hq : (Question.appendCap (sLen + n0) sCap e).forced = false := rfl
  let nc := (Question.appendCap (sLen + n0) sCap e).cut (E.w.tape E.w.drawn (.appendCap (sLen + n0) sCap e))
  have hnc : sLen + n0 ≤ nc := Nat.le_add_right _ _
  have h1 := nextcap_room hroom hb1 hn
  have hmax : ¬ (((sLen + n0 : Nat) : Int) > IntKind.i64.max ∧ (false = true ∨ te.bytes = 0)) := by
    rintro ⟨_, h2⟩
    rcases h2 with h2 | h2
    · cases h2
    · omega
  refine ⟨nc, old.toArray ++ l.toArray ++ Builtin.zeroCells z.cells (nc - (sLen + n0)), hnc, ?_, ?_, ?_⟩
  · simp only [Array.size_append, zeroCells_len, List.size_toArray, hold, src.len, hzs]
    rw [← Nat.add_mul, ← Nat.add_mul]
    congr 1
    omega
  · simp only [Array.toList_append]
    rw [List.take_append_of_le_length (by simp [hold, src.len, Nat.add_mul]), List.take_of_length_le (by simp [hold, src.len, Nat.add_mul])]
  · have hfx := src.run E.w.drew rfl
    have hfo := hrun E.w.drew rfl
    rw [src.val] at hfx ⊢
    have hne : ¬ (false = true) := by decide
    have hnn : (!false) = true := rfl
    have hb2 : ∀ w, (typeInfo e).run P w = .ok ((P.info? e).getD default) w := fun w => (hte.bytes w).1
    simp only [Builtin.append_, List.getElem?_toArray, List.getElem?_cons_zero, List.getElem?_cons_succ, Sem.run_bind, run_underlying hkS, Result.andThen_ok, hte.sizeOf, hsz, run_underlying hkX', Sem.run_pure, Builtin.lenOf, if_neg hne]
    rw [if_neg (by omega : ¬ sLen + n0 ≤ sCap)]
    simp only [Sem.run_bind, hb2, hbb2, Result.andThen_ok, if_neg hmax, if_neg h1]
    simp only [run_choose, hq, if_neg hne, Result.andThen_ok, run_askRoom]
    simp only [World.drew] at hfo hfx hz ⊢
    simp only [hfo, hfx, hz, hnn, if_true, Result.andThen_ok, newRow, Sem.run_bind, run_newObj, Sem.run_pure]
    rfl

/-- the run of append where there is room -/
theorem run_append_fits {E : Env} {tS tX : TypeId} {tdS tdX te : TD} (hS : TDok P tS tdS) (hX : TDok P tX tdX) {e eX : TypeId} (hk : tdS.kind = .slice e) (hkX : tdX.kind = .slice eX) (hte : TDok P e te)
    {z0 n0 : Nat} (hsz : te.size = z0) {xv : Value} {a : Option Addr} {cap : Nat} {l : List Value} (src : SrcC P E z0 n0 xv a cap l)
    (base : Option Addr) (sLen sCap : Nat) (hroom : sLen + n0 ≤ sCap) (ty : TypeId) (w' : World) (hst : ∀ a', base = some a' → (storeCells (a'.add (sLen * z0)) l).run P E.w = .ok () w') (hno : base = none → w' = E.w) :
    (Builtin.append_ #[tS, tX] ty #[.slice base sLen sCap, xv]).run P E.w = .ok (.slice base (sLen + n0) sCap) w' := by
  have hkS := hS.kind
  rw [hk] at hkS
  simp only [kindOK] at hkS
  have hkX' := hX.kind
  rw [hkX] at hkX'
  simp only [kindOK] at hkX'
  have hfx := src.run E.w rfl
  rw [src.val] at hfx ⊢
  have hne : ¬ (false = true) := by decide
  have hnn : (!false) = true := rfl
  simp only [Builtin.append_, List.getElem?_toArray, List.getElem?_cons_zero, List.getElem?_cons_succ, Sem.run_bind, run_underlying hkS, Result.andThen_ok, hte.sizeOf, hsz, run_underlying hkX', Sem.run_pure, Builtin.lenOf, if_neg hne]
  rw [if_pos hroom]
  simp only [Sem.run_bind, hnn, if_true, hfx, Result.andThen_ok]
  cases base with
  | none => rw [hno rfl]; rfl
  | some a' => simp only [Sem.run_bind, hst a' rfl, Result.andThen_ok, Sem.run_pure]

/-- a row gets a new block -/
theorem put_row {B : Base} {E : Env} (hE : HRel B E) (m : Nat) (hm : ¬ E.U m) (h0 : Nat) (hh : E.U h0 ∨ h0 = m) (t : Ty) (xs : List (Den t)) (c : Array Value) (T : TypeId) (cap : Nat) (hcap : c.size = cap * sz t) (hlc : xs.length ≤ cap) (hl : xs.length ≤ lenB)
    (hx : ∀ (i : Nat) (h : i < xs.length), Rd E.S E.w t xs[i] (seg c (i * sz t) (sz t))) :
    ∃ E', Good B E m [(h0, .row m true t xs)] { E.w with heap := E.w.heap.push (.cells c T (0, 0)) } E' ∧ vrel E' (.osl h0 m) (.slice (some ⟨E.w.heap.size, 0, none⟩) xs.length cap) := by
  have hsz : xs.length * sz t ≤ c.size := by rw [hcap]; exact Nat.mul_le_mul_right _ hlc
  have hS : ¬ E.S E.w.heap.size := fun h => Nat.lt_irrefl _ (hE.stab _ h)
  have hget : (E.w.heap.push (.cells c T (0, 0)))[E.w.heap.size]? = some (.cells c T (0, 0)) := by simp
  obtain ⟨R, X⟩ := step1 hE h0 (.row m true t xs) (some E.w.heap.size) { E.w with heap := E.w.heap.push (.cells c T (0, 0)) } (fun n => E.U n ∨ n = m) (fun n h => .inl h) hh
    ⟨rfl, rfl, rfl, by simp, fun b hb' _ => Below.heap_alloc E.w _ b hb'⟩ (fun b e => by cases e; exact .inl ⟨Nat.le_refl _, by simp⟩) (fun b e => by cases e; exact hS)
    (fun _ e _ => by cases e) (fun _ _ _ _ e _ h => by cases e; exact absurd h hm)
    (fun X => ⟨.inr rfl, .inr ⟨_, c, T, (0, 0), upd_same _ _ _, hget, (fun i _ h => by simp at h), (fun _ => hS), (fun e => by cases e), hsz, hl, fun i hi => (hx i hi).ext X.s X.keepS⟩⟩)
  refine ⟨_, ⟨R, X, rfl, (hset_one _ _ _).symm, fun n h => ?_⟩, ?_⟩
  · rcases h with h | h
    · exact .inl h
    · exact .inr ⟨by omega, by unfold KN; omega⟩
  · simp only [vrel]
    refine ⟨hh, .inr trivial, ⟨_, _, _, rfl⟩, fun rw t' xs' hH => .inr ⟨_, cap, c, T, (0, 0), upd_same _ _ _, ?_⟩⟩
    simp only [upd_same, Option.some.injEq] at hH
    cases hH
    exact ⟨rfl, hget, hcap, hlc⟩

/-- a row stays without a block -/
theorem put_nil {B : Base} {E : Env} (hE : HRel B E) (m : Nat) (hm : ¬ E.U m) (h0 : Nat) (hh : E.U h0 ∨ h0 = m) (t : Ty) (a : Option Addr) :
    ∃ E', Good B E m [(h0, .row m true t [])] E.w E' ∧ vrel E' (.osl h0 m) (.slice a 0 0) := by
  obtain ⟨R, X⟩ := step1 hE h0 (.row m true t []) none E.w (fun n => E.U n ∨ n = m) (fun n h => .inl h) hh
    ((Keeps.refl E.w _)) (fun b e => by cases e) (fun b e => by cases e) (fun _ e _ => by cases e) (fun _ _ _ _ e _ h => by cases e; exact absurd h hm)
    (fun X => ⟨.inr rfl, .inl ⟨upd_same _ _ _, rfl⟩⟩)
  refine ⟨_, ⟨R, X, rfl, (hset_one _ _ _).symm, fun n h => ?_⟩, ?_⟩
  · rcases h with h | h
    · exact .inl h
    · exact .inr ⟨by omega, by unfold KN; omega⟩
  · simp only [vrel]
    exact ⟨hh, .inr trivial, ⟨_, _, _, rfl⟩, fun _ _ _ _ => .inl ⟨upd_same _ _ _, a, rfl⟩⟩

theorem good_world {B : Base} {E : Env} {w1 : World} {m : Nat} {dh : List (Nat × Blk)} {w' : World} {E' : Env} (X : Ext E { E with w := w1 }) (G : Good B { E with w := w1 } m dh w' E') : Good B E m dh w' E' :=
  ⟨G.rel, X.trans G.ext, G.w, G.h, G.u⟩

theorem append_rd {t : Ty} {S : Nat → Prop} {w : World} {xs ys : List (Den t)} {l0 : List Value} (h0 : l0.length = xs.length * sz t) {l : List Value} (hx : ∀ (i : Nat) (h : i < xs.length), Rd S w t xs[i] ((l0.drop (i * sz t)).take (sz t)))
    (hy : ∀ (i : Nat) (h : i < ys.length), Rd S w t ys[i] ((l.drop (i * sz t)).take (sz t))) (i : Nat) (h : i < (xs ++ ys).length) : Rd S w t (xs ++ ys)[i] (((l0 ++ l).drop (i * sz t)).take (sz t)) := by
  by_cases hi : i < xs.length
  · rw [List.getElem_append_left hi]
    have hm : (i + 1) * sz t ≤ xs.length * sz t := Nat.mul_le_mul_right _ hi
    rw [Nat.add_mul] at hm
    rw [List.drop_append_of_le_length (by omega), List.take_append_of_le_length (by simp; omega)]
    exact hx i hi
  · have hi' : i - xs.length < ys.length := by simp at h; omega
    rw [List.getElem_append_right (by omega)]
    obtain ⟨d, rfl⟩ : ∃ d, i = xs.length + d := ⟨i - xs.length, by omega⟩
    have e : ((l0 ++ l).drop ((xs.length + d) * sz t)) = l.drop (d * sz t) := by
      rw [Nat.add_mul, ← h0, List.drop_append, List.drop_eq_nil_of_le (by omega)]
      simp
    rw [e]
    have := hy d (by omega)
    simpa using this

theorem evAppend_sound {B : Base} {E : Env} (hE : HRel B E) {tb : Tbl} (hT : TblOK P tb) {tS tX : TypeId} {tdS tdX : TD} (hS : TDok P tS tdS) (hX : TDok P tX tdX) {eX : TypeId} (hkX : tdX.kind = .slice eX) (m : Nat) (hm : ¬ E.U m) {s x : V} {sv xv : Value}
    (hs : vrel E s sv) (hx : vrel E x xv) (ty : TypeId) {ps : List Ob} {v : V} {dh : List (Nat × Blk)} (h : evAppend tb tdS E.H m s x = .val ps v dh) (hps : ∀ p ∈ ps, p.holds) :
    ∃ v' w' E', (Builtin.append_ #[tS, tX] ty #[sv, xv]).run P E.w = .ok v' w' ∧ Good B E m dh w' E' ∧ vrel E' v v' := by
  unfold evAppend at h
  split at h
  case h_2 => cases h
  rename_i e hk
  split at h
  case h_2 => cases h
  rename_i te hte0
  have hte := hT _ _ hte0
  split at h
  case h_2 => cases h
  rename_i t ht
  split at h
  case isFalse => cases h
  rename_i hc
  obtain ⟨c1, c2, c3, c4⟩ := hc
  split at h
  case h_2 => cases h
  rename_i ys hys
  obtain ⟨a, cap, l, src⟩ := listOf_sound (P := P) hE hx hys
  obtain ⟨R0, X0⟩ := step0 hE E.w.drew rfl rfl rfl rfl
  have hsmall : ∀ n, n * te.bytes ≤ 70368744177664 → n ≤ lenB := fun n hn => by
    have : n * 1 ≤ n * te.bytes := Nat.mul_le_mul_left _ c2
    unfold lenB
    omega
  -- onto a slice without cells
  have onto : ∀ (h0 : Nat) (hh : E.U h0 ∨ h0 = m) (base : Option Addr), ys.length * te.bytes ≤ 70368744177664 → sv = .slice base 0 0 →
      ∃ v' w' E', (Builtin.append_ #[tS, tX] ty #[sv, xv]).run P E.w = .ok v' w' ∧ Good B E m [(h0, .row m true t ys)] w' E' ∧ vrel E' (.osl h0 m) v' := fun h0 hh base hp esv => by
    subst esv
    rcases Nat.eq_zero_or_pos ys.length with hz | hz
    · have hy0 : ys = [] := List.eq_nil_of_length_eq_zero hz
      have hl0 : l = [] := List.eq_nil_of_length_eq_zero (by rw [src.len, hz, Nat.zero_mul])
      obtain ⟨E', G, hv⟩ := put_nil hE m hm h0 hh t base
      have hrun := run_append_fits hS hX hk hkX hte c1 src.toSrcC base 0 0 (by omega) ty E.w (fun a' _ => by rw [hl0]; rfl) (fun _ => rfl)
      rw [hz] at hrun
      subst hy0
      exact ⟨_, _, E', hrun, G, hv⟩
    · have hold : ∀ (w : World), w.heap = E.w.heap → (Builtin.firstCells (sz t) 0 (.slice base 0 0)).run P w = .ok ([] : List Value).toArray w := fun w _ => by
        cases base with
        | none => simp [Builtin.firstCells]
        | some a => simpa [Builtin.firstCells] using run_loadCells_list (P := P) w a [] (fun j v hj => by simp at hj)
      obtain ⟨nc, c, g1, g2, g3, g4⟩ := run_append_grows hE hS hX hk hkX hte c1 c4 c2 c3 src.toSrcC base 0 0 [] (by simp) hold (by omega) (by rw [Nat.zero_add]; exact hp) ty
      simp only [Nat.zero_add, List.nil_append] at g1 g3 g4
      have hrd : ∀ (i : Nat) (h : i < ys.length), Rd E.S E.w.drew t ys[i] (seg c (i * sz t) (sz t)) := fun i hi => by
        have h1 := src.rd i hi
        rw [← g3] at h1
        have hm : (i + 1) * sz t ≤ ys.length * sz t := Nat.mul_le_mul_right _ hi
        rw [Nat.add_mul] at hm
        have e : ((c.toList.take (ys.length * sz t)).drop (i * sz t)).take (sz t) = seg c (i * sz t) (sz t) := by
          simp only [seg, List.drop_take, List.take_take]
          congr 1
          omega
        rw [e] at h1
        exact h1.ext X0.s X0.keepS
      obtain ⟨E', G, hv⟩ := put_row R0 m hm h0 hh t ys c e nc g2 g1 (hsmall _ hp) hrd
      exact ⟨_, _, E', g4, good_world X0 G, hv⟩
  split at h
  · cases h
    simp only [vrel] at hs
    exact onto m (.inr rfl) none (hps _ (List.mem_singleton.2 rfl)) hs
  · cases h
    simp only [vrel] at hs
    obtain ⟨b0, hs⟩ := hs
    exact onto m (.inr rfl) b0 (hps _ (List.mem_singleton.2 rfl)) hs
  · rename_i hh ver
    split at h
    case h_2 => cases h
    rename_i ver' t' xs hH
    split at h
    case isFalse => cases h
    rename_i e1
    subst e1
    split at h
    case isFalse => cases h
    rename_i e2
    subst e2
    cases h
    have hp := hps _ (List.mem_singleton.2 rfl)
    simp only [Ob.holds] at hp
    have hU := hE.used _ _ hH
    rcases osl_row hE hH hs with ⟨h2, h3, b0, h4⟩ | ⟨b, cap', c, T, fr, h3, h4, h5, h6, hcap, h7, h8, h9, h10, h11, h12⟩
    · subst h3
      have := onto hh (.inl hU) b0 (by simpa using hp) h4
      simpa using this
    · by_cases hroom : xs.length + ys.length ≤ cap'
      · -- there is room
        have hbd : xs.length * sz t' + l.length ≤ c.size := by
          rw [src.len, h6, ← Nat.add_mul]
          exact Nat.mul_le_mul_right _ hroom
        obtain ⟨c', g1, g2⟩ := setCells_heap b l (xs.length * sz t') E.w c h5 hbd
        have hcs : c'.size = c.size := by
          have := congrArg List.length g2
          simp at this
          omega
        have hrun := run_append_fits hS hX hk hkX hte c1 src.toSrcC (some ⟨b, 0, none⟩) xs.length cap' hroom ty (E.w.setCells b (xs.length * sz t') l) (fun a' ea => by
          cases ea
          have := run_storeCells_cells (P := P) b (xs.length * sz t') l 0 E.w (fun j hj => by rw [cell_of h5]; simp; omega) (fun j hj => frozen_of h5 h7 (by omega)) src.one
          rw [addr_add]
          simpa using this) (fun en => by cases en)
        obtain ⟨R, X⟩ := step1 hE hh (.row m true t' (xs ++ ys)) (some b) (E.w.setCells b (xs.length * sz t') l) (fun n => E.U n ∨ n = m) (fun n h => .inl h) (.inl hU)
          (setCells_keeps b (fun b1 => some b = some b1) rfl _ _ _) (fun b1 e => by cases e; exact .inr ⟨h3, _, hH, rfl⟩) (fun b1 e => by cases e; exact h8 rfl)
          (fun _ e _ => by cases e) (fun _ _ _ _ e _ h => by cases e; exact absurd h hm)
          (fun X => ⟨.inr rfl, .inr ⟨b, c', T, fr, upd_same _ _ _, g1, nofrz_size h7 hcs, fun _ => h8 rfl, (fun e => by cases e), by
            rw [hcs, h6, List.length_append]; exact Nat.mul_le_mul_right _ hroom, by rw [List.length_append]; exact hsmall _ hp, fun i hi => by
              have key : Rd E.S E.w t' (xs ++ ys)[i] ((((c.toList.take (xs.length * sz t')) ++ l).drop (i * sz t')).take (sz t')) := by
                refine append_rd (by simp; omega) (fun j hj => ?_) src.rd i hi
                have h1 := h12 j hj
                have hm : (j + 1) * sz t' ≤ xs.length * sz t' := Nat.mul_le_mul_right _ hj
                rw [Nat.add_mul] at hm
                have e : ((c.toList.take (xs.length * sz t')).drop (j * sz t')).take (sz t') = seg c (j * sz t') (sz t') := by
                  simp only [seg, List.drop_take, List.take_take]
                  congr 1
                  omega
                rw [e]; exact h1
              have hi2 : (i + 1) * sz t' ≤ (xs.length + ys.length) * sz t' := Nat.mul_le_mul_right _ (by rw [List.length_append] at hi; exact hi)
              rw [Nat.add_mul, Nat.add_mul] at hi2
              have e : seg c' (i * sz t') (sz t') = (((c.toList.take (xs.length * sz t')) ++ l).drop (i * sz t')).take (sz t') := by
                unfold seg
                rw [g2]
                have hlen : (c.toList.take (xs.length * sz t') ++ l).length = (xs.length + ys.length) * sz t' := by
                  simp [src.len, Nat.add_mul]; omega
                rw [List.drop_append_of_le_length (by rw [hlen, Nat.add_mul]; omega), List.take_append_of_le_length (by rw [List.length_drop, hlen, Nat.add_mul]; omega)]
              show Rd E.S (E.w.setCells b (xs.length * sz t') l) t' (xs ++ ys)[i] (seg c' (i * sz t') (sz t'))
              rw [e]
              exact key.ext X.s X.keepS⟩⟩)
        refine ⟨_, _, _, by rw [h4]; exact hrun, ⟨R, X, rfl, (hset_one _ _ _).symm, fun n h => ?_⟩, ?_⟩
        · rcases h with h | h
          · exact .inl h
          · exact .inr ⟨by omega, by unfold KN; omega⟩
        · simp only [vrel]
          refine ⟨.inl hU, .inr trivial, ⟨_, _, _, rfl⟩, fun rw t2 xs2 hH2 => .inr ⟨b, cap', c', T, fr, upd_same _ _ _, ?_⟩⟩
          simp only [upd_same, Option.some.injEq] at hH2
          cases hH2
          exact ⟨by rw [List.length_append], g1, by rw [hcs]; exact h6, by rw [List.length_append]; exact hroom⟩
      · -- there is none
        have hl0 : (seg c 0 (xs.length * sz t')).length = xs.length * sz t' := seg_len _ _ _ (by omega)
        obtain ⟨nc, c', g1, g2, g3, g4⟩ := run_append_grows hE hS hX hk hkX hte c1 c4 c2 c3 src.toSrcC (some ⟨b, 0, none⟩) xs.length cap' (seg c 0 (xs.length * sz t')) hl0 (fun w hw => by
          have hbw : w.heap[b]? = some (.cells c T fr) := by rw [hw]; exact h5
          have := run_loadCells_list (P := P) w ⟨b, 0, none⟩ (seg c 0 (xs.length * sz t')) (fun j v hj => by
            rw [addr_add, cell_of hbw]
            rw [seg_get] at hj
            split at hj
            · exact hj
            · cases hj)
          rw [hl0] at this
          simpa [Builtin.firstCells] using this) (by omega) hp ty
        have hrd : ∀ (i : Nat) (h : i < (xs ++ ys).length), Rd E.S E.w.drew t' (xs ++ ys)[i] (seg c' (i * sz t') (sz t')) := fun i hi => by
          have key : Rd E.S E.w t' (xs ++ ys)[i] (((seg c 0 (xs.length * sz t') ++ l).drop (i * sz t')).take (sz t')) := by
            refine append_rd hl0 (fun j hj => ?_) src.rd i hi
            have h1 := h12 j hj
            have hm : (j + 1) * sz t' ≤ xs.length * sz t' := Nat.mul_le_mul_right _ hj
            rw [Nat.add_mul] at hm
            have e : ((seg c 0 (xs.length * sz t')).drop (j * sz t')).take (sz t') = seg c (j * sz t') (sz t') := by
              simp only [seg, List.drop_zero, List.drop_take, List.take_take]
              congr 1
              omega
            rw [e]; exact h1
          rw [← g3] at key
          have hi2 : (i + 1) * sz t' ≤ (xs.length + ys.length) * sz t' := Nat.mul_le_mul_right _ (by rw [List.length_append] at hi; exact hi)
          rw [Nat.add_mul] at hi2
          have e : ((c'.toList.take ((xs.length + ys.length) * sz t')).drop (i * sz t')).take (sz t') = seg c' (i * sz t') (sz t') := by
            simp only [seg, List.drop_take, List.take_take]
            congr 1
            omega
          rw [e] at key
          exact key.ext X0.s X0.keepS
        obtain ⟨E', G, hv⟩ := put_row R0 m hm hh (.inl hU) t' (xs ++ ys) c' e nc g2 (by rw [List.length_append]; exact g1) (by rw [List.length_append]; exact hsmall _ hp) hrd
        refine ⟨_, _, E', by rw [h4]; exact g4, good_world X0 G, ?_⟩
        rw [List.length_append] at hv
        exact hv
  · cases h

end Go.Mir

/- The mirror: a string as a slice of bytes. -/
namespace Go.Mir
open Go.RowKit

variable {P : Program}

theorem modify_last {α : Type} (a : Array α) (x : α) (f : α → α) : (a.push x).modify a.size f = a.push (f x) := by
  apply Array.ext
  · simp
  · intro i h1 h2
    simp only [Array.getElem_modify, Array.getElem_push]
    by_cases h : i < a.size
    · have : ¬ a.size = i := by omega
      simp [h, this]
    · have : a.size = i := by simp at h1; omega
      simp [this]

theorem freeze_last (w : World) (c : Array Value) (T : TypeId) :
    World.freeze { w with heap := w.heap.push (.cells c T (0, 0)) } ⟨w.heap.size, c.size, none⟩ 1 = { w with heap := w.heap.push (.cells c T (c.size, c.size + 1)) } := by
  unfold World.freeze
  rw [if_neg (by decide)]
  simp only [modify_last]
  rfl

/-- a row gets a new block that is marked behind its end -/
theorem put_marked {B : Base} {E : Env} (hE : HRel B E) (m : Nat) (hm : ¬ E.U m) (t : Ty) (xs : List (Den t)) (c : Array Value) (T : TypeId) (cap : Nat) (hcap : c.size = cap * sz t) (hlc : xs.length ≤ cap) (hl : xs.length ≤ lenB)
    (hx : ∀ (i : Nat) (h : i < xs.length), Rd E.S E.w t xs[i] (seg c (i * sz t) (sz t))) :
    ∃ E', Good B E m [(m, .row m true t xs)] { E.w with heap := E.w.heap.push (.cells c T (c.size, c.size + 1)) } E' ∧ vrel E' (.osl m m) (.slice (some ⟨E.w.heap.size, 0, none⟩) xs.length cap) := by
  have hsz : xs.length * sz t ≤ c.size := by rw [hcap]; exact Nat.mul_le_mul_right _ hlc
  have hS : ¬ E.S E.w.heap.size := fun h => Nat.lt_irrefl _ (hE.stab _ h)
  have hget : (E.w.heap.push (.cells c T (c.size, c.size + 1)))[E.w.heap.size]? = some (.cells c T (c.size, c.size + 1)) := by simp
  obtain ⟨R, X⟩ := step1 hE m (.row m true t xs) (some E.w.heap.size) { E.w with heap := E.w.heap.push (.cells c T (c.size, c.size + 1)) } (fun n => E.U n ∨ n = m) (fun n h => .inl h) (.inr rfl)
    ⟨rfl, rfl, rfl, by simp, fun b hb' _ => Below.heap_alloc E.w _ b hb'⟩ (fun b e => by cases e; exact .inl ⟨Nat.le_refl _, by simp⟩) (fun b e => by cases e; exact hS)
    (fun _ e _ => by cases e) (fun _ _ _ _ e _ h => by cases e; exact absurd h hm)
    (fun X => ⟨.inr rfl, .inr ⟨_, c, T, (c.size, c.size + 1), upd_same _ _ _, hget, (fun i hi h => by have := h.1; simp at this; omega), (fun _ => hS), (fun e => by cases e), hsz, hl, fun i hi => (hx i hi).ext X.s X.keepS⟩⟩)
  refine ⟨_, ⟨R, X, rfl, (hset_one _ _ _).symm, fun n h => ?_⟩, ?_⟩
  · rcases h with h | h
    · exact .inl h
    · exact .inr ⟨by omega, by unfold KN; omega⟩
  · simp only [vrel]
    refine ⟨.inr trivial, .inr trivial, ⟨_, _, _, rfl⟩, fun rw t' xs' hH => .inr ⟨_, cap, c, T, (c.size, c.size + 1), upd_same _ _ _, ?_⟩⟩
    simp only [upd_same, Option.some.injEq] at hH
    cases hH
    exact ⟨rfl, hget, hcap, hlc⟩

theorem evBytes_sound {B : Base} {E : Env} (hE : HRel B E) {tb : Tbl} (hT : TblOK P tb) {s d : TypeId} {ts td : TD} (hs : TDok P s ts) (hd : TDok P d td) (m : Nat) (hm : ¬ E.U m) {x : V} {xv : Value} (hx : vrel E x xv) {ps : List Ob} {v : V} {dh : List (Nat × Blk)}
    (h : evBytes tb ts td m x = .val ps v dh) : ∃ v' w' E', (convert s d xv).run P E.w = .ok v' w' ∧ Good B E m dh w' E' ∧ vrel E' v v' := by
  have hsk := hs.kind
  have hdk := hd.kind
  unfold evBytes at h
  split at h
  case h_2 => cases h
  rename_i e str h1 h2
  split at h
  case h_2 => cases h
  rename_i te hte
  have hek := (hT _ _ hte).kind
  split at h
  case h_2 => cases h
  rename_i h3
  cases h
  rw [h1] at hsk; rw [h2] at hdk; rw [h3] at hek
  simp only [kindOK] at hsk hdk hek
  simp only [vrel] at hx
  obtain ⟨rfl, hlen⟩ := hx
  obtain ⟨R0, X0⟩ := step0 hE E.w.drew rfl rfl rfl rfl
  generalize hq : (Question.appendCap str.size 0 e).cut (E.w.tape E.w.drawn (Question.appendCap str.size 0 e)) = cap
  have hcap : str.size ≤ cap := by rw [← hq]; simp only [Question.cut]; omega
  let c : Array Value := (str.data.map fun b => Value.int .u8 b.toNat) ++ Array.replicate (cap - str.size) (.int .u8 0)
  have hds : str.data.size = str.size := ByteArray.size_data
  have hcs : c.size = cap * sz (.int .u8) := by simp [c, sz, hds]; omega
  have hl : (bytesI str).length = str.size := by simp [bytesI, hds]
  have hl1 : (bytesI str).length ≤ cap := by rw [hl]; exact hcap
  have hl2 : (bytesI str).length ≤ lenB := by rw [hl]; exact hlen
  obtain ⟨E', G, hv⟩ := put_marked R0 m hm (.int .u8) (bytesI str) c e cap hcs hl1 hl2 (fun i hi => by
    have hi0 : i < (bytesI str).length := hi
    have hi' : i < str.data.size := by rw [hl] at hi0; omega
    have e1 : seg c (i * sz (.int .u8)) (sz (.int .u8)) = [Value.int .u8 (str.data[i].toNat : Int)] := by
      simp only [seg, sz, Nat.mul_one, c, Array.toList_append, Array.toList_map]
      rw [List.drop_append_of_le_length (by simp; omega), List.take_append_of_le_length (by simp; omega), List.drop_eq_getElem_cons (by simp; omega)]
      simp
    rw [e1]
    have e2 : (bytesI str)[i]'hi0 = (str.data[i].toNat : Int) := by simp [bytesI]
    have e3 : Rd E.S E.w.drew (.int .u8) ((str.data[i].toNat : Int) : Den (.int .u8)) [Value.int .u8 (str.data[i].toNat : Int)] := .int (ok_u8 _)
    exact (congrArg (fun q : Int => Rd E.S E.w.drew (.int .u8) q [Value.int .u8 (str.data[i].toNat : Int)]) e2).mpr e3)
  rw [show @List.length (Den (.int .u8)) (bytesI str) = str.size from hl] at hv
  refine ⟨_, _, E', ?_, good_world X0 G, hv⟩
  have hfd : Question.forced (Question.appendCap str.size 0 e) = false := rfl
  have hns : E.w.drew.heap.size = E.w.heap.size := rfl
  simp only [convert, Sem.run_bind, run_underlying hsk, run_underlying hdk, run_underlying hek, Result.andThen_ok, Conv.stringToBytes, run_choose, hfd, hq]
  simp only [Bool.false_eq_true, if_false, Result.andThen_ok, newRow, Sem.run_bind, run_newObj, Sem.run_pure, markStringish, run_shape]
  have hsh : World.shape? { E.w.drew with heap := E.w.drew.heap.push (.cells c e (0, 0)) } E.w.drew.heap.size = some (e, c.size) := by
    have hget : (E.w.drew.heap.push (.cells c e (0, 0)))[E.w.drew.heap.size]? = some (.cells c e (0, 0)) := Array.getElem?_push_size
    unfold World.shape?
    simp only [hget]
  have hfz := freeze_last E.w.drew c e
  simp only [World.drew] at hsh hfz ⊢
  simp only [c] at hsh hfz
  rw [hsh]
  simp only [Result.andThen_ok, run_freeze, Sem.run_pure]
  rw [hfz]

end Go.Mir

/- The mirror, part 12b: rows that are frozen. -/
namespace Go.Mir
open Go.RowKit

variable {P : Program}

theorem memN_iff {l : List Nat} {i : Nat} : memN l i = true ↔ i ∈ l := by
  induction l with
  | nil => simp [memN]
  | cons k r ih => simp only [memN, Bool.or_eq_true, ih, List.mem_cons, Nat.beq_eq]; exact ⟨fun h => h.imp Eq.symm id, fun h => h.imp Eq.symm id⟩

theorem roL_cells {H : Heap} {L : List Nat} {h : Nat} {cs : List V} : roL H L h = some (.cells cs) ↔ H h = some (.cells cs) := by
  unfold roL
  cases hx : H h with
  | none => simp
  | some k => cases k <;> simp

theorem roL_row {H : Heap} {L : List Nat} {h ver : Nat} {rw' : Bool} {t : Ty} {xs : List (Den t)} (hr : roL H L h = some (.row ver rw' t xs)) : ∃ rw, H h = some (.row ver rw t xs) ∧ rw' = (bif memN L h then false else rw) := by
  unfold roL at hr
  cases hx : H h with
  | none => rw [hx] at hr; cases hr
  | some k =>
    rw [hx] at hr
    cases k with
    | row ver rw t xs => simp only [Option.some.injEq] at hr; cases hr; exact ⟨rw, rfl, rfl⟩
    | _ => cases hr

theorem roL_grow {H : Heap} {L : List Nat} {h ver esz : Nat} {cs : List V} (hr : roL H L h = some (.grow ver esz cs)) : H h = some (.grow ver esz cs) := by
  unfold roL at hr
  split at hr
  · cases hr
  · exact hr
theorem roL_mp {H : Heap} {L : List Nat} {h : Nat} {es : List (V × V)} (hr : roL H L h = some (.mp es)) : H h = some (.mp es) := by
  unfold roL at hr
  split at hr
  · cases hr
  · exact hr
theorem roL_some {H : Heap} {L : List Nat} {h : Nat} {k : Blk} (hr : roL H L h = some k) : ∃ k0, H h = some k0 := by
  unfold roL at hr
  cases hx : H h with
  | none => rw [hx] at hr; cases hr
  | some k => exact ⟨k, rfl⟩

/-- the blocks of some rows -/
def rowB (E : Env) (L : List Nat) (b : Nat) : Prop := ∃ h, h ∈ L ∧ (∃ (ver : Nat) (rw : Bool) (t : Ty) (xs : List (Den t)), E.H h = some (.row ver rw t xs)) ∧ E.ρ h = some b

def sealE (E : Env) (L : List Nat) : Env := ⟨E.U, E.ρ, fun b => E.S b ∨ rowB E L b, E.w, roL E.H L⟩

theorem sealE_sound {B : Base} {E : Env} (hE : HRel B E) (L : List Nat) : HRel B (sealE E L) ∧ Ext E (sealE E L) := by
  have X : Ext E (sealE E L) := by
    refine ⟨fun _ h => h, fun _ h => .inl h, fun _ _ => rfl, fun h cs _ hx => ⟨⟨cs, roL_cells.1 hx⟩, rfl⟩, fun h ver rw' t xs _ _ hx => ?_, fun h ver esz cs _ _ hx => ⟨cs, roL_grow hx, rfl, rfl, fun b c T fr _ hw => ⟨c, T, fr, hw, rfl⟩⟩, fun h es _ hx => ⟨⟨es, roL_mp hx⟩, rfl⟩⟩
    obtain ⟨rw, h1, _⟩ := roL_row hx
    exact ⟨rw, xs, h1, rfl, rfl, fun b c T fr _ hw => ⟨c, T, fr, hw, rfl⟩⟩
  refine ⟨⟨fun h b hx => ?_, fun b hs => ?_, fun h k b hx hb => ?_, fun h1 h2 k1 k2 b x1 x2 b1 b2 => ?_, fun h k hx => ?_, hE.keeps, fun h k b hx hb => ?_, fun b hs => .inl (hE.s0 b hs), fun b hs => ?_⟩, X⟩
  · obtain ⟨k0, h1⟩ := roL_some hx; exact hE.used _ _ h1
  · rcases hs with hs | ⟨h, _, ⟨ver, rw, t, xs, hx⟩, hb⟩
    · exact hE.stab b hs
    · exact hE.lt _ _ _ hx hb
  · obtain ⟨k0, h1⟩ := roL_some hx; exact hE.lt _ _ _ h1 hb
  · obtain ⟨_, y1⟩ := roL_some x1
    obtain ⟨_, y2⟩ := roL_some x2
    exact hE.inj _ _ _ _ _ y1 y2 b1 b2
  · have notS : ∀ k0 b, E.H h = some k0 → (∀ (ver : Nat) (rw : Bool) (t : Ty) (xs : List (Den t)), k0 = .row ver rw t xs → h ∉ L) → E.ρ h = some b → ¬ E.S b → ¬ (sealE E L).S b := fun k0 b hk hnot hb hs hs' => by
      rcases hs' with hs' | ⟨h2, hm, ⟨ver, rw, t, xs, hx2⟩, hb2⟩
      · exact hs hs'
      · have := hE.inj _ _ _ _ _ hk hx2 hb hb2
        subst this
        rw [hk] at hx2
        exact hnot _ _ _ _ (Option.some.inj hx2) hm
    cases k with
    | cells cs =>
      have h0 := roL_cells.1 hx
      exact brel_ext X rfl (fun _ _ => rfl) (fun b hb _ hs => notS _ b h0 (fun _ _ _ _ e => by cases e) hb hs) (hE.blk _ _ h0)
    | grow ver esz cs =>
      have h0 := roL_grow hx
      exact brel_ext X rfl (fun _ _ => rfl) (fun b hb _ hs => notS _ b h0 (fun _ _ _ _ e => by cases e) hb hs) (hE.blk _ _ h0)
    | mp es =>
      have h0 := roL_mp hx
      exact brel_ext X rfl (fun _ _ => rfl) (fun b hb _ hs => notS _ b h0 (fun _ _ _ _ e => by cases e) hb hs) (hE.blk _ _ h0)
    | row ver rw' t xs =>
      obtain ⟨rw, h0, e⟩ := roL_row hx
      obtain ⟨hu, hk⟩ := hE.blk _ _ h0
      refine ⟨hu, ?_⟩
      rcases hk with ⟨k1, k2⟩ | ⟨b, c, T, fr, k1, k2, k3, k4, k5, k6, k7, k8⟩
      · exact .inl ⟨k1, k2⟩
      · refine .inr ⟨b, c, T, fr, k1, k2, k3, fun e' => ?_, fun e' => ?_, k6, k7, fun i hi => (k8 i hi).ext X.s X.keepS⟩
        · cases hm : memN L h with
          | true => rw [hm] at e; simp only [cond_true] at e; rw [e] at e'; cases e'
          | false =>
            rw [hm] at e; simp only [cond_false] at e
            exact notS _ b h0 (fun _ _ _ _ _ hl => by rw [memN_iff.2 hl] at hm; cases hm) k1 (k4 (by rw [← e]; exact e'))
        · cases hm : memN L h with
          | true => exact .inr ⟨h, memN_iff.1 hm, ⟨ver, rw, t, xs, h0⟩, k1⟩
          | false =>
            rw [hm] at e; simp only [cond_false] at e
            exact .inl (k5 (by rw [← e]; exact e'))
  · obtain ⟨k0, h1⟩ := roL_some hx; exact hE.own _ _ _ h1 hb
  · rcases hs with hs | ⟨h, _, ⟨ver, rw, t, xs, hx⟩, hb⟩
    · exact hE.sb b hs
    · exact .inr (hE.own _ _ _ hx hb)

theorem find_seals (H : Heap) (L : List Nat) (h : Nat) : hset H (seals H L) h = roL H L h := by
  have key : find (seals H L) h = if h ∈ L then (match H h with | some (.row ver _ t xs) => some (.row ver false t xs) | _ => none) else none := by
    induction L with
    | nil => simp [seals, find]
    | cons x L ih =>
      by_cases hx : x = h
      · subst hx
        simp only [List.mem_cons, true_or, if_true]
        cases hH : H x with
        | none => simp only [seals, hH]; rw [ih]; simp [hH]
        | some k =>
          cases k with
          | row ver rw t xs => simp [seals, hH, find]
          | _ => simp only [seals, hH]; rw [ih]; simp [hH]
      · have hmem : h ∈ x :: L ↔ h ∈ L := by simp [Ne.symm hx]
        have hs : find (seals H (x :: L)) h = find (seals H L) h := by
          cases hH : H x with
          | none => simp only [seals, hH]
          | some k =>
            cases k with
            | row ver rw t xs =>
              simp only [seals, hH, find]
              cases hb : Nat.beq x h with
              | true => exact absurd (Nat.eq_of_beq_eq_true hb) hx
              | false => rfl
            | _ => simp only [seals, hH]
        rw [hs, ih]
        simp only [hmem]
  unfold hset roL
  rw [key]
  by_cases hm : h ∈ L
  · rw [if_pos hm]
    cases hH : H h with
    | none => rfl
    | some k =>
      cases k with
      | row ver rw t xs => simp [memN_iff.2 hm]
      | _ => rfl
  · rw [if_neg hm]
    have hf : memN L h = false := by cases hx : memN L h with | true => exact absurd (memN_iff.1 hx) hm | false => rfl
    cases hH : H h with
    | none => rfl
    | some k =>
      cases k with
      | row ver rw t xs => simp [hf]
      | _ => rfl

theorem hset_append0 (H : Heap) (l r : List (Nat × Blk)) : hset H (l ++ r) = hset (hset H r) l := by
  have key : ∀ (l r : List (Nat × Blk)) (i : Nat), find (l ++ r) i = match find l i with | some v => some v | none => find r i := fun l r i => by
    induction l with
    | nil => rfl
    | cons x l ih =>
      obtain ⟨k, v⟩ := x
      simp only [List.cons_append, find]
      cases Nat.beq k i with
      | true => rfl
      | false => simpa using ih
  funext h
  simp only [hset, key]
  cases find l h <;> rfl

theorem prel_ext {E E' : Env} (X : Ext E E') : ∀ {parts : List (Nat × V)} {pv : List (Nat × Value)}, prel E parts pv → prel E' parts pv
  | [], [], _ => trivial
  | _ :: _, [], h => by simp [prel] at h
  | [], _ :: _, h => by simp [prel] at h
  | _ :: _, _ :: _, h => ⟨h.1, vrel_ext X _ _ h.2.1, prel_ext X h.2.2⟩

theorem evBuildSlice2_sound {B : Base} {E : Env} (hE : HRel B E) {tb : Tbl} (hT : TblOK P tb) {t : TypeId} {td : TD} (ht : TDok P t td) (m : Nat) (hm : ¬ E.U m) {n : Nat} {parts : List (Nat × V)} {pv : Array (Nat × Value)} (hp : prel E parts pv.toList)
    {ps : List Ob} {v : V} {dh : List (Nat × Blk)} (h : evBuildSlice2 tb td E.H m n parts = .val ps v dh) : ∃ v' w' E', (Instr.buildSlice t n pv).run P E.w = .ok v' w' ∧ Good B E m dh w' E' ∧ vrel E' v v' := by
  unfold evBuildSlice2 at h
  split at h
  case h_2 => exact evBuildSlice_sound hE hT ht m hm hp h
  cases he : elSl tb td with
  | false => rw [he] at h; cases h
  | true =>
    rw [he] at h
    simp only [cond_true] at h
    unfold evBuildSeal at h
    split at h
    · rename_i ps' v0 dh' hb
      cases h
      obtain ⟨R, X⟩ := sealE_sound hE (hss (parts.map (·.2)))
      obtain ⟨v', w', E', h1, G, h3⟩ := evBuildSlice_sound (E := sealE E (hss (parts.map (·.2)))) R hT ht m hm (prel_ext X hp) (n := n) (show evBuildSlice tb td (sealE E (hss (parts.map (·.2)))).H m n parts = .val ps v dh' from hb)
      refine ⟨v', w', E', h1, ⟨G.rel, X.trans G.ext, G.w, ?_, G.u⟩, h3⟩
      rw [G.h, hset_append0]
      congr 1
      funext k
      exact (find_seals E.H _ k).symm
    · rename_i hne
      exact absurd h (hne _ _ _)

end Go.Mir

/- The mirror, part 12c: slices of any cells. -/
namespace Go.Mir
open Go.RowKit

variable {P : Program}

theorem vrels_map {E : Env} {α : Type} (f : α → V) (g : α → Value) (h : ∀ x, vrel E (f x) (g x)) : ∀ l : List α, vrels E (l.map f) (l.map g)
  | [] => by simp [vrels]
  | x :: l => by simp only [List.map_cons, vrels]; exact ⟨h x, vrels_map f g h l⟩

structure GBlk (E : Env) (h esz off len : Nat) (cs : List V) (v : Value) (b cap : Nat) (c : Array Value) (T : TypeId) (fr : Nat × Nat) : Prop where
  at_ : E.ρ h = some b
  val : v = .slice (some ⟨b, off * esz, none⟩) len cap
  blk : E.w.heap[b]? = some (.cells c T fr)
  room : (off + cap) * esz ≤ c.size
  fits : len ≤ cap
  known : (off + len) * esz ≤ cs.length
  frz : nofrz fr c.size
  S : ¬ E.S b
  rel : vrels E cs (c.toList.take cs.length)
  le : cs.length ≤ c.size

theorem fill_len {f : Nat → Option (Nat × Nat)} : ∀ {parts : List (Nat × V)} {cs cs' : List V}, fillV f cs parts = some cs' → cs'.length = cs.length
  | [], cs, cs', h => by simp only [fillV, Option.some.injEq] at h; rw [h]
  | (i, v) :: ps, cs, cs', h => by
    simp only [fillV] at h
    split at h
    case h_2 => cases h
    split at h
    case h_2 => cases h
    split at h
    case isFalse => cases h
    split at h
    case isFalse => cases h
    rename_i h2
    rw [fill_len h]
    unfold splice
    simp
    omega

theorem gsl_blk {B : Base} {E : Env} (hE : HRel B E) {h ver esz off len : Nat} {cs : List V} (hH : E.H h = some (.grow ver esz cs)) {v : Value} (hv : vrel E (.gsl h ver esz off len) v) :
    ∃ b cap c T fr, GBlk E h esz off len cs v b cap c T fr := by
  simp only [vrel] at hv
  obtain ⟨b, cap, c, T, fr, h1, h2, h3, h4, h5, h6⟩ := hv.2.2.2 _ hH
  obtain ⟨_, b', c', T', fr', k1, k2, k3, k4, k5⟩ := hE.blk _ _ hH
  rw [h1] at k1; cases k1
  rw [h3] at k2; cases k2
  have := vrels_len k5
  simp only [List.length_take, Array.length_toList] at this
  exact ⟨b, cap, c, T, fr, h1, h2, h3, h4, h5, h6, k3, k4, k5, by omega⟩

theorem evLoadG_sound {B : Base} {E : Env} (hE : HRel B E) {t : TypeId} {td : TD} (ht : TDok P t td) {a : V} {av : Value} (ha : vrel E a av) {ps : List Ob} {v : V} {dh : List (Nat × Blk)} (h : evLoadG td E.H a = .val ps v dh) :
    dh = [] ∧ ∃ v', (Instr.loadAt t av).run P E.w = .ok v' E.w ∧ vrel E v v' := by
  unfold evLoadG at h
  split at h
  · rename_i hh ver off
    split at h
    case h_2 => cases h
    rename_i ver' esz cs hH
    split at h
    case isFalse => cases h
    rename_i e
    subst e
    simp only [vrel] at ha
    obtain ⟨_, b, c, T, fr, k1, k2, k3, k4, k5⟩ := hE.blk _ _ hH
    obtain ⟨b', hb', rfl⟩ := ha.2.2.2 _ _ hH
    rw [k1] at hb'; cases hb'
    have hl := vrels_len k5
    simp only [List.length_take, Array.length_toList] at hl
    have := ld_sound ht k2 (p := 0) (n := cs.length) (by omega) (by simpa [seg] using k5) h
    simpa [Instr.loadAt, Instr.sureAddr] using this
  · exact evLoad_sound hE ht ha h

theorem evStoreG_sound {B : Base} {E : Env} (hE : HRel B E) {t : TypeId} {td : TD} (ht : TDok P t td) {a x : V} {av xv : Value} (ha : vrel E a av) (hx : vrel E x xv) (m : Nat) {ps : List Ob} {dh : List (Nat × Blk)} (h : evStoreG td E.H a x = .skip ps dh) :
    ∃ w' E', (Instr.storeAt t av xv).run P E.w = .ok () w' ∧ Good B E m dh w' E' := by
  unfold evStoreG at h
  split at h
  · rename_i hh ver off
    split at h
    case h_2 => cases h
    rename_i xs hxs
    split at h
    case isFalse => cases h
    rename_i hlen
    obtain ⟨hlen, hone⟩ := hlen
    split at h
    case h_2 => cases h
    rename_i ver' esz cs hH
    split at h
    case isFalse => cases h
    rename_i hsz
    obtain ⟨e, hsz⟩ := hsz
    subst e
    cases h
    have hvs := cellsOf_sound hx hxs
    have hvl : xv.cells.toList.length = td.size := by rw [← vrels_len hvs]; exact hlen
    have hvl' : xv.cells.size = td.size := by simpa using hvl
    have h1c := all_one hone hvs
    simp only [vrel] at ha
    obtain ⟨hU, b, c, T, fr, h1, h2, h3, h4, h5⟩ := hE.blk _ _ hH
    obtain ⟨b', hb', rfl⟩ := ha.2.2.2 _ _ hH
    rw [h1] at hb'; cases hb'
    have hl := vrels_len h5
    simp only [List.length_take, Array.length_toList] at hl
    have run : (Instr.storeAt t (.pointer (some ⟨b, off, none⟩)) xv).run P E.w = .ok () (E.w.setCells b off xv.cells.toList) := by
      have := run_storeCells_cells (P := P) b off xv.cells.toList 0 E.w (fun j hj => by rw [cell_of h2]; simp; omega) (fun j hj => frozen_of h2 h3 (by omega)) h1c
      simp only [Instr.storeAt, Instr.sureAddr, storeVar, Sem.run_bind, Sem.run_pure, Result.andThen_ok, ht.sizeOf, hvl', ne_eq, not_true_eq_false, if_false, this, Nat.add_zero]
    obtain ⟨c', g1, g2⟩ := setCells_heap b xv.cells.toList off E.w c h2 (by omega)
    have hcs : c'.size = c.size := by
      have := congrArg List.length g2
      simp at this
      omega
    have hsl : (splice cs off xs).length = cs.length := by
      unfold splice; simp; omega
    obtain ⟨R, X⟩ := step1 hE hh (.grow ver esz (splice cs off xs)) (some b) (E.w.setCells b off xv.cells.toList) E.U (fun _ h => h) (hE.used _ _ hH)
      (setCells_keeps b (fun b1 => some b = some b1) rfl _ _ _) (fun b1 e => by cases e; exact .inr ⟨h1, _, hH, rfl⟩) (fun b1 e => by cases e; exact h4) (fun _ e _ => by cases e) (fun _ _ _ _ e => by cases e)
      (fun X => ⟨hU, b, c', T, fr, upd_same _ _ _, g1, nofrz_size h3 hcs, h4, by
        rw [g2, hsl]
        have h6 := vrels_splice (vrels_ext X _ _ h5) (vrels_ext X _ _ hvs) off
        have e : (c.toList.take off ++ xv.cells.toList ++ c.toList.drop (off + xv.cells.toList.length)).take cs.length = (c.toList.take cs.length).take off ++ xv.cells.toList ++ (c.toList.take cs.length).drop (off + xv.cells.toList.length) := by
          have e1 : (c.toList.take off ++ xv.cells.toList).length = off + td.size := by simp only [List.length_append, List.length_take, Array.length_toList, hvl]; omega
          rw [List.take_append, List.take_of_length_le (by rw [e1]; exact hsz), e1, List.take_take, Nat.min_eq_left (by omega), hvl]
          congr 1
          rw [List.drop_take]
        rw [e]
        exact h6⟩)
      (fun ver2 esz2 cs2 e _ _ => by
        cases e
        exact ⟨cs, hH, hsl.symm, h1.symm, fun b2 c2 T2 fr2 hb2 hw2 => by
          rw [h1] at hb2; cases hb2
          rw [h2] at hw2; cases hw2
          exact ⟨c', T, fr, g1, hcs⟩⟩)
    exact ⟨_, _, run, R, X, rfl, (hset_one _ _ _).symm, fun _ h => .inl h⟩
  · exact evStore_sound hE ht ha hx m h

theorem evFieldG_sound {E : Env} {tb : Tbl} (hT : TblOK P tb) {t : TypeId} {td : TD} (ht : TDok P t td) {x : V} {xv : Value} (hx : vrel E x xv) {f : Nat} {ps : List Ob} {v : V} {dh : List (Nat × Blk)}
    (h : evFieldG tb td x f = .val ps v dh) : dh = [] ∧ ∃ v', (Instr.fieldAt t xv f).run P E.w = .ok v' E.w ∧ vrel E v v' := by
  unfold evFieldG at h
  split at h
  · rename_i hh ver off
    split at h
    case h_2 => cases h
    rename_i fs hk
    have hkd := ht.kind
    rw [hk] at hkd
    obtain ⟨fields, hu, hfs⟩ := hkd
    split at h
    case h_2 => cases h
    rename_i o ft hf
    obtain ⟨fl, h1, h2, h3⟩ := struct_field hfs hf
    split at h
    case h_2 => cases h
    rename_i tf htf
    have htf' := hT _ _ htf
    split at h
    case isTrue => cases h
    rename_i hsz
    cases h
    have run' : ∀ (a : Addr), (Instr.fieldAt t (.pointer (some a)) f).run P E.w = .ok (.pointer (some (a.add o))) E.w := fun a => by
      simp [Instr.fieldAt, run_underlying hu, h1, Instr.sureAddr, fieldPlace, h3, htf'.sizeOf, hsz, h2]
    refine ⟨rfl, ?_⟩
    simp only [vrel] at hx ⊢
    obtain ⟨a, rfl⟩ := hx.2.2.1
    refine ⟨_, run' a, hx.1, hx.2.1, ⟨_, rfl⟩, fun esz cs hcs => ?_⟩
    obtain ⟨b, hb, he⟩ := hx.2.2.2 _ _ hcs
    cases he
    exact ⟨b, hb, by rw [addr_add]⟩
  · exact evField_sound hT ht hx h

theorem evIndexG_sound {B : Base} {E : Env} (hE : HRel B E) {tb : Tbl} (hT : TblOK P tb) {t : TypeId} {td : TD} (ht : TDok P t td) {x i : V} {xv iv : Value} (hx : vrel E x xv) (hi : vrel E i iv) {ps : List Ob} {v : V} {dh : List (Nat × Blk)}
    (h : evIndexG tb td E.H x i = .val ps v dh) (hps : ∀ p ∈ ps, p.holds) : dh = [] ∧ ∃ v', (Instr.indexAt t xv iv).run P E.w = .ok v' E.w ∧ vrel E v v' := by
  unfold evIndexG at h
  have hkd := ht.kind
  split at h
  · rename_i hh ver esz off len
    split at h
    case h_2 => cases h
    rename_i k n
    simp only [vrel] at hi
    obtain ⟨rfl, _⟩ := hi
    split at h
    case h_2 => cases h
    rename_i e hk
    rw [hk] at hkd
    simp only [kindOK] at hkd
    split at h
    case h_2 => cases h
    rename_i te hte
    have hte' := hT _ _ hte
    split at h
    case h_2 => cases h
    rename_i ver' esz' cs hH
    split at h
    case isFalse => cases h
    rename_i hc
    obtain ⟨hsz, rfl, rfl⟩ := hc
    cases h
    have hp := hps _ (List.mem_singleton.2 rfl)
    simp only [Ob.holds] at hp
    have hx0 := hx
    simp only [vrel] at hx0
    obtain ⟨b, cap, c, T, fr, G⟩ := gsl_blk hE hH hx
    have e := G.val
    subst e
    refine ⟨rfl, .pointer (some ⟨b, (off + n.toNat) * esz, none⟩), ?_, ?_⟩
    · have e2 : (off + n.toNat) * esz = off * esz + n.toNat * esz := Nat.add_mul _ _ _
      rw [e2]
      simp [Instr.indexAt, asIntOf, run_underlying hkd, hte'.sizeOf, hp.1, hp.2, addr_add, hsz]
    · simp only [vrel]
      refine ⟨hx0.1, hx0.2.1, ⟨_, rfl⟩, fun esz2 cs2 hH2 => ?_⟩
      exact ⟨b, G.at_, rfl⟩
  · rename_i hh ver off
    split at h
    case h_2 => cases h
    rename_i k n
    simp only [vrel] at hi
    obtain ⟨rfl, _⟩ := hi
    split at h
    case h_2 => cases h
    rename_i len e hk
    rw [hk] at hkd
    simp only [kindOK] at hkd
    split at h
    case h_2 => cases h
    rename_i te hte
    have hte' := hT _ _ hte
    cases h
    have hp := hps _ (List.mem_singleton.2 rfl)
    simp only [Ob.holds] at hp
    refine ⟨rfl, ?_⟩
    simp only [vrel] at hx
    obtain ⟨hU, hU2, ⟨a, rfl⟩, hx⟩ := hx
    refine ⟨.pointer (some (a.add (n.toNat * te.size))), ?_, ?_⟩
    · simp [Instr.indexAt, asIntOf, run_underlying hkd, hte'.sizeOf, hp.1, hp.2, Instr.sureAddr]
    · simp only [vrel]
      refine ⟨hU, hU2, ⟨_, rfl⟩, fun esz cs hcs => ?_⟩
      obtain ⟨b, hb, he⟩ := hx _ cs hcs
      cases he
      exact ⟨b, hb, by rw [addr_add]⟩
  · exact evIndex_sound hE hT ht hx hi h hps

theorem evSliceG_sound {B : Base} {E : Env} (hE : HRel B E) {tb : Tbl} (hT : TblOK P tb) {t : TypeId} {td : TD} (ht : TDok P t td) (m : Nat) {x : V} {lo hi mx : Option V} {xv : Value} {lov hiv mxv : Option Value} (hx : vrel E x xv) (hlo : orel E lo lov) (hhi : orel E hi hiv) (hmx : orel E mx mxv)
    {ps : List Ob} {v : V} {dh : List (Nat × Blk)}
    (h : evSliceG tb td E.H x lo hi mx = .val ps v dh) (hps : ∀ p ∈ ps, p.holds) : ∃ v' E', (Instr.sliceAt t xv lov hiv mxv).run P E.w = .ok v' E.w ∧ Good B E m dh E.w E' ∧ vrel E' v v' := by
  unfold evSliceG at h
  have hkd := ht.kind
  have runS : ∀ (e : TypeId) (te : TD) (_ : td.kind = .slice e) (_ : TDok P e te) (a : Option Addr) (len cap l h m : Nat), (Instr.sliceBounds true len cap lov hiv mxv).run P E.w = .ok (l, h, m) E.w →
      (Instr.sliceAt t (.slice a len cap) lov hiv mxv).run P E.w = .ok (.slice (if m = l then a else a.map (·.add (l * te.size))) (h - l) (m - l)) E.w := fun e te hk hte a len cap l h m hr => by
    rw [hk] at hkd
    simp only [kindOK] at hkd
    simp [Instr.sliceAt, Instr.slice, run_underlying hkd, hr, hte.sizeOf]
  split at h
  · rename_i hh ver esz off len
    split at h
    · rename_i k0 n0
      split at h
      case isFalse => cases h
      rename_i hc
      obtain ⟨rfl, h1, h2, h3⟩ := hc
      cases h
      obtain ⟨n, hn⟩ := Option.isSome_iff_exists.1 h3
      obtain ⟨e, te, hk, hte, _⟩ := elSize_ok hT hn
      obtain ⟨kl, rfl⟩ := isNum_ok h1 hlo
      obtain ⟨kh, rfl⟩ := isNum_ok h2 hhi
      have hmv : ∃ km, mxv = some (.int km 0) := by
        cases mxv with
        | none => simp [orel] at hmx
        | some v => simp only [orel, vrel] at hmx; exact ⟨_, by rw [hmx.1]⟩
      obtain ⟨km, rfl⟩ := hmv
      simp only [vrel] at hx
      obtain ⟨_, _, ⟨a, l, c, rfl⟩, _⟩ := hx
      refine ⟨_, E, runS e te hk hte (some a) l c 0 0 0 (by simp [Instr.sliceBounds, Instr.sliceBound, asIntOf]), good_same hE m, ?_⟩
      simp [vrel]
    · cases h
    · have hmv : mxv = none := by
        cases mxv with
        | none => rfl
        | some v => simp [orel] at hmx
      subst hmv
      split at h
      case h_2 => cases h
      rename_i n l r hn el er
      split at h
      case h_2 => cases h
      rename_i ver' esz' cs hH
      split at h
      case isFalse => cases h
      rename_i hc
      obtain ⟨rfl, rfl, rfl⟩ := hc
      cases h
      have hp := hps _ (List.mem_singleton.2 rfl)
      simp only [Ob.holds] at hp
      obtain ⟨e, te, hk, hte, hts⟩ := elSize_ok hT hn
      have hx0 := hx
      simp only [vrel] at hx0
      obtain ⟨b, cap, c, T, fr, G⟩ := gsl_blk hE hH hx
      have ev := G.val
      subst ev
      have hr := runS e te hk hte (some ⟨b, off * n, none⟩) len cap _ _ cap (run_bounds (P := P) hlo hhi true len cap G.fits el er hp.1 hp.2.1 hp.2.2)
      refine ⟨_, E, hr, good_same hE m, ?_⟩
      have hcapl := G.room
      have hlen := G.fits
      have hcsl := G.known
      cases hb : Nat.beq l.toNat 0 || Nat.blt l.toNat r.toNat with
      | false =>
        simp only [cond_false, vrel]
        simp only [Bool.or_eq_false_iff] at hb
        have h1 : ¬ l.toNat < r.toNat := fun h => by
          have : Nat.blt l.toNat r.toNat = true := by rw [Nat.blt_eq]; exact h
          rw [this] at hb; cases hb.2
        rw [show r.toNat - l.toNat = 0 by omega]
        exact .nil
      | true =>
        simp only [cond_true, vrel]
        have hadd : (if cap = l.toNat then some (⟨b, off * n, none⟩ : Addr) else (some (⟨b, off * n, none⟩ : Addr)).map (·.add (l.toNat * te.size))) = some ⟨b, (off + l.toNat) * n, none⟩ := by
          simp only [Bool.or_eq_true, Nat.blt_eq] at hb
          split
          · rename_i hcl
            have : l.toNat = 0 := by
              rcases hb with h | h
              · exact Nat.eq_of_beq_eq_true h
              · omega
            rw [this]; simp
          · simp only [Option.map_some, addr_add, hts, Nat.add_mul]
        rw [hadd]
        refine ⟨hx0.1, hx0.2.1, ⟨_, _, _, rfl⟩, fun cs2 hH2 => ?_⟩
        rw [hH] at hH2; cases hH2
        refine ⟨b, cap - l.toNat, c, T, fr, G.at_, rfl, G.blk, ?_, by omega, ?_⟩
        · rw [show off + l.toNat + (cap - l.toNat) = off + cap by omega]; exact hcapl
        · refine Nat.le_trans (Nat.mul_le_mul_right _ ?_) hcsl
          omega
  · exact evSlice_sound hE hT ht m hx hlo hhi hmx h hps

/-- a new block of any cells -/
theorem new_grow {B : Base} {E : Env} (hE : HRel B E) (m : Nat) (hm : ¬ E.U m) (esz len cap : Nat) (cs : List V) (c : Array Value) (T : TypeId) (hc : vrels E cs (c.toList.take cs.length)) (hcap : cap * esz ≤ c.size) (hl : len ≤ cap) (hcs : len * esz ≤ cs.length) :
    ∃ E', Good B E m [(m, .grow m esz cs)] { E.w with heap := E.w.heap.push (.cells c T (0, 0)) } E' ∧ vrel E' (.gsl m m esz 0 len) (.slice (some ⟨E.w.heap.size, 0, none⟩) len cap) := by
  obtain ⟨E', G, h1, h2, h3⟩ := new_block hE m hm (.grow m esz cs) c T (fun E' X hu hρ hw hS _ => ⟨hu, _, c, T, (0, 0), hρ, hw, fun i _ h => by simp at h, hS, vrels_ext X _ _ hc⟩) (fun n => E.U n ∨ n = m) (fun _ => Iff.rfl)
  refine ⟨E', G, ?_⟩
  simp only [vrel]
  refine ⟨h1, h1, ⟨_, _, _, rfl⟩, fun cs2 hH2 => ⟨_, cap, c, T, (0, 0), h2, by simp, h3, by simpa using hcap, hl, ?_⟩⟩
  have : E'.H m = some (.grow m esz cs) := by rw [G.h, hset_one]; exact upd_same _ _ _
  rw [this] at hH2; cases hH2
  simpa using hcs

/-- zero cells, repeated -/
theorem zero_reps (z : Array Value) (sz N : Nat) (hzl : z.size = sz) :
    ∃ zc : Array Value, ((N * sz = 0 ∧ zc = #[]) ∨ (N * sz ≠ 0 ∧ zc = z)) ∧ ((Array.range (N * sz)).map (zc[· % zc.size]!)).toList = (List.replicate N z.toList).flatten := by
  by_cases h0 : N * sz = 0
  · refine ⟨#[], .inl ⟨h0, rfl⟩, ?_⟩
    rw [h0]
    rcases Nat.mul_eq_zero.1 h0 with h0 | h0
    · subst h0; simp
    · have : z.toList = [] := List.eq_nil_of_length_eq_zero (by rw [Array.length_toList]; omega)
      rw [this]; simp
  · refine ⟨z, .inr ⟨h0, rfl⟩, ?_⟩
    rw [← hzl, Array.toList_map, Array.toList_range]
    exact range_reps _ _

theorem evBuildSliceG_sound {B : Base} {E : Env} (hE : HRel B E) {tb : Tbl} (hT : TblOK P tb) {t : TypeId} {td : TD} (ht : TDok P t td) (m : Nat) (hm : ¬ E.U m) {n : Nat} {parts : List (Nat × V)} {pv : Array (Nat × Value)} (hp : prel E parts pv.toList)
    {ps : List Ob} {v : V} {dh : List (Nat × Blk)} (h : evBuildSliceG tb td E.H m n parts = .val ps v dh) : ∃ v' w' E', (Instr.buildSlice t n pv).run P E.w = .ok v' w' ∧ Good B E m dh w' E' ∧ vrel E' v v' := by
  unfold evBuildSliceG at h
  split at h
  case h_2 => exact evBuildSlice2_sound hE hT ht m hm hp h
  have hk := ht.kind
  split at h
  case h_2 => cases h
  rename_i e h1
  rw [h1] at hk
  simp only [kindOK] at hk
  split at h
  case h_2 => cases h
  rename_i te hte
  have hte' := hT _ _ hte
  split at h
  case isFalse => cases h
  rename_i hc
  obtain ⟨c2, c3, c4⟩ := hc
  split at h
  case h_2 => cases h
  rename_i cs hcs
  cases h
  obtain ⟨z, hz, hzz⟩ := hte'.zeroValue E.w
  have hzr : vrels E te.zero z.cells.toList := zeqs_vrels hzz
  have hzl : z.cells.size = te.size := by have := vrels_len hzr; simp at this; omega
  have hsmall : ¬ (n * te.size > 2 ^ 24) := by
    have := Nat.mul_le_mul c2 c3
    omega
  obtain ⟨zc, hz1, hz2⟩ := zero_reps z.cells te.size n hzl
  have hzv := vrels_reps hzr n
  rw [← hz2] at hzv
  obtain ⟨cells', r1, r2⟩ := fill_sound hp hzv hcs
  have hl2 := vrels_len r2
  have hl3 : cells'.size = n * te.size := by
    have e := fill_len hcs
    have e2 : (reps te.zero n).length = n * te.size := by
      have := vrels_len (vrels_reps hzr n)
      rw [this]; simp [hzl]
    have := Array.length_toList (xs := cells')
    omega
  obtain ⟨E', G, hv⟩ := new_grow hE m hm te.size n n cs cells' e (by rw [List.take_of_length_le (by omega)]; exact r2) (by omega) (Nat.le_refl _) (by have := Array.length_toList (xs := cells'); omega)
  refine ⟨_, _, E', ?_, G, hv⟩
  unfold Instr.buildSlice
  simp only [Sem.run_bind, run_underlying hk, Result.andThen_ok, hte'.sizeOf, hsmall, if_false]
  rcases hz1 with ⟨h0, rfl⟩ | ⟨h0, rfl⟩
  · simp only [h0, if_true, Sem.run_bind, Sem.run_pure, Result.andThen_ok] at r1 ⊢
    simp only [r1, newRow, Sem.run_bind, run_newObj, Result.andThen_ok, Sem.run_pure]
  · simp only [h0, if_false, Sem.run_bind, hz, Sem.run_pure, Result.andThen_ok, r1, newRow, run_newObj]

theorem rep_take {α : Type} (z : List α) (n N : Nat) (h : n ≤ N) : ((List.replicate N z).flatten).take (n * z.length) = (List.replicate n z).flatten := by
  obtain ⟨d, rfl⟩ : ∃ d, N = n + d := ⟨N - n, by omega⟩
  rw [← List.replicate_append_replicate, List.flatten_append]
  have hl : ((List.replicate n z).flatten).length = n * z.length := by simp
  rw [← hl, List.take_left]

theorem evMakeSliceG_sound {B : Base} {E : Env} (hE : HRel B E) {tb : Tbl} (hT : TblOK P tb) {t : TypeId} {td : TD} (ht : TDok P t td) (m : Nat) (hm : ¬ E.U m) {l c : V} {lv cv : Value} (hl : vrel E l lv) (hc : vrel E c cv)
    {ps : List Ob} {v : V} {dh : List (Nat × Blk)} (h : evMakeSliceG tb td E.H m l c = .val ps v dh) (hps : ∀ p ∈ ps, p.holds) : ∃ v' w' E', (Instr.makeSlice t lv cv).run P E.w = .ok v' w' ∧ Good B E m dh w' E' ∧ vrel E' v v' := by
  unfold evMakeSliceG at h
  split at h
  case h_2 => exact evMakeSlice_sound hE hT ht m hm hl hc h hps
  have hk := ht.kind
  split at h
  case h_2 => cases h
  rename_i k1 n k2 c
  split at h
  case h_2 => cases h
  rename_i e h1
  rw [h1] at hk
  simp only [kindOK] at hk
  split at h
  case h_2 => cases h
  rename_i te hte
  have hte' := hT _ _ hte
  split at h
  case isFalse => cases h
  rename_i hcc
  obtain ⟨c2, c4⟩ := hcc
  cases h
  have hp := hps _ (List.mem_singleton.2 rfl)
  simp only [Ob.holds] at hp
  obtain ⟨p1, p2, p3⟩ := hp
  simp only [vrel] at hl hc
  obtain ⟨rfl, _⟩ := hl
  obtain ⟨rfl, _⟩ := hc
  obtain ⟨z, hz, hzz⟩ := hte'.zeroValue E.w
  have hzr : vrels E te.zero z.cells.toList := zeqs_vrels hzz
  have hzl : z.cells.size = te.size := by have := vrels_len hzr; simp at this; omega
  obtain ⟨M, rfl⟩ := Int.eq_ofNat_of_zero_le p1
  obtain ⟨N, rfl⟩ := Int.eq_ofNat_of_zero_le (Int.le_trans p1 p2)
  have hN : N ≤ 17179869184 := by omega
  have hMN : M ≤ N := by omega
  have hwrap : ∀ (X : Nat), X ≤ N → IntKind.i64.wrap (X : Int) = (X : Int) := fun X hX => by
    unfold IntKind.wrap
    simp [IntKind.bits, IntKind.signed]
    omega
  have hbytes : ((te.bytes : Int) * (N : Int)) ≤ 281474976710656 := by
    have : te.bytes * N ≤ 1000 * 17179869184 := Nat.mul_le_mul c2 hN
    have h2 : ((te.bytes * N : Nat) : Int) ≤ 17179869184000 := by omega
    rw [Int.natCast_mul] at h2
    omega
  obtain ⟨hb1, hb2⟩ := hte'.bytes E.w
  obtain ⟨zc, hz1, hz2⟩ := zero_reps z.cells te.size N hzl
  have hsz : ((Array.range (N * te.size)).map (zc[· % zc.size]!)).size = N * te.size := by simp
  have hlen0 : (reps te.zero M).length = M * te.size := by
    have := vrels_len (vrels_reps hzr M)
    rw [this]; simp [hzl]
  have htk : ((Array.range (N * te.size)).map (zc[· % zc.size]!)).toList.take (reps te.zero M).length = (List.replicate M z.cells.toList).flatten := by
    rw [hz2, hlen0]
    have := rep_take z.cells.toList M N hMN
    rw [show z.cells.toList.length = te.size by simpa using hzl] at this
    exact this
  obtain ⟨E', G, hv⟩ := new_grow hE m hm te.size M N (reps te.zero M) ((Array.range (N * te.size)).map (zc[· % zc.size]!)) e (by rw [htk]; exact vrels_reps hzr M) (by rw [hsz]; exact Nat.le_refl _) hMN (by rw [hlen0]; exact Nat.le_refl _)
  refine ⟨_, _, E', ?_, by simpa using G, by simpa using hv⟩
  unfold Instr.makeSlice
  simp only [Sem.run_bind, run_underlying hk, Result.andThen_ok, asInt, asIntOf, Sem.run_pure, hb1, hb2, hwrap M hMN, hwrap N (Nat.le_refl _)]
  have hcond : ¬ ((decide ((N : Int) < 0) || decide ((te.bytes : Int) * (N : Int) > 2 ^ 48) || decide ((M : Int) < 0) || decide ((M : Int) > (N : Int))) = true) := by
    have e48 : (2 : Int) ^ 48 = 281474976710656 := by decide
    rw [e48]
    simp only [Bool.or_eq_true, decide_eq_true_eq]
    omega
  rw [if_neg hcond]
  simp only [Sem.run_bind, run_askRoom, Result.andThen_ok, hte'.sizeOf, Int.toNat_natCast]
  rcases hz1 with ⟨h0, rfl⟩ | ⟨h0, rfl⟩
  · simp only [h0, if_true, Sem.run_bind, Sem.run_pure, Result.andThen_ok, newRow, run_newObj]
    rfl
  · simp only [h0, if_false, Sem.run_bind, hz, Sem.run_pure, Result.andThen_ok, newRow, run_newObj]
    rfl

theorem gcells_sound {B : Base} {E : Env} (hE : HRel B E) {z : Nat} {x : V} {xv : Value} (hx : vrel E x xv) {n : Nat} {ys : List V} (h : gcells E.H z x = some (n, ys)) (hone : ys.all V.one = true) :
    ∃ a cap l, SrcC P E z n xv a cap l ∧ vrels E ys l := by
  have empty : ∀ (a : Option Addr) (cap : Nat), n = 0 → ys = [] → xv = .slice a 0 cap → ∃ a cap l, SrcC P E z n xv a cap l ∧ vrels E ys l := fun a cap e1 e3 e2 => by
    subst e1; subst e2; subst e3
    refine ⟨a, cap, [], ⟨rfl, by simp, fun w _ => ?_, fun v hv => by cases hv⟩, trivial⟩
    cases a with
    | none => simp [Builtin.firstCells]
    | some a =>
      have := run_loadCells_list (P := P) w a [] (fun j v hj => by simp at hj)
      simpa [Builtin.firstCells] using this
  unfold gcells at h
  split at h
  · cases h; simp only [vrel] at hx; exact empty _ _ rfl rfl hx
  · cases h; simp only [vrel] at hx; obtain ⟨a, hx⟩ := hx; exact empty _ _ rfl rfl hx
  · cases h
    simp only [vrel] at hx
    generalize hl : [xv] = l0 at hx
    cases hx with
    | nil => cases hl; exact empty _ _ rfl rfl rfl
    | slice => cases hl; exact empty _ _ rfl rfl rfl
  · rename_i hh ver esz off len
    split at h
    case h_2 => cases h
    rename_i ver' esz2 cs hH
    split at h
    case isFalse => cases h
    rename_i e
    obtain ⟨rfl, rfl, rfl⟩ := e
    cases h
    obtain ⟨b, cap, c, T, fr, G⟩ := gsl_blk hE hH hx
    have ev := G.val
    subst ev
    have hkn := G.known
    have hle := G.le
    have h2 : off * esz2 + n * esz2 ≤ cs.length := by rw [← Nat.add_mul]; exact hkn
    have hv : vrels E ((cs.drop (off * esz2)).take (n * esz2)) (((c.toList.take cs.length).drop (off * esz2)).take (n * esz2)) := vrels_take (vrels_drop G.rel _) _
    have hl : (((c.toList.take cs.length).drop (off * esz2)).take (n * esz2)).length = n * esz2 := by
      simp; omega
    refine ⟨_, cap, _, ⟨rfl, hl, fun w hw => ?_, all_one hone hv⟩, hv⟩
    have hbw : w.heap[b]? = some (.cells c T fr) := by rw [hw]; exact G.blk
    have := run_loadCells_list (P := P) w ⟨b, off * esz2, none⟩ (((c.toList.take cs.length).drop (off * esz2)).take (n * esz2)) (fun j v hj => by
      rw [addr_add, cell_of hbw]
      have hjl : j < n * esz2 := by
        rcases Nat.lt_or_ge j (n * esz2) with h1 | h1
        · exact h1
        · rw [List.getElem?_eq_none (by omega)] at hj; cases hj
      rw [List.getElem?_take_of_lt hjl, List.getElem?_drop, List.getElem?_take_of_lt (by omega)] at hj
      exact hj)
    rw [hl] at this
    simpa [Builtin.firstCells] using this
  · cases h

/-- any cells get a new block -/
theorem put_grow {B : Base} {E : Env} (hE : HRel B E) (m : Nat) (hm : ¬ E.U m) (h0 : Nat) (hh : E.U h0 ∨ h0 = m) (esz len cap : Nat) (cs : List V) (c : Array Value) (T : TypeId) (hc : vrels E cs (c.toList.take cs.length)) (hcap : cap * esz ≤ c.size) (hl : len ≤ cap) (hcs : len * esz ≤ cs.length) :
    ∃ E', Good B E m [(h0, .grow m esz cs)] { E.w with heap := E.w.heap.push (.cells c T (0, 0)) } E' ∧ vrel E' (.gsl h0 m esz 0 len) (.slice (some ⟨E.w.heap.size, 0, none⟩) len cap) := by
  have hS : ¬ E.S E.w.heap.size := fun h => Nat.lt_irrefl _ (hE.stab _ h)
  have hget : (E.w.heap.push (.cells c T (0, 0)))[E.w.heap.size]? = some (.cells c T (0, 0)) := by simp
  obtain ⟨R, X⟩ := step1 hE h0 (.grow m esz cs) (some E.w.heap.size) { E.w with heap := E.w.heap.push (.cells c T (0, 0)) } (fun n => E.U n ∨ n = m) (fun n h => .inl h) hh
    ⟨rfl, rfl, rfl, by simp, fun b hb' _ => Below.heap_alloc E.w _ b hb'⟩ (fun b e => by cases e; exact .inl ⟨Nat.le_refl _, by simp⟩) (fun b e => by cases e; exact hS)
    (fun _ e _ => by cases e) (fun _ _ _ _ e => by cases e)
    (fun X => ⟨.inr rfl, _, c, T, (0, 0), upd_same _ _ _, hget, (fun i _ h => by simp at h), hS, vrels_ext X _ _ hc⟩)
    (fun _ _ _ e _ h => by cases e; exact absurd h hm)
  refine ⟨_, ⟨R, X, rfl, (hset_one _ _ _).symm, fun n h => ?_⟩, ?_⟩
  · rcases h with h | h
    · exact .inl h
    · exact .inr ⟨by omega, by unfold KN; omega⟩
  · simp only [vrel]
    refine ⟨hh, .inr trivial, ⟨_, _, _, rfl⟩, fun cs2 hH => ⟨_, cap, c, T, (0, 0), upd_same _ _ _, by simp, hget, by simpa using hcap, hl, ?_⟩⟩
    simp only [upd_same, Option.some.injEq] at hH
    cases hH
    simpa using hcs

theorem evAppendG_sound {B : Base} {E : Env} (hE : HRel B E) {tb : Tbl} (hT : TblOK P tb) {tS tX : TypeId} {tdS tdX : TD} (hS : TDok P tS tdS) (hX : TDok P tX tdX) {eX : TypeId} (hkX : tdX.kind = .slice eX) (m : Nat) (hm : ¬ E.U m) {s x : V} {sv xv : Value}
    (hs : vrel E s sv) (hx : vrel E x xv) (ty : TypeId) {ps : List Ob} {v : V} {dh : List (Nat × Blk)} (h : evAppendG tb tdS E.H m s x = .val ps v dh) (hps : ∀ p ∈ ps, p.holds) :
    ∃ v' w' E', (Builtin.append_ #[tS, tX] ty #[sv, xv]).run P E.w = .ok v' w' ∧ Good B E m dh w' E' ∧ vrel E' v v' := by
  unfold evAppendG at h
  split at h
  case h_2 => cases h
  rename_i e hk
  split at h
  case h_2 => cases h
  rename_i te hte0
  have hte := hT _ _ hte0
  split at h
  case isFalse => exact evAppend_sound hE hT hS hX hkX m hm hs hx ty h hps
  split at h
  case isFalse => cases h
  rename_i hc
  obtain ⟨c2, c3, c4⟩ := hc
  split at h
  case h_2 => cases h
  rename_i k ys hys
  split at h
  case isFalse => cases h
  rename_i hone
  obtain ⟨a, cap, l, src, hyl⟩ := gcells_sound (P := P) hE hx hys hone
  have hyl0 := vrels_len hyl
  obtain ⟨R0, X0⟩ := step0 hE E.w.drew rfl rfl rfl rfl
  split at h
  · -- nothing is added
    have hl0 : l = [] := List.eq_nil_of_length_eq_zero (by rw [src.len]; omega)
    subst hl0
    have same : ∀ (base : Option Addr) (sl sc : Nat), sl ≤ sc → (Builtin.append_ #[tS, tX] ty #[.slice base sl sc, xv]).run P E.w = .ok (.slice base sl sc) E.w := fun base sl sc hle => by
      have := run_append_fits hS hX hk hkX hte rfl src base sl sc (by omega) ty E.w (fun a' _ => rfl) (fun _ => rfl)
      simpa using this
    split at h
    · cases h
      simp only [vrel] at hs
      subst hs
      exact ⟨_, _, E, same none 0 0 (Nat.le_refl _), good_same hE m, by simp [vrel]⟩
    · cases h
      simp only [vrel] at hs
      obtain ⟨b0, rfl⟩ := hs
      exact ⟨_, _, E, same b0 0 0 (Nat.le_refl _), good_same hE m, by simp [vrel]⟩
    · split at h
      case h_2 => cases h
      rename_i ver' esz' cs hH
      split at h
      case isFalse => cases h
      rename_i e1
      obtain ⟨rfl, rfl⟩ := e1
      cases h
      obtain ⟨b, cap', c, T, fr, G⟩ := gsl_blk hE hH hs
      have ev := G.val
      subst ev
      exact ⟨_, _, E, same _ _ _ G.fits, good_same hE m, hs⟩
    · cases h
  · rename_i k
    -- onto a slice without cells
    have onto : ∀ (base : Option Addr), (k + 1) * te.bytes ≤ 70368744177664 → sv = .slice base 0 0 →
        ∃ v' w' E', (Builtin.append_ #[tS, tX] ty #[sv, xv]).run P E.w = .ok v' w' ∧ Good B E m [(m, .grow m te.size ys)] w' E' ∧ vrel E' (.gsl m m te.size 0 (k + 1)) v' := fun base hp esv => by
      subst esv
      have hold : ∀ (w : World), w.heap = E.w.heap → (Builtin.firstCells te.size 0 (.slice base 0 0)).run P w = .ok ([] : List Value).toArray w := fun w _ => by
        cases base with
        | none => simp [Builtin.firstCells]
        | some a => simpa [Builtin.firstCells] using run_loadCells_list (P := P) w a [] (fun j v hj => by simp at hj)
      obtain ⟨nc, c, g1, g2, g3, g4⟩ := run_append_grows hE hS hX hk hkX hte rfl c4 c2 c3 src base 0 0 [] (by simp) hold (by omega) (by rw [Nat.zero_add]; exact hp) ty
      simp only [Nat.zero_add, List.nil_append] at g1 g3 g4
      have hl1 : l.length = (k + 1) * te.size := src.len
      obtain ⟨E', G, hv⟩ := put_grow R0 m hm m (.inr rfl) te.size (k + 1) nc ys c e (by rw [hyl0, hl1, g3]; exact vrels_ext X0 _ _ hyl) (by rw [g2]; exact Nat.le_refl _) g1 (by rw [hyl0, hl1]; exact Nat.le_refl _)
      exact ⟨_, _, E', g4, good_world X0 G, hv⟩
    split at h
    · cases h
      simp only [vrel] at hs
      exact onto none (hps _ (List.mem_singleton.2 rfl)) hs
    · cases h
      simp only [vrel] at hs
      obtain ⟨b0, hs⟩ := hs
      exact onto b0 (hps _ (List.mem_singleton.2 rfl)) hs
    · rename_i hh ver esz off len _
      split at h
      case h_2 => cases h
      rename_i ver' esz' cs hH
      split at h
      case isFalse => cases h
      rename_i e1
      obtain ⟨rfl, rfl, rfl, rfl, hlen⟩ := e1
      cases h
      have hp := hps _ (List.mem_singleton.2 rfl)
      simp only [Ob.holds] at hp
      have hU := hE.used _ _ hH
      obtain ⟨b, cap', c, T, fr, G⟩ := gsl_blk hE hH hs
      have ev := G.val
      subst ev
      have hle := G.le
      have hrm := G.room
      have hl1 : l.length = (k + 1) * te.size := src.len
      by_cases hroom : len + (k + 1) ≤ cap'
      · have hm2 : (len + (k + 1)) * te.size ≤ cap' * te.size := Nat.mul_le_mul_right _ hroom
        rw [Nat.add_mul] at hm2
        simp only [Nat.zero_add] at hrm
        obtain ⟨c', g1, g2⟩ := setCells_heap b l (len * te.size) E.w c G.blk (by omega)
        have hcs : c'.size = c.size := by
          have := congrArg List.length g2
          simp at this
          omega
        have hrun := run_append_fits hS hX hk hkX hte rfl src (some ⟨b, 0 * te.size, none⟩) len cap' hroom ty (E.w.setCells b (len * te.size) l) (fun a' ea => by
          cases ea
          have := run_storeCells_cells (P := P) b (len * te.size) l 0 E.w (fun j hj => by rw [cell_of G.blk]; simp; omega) (fun j hj => frozen_of G.blk G.frz (by omega)) src.one
          rw [addr_add]
          simpa using this) (fun en => by cases en)
        have htk : c'.toList.take (cs ++ ys).length = c.toList.take cs.length ++ l := by
          rw [g2, hlen, List.length_append, hyl0, List.take_append_of_le_length (by simp; omega), List.take_of_length_le (by simp; omega)]
        obtain ⟨R, X⟩ := step1 hE hh (.grow m te.size (cs ++ ys)) (some b) (E.w.setCells b (len * te.size) l) (fun n => E.U n ∨ n = m) (fun n h => .inl h) (.inl hU)
          (setCells_keeps b (fun b1 => some b = some b1) rfl _ _ _) (fun b1 e => by cases e; exact .inr ⟨G.at_, _, hH, rfl⟩) (fun b1 e => by cases e; exact G.S)
          (fun _ e _ => by cases e) (fun _ _ _ _ e => by cases e)
          (fun X => ⟨.inr rfl, b, c', T, fr, upd_same _ _ _, g1, nofrz_size G.frz hcs, G.S, by
            rw [htk]
            exact vrels_append (vrels_ext X _ _ G.rel) (vrels_ext X _ _ hyl)⟩)
          (fun _ _ _ e _ h => by cases e; exact absurd h hm)
        refine ⟨_, _, _, hrun, ⟨R, X, rfl, (hset_one _ _ _).symm, fun n h => ?_⟩, ?_⟩
        · rcases h with h | h
          · exact .inl h
          · exact .inr ⟨by omega, by unfold KN; omega⟩
        · simp only [vrel]
          refine ⟨.inl hU, .inr trivial, ⟨_, _, _, rfl⟩, fun cs2 hH2 => ⟨b, cap', c', T, fr, upd_same _ _ _, rfl, g1, by rw [hcs]; simpa using hrm, hroom, ?_⟩⟩
          simp only [upd_same, Option.some.injEq] at hH2
          cases hH2
          rw [List.length_append, hyl0, hl1, ← hlen, Nat.zero_add, Nat.add_mul]
          exact Nat.le_refl _
      · have hl0 : (seg c 0 (len * te.size)).length = len * te.size := seg_len _ _ _ (by omega)
        obtain ⟨nc, c', g1, g2, g3, g4⟩ := run_append_grows hE hS hX hk hkX hte rfl c4 c2 c3 src (some ⟨b, 0 * te.size, none⟩) len cap' (seg c 0 (len * te.size)) hl0 (fun w hw => by
          have hbw : w.heap[b]? = some (.cells c T fr) := by rw [hw]; exact G.blk
          have := run_loadCells_list (P := P) w ⟨b, 0 * te.size, none⟩ (seg c 0 (len * te.size)) (fun j v hj => by
            rw [addr_add, cell_of hbw]
            rw [seg_get] at hj
            split at hj
            · simpa using hj
            · cases hj)
          rw [hl0] at this
          simpa [Builtin.firstCells] using this) (by omega) hp ty
        have htk : c'.toList.take (cs ++ ys).length = c.toList.take cs.length ++ l := by
          rw [List.length_append, hyl0, hl1, ← hlen, ← Nat.add_mul, g3, seg, List.drop_zero]
        obtain ⟨E', G', hv⟩ := put_grow R0 m hm hh (.inl hU) te.size (len + (k + 1)) nc (cs ++ ys) c' e (by
          rw [htk]
          exact vrels_append (vrels_ext X0 _ _ G.rel) (vrels_ext X0 _ _ hyl)) (by rw [g2]; exact Nat.le_refl _) g1 (by rw [List.length_append, hyl0, hl1, ← hlen, ← Nat.add_mul]; exact Nat.le_refl _)
        exact ⟨_, _, E', g4, good_world X0 G', hv⟩
    · cases h

theorem evBytesG_sound {B : Base} {E : Env} (hE : HRel B E) {tb : Tbl} (hT : TblOK P tb) {s d : TypeId} {ts td : TD} (hs : TDok P s ts) (hd : TDok P d td) (m : Nat) (hm : ¬ E.U m) {x : V} {xv : Value} (hx : vrel E x xv) {ps : List Ob} {v : V} {dh : List (Nat × Blk)}
    (h : evBytesG tb ts td m x = .val ps v dh) : ∃ v' w' E', (convert s d xv).run P E.w = .ok v' w' ∧ Good B E m dh w' E' ∧ vrel E' v v' := by
  have hsk := hs.kind
  have hdk := hd.kind
  unfold evBytesG at h
  split at h
  case h_2 => cases h
  rename_i e str h1 h2
  split at h
  case h_2 => cases h
  rename_i te hte
  have hek := (hT _ _ hte).kind
  split at h
  · exact evBytes_sound hE hT hs hd m hm hx h
  split at h
  case h_2 => cases h
  rename_i h3
  cases h
  rw [h1] at hsk; rw [h2] at hdk; rw [h3] at hek
  simp only [kindOK] at hsk hdk hek
  simp only [vrel] at hx
  obtain ⟨rfl, hlen⟩ := hx
  obtain ⟨R0, X0⟩ := step0 hE E.w.drew rfl rfl rfl rfl
  generalize hq : (Question.appendCap str.size 0 e).cut (E.w.tape E.w.drawn (Question.appendCap str.size 0 e)) = cap
  have hcap : str.size ≤ cap := by rw [← hq]; simp only [Question.cut]; omega
  let c : Array Value := (str.data.map fun b => Value.int .u8 b.toNat) ++ Array.replicate (cap - str.size) (.int .u8 0)
  have hds : str.data.size = str.size := ByteArray.size_data
  have hcs : c.size = cap := by simp [c, hds]; omega
  have hl : ((bytesI str).map fun n => V.int .u8 n).length = str.size := by simp [bytesI, hds]
  have hrel : ∀ E2 : Env, vrels E2 ((bytesI str).map fun n => V.int .u8 n) (c.toList.take ((bytesI str).map fun n => V.int .u8 n).length) := fun E2 => by
    have e1 : c.toList.take ((bytesI str).map fun n => V.int .u8 n).length = str.data.toList.map fun b => Value.int .u8 b.toNat := by
      rw [hl]
      simp only [c, Array.toList_append, Array.toList_map]
      rw [List.take_append_of_le_length (by simp [hds]), List.take_of_length_le (by simp [hds])]
    rw [e1]
    unfold bytesI
    rw [List.map_map]
    exact vrels_map _ _ (fun b => vint (ok_u8 b)) _
  have hS : ¬ E.S E.w.heap.size := fun h => Nat.lt_irrefl _ (hE.stab _ h)
  have hget : (E.w.heap.push (.cells c e (c.size, c.size + 1)))[E.w.heap.size]? = some (.cells c e (c.size, c.size + 1)) := by simp
  obtain ⟨R, X⟩ := step1 R0 m (.grow m 1 ((bytesI str).map fun n => V.int .u8 n)) (some E.w.heap.size) { E.w.drew with heap := E.w.heap.push (.cells c e (c.size, c.size + 1)) } (fun n => E.U n ∨ n = m) (fun n h => .inl h) (.inr rfl)
    ⟨rfl, rfl, rfl, by show E.w.heap.size ≤ (E.w.heap.push _).size; simp, fun b hb' _ => Below.heap_alloc E.w _ b hb'⟩ (fun b e => by cases e; exact .inl ⟨Nat.le_refl _, by simp⟩) (fun b e => by cases e; exact hS)
    (fun _ e _ => by cases e) (fun _ _ _ _ e => by cases e)
    (fun X => ⟨.inr rfl, _, c, e, (c.size, c.size + 1), upd_same _ _ _, hget, (fun i hi h => by have := h.1; simp at this; omega), hS, hrel _⟩)
    (fun _ _ _ e _ h => by cases e; exact absurd h hm)
  refine ⟨.slice (some ⟨E.w.heap.size, 0, none⟩) str.size cap, _, _, ?_, good_world X0 ⟨R, X, rfl, (hset_one _ _ _).symm, fun n h => ?_⟩, ?_⟩
  · have hfd : Question.forced (Question.appendCap str.size 0 e) = false := rfl
    simp only [convert, Sem.run_bind, run_underlying hsk, run_underlying hdk, run_underlying hek, Result.andThen_ok, Conv.stringToBytes, run_choose, hfd, hq]
    simp only [Bool.false_eq_true, if_false, Result.andThen_ok, newRow, Sem.run_bind, run_newObj, Sem.run_pure, markStringish, run_shape]
    have hsh : World.shape? { E.w.drew with heap := E.w.drew.heap.push (.cells c e (0, 0)) } E.w.drew.heap.size = some (e, c.size) := by
      have hget : (E.w.drew.heap.push (.cells c e (0, 0)))[E.w.drew.heap.size]? = some (.cells c e (0, 0)) := Array.getElem?_push_size
      unfold World.shape?
      simp only [hget]
    have hfz := freeze_last E.w.drew c e
    simp only [World.drew] at hsh hfz ⊢
    simp only [c] at hsh hfz
    rw [hsh]
    simp only [Result.andThen_ok, run_freeze, Sem.run_pure]
    rw [hfz]
  · rcases h with h | h
    · exact .inl h
    · exact .inr ⟨by omega, by unfold KN; omega⟩
  · simp only [vrel]
    refine ⟨.inr trivial, .inr trivial, ⟨_, _, _, rfl⟩, fun cs2 hH => ⟨_, cap, c, e, (c.size, c.size + 1), upd_same _ _ _, by simp, hget, by omega, hcap, ?_⟩⟩
    simp only [upd_same, Option.some.injEq] at hH
    cases hH
    rw [hl]; omega

theorem evLenG_sound {B : Base} {E : Env} (hE : HRel B E) {t : TypeId} {td : TD} (ht : TDok P t td) {x : V} {xv : Value} (hx : vrel E x xv) (ty : TypeId) {ps : List Ob} {v : V} {dh : List (Nat × Blk)}
    (h : evLenG td E.H x = .val ps v dh) : dh = [] ∧ ∃ v', (Builtin.len_ #[t] ty #[xv]).run P E.w = .ok v' E.w ∧ vrel E v v' := by
  have hk := ht.kind
  unfold evLenG at h
  split at h
  · rename_i e hh ver esz off len h1
    rw [h1] at hk; simp only [kindOK] at hk
    split at h
    case h_2 => cases h
    rename_i ver' esz' cs hH
    split at h
    case isFalse => cases h
    rename_i hc
    obtain ⟨rfl, rfl, hl⟩ := hc
    cases h
    obtain ⟨b, cap, c, T, fr, G⟩ := gsl_blk hE hH hx
    have ev := G.val
    subst ev
    exact ⟨rfl, _, by simp [Builtin.len_, run_underlying hk, goInt], vint (ok_len hl)⟩
  · exact evLen_sound hE ht hx ty h

end Go.Mir

/- The mirror, part 12d: maps. -/
namespace Go.Mir
open Go.RowKit

variable {P : Program}

/-! ## entries -/

theorem erels_len {E : Env} : ∀ {i : Nat} {xs : List (V × V)} {es : List MapEntry}, erels E i xs es → xs.length = es.length
  | _, [], [], _ => rfl
  | _, _ :: _, [], h => by simp [erels] at h
  | _, [], _ :: _, h => by simp [erels] at h
  | i, x :: xs, e :: es, h => by simp [erels_len h.2]
theorem erels_get {E : Env} : ∀ {i : Nat} {xs : List (V × V)} {es : List MapEntry}, erels E i xs es → ∀ (j : Nat) (q : V × V), xs[j]? = some q → ∃ e, es[j]? = some e ∧ vrel E q.1 e.key ∧ vrel E q.2 e.val ∧ e.born = i + j
  | _, [], [], _, j, q, hq => by simp at hq
  | _, _ :: _, [], h, _, _, _ => by simp [erels] at h
  | _, [], _ :: _, h, _, _, _ => by simp [erels] at h
  | i, x :: xs, e :: es, h, j, q, hq => by
    cases j with
    | zero => simp only [List.getElem?_cons_zero, Option.some.injEq] at hq; subst hq; exact ⟨e, by simp, h.1.1, h.1.2.1, h.1.2.2⟩
    | succ j =>
      obtain ⟨e', h1, h2, h3, h4⟩ := erels_get h.2 j q (by simpa using hq)
      exact ⟨e', by simpa using h1, h2, h3, by omega⟩
theorem erels_set {E : Env} : ∀ {i : Nat} {xs : List (V × V)} {es : List MapEntry}, erels E i xs es → ∀ (j : Nat) (q : V × V) (f : MapEntry → MapEntry), (∀ e, es[j]? = some e → vrel E q.1 (f e).key ∧ vrel E q.2 (f e).val ∧ (f e).born = e.born) → erels E i (xs.set j q) (es.modify j f)
  | _, [], [], _, j, q, f, _ => by simp [erels]
  | _, _ :: _, [], h, _, _, _, _ => by simp [erels] at h
  | _, [], _ :: _, h, _, _, _, _ => by simp [erels] at h
  | i, x :: xs, e :: es, h, j, q, f, hf => by
    cases j with
    | zero =>
      obtain ⟨h1, h2, h3⟩ := hf e (by simp)
      simp only [List.set_cons_zero, List.modify_zero_cons, erels]
      exact ⟨⟨h1, h2, by rw [h3]; exact h.1.2.2⟩, h.2⟩
    | succ j =>
      simp only [List.set_cons_succ, List.modify_succ_cons, erels]
      exact ⟨h.1, erels_set h.2 j q f (fun e' he => hf e' (by simpa using he))⟩
theorem erels_push {E : Env} : ∀ {i : Nat} {xs : List (V × V)} {es : List MapEntry}, erels E i xs es → ∀ (q : V × V) (e : MapEntry), vrel E q.1 e.key → vrel E q.2 e.val → e.born = i + xs.length → erels E i (xs ++ [q]) (es ++ [e])
  | _, [], [], _, q, e, h1, h2, h3 => ⟨⟨h1, h2, by simpa using h3⟩, trivial⟩
  | _, _ :: _, [], h, _, _, _, _, _ => by simp [erels] at h
  | _, [], _ :: _, h, _, _, _, _, _ => by simp [erels] at h
  | i, x :: xs, e :: es, h, q, e', h1, h2, h3 => ⟨h.1, erels_push h.2 q e' h1 h2 (by simp at h3; omega)⟩

/-! ## keys -/

theorem litV_plain {E : Env} : ∀ (xs ys : List V) (vs us : List Value) (ks : List EK), eks xs = some ks → eks ys = some ks → vrels E xs vs → vrels E ys us → vs.map litV = us.map litV → vs = us
  | [], [], [], [], _, _, _, _, _, _ => rfl
  | [], [], _ :: _, _, _, _, _, h, _, _ => by simp [vrels] at h
  | [], [], _, _ :: _, _, _, _, _, h, _ => by simp [vrels] at h
  | [], y :: ys, _, _, ks, h1, h2, _, _, _ => by
    obtain ⟨k, r, _, _, rfl⟩ := eks_cons h2
    simp [eks] at h1
  | x :: xs, [], _, _, ks, h1, h2, _, _, _ => by
    obtain ⟨k, r, _, _, rfl⟩ := eks_cons h1
    simp [eks] at h2
  | _ :: _, _ :: _, [], _, _, _, _, h, _, _ => by simp [vrels] at h
  | _ :: _, _ :: _, _ :: _, [], _, _, _, _, h, _ => by simp [vrels] at h
  | x :: xs, y :: ys, v :: vs, u :: us, ks, h1, h2, hv, hu, he => by
    obtain ⟨k, r, a1, a2, rfl⟩ := eks_cons h1
    obtain ⟨k', r', b1, b2, e⟩ := eks_cons h2
    cases e
    simp only [vrels] at hv hu
    simp only [List.map_cons, List.cons.injEq] at he
    have ih := litV_plain xs ys vs us r a2 b2 hv.2 hu.2 he.2
    subst ih
    have h0 : v = u := by
      rcases plain_cell a1 hv.1 with ⟨q, n, _, hk, rfl, _⟩ | ⟨b, _, hk, rfl, _⟩ | ⟨s, _, hk, rfl, _⟩
      · rcases plain_cell b1 hu.1 with ⟨q', n', _, hk', rfl, _⟩ | ⟨b', _, hk', rfl, _⟩ | ⟨s', _, hk', rfl, _⟩
        · have := he.1; simp only [litV, Lit.int.injEq] at this; obtain ⟨rfl, rfl⟩ := this; rfl
        · rw [hk] at hk'; cases hk'
        · rw [hk] at hk'; cases hk'
      · rcases plain_cell b1 hu.1 with ⟨q', n', _, hk', rfl, _⟩ | ⟨b', _, hk', rfl, _⟩ | ⟨s', _, hk', rfl, _⟩
        · rw [hk] at hk'; cases hk'
        · have := he.1; simp only [litV, Lit.bool.injEq] at this; subst this; rfl
        · rw [hk] at hk'; cases hk'
      · rcases plain_cell b1 hu.1 with ⟨q', n', _, hk', rfl, _⟩ | ⟨b', _, hk', rfl, _⟩ | ⟨s', _, hk', rfl, _⟩
        · rw [hk] at hk'; cases hk'
        · rw [hk] at hk'; cases hk'
        · have := he.1
          simp only [litV, Lit.string.injEq] at this
          have : s = s' := by
            cases s; cases s'
            simp only at this
            congr 1
            exact Array.ext' this
          rw [this]
    rw [h0]

theorem sameBits_plain {E : Env} : ∀ (xs : List V) (vs : List Value) (ks : List EK), eks xs = some ks → vrels E xs vs → ∀ n, ∀ v ∈ vs, Instr.sameBits n v v = true
  | [], [], _, _, _, _, v, h => by cases h
  | [], _ :: _, _, _, h, _, _, _ => by simp [vrels] at h
  | _ :: _, [], _, _, h, _, _, _ => by simp [vrels] at h
  | x :: xs, u :: vs, ks, h1, hv, n, v, hm => by
    obtain ⟨k, r, a1, a2, rfl⟩ := eks_cons h1
    simp only [vrels] at hv
    rcases List.mem_cons.1 hm with rfl | hm
    · rcases plain_cell a1 hv.1 with ⟨q, n', _, _, rfl, _⟩ | ⟨b, _, _, rfl, _⟩ | ⟨s, _, _, rfl, _⟩
      · cases n <;> simp [Instr.sameBits]
      · cases n <;> simp [Instr.sameBits]
      · cases n <;> simp [Instr.sameBits, Go.MapKept.bytes_beq]
    · exact sameBits_plain xs vs r a2 hv.2 n v hm

/-- the facts about a plain aggregate -/
theorem agg_facts {E : Env} {t : TypeId} {td : TD} (ht : TDok P t td) (hp : td.plain = true) {xs : List V} {cs : Array Value} (hx : vrels E xs cs.toList) (h1 : eks xs = eks td.zero) :
    (match P.underlying t with | some (.array _ _) | some (.struct _) => true | _ => false) = true ∧ (∀ em, (Instr.checkKey em 10000 t (.agg cs)).run P E.w = .ok () E.w) := by
  have hp' := hp
  unfold TD.plain at hp'
  simp only [Bool.and_eq_true] at hp'
  obtain ⟨hagg, hsome⟩ := hp'
  obtain ⟨ks, hks⟩ := Option.isSome_iff_exists.1 hsome
  rw [hks] at h1
  have hB := ht.eqk hp ks hks
  simp only [eqB, Bool.and_eq_true, decide_eq_true_eq, Bool.not_eq_true'] at hB
  obtain ⟨⟨hl, hkt⟩, hg⟩ := hB
  have len : P.keyLits 9 t cs.toList = some (cs.toList.map litV) ∧ cs.size = P.cellsOf t := by
    obtain ⟨a1, a2, a3⟩ := lin_ok (P := P) 9 t ks [] hl cs.toList (fit_of xs _ ks h1 hx)
    have h0 : cs.toList.drop (P.cellsOf t) = [] := by
      cases hd : cs.toList.drop (P.cellsOf t) with
      | nil => rfl
      | cons v l => rw [hd] at a2; simp [fitL] at a2
    have h3 : cs.toList.length ≤ P.cellsOf t := List.drop_eq_nil_iff.1 h0
    rw [List.take_of_length_le h3] at a1
    exact ⟨a1, by simp only [Array.length_toList] at h3 a3; omega⟩
  have hkd := ht.kind
  have wide : (match P.underlying t with | some (.array _ _) | some (.struct _) => true | _ => false) = true ∧ (Value.agg cs).formed P t = true := by
    cases hk : td.kind <;> rw [hk] at hagg hkd <;> simp only [TK.agg, Bool.false_eq_true] at hagg <;> simp only [kindOK] at hkd
    · obtain ⟨fs, hu, _⟩ := hkd
      exact ⟨by rw [hu], by simp [Value.formed, hu, len.2]⟩
    · exact ⟨by rw [hkd], by simp [Value.formed, hkd, len.2]⟩
  refine ⟨wide.1, fun em => ?_⟩
  have := run_checkKey_deep (P := P) em 9991 9 t hkt
  exact this E.w 9 (.agg cs) _ wide.2 (by simpa [Value.cells] using len.1)

theorem keyOK_cases {tk : TD} {k : V} (h : keyOK tk k = true) : (∃ q n, k = .int q n ∧ tk.kind = .int q) ∨ (∃ s, k = .str s ∧ tk.kind = .str) ∨ ∃ xs, k = .agg xs ∧ tk.plain = true ∧ eks xs = eks tk.zero := by
  cases k <;> simp only [keyOK, Bool.false_eq_true] at h
  · split at h
    · rename_i q' hk
      simp only [decide_eq_true_eq] at h
      subst h
      exact .inl ⟨_, _, rfl, hk⟩
    · cases h
  · split at h
    · rename_i hk
      exact .inr (.inl ⟨_, rfl, hk⟩)
    · cases h
  · simp only [Bool.and_eq_true, decide_eq_true_eq] at h
    exact .inr (.inr ⟨_, rfl, h.1, h.2⟩)

theorem run_check {E : Env} {kt : TypeId} {tk : TD} (ht : TDok P kt tk) {k : V} {kv : Value} (hk : vrel E k kv) (h : keyOK tk k = true) (em : Bool) : (Instr.checkKey em 10000 kt kv).run P E.w = .ok () E.w := by
  have hkd := ht.kind
  rcases keyOK_cases h with ⟨q, n, rfl, hq⟩ | ⟨s, rfl, hq⟩ | ⟨xs, rfl, h1, h2⟩
  · rw [hq] at hkd
    simp only [kindOK] at hkd
    simp only [vrel] at hk
    obtain ⟨rfl, _⟩ := hk
    exact Go.MapKept.run_checkKey hkd (by simp [Go.MapKept.IsKey]) em 9999
  · rw [hq] at hkd
    simp only [kindOK] at hkd
    simp only [vrel] at hk
    obtain ⟨rfl, _⟩ := hk
    exact Go.MapKept.run_checkKey hkd (by simp [Go.MapKept.IsKey]) em 9999
  · simp only [vrel] at hk
    obtain ⟨l, rfl, hl⟩ := hk
    exact (agg_facts ht h1 hl h2).2 em

/-- two keys found equal are one value, and it stays -/
theorem key_same {E : Env} {tk : TD} {k k' : V} {kv kv' : Value} (h : keyOK tk k = true) (h' : keyOK tk k' = true) (hk : vrel E k kv) (hk' : vrel E k' kv') (he : keyEq k k' = true) : kv' = kv ∧ Instr.sameBits 10000 kv kv = true := by
  rcases keyOK_cases h with ⟨q, n, rfl, hq⟩ | ⟨s, rfl, hq⟩ | ⟨xs, rfl, h1, h2⟩
  · rcases keyOK_cases h' with ⟨q', n', rfl, hq'⟩ | ⟨s', rfl, hq'⟩ | ⟨ys, rfl, h3, h4⟩
    · rw [hq] at hq'
      cases hq'
      simp only [keyEq, eq1, beq_iff_eq] at he
      subst he
      simp only [vrel] at hk hk'
      obtain ⟨rfl, _⟩ := hk
      obtain ⟨rfl, _⟩ := hk'
      exact ⟨rfl, by simp [Instr.sameBits]⟩
    · rw [hq] at hq'; cases hq'
    · unfold TD.plain at h3; rw [hq] at h3; simp [TK.agg] at h3
  · rcases keyOK_cases h' with ⟨q', n', rfl, hq'⟩ | ⟨s', rfl, hq'⟩ | ⟨ys, rfl, h3, h4⟩
    · rw [hq] at hq'; cases hq'
    · simp only [keyEq, eq1] at he
      rw [bytes_eq_iff] at he
      have : s = s' := by
        cases s; cases s'
        simp only at he
        congr 1
        exact Array.ext' he
      subst this
      simp only [vrel] at hk hk'
      obtain ⟨rfl, _⟩ := hk
      obtain ⟨rfl, _⟩ := hk'
      exact ⟨rfl, by simp [Instr.sameBits, Go.MapKept.bytes_beq]⟩
    · unfold TD.plain at h3; rw [hq] at h3; simp [TK.agg] at h3
  · rcases keyOK_cases h' with ⟨q', n', rfl, hq'⟩ | ⟨s', rfl, hq'⟩ | ⟨ys, rfl, h3, h4⟩
    · unfold TD.plain at h1; rw [hq'] at h1; simp [TK.agg] at h1
    · unfold TD.plain at h1; rw [hq'] at h1; simp [TK.agg] at h1
    · simp only [keyEq] at he
      have hp' := h1
      unfold TD.plain at hp'
      simp only [Bool.and_eq_true] at hp'
      obtain ⟨ks, hks⟩ := Option.isSome_iff_exists.1 hp'.2
      rw [hks] at h2 h4
      simp only [vrel] at hk hk'
      obtain ⟨l, rfl, hl⟩ := hk
      obtain ⟨l', rfl, hl'⟩ := hk'
      have e1 := (eqCs_iff xs ys l.toList l'.toList ks h2 h4 hl hl').1 he
      have e2 := litV_plain xs ys l.toList l'.toList ks h2 h4 hl hl' e1
      have e3 : l = l' := Array.ext' e2
      subst e3
      refine ⟨rfl, ?_⟩
      have hs := sameBits_plain xs l.toList ks h2 hl 9999
      simp only [Instr.sameBits, beq_self_eq_true, Bool.true_and, List.all_eq_true]
      intro q hq
      obtain ⟨a, b⟩ := q
      have : ∀ (l : List Value) (a b : Value), (a, b) ∈ l.zip l → a = b ∧ a ∈ l := by
        intro l
        induction l with
        | nil => intro a b h; simp at h
        | cons x l ih =>
          intro a b h
          simp only [List.zip_cons_cons, List.mem_cons, Prod.mk.injEq] at h
          rcases h with ⟨rfl, rfl⟩ | h
          · exact ⟨rfl, List.mem_cons_self⟩
          · exact ⟨(ih a b h).1, List.mem_cons_of_mem _ (ih a b h).2⟩
      obtain ⟨rfl, hm⟩ := this l.toList a b hq
      exact hs a hm

/-! ## the search -/

def FindR (tk : TD) (k : V) (i : Nat) (xs : List (V × V)) (es : List MapEntry) (a : Option (Nat × Value)) : Option (Nat × V) → Prop
  | none => a = none
  | some (j, v) => i ≤ j ∧ ∃ e k', es[j - i]? = some e ∧ xs[j - i]? = some (k', v) ∧ a = some (j, e.val) ∧ keyOK tk k' = true ∧ keyEq k k' = true

theorem FindR.up {tk : TD} {k : V} {i : Nat} {x : V × V} {xs : List (V × V)} {e : MapEntry} {es : List MapEntry} {a : Option (Nat × Value)} {r : Option (Nat × V)} (h : FindR tk k (i + 1) xs es a r) : FindR tk k i (x :: xs) (e :: es) a r := by
  cases r with
  | none => exact h
  | some q =>
    obtain ⟨j, v⟩ := q
    obtain ⟨h1, e', k', h2, h3, h4⟩ := h
    refine ⟨by omega, e', k', ?_, ?_, h4⟩
    · rw [show j - i = (j - (i + 1)) + 1 by omega]; simpa using h2
    · rw [show j - i = (j - (i + 1)) + 1 by omega]; simpa using h3

theorem find_now {E : Env} {tk : TD} {k : V} {kv : Value} {d : TypeDesc} (hc : ∀ k' kv', keyOK tk k' = true → vrel E k' kv' → Instr.sameNow d kv kv' = some (keyEq k k')) : ∀ {xs : List (V × V)} {es : List MapEntry} {i : Nat}, erels E i xs es → ∀ r, mpFind tk k xs i = some r → ∃ a, Instr.findNow d kv es i = some a ∧ FindR tk k i xs es a r
  | [], [], i, _, r, hr => by
    simp only [mpFind, Option.some.injEq] at hr
    subst hr
    exact ⟨none, rfl, rfl⟩
  | _ :: _, [], _, h, _, _ => by simp [erels] at h
  | [], _ :: _, _, h, _, _ => by simp [erels] at h
  | (k', v) :: xs, e :: es, i, he, r, hr => by
    obtain ⟨⟨e1, e2, e3⟩, he⟩ := he
    simp only [mpFind] at hr
    split at hr
    case h_2 => cases hr
    rename_i hok
    have hcmp := hc k' e.key hok e1
    split at hr
    · rename_i hke
      rw [hke] at hcmp
      simp only [Option.some.injEq] at hr
      subst hr
      exact ⟨some (i, e.val), by simp [Instr.findNow, hcmp], Nat.le_refl _, e, k', by simp, by simp, rfl, hok, hke⟩
    · rename_i hke
      rw [hke] at hcmp
      obtain ⟨a, h1, h2⟩ := find_now hc he r hr
      exact ⟨a, by simp only [Instr.findNow, hcmp]; exact h1, h2.up⟩

theorem find_ask {E : Env} {tk : TD} {k : V} {kv : Value} {kt : TypeId} (hc : ∀ k' kv', keyOK tk k' = true → vrel E k' kv' → (Op.equal kt kv kv').run P E.w = .ok (keyEq k k') E.w) : ∀ {xs : List (V × V)} {es : List MapEntry} {i : Nat}, erels E i xs es → ∀ r, mpFind tk k xs i = some r → ∃ a, (Instr.findAsking kt kv es i).run P E.w = .ok a E.w ∧ FindR tk k i xs es a r
  | [], [], i, _, r, hr => by
    simp only [mpFind, Option.some.injEq] at hr
    subst hr
    exact ⟨none, by simp [Instr.findAsking], rfl⟩
  | _ :: _, [], _, h, _, _ => by simp [erels] at h
  | [], _ :: _, _, h, _, _ => by simp [erels] at h
  | (k', v) :: xs, e :: es, i, he, r, hr => by
    obtain ⟨⟨e1, e2, e3⟩, he⟩ := he
    simp only [mpFind] at hr
    split at hr
    case h_2 => cases hr
    rename_i hok
    have hcmp := hc k' e.key hok e1
    split at hr
    · rename_i hke
      rw [hke] at hcmp
      simp only [Option.some.injEq] at hr
      subst hr
      exact ⟨some (i, e.val), by simp [Instr.findAsking, hcmp], Nat.le_refl _, e, k', by simp, by simp, rfl, hok, hke⟩
    · rename_i hke
      rw [hke] at hcmp
      obtain ⟨a, h1, h2⟩ := find_ask hc he r hr
      exact ⟨a, by simp [Instr.findAsking, hcmp, h1], h2.up⟩

theorem not_plain {td : TD} {k : TK} (hk : td.kind = k) (ha : k.agg = false) (h : td.plain = true) : False := by
  unfold TD.plain at h
  rw [hk, ha] at h
  cases h

theorem find_sound {E : Env} {kt : TypeId} {tk : TD} (ht : TDok P kt tk) {k : V} {kv : Value} (hk : vrel E k kv) (h : keyOK tk k = true) {xs : List (V × V)} {es : List MapEntry} {i : Nat} (hi : i = 0) (he : erels E i xs es) {r : Option (Nat × V)} (hr : mpFind tk k xs i = some r) :
    ∃ a, (Instr.findKey kt kv es).run P E.w = .ok a E.w ∧ FindR tk k i xs es a r := by
  subst hi
  have hkd := ht.kind
  rcases keyOK_cases h with ⟨q, n, rfl, hq⟩ | ⟨s, rfl, hq⟩ | ⟨zs, rfl, h1, h2⟩
  · rw [hq] at hkd
    simp only [kindOK] at hkd
    simp only [vrel] at hk
    obtain ⟨rfl, _⟩ := hk
    obtain ⟨a, a1, a2⟩ := find_now (d := .int q) (kv := .int q n) (tk := tk) (k := .int q n) (fun k' kv' hok' hv' => by
      rcases keyOK_cases hok' with ⟨q', n', rfl, hq'⟩ | ⟨s', rfl, hq'⟩ | ⟨ys, rfl, h3, h4⟩
      · rw [hq] at hq'
        cases hq'
        simp only [vrel] at hv'
        rw [hv'.1]
        simp [Instr.sameNow, keyEq, eq1]
      · rw [hq] at hq'; cases hq'
      · exact (not_plain hq rfl h3).elim) he r hr
    exact ⟨a, Go.MapKept.run_findKey hkd a1, a2⟩
  · rw [hq] at hkd
    simp only [kindOK] at hkd
    simp only [vrel] at hk
    obtain ⟨rfl, _⟩ := hk
    obtain ⟨a, a1, a2⟩ := find_now (d := .string) (kv := .string s) (tk := tk) (k := .str s) (fun k' kv' hok' hv' => by
      rcases keyOK_cases hok' with ⟨q', n', rfl, hq'⟩ | ⟨s', rfl, hq'⟩ | ⟨ys, rfl, h3, h4⟩
      · rw [hq] at hq'; cases hq'
      · simp only [vrel] at hv'
        rw [hv'.1]
        simp only [Instr.sameNow, keyEq, eq1, Option.some.injEq]
        cases hb : (s.toList == s'.toList) with
        | true =>
          rw [bytes_eq_iff] at hb
          rw [Go.MapKept.bytes_beq]
          cases s; cases s'
          simp only at hb
          congr 1
          exact Array.ext' hb
        | false =>
          cases hb2 : (s == s') with
          | false => rfl
          | true =>
            rw [Go.MapKept.bytes_beq] at hb2
            subst hb2
            simp at hb
      · exact (not_plain hq rfl h3).elim) he r hr
    exact ⟨a, Go.MapKept.run_findKey hkd a1, a2⟩
  · simp only [vrel] at hk
    obtain ⟨l, rfl, hl⟩ := hk
    have hw := (agg_facts ht h1 hl h2).1
    obtain ⟨a, a1, a2⟩ := find_ask (P := P) (kt := kt) (kv := .agg l) (tk := tk) (k := .agg zs) (fun k' kv' hok' hv' => by
      rcases keyOK_cases hok' with ⟨q', n', rfl, hq'⟩ | ⟨s', rfl, hq'⟩ | ⟨ys, rfl, h3, h4⟩
      · exact (not_plain hq' rfl h1).elim
      · exact (not_plain hq' rfl h1).elim
      · simp only [vrel] at hv'
        obtain ⟨l', rfl, hl'⟩ := hv'
        exact (run_eq_agg ht h1 hl hl' h2 h4).1) he r hr
    exact ⟨a, by rw [run_findKey_eq E.w hw]; exact a1, a2⟩

/-! ## blocks of maps -/

theorem gObj {w : World} {r : Nat} {es : Array MapEntry} {c : Nat} (hb : w.heap[r]? = some (.map es c)) : (getObj r).run P w = .ok (.map es c) w := by
  simp [getObj, Sem.run, hb]
theorem sObj {w : World} {r : Nat} {es : Array MapEntry} {c : Nat} (o : Obj) (hb : w.heap[r]? = some (.map es c)) : (setObj r o).run P w = .ok () { w with heap := w.heap.setIfInBounds r o } := by
  simp [setObj, Sem.run, hb]

theorem mp_block {B : Base} {E : Env} (hE : HRel B E) {h : Nat} {es : List (V × V)} (hh : E.H h = some (.mp es)) {v : Value} (hv : vrel E (.mpv h) v) : ∃ b l, E.ρ h = some b ∧ v = .map (some b) ∧ E.w.heap[b]? = some (.map l l.size) ∧ ¬ E.S b ∧ erels E 0 es l.toList ∧ E.U h := by
  simp only [vrel] at hv
  obtain ⟨hU, _, hv⟩ := hv
  obtain ⟨b, h1, h2⟩ := hv es hh
  obtain ⟨b', l, k, g1, g2, g3, g4, g5⟩ := hE.blk h _ hh
  rw [h1] at g1
  cases g1
  subst g5
  exact ⟨b, l, h1, h2, g2, g3, g4, hU⟩

/-- a map's entries change -/
theorem put_mp {B : Base} {E : Env} (hE : HRel B E) (m : Nat) {h : Nat} {es es' : List (V × V)} (hh : E.H h = some (.mp es)) {b : Nat} {l l' : Array MapEntry} (hρ : E.ρ h = some b) (hb : E.w.heap[b]? = some (.map l l.size)) (hS : ¬ E.S b) (hU : E.U h) (hes : erels E 0 es' l'.toList) :
    ∃ E', Good B E m [(h, .mp es')] { E.w with heap := E.w.heap.setIfInBounds b (.map l' l'.size) } E' ∧ Ext E E' := by
  have hlt : b < E.w.heap.size := (Array.getElem?_eq_some_iff.1 hb).1
  obtain ⟨R, X⟩ := step1 hE h (.mp es') (some b) { E.w with heap := E.w.heap.setIfInBounds b (.map l' l'.size) } E.U (fun n h => h) hU
    ⟨rfl, rfl, rfl, by simp, fun b' _ hne => by
      have : b' ≠ b := fun e => hne (by rw [e])
      simp [Array.getElem?_setIfInBounds_ne (Ne.symm this)]⟩
    (fun b' e => by cases e; exact .inr ⟨hρ, _, hh, rfl⟩) (fun b' e => by cases e; exact hS)
    (fun _ e _ => by cases e) (fun _ _ _ _ e _ _ => by cases e)
    (fun X => ⟨b, l', l'.size, upd_same _ _ _, by simp [hlt], hS, erels_ext X _ _ _ hes, rfl⟩)
    (fun _ _ _ e _ _ => by cases e) (fun es1 e _ => ⟨⟨es, hh⟩, hρ.symm⟩)
  exact ⟨_, ⟨R, X, rfl, (hset_one _ _ _).symm, fun n h => .inl h⟩, X⟩

theorem makeMap_sound {B : Base} {E : Env} (hE : HRel B E) (m : Nat) (hm : ¬ E.U m) (t : TypeId) : ∃ w' E', (Instr.makeMap t none).run P E.w = .ok (.map (some E.w.heap.size)) w' ∧ Good B E m [(m, .mp [])] w' E' ∧ vrel E' (.mpv m) (.map (some E.w.heap.size)) := by
  have hS : ¬ E.S E.w.heap.size := fun h => Nat.lt_irrefl _ (hE.stab _ h)
  have hrun : (Instr.makeMap t none).run P E.w = .ok (.map (some E.w.heap.size)) (E.w.alloc (.map #[] 0)) := by simp [Instr.makeMap, Result.andThen]
  have hw : E.w.alloc (.map #[] 0) = { E.w with heap := E.w.heap.push (.map #[] 0) } := rfl
  obtain ⟨R, X⟩ := step1 hE m (.mp []) (some E.w.heap.size) { E.w with heap := E.w.heap.push (.map #[] 0) } (fun n => E.U n ∨ n = m) (fun n h => .inl h) (.inr rfl)
    ⟨rfl, rfl, rfl, by simp, fun b hb' _ => Below.heap_alloc E.w _ b hb'⟩ (fun b e => by cases e; exact .inl ⟨Nat.le_refl _, by simp⟩) (fun b e => by cases e; exact hS)
    (fun _ _ h => absurd h hm) (fun _ _ _ _ _ h _ => absurd h hm)
    (fun X => ⟨_, #[], 0, upd_same _ _ _, by simp, hS, trivial, rfl⟩) (fun _ _ _ _ h _ => absurd h hm) (fun _ _ h => absurd h hm)
  refine ⟨_, _, hrun, ⟨R, X, hw.symm ▸ rfl, (hset_one _ _ _).symm, fun n h => ?_⟩, ?_⟩
  · rcases h with h | h
    · exact .inl h
    · exact .inr ⟨by omega, by unfold KN; omega⟩
  · simp only [vrel]
    exact ⟨.inr trivial, ⟨_, rfl⟩, fun _ _ => ⟨_, upd_same _ _ _, rfl⟩⟩

theorem mapTys_some {tb : Tbl} (hT : TblOK P tb) {t : TypeId} {q : TD × TD} (h : mapTys tb t = some q) : ∃ k e, P.underlying t = some (.map k e) ∧ TDok P k q.1 ∧ TDok P e q.2 := by
  unfold mapTys at h
  split at h
  case h_2 => cases h
  rename_i td htd
  split at h
  case h_2 => cases h
  rename_i k e hk
  split at h
  case h_2 => cases h
  rename_i tk te h1 h2
  cases h
  have hkd := (hT _ _ htd).kind
  rw [hk] at hkd
  exact ⟨k, e, hkd, hT _ _ h1, hT _ _ h2⟩

theorem zV_sound {E : Env} {e : TypeId} {te : TD} (ht : TDok P e te) {z : V} (h : zV te = some z) : ∃ zv, (zeroValue e).run P E.w = .ok zv E.w ∧ ∀ E' : Env, vrel E' z zv := by
  obtain ⟨i, z0, h1, h2, h3, h4, h5⟩ := ht.info
  have h6 := ht.zagg i z0 h1 h4
  refine ⟨z0, by simp [Go.zeroValue, typeInfo, h1, h4], fun E' => ?_⟩
  have hc := zeqs_vrels (E := E') h5
  unfold zV at h
  split at h
  · rename_i ha
    cases h
    rw [ha] at h6
    cases z0 <;> simp only [isAggZ, Bool.false_eq_true] at h6
    simp only [vrel]
    exact ⟨_, rfl, by simpa [Value.cells] using hc⟩
  · rename_i ha
    rw [ha] at h6
    split at h
    case h_2 => cases h
    rename_i z1 hz
    cases h
    rw [hz] at hc
    have : z0.cells.toList = [z0] := by cases z0 <;> first | rfl | simp [isAggZ] at h6
    rw [this] at hc
    simp only [vrels] at hc
    exact hc.1

theorem evLookup_sound {B : Base} {E : Env} (hE : HRel B E) {tb : Tbl} (hT : TblOK P tb) {t : TypeId} {q : TD × TD} (hq : mapTys tb t = some q) {x k : V} {xv kv : Value} (hx : vrel E x xv) (hk : vrel E k kv) {ok : Bool} {ps : List Ob} {v : V} {dh : List (Nat × Blk)} (h : evLookup q.1 q.2 E.H x k ok = .val ps v dh) :
    dh = [] ∧ ∃ v', (Instr.lookup t xv kv ok).run P E.w = .ok v' E.w ∧ vrel E v v' := by
  obtain ⟨kt, et, hu, hkt, het⟩ := mapTys_some hT hq
  unfold evLookup at h
  split at h
  case h_2 => cases h
  rename_i es hko hes
  -- the entries
  obtain ⟨l, hl, hrel⟩ : ∃ l : Array MapEntry, ((xv = .map none ∧ l = #[]) ∨ ∃ b, xv = .map (some b) ∧ (getObj b).run P E.w = .ok (.map l l.size) E.w) ∧ erels E 0 es l.toList := by
    unfold mpEs at hes
    split at hes
    · split at hes
      case h_2 => cases hes
      rename_i h0 es0 hh
      cases hes
      obtain ⟨b, l, g1, rfl, g2, _, g4, _⟩ := mp_block hE hh hx
      exact ⟨l, .inr ⟨b, rfl, gObj g2⟩, g4⟩
    · cases hes
      simp only [vrel] at hx
      exact ⟨#[], .inl ⟨hx, rfl⟩, trivial⟩
    · cases hes
  have hck : ∀ em, (Instr.checkKey em 10000 kt kv).run P E.w = .ok () E.w := fun em => run_check hkt hk hko em
  have finS : ∀ (j : Nat) (u : Value), (Instr.findKey kt kv l.toList).run P E.w = .ok (some (j, u)) E.w → (Instr.lookup t xv kv ok).run P E.w = .ok (if ok then .tuple #[u, .bool true] else u) E.w := fun j u h1 => by
    rcases hl with ⟨rfl, rfl⟩ | ⟨b, rfl, hg⟩
    · simp only [Instr.lookup, Sem.run_bind, run_underlying hu, Result.andThen_ok, Sem.run_pure, hck, h1]
    · simp only [Instr.lookup, Sem.run_bind, run_underlying hu, Result.andThen_ok, Sem.run_pure, hg, hck, h1]
  have finN : ∀ (u : Value), (Instr.findKey kt kv l.toList).run P E.w = .ok none E.w → (zeroValue et).run P E.w = .ok u E.w → (Instr.lookup t xv kv ok).run P E.w = .ok (if ok then .tuple #[u, .bool false] else u) E.w := fun u h1 h2 => by
    rcases hl with ⟨rfl, rfl⟩ | ⟨b, rfl, hg⟩
    · simp only [Instr.lookup, Sem.run_bind, run_underlying hu, Result.andThen_ok, Sem.run_pure, hck, h1, h2]
    · simp only [Instr.lookup, Sem.run_bind, run_underlying hu, Result.andThen_ok, Sem.run_pure, hg, hck, h1, h2]
  have lk : ∀ (v : V) (v1 : Value) (b1 : Bool), vrel E v v1 → vrel E (lkV ok v b1) (if ok then .tuple #[v1, .bool b1] else v1) := fun v v1 b1 hv => by
    cases ok with
    | true => simp only [lkV, if_true, vrel]; exact ⟨_, rfl, by simp only [vrels, vrel]; exact ⟨hv, trivial, trivial⟩⟩
    | false => simpa [lkV] using hv
  split at h
  · rename_i j v0 hf
    cases h
    obtain ⟨a, a1, a2⟩ := find_sound hkt hk hko rfl hrel hf
    obtain ⟨_, e, k', b1, b2, rfl, _, _⟩ := a2
    obtain ⟨e', c1, _, c3, _⟩ := erels_get hrel _ _ b2
    rw [c1] at b1
    cases b1
    exact ⟨rfl, _, finS _ e.val a1, lk _ _ true c3⟩
  · rename_i hf
    split at h
    case h_2 => cases h
    rename_i z hz
    cases h
    obtain ⟨a, a1, a2⟩ := find_sound hkt hk hko rfl hrel hf
    have a2 : a = none := a2
    subst a2
    obtain ⟨zv, z1, z2⟩ := zV_sound (E := E) het hz
    exact ⟨rfl, _, finN zv a1 z1, lk _ _ false (z2 E)⟩
  · cases h

theorem keyStays {E : Env} {tk : TD} {k k' : V} {kv kv' : Value} (h : keyOK tk k = true) (h' : keyOK tk k' = true) (hk : vrel E k kv) (hk' : vrel E k' kv') (he : keyEq k k' = true) : (Instr.keyThatStays kv' kv).run P E.w = .ok kv E.w := by
  obtain ⟨rfl, hs⟩ := key_same h h' hk hk' he
  simp [Instr.keyThatStays, hs]

theorem evMapPut_sound {B : Base} {E : Env} (hE : HRel B E) {tb : Tbl} (hT : TblOK P tb) {t : TypeId} {q : TD × TD} (hq : mapTys tb t = some q) {x k v : V} {xv kv vv : Value} (hx : vrel E x xv) (hk : vrel E k kv) (hv : vrel E v vv) (m : Nat) {ps : List Ob} {dh : List (Nat × Blk)} (h : stOf (evMapPut q.1 E.H x k v) = some (ps, dh)) :
    ∃ w' E', (Instr.mapUpdate t xv kv vv).run P E.w = .ok () w' ∧ Good B E m dh w' E' := by
  obtain ⟨kt, et, hu, hkt, het⟩ := mapTys_some hT hq
  unfold evMapPut at h
  split at h
  case h_2 => cases h
  rename_i h0 hko
  split at h
  case h_2 => cases h
  rename_i es hh
  obtain ⟨b, l, g1, rfl, g2, g3, g4, g5⟩ := mp_block hE hh hx
  have hck := run_check hkt hk hko false
  split at h
  · rename_i i v0 hf
    cases h
    obtain ⟨a, a1, a2⟩ := find_sound hkt hk hko rfl g4 hf
    obtain ⟨_, e, k', b1, b2, rfl, b3, b4⟩ := a2
    obtain ⟨e', c1, c2, c3, _⟩ := erels_get g4 _ _ b2
    rw [c1] at b1
    cases b1
    have hks := keyStays (P := P) hko b3 hk c2 b4
    have hi : l[i]? = some e := by simpa using c1
    obtain ⟨E', G, _⟩ := put_mp hE m hh (es' := es.set i (k, v)) (l' := l.modify i fun e => { e with key := kv, val := vv }) g1 g2 g3 g5 (by
      rw [Array.toList_modify]
      exact erels_set g4 i (k, v) _ (fun e _ => ⟨hk, hv, rfl⟩))
    refine ⟨_, E', ?_, G⟩
    simp [Instr.mapUpdate, run_underlying hu, gObj g2, hck, a1, hi, hks, sObj _ g2, Result.andThen]
  · rename_i hf
    cases h
    obtain ⟨a, a1, a2⟩ := find_sound hkt hk hko rfl g4 hf
    have a2 : a = none := a2
    subst a2
    have hl := erels_len g4
    obtain ⟨E', G, _⟩ := put_mp hE m hh (es' := es ++ [(k, v)]) (l' := l.push { key := kv, val := vv, born := l.size }) g1 g2 g3 g5 (by
      rw [Array.toList_push]
      exact erels_push g4 (k, v) _ hk hv (by simp at hl ⊢; omega))
    refine ⟨_, E', ?_, G⟩
    simp [Instr.mapUpdate, run_underlying hu, gObj g2, hck, a1, sObj _ g2, Result.andThen]
  · cases h

theorem evMapEntry_sound {B : Base} {E : Env} (hE : HRel B E) {tb : Tbl} (hT : TblOK P tb) {t : TypeId} {q : TD × TD} (hq : mapTys tb t = some q) {x k : V} {xv kv : Value} (hx : vrel E x xv) (hk : vrel E k kv) (m : Nat) {ps : List Ob} {v : V} {dh : List (Nat × Blk)} (h : evMapEntry q.1 q.2 E.H x k = .val ps v dh) :
    ∃ v' w' E', (Instr.mapEntry t xv kv).run P E.w = .ok v' w' ∧ Good B E m dh w' E' ∧ vrel E' v v' := by
  obtain ⟨kt, et, hu, hkt, het⟩ := mapTys_some hT hq
  unfold evMapEntry at h
  split at h
  case h_2 => cases h
  rename_i h0 hko
  split at h
  case h_2 => cases h
  rename_i es hh
  split at h
  case isFalse => cases h
  rename_i hlen
  obtain ⟨b, l, g1, rfl, g2, g3, g4, g5⟩ := mp_block hE hh hx
  have hck := run_check hkt hk hko false
  have hl := erels_len g4
  have okb : ∀ n : Nat, n ≤ 1000000 → ok .i64 (n : Int) := fun n hn => by unfold ok IntKind.min IntKind.max; simp [IntKind.bits, IntKind.signed]; omega
  split at h
  · rename_i i v0 hf
    cases h
    obtain ⟨a, a1, a2⟩ := find_sound hkt hk hko rfl g4 hf
    obtain ⟨_, e, k', b1, b2, rfl, b3, b4⟩ := a2
    obtain ⟨e', c1, c2, c3, c4⟩ := erels_get g4 _ _ b2
    rw [c1] at b1
    cases b1
    have hks := keyStays (P := P) hko b3 hk c2 b4
    have hi : l[i]? = some e := by simpa using c1
    have hi2 : i < es.length := (List.getElem?_eq_some_iff.1 b2).1
    obtain ⟨E', G, X⟩ := put_mp hE m hh (es' := es.set i (k, v0)) (l' := l.modify i fun e => { e with key := kv }) g1 g2 g3 g5 (by
      rw [Array.toList_modify]
      exact erels_set g4 i (k, v0) _ (fun e'' he => ⟨hk, by rw [show l.toList[i]? = some e from by simpa using hi] at he; cases he; exact c3, rfl⟩))
    refine ⟨.tuple #[e.val, goInt e.born], _, E', ?_, G, ?_⟩
    · simp [Instr.mapEntry, run_underlying hu, gObj g2, hck, a1, hi, hks, sObj _ g2, Result.andThen]
    · simp only [vrel]
      refine ⟨_, rfl, ?_⟩
      simp only [vrels]
      refine ⟨vrel_ext X _ _ c3, ?_, trivial⟩
      rw [show e.born = i by omega]
      exact vint (okb i (by omega))
  · rename_i hf
    split at h
    case h_2 => cases h
    rename_i z hz
    cases h
    obtain ⟨a, a1, a2⟩ := find_sound hkt hk hko rfl g4 hf
    have a2 : a = none := a2
    subst a2
    obtain ⟨zv, z1, z2⟩ := zV_sound (E := E) het hz
    obtain ⟨E', G, X⟩ := put_mp hE m hh (es' := es ++ [(k, z)]) (l' := l.push { key := kv, val := zv, born := l.size }) g1 g2 g3 g5 (by
      rw [Array.toList_push]
      exact erels_push g4 (k, z) _ hk (z2 E) (by simp at hl ⊢; omega))
    refine ⟨.tuple #[zv, goInt l.size], _, E', ?_, G, ?_⟩
    · simp [Instr.mapEntry, run_underlying hu, gObj g2, hck, a1, z1, sObj _ g2, Result.andThen]
    · simp only [vrel]
      refine ⟨_, rfl, ?_⟩
      simp only [vrels]
      refine ⟨z2 E', ?_, trivial⟩
      have : es.length = l.size := by simpa using hl
      rw [this]
      exact vint (okb l.size (by omega))
  · cases h

theorem evEntryStore_sound {B : Base} {E : Env} (hE : HRel B E) (t : TypeId) {x s v : V} {xv sv vv : Value} (hx : vrel E x xv) (hs : vrel E s sv) (hv : vrel E v vv) (m : Nat) {ps : List Ob} {dh : List (Nat × Blk)} (h : stOf (evEntryStore E.H x s v) = some (ps, dh)) :
    ∃ w' E', (Instr.entryStore t xv sv vv).run P E.w = .ok () w' ∧ Good B E m dh w' E' := by
  unfold evEntryStore at h
  split at h
  case h_2 => cases h
  rename_i h0 q n
  split at h
  case h_2 => cases h
  rename_i es hh
  split at h
  case isFalse => cases h
  rename_i hn
  split at h
  case h_2 => cases h
  rename_i p hp
  cases h
  obtain ⟨b, l, g1, rfl, g2, g3, g4, g5⟩ := mp_block hE hh hx
  simp only [vrel] at hs
  obtain ⟨rfl, _⟩ := hs
  obtain ⟨e, c1, c2, c3, c4⟩ := erels_get g4 _ _ hp
  have hi : l[n.toNat]? = some e := by simpa using c1
  have hfind : l.findIdx? (fun e => (e.born : Int) == n) = some n.toNat := by
    rw [Array.findIdx?_eq_some_iff_getElem]
    have hlt : n.toNat < l.size := (Array.getElem?_eq_some_iff.1 hi).1
    refine ⟨hlt, ?_, fun j hj => ?_⟩
    · have : l[n.toNat] = e := (Array.getElem?_eq_some_iff.1 hi).2
      rw [this, beq_iff_eq]
      omega
    · have hl := erels_len g4
      have hjl : j < es.length := by simp at hl; omega
      obtain ⟨e2, d1, _, _, d4⟩ := erels_get g4 j es[j] (List.getElem?_eq_getElem hjl)
      have : l[j] = e2 := (Array.getElem?_eq_some_iff.1 (show l[j]? = some e2 by simpa using d1)).2
      rw [this]
      simp only [Bool.not_eq_true, beq_eq_false_iff_ne, ne_eq]
      omega
  obtain ⟨E', G, _⟩ := put_mp hE m hh (es' := es.set n.toNat (p.1, v)) (l' := l.modify n.toNat fun e => { e with val := vv }) g1 g2 g3 g5 (by
    rw [Array.toList_modify]
    exact erels_set g4 n.toNat (p.1, v) _ (fun e' he => ⟨by rw [c1] at he; cases he; exact c2, hv, rfl⟩))
  refine ⟨_, E', ?_, G⟩
  simp [Instr.entryStore, gObj g2, asInt, asIntOf, hfind, sObj _ g2, Result.andThen]

end Go.Mir
