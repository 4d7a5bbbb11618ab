/- The mirror, part 10: arithmetic, literals. -/
import Derived.Test.YtogdeefpidccmaaMirI
namespace Go.Mir
open Go.RowKit

variable {P : Program}

theorem vint {E : Env} {k : IntKind} {n : Int} (h : ok k n) : vrel E (.int k n) (.int k n) := by simp [vrel, h]
theorem vbool {E : Env} (b : Bool) : vrel E (.bool b) (.bool b) := by simp [vrel]
theorem vkb {E : Env} (b : Bool) : vrel E (.kb b) (.bool b) := by simp [vrel]
theorem vstr {E : Env} {s : ByteArray} (h : s.size ≤ lenB) : vrel E (.str s) (.string s) := by simp [vrel, h]

theorem run_eqIn_bool {t : TypeId} (h : P.underlying t = some .bool) (d : Nat) (a b : Bool) (w : World) : (Op.equalIn (d + 1) t (.bool a) (.bool b)).run P w = .ok (a == b) w := by
  simp [Op.equalIn, run_underlying h]

theorem run_eq_bool {t : TypeId} (h : P.underlying t = some .bool) (a b : Bool) (w : World) : (Op.equal t (.bool a) (.bool b)).run P w = .ok (a == b) w := run_eqIn_bool h 9999 a b w

theorem ok_u8 (b : UInt8) : ok .u8 (b.toNat : Int) := by
  have := b.toNat_lt
  unfold ok IntKind.min IntKind.max
  simp [IntKind.bits, IntKind.signed]
  omega

theorem eqGuard_plain (op : BinOp) (t : TypeId) (x y : Operand) (a b : Value) (w : World) (ha : ∀ l, a ≠ .agg l) (hn : a ≠ .nilIface) : (eqGuard op t x y a b).run P w = .ok () w := by
  unfold eqGuard
  cases op <;> simp <;> (cases a <;> simp_all)

theorem eks_cons {v : V} {vs : List V} {ks : List EK} (h : eks (v :: vs) = some ks) : ∃ k r, ekV v = some k ∧ eks vs = some r ∧ ks = k :: r := by
  simp only [eks] at h
  split at h
  case h_2 => cases h
  rename_i k r h1 h2
  cases h
  exact ⟨k, r, h1, h2, rfl⟩

/-- a plain cell, its kind and its literal -/
theorem plain_cell {E : Env} {x : V} {v : Value} {k : EK} (hk : ekV x = some k) (h : vrel E x v) :
    (∃ q n, x = .int q n ∧ k = .int q ∧ v = .int q n ∧ ok q n) ∨ (∃ b, asB x = some b ∧ k = .bool ∧ v = .bool b ∧ (∀ q n, x ≠ .int q n) ∧ ∀ s, x ≠ .str s) ∨ ∃ s, x = .str s ∧ k = .str ∧ v = .string s ∧ s.size ≤ lenB := by
  cases x <;> simp only [ekV, reduceCtorEq, Option.some.injEq] at hk <;> subst hk <;> simp only [vrel] at h
  · exact .inl ⟨_, _, rfl, rfl, h.1, h.2⟩
  · exact .inr (.inl ⟨_, rfl, rfl, h, by simp, by simp⟩)
  · exact .inr (.inl ⟨_, rfl, rfl, h, by simp, by simp⟩)
  · exact .inr (.inr ⟨_, rfl, rfl, h.1, h.2⟩)

theorem fit_of {E : Env} : ∀ (xs : List V) (vs : List Value) (ks : List EK), eks xs = some ks → vrels E xs vs → fitL ks vs
  | [], [], ks, h, _ => by simp only [eks, Option.some.injEq] at h; subst h; trivial
  | [], _ :: _, _, _, h => by simp [vrels] at h
  | _ :: _, [], _, _, h => by simp [vrels] at h
  | x :: xs, v :: vs, ks, h, hv => by
    obtain ⟨k, r, h1, h2, rfl⟩ := eks_cons h
    simp only [vrels] at hv
    have ih := fit_of xs vs r h2 hv.2
    rcases plain_cell h1 hv.1 with ⟨q, n, rfl, rfl, rfl, h3⟩ | ⟨b, _, rfl, rfl, _, _⟩ | ⟨s, rfl, rfl, rfl, h3⟩
    · exact ⟨rfl, by simp only [Lit.wf, Bool.and_eq_true, decide_eq_true_eq]; exact h3, ih⟩
    · exact ih
    · exact ⟨Nat.le_trans h3 (by decide), ih⟩

theorem bytes_eq_iff {a b : ByteArray} : (a.toList == b.toList) = true ↔ a.data.toList = b.data.toList := by
  rw [beq_iff_eq, ByteArray.toList_eq, ByteArray.toList_eq]

theorem eqCs_iff {E : Env} : ∀ (xs ys : List V) (vs us : List Value) (ks : List EK), eks xs = some ks → eks ys = some ks → vrels E xs vs → vrels E ys us → (eqCs xs ys = true ↔ vs.map litV = us.map litV)
  | [], [], [], [], _, _, _, _, _ => by simp [eqCs]
  | [], y :: ys, _, _, ks, h1, h2, _, _ => by
    obtain ⟨k, r, _, _, rfl⟩ := eks_cons h2
    simp [eks] at h1
  | x :: xs, [], _, _, ks, h1, h2, _, _ => by
    obtain ⟨k, r, _, _, rfl⟩ := eks_cons h1
    simp [eks] at h2
  | [], [], _ :: _, _, _, _, _, h, _ => by simp [vrels] at h
  | [], [], _, _ :: _, _, _, _, _, h => by simp [vrels] at h
  | _ :: _, _ :: _, [], _, _, _, _, h, _ => by simp [vrels] at h
  | _ :: _, _ :: _, _, [], _, _, _, _, h => by simp [vrels] at h
  | x :: xs, y :: ys, v :: vs, u :: us, ks, h1, h2, hv, hu => by
    obtain ⟨k, r, a1, a2, rfl⟩ := eks_cons h1
    obtain ⟨k', r', b1, b2, e⟩ := eks_cons h2
    cases e
    simp only [vrels] at hv hu
    have ih := eqCs_iff xs ys vs us r a2 b2 hv.2 hu.2
    have h0 : eq1 x y = true ↔ litV v = litV u := by
      rcases plain_cell a1 hv.1 with ⟨q, n, rfl, rfl, rfl, h3⟩ | ⟨b, hb, rfl, rfl, hx1, hx2⟩ | ⟨s, rfl, rfl, rfl, h3⟩
      · rcases plain_cell b1 hu.1 with ⟨q', n', rfl, h4, rfl, h5⟩ | ⟨b, _, h4, _, _⟩ | ⟨s, _, h4, _, _⟩
        · cases h4; simp [eq1, litV]
        · cases h4
        · cases h4
      · rcases plain_cell b1 hu.1 with ⟨q', n', rfl, h4, rfl, h5⟩ | ⟨b', hb', h4, rfl, _⟩ | ⟨s, _, h4, _, _⟩
        · cases h4
        · have : eq1 x y = (b == b') := by
            unfold eq1
            split
            · exact absurd rfl (hx1 _ _)
            · exact absurd rfl (hx2 _)
            · rw [hb, hb']
          rw [this]; simp [litV]
        · cases h4
      · rcases plain_cell b1 hu.1 with ⟨q', n', rfl, h4, rfl, h5⟩ | ⟨b', hb', h4, rfl, _⟩ | ⟨s', rfl, h4, rfl, _⟩
        · cases h4
        · cases h4
        · simp only [eq1, bytes_eq_iff, litV, Lit.string.injEq]
    simp only [eqCs, Bool.and_eq_true, List.map_cons, List.cons.injEq, h0, ih]

theorem run_eq_agg {E : Env} {t : TypeId} {td : TD} (ht : TDok P t td) (hp : td.plain = true) {xs ys : List V} {cs ds : Array Value} (hx : vrels E xs cs.toList) (hy : vrels E ys ds.toList)
    (h1 : eks xs = eks td.zero) (h2 : eks ys = eks td.zero) : (Op.equal t (.agg cs) (.agg ds)).run P E.w = .ok (eqCs xs ys) E.w ∧ ∀ (op : BinOp) (xo yo : Operand), (eqGuard op t xo yo (.agg cs) (.agg ds)).run P E.w = .ok () E.w := by
  have hp' := hp
  unfold TD.plain at hp'
  simp only [Bool.and_eq_true] at hp'
  obtain ⟨hagg, hsome⟩ := hp'
  obtain ⟨ks, hks⟩ := Option.isSome_iff_exists.1 hsome
  rw [hks] at h1 h2
  have hB := ht.eqk hp ks hks
  simp only [eqB, Bool.and_eq_true, decide_eq_true_eq, Bool.not_eq_true'] at hB
  obtain ⟨⟨hl, hkt⟩, hg⟩ := hB
  have len : ∀ (zs : List V) (es : Array Value), eks zs = some ks → vrels E zs es.toList → P.keyLits 9 t es.toList = some (es.toList.map litV) ∧ es.size = P.cellsOf t := fun zs es hz hv => by
    obtain ⟨a1, a2, a3⟩ := lin_ok (P := P) 9 t ks [] hl es.toList (fit_of zs _ ks hz hv)
    have h0 : es.toList.drop (P.cellsOf t) = [] := by
      cases hd : es.toList.drop (P.cellsOf t) with
      | nil => rfl
      | cons v l => rw [hd] at a2; simp [fitL] at a2
    have h3 : es.toList.length ≤ P.cellsOf t := List.drop_eq_nil_iff.1 h0
    rw [List.take_of_length_le h3] at a1
    exact ⟨a1, by simp only [Array.length_toList] at h3 a3; omega⟩
  have formed : ∀ es : Array Value, es.size = P.cellsOf t → (Value.agg es).formed P t = true := fun es he => by
    have hkd := ht.kind
    cases hk : td.kind <;> rw [hk] at hagg hkd <;> simp only [TK.agg, Bool.false_eq_true] at hagg <;> simp only [kindOK] at hkd
    · obtain ⟨fs, hu, _⟩ := hkd
      simp [Value.formed, hu, he]
    · simp [Value.formed, hkd, he]
  obtain ⟨c1, c2⟩ := len xs cs h1 hx
  obtain ⟨d1, d2⟩ := len ys ds h2 hy
  obtain ⟨r, hr, hiff⟩ := run_equalIn_deep (P := P) 9991 9 t hkt E.w 9 9 (.agg cs) (.agg ds) _ _ (formed cs c2) (formed ds d2) (by simpa [Value.cells] using c1) (by simpa [Value.cells] using d1)
  have e := eqCs_iff xs ys cs.toList ds.toList ks h1 h2 hx hy
  have hre : r = eqCs xs ys := by
    cases hr2 : r with
    | true => exact (e.2 (hiff.1 hr2)).symm
    | false =>
      cases he : eqCs xs ys with
      | false => rfl
      | true => rw [hiff.2 (e.1 he)] at hr2; cases hr2
  refine ⟨?_, fun op xo yo => ?_⟩
  · rw [← hre]; exact hr
  · unfold eqGuard
    cases op <;> simp [hg]

/-- is a value nil? -/
theorem isNil_sound {E : Env} {t : TypeId} {k : TK} (hk : kindOK P t k) {x y : V} {xv yv : Value} (hx : vrel E x xv) (hy : vrel E y yv) (hc : isNilC k y = true) {v : V} (h : isNil k x = some v) :
    ∃ b : Bool, (Op.equal t xv yv).run P E.w = .ok b E.w ∧ vrel E v (.bool b) ∧ (∀ l, xv ≠ .agg l) ∧ xv ≠ .nilIface ∧ (∀ q n, xv ≠ .int q n) ∧ (∀ s, xv ≠ .string s) ∧ (∀ q n, xv ≠ .float q n) ∧ (∀ q a b, xv ≠ .complex q a b) := by
  have sl : ∀ e, P.underlying t = some (.slice e) → ∀ (a : Option Addr) n c, (Op.equal t (.slice a n c) (.slice none 0 0)).run P E.w = .ok a.isNone E.w := fun e hu a n c => by
    have h : ∀ d : Nat, (Op.equalIn (d + 1) t (.slice a n c) (.slice none 0 0)).run P E.w = .ok a.isNone E.w := fun d => by
      cases a <;> simp [Op.equalIn, run_underlying hu]
    simp [Op.equal, Op.maxDepth, h 9999]
  have pt : ∀ e, P.underlying t = some (.pointer e) → ∀ (a : Option Addr), (Op.equal t (.pointer a) (.pointer none)).run P E.w = .ok a.isNone E.w := fun e hu a => by
    have h : ∀ d : Nat, (Op.equalIn (d + 1) t (.pointer a) (.pointer none)).run P E.w = .ok a.isNone E.w := fun d => by
      cases a <;> simp [Op.equalIn, run_underlying hu]
    simp [Op.equal, Op.maxDepth, h 9999]
  cases k <;> simp only [isNil, reduceCtorEq] at h
  case ptr e =>
    simp only [kindOK] at hk
    cases y <;> simp only [isNilC, Bool.false_eq_true] at hc
    simp only [vrel] at hy
    subst hy
    cases x <;> simp only [reduceCtorEq, Option.some.injEq] at h <;> subst h <;> simp only [vrel] at hx
    · subst hx; exact ⟨true, pt e hk none, by simp [vrel], by simp⟩
    · obtain ⟨_, ⟨a, rfl⟩, _⟩ := hx; exact ⟨false, pt e hk (some a), by simp [vrel], by simp⟩
    · obtain ⟨b, o, c, T, fr, _, _, _, _, _, _, rfl⟩ := hx; exact ⟨false, pt e hk _, by simp [vrel], by simp⟩
    · obtain ⟨_, _, ⟨a, rfl⟩, _⟩ := hx; exact ⟨false, pt e hk (some a), by simp [vrel], by simp⟩
  case slice e =>
    simp only [kindOK] at hk
    cases y <;> simp only [isNilC, Bool.false_eq_true] at hc
    simp only [vrel] at hy
    subst hy
    cases x <;> simp only [reduceCtorEq, Option.some.injEq] at h <;> subst h <;> simp only [vrel] at hx
    · subst hx; exact ⟨true, sl e hk none 0 0, by simp [vrel], by simp⟩
    · obtain ⟨a, rfl⟩ := hx; exact ⟨a.isNone, sl e hk a 0 0, by simp [vrel], by simp⟩
    · obtain ⟨_, _, ⟨a, l, c, rfl⟩, _⟩ := hx; exact ⟨a.isNone, sl e hk a l c, by simp [vrel], by simp⟩
    · rename_i t' xs
      generalize hl : [xv] = l0 at hx
      cases hx with
      | nil => cases hl; exact ⟨_, sl e hk _ 0 _, by simp [vrel], by simp⟩
      | slice => cases hl; exact ⟨_, sl e hk _ _ _, by simp [vrel], by simp⟩
  case map a b =>
    simp only [kindOK] at hk
    cases y <;> simp only [isNilC, Bool.false_eq_true] at hc
    simp only [vrel] at hy
    subst hy
    cases x <;> simp only [reduceCtorEq, Option.some.injEq] at h <;> subst h <;> simp only [vrel] at hx
    subst hx
    refine ⟨true, ?_, by simp [vrel], by simp⟩
    have h : ∀ d : Nat, (Op.equalIn (d + 1) t (.map none) (.map none)).run P E.w = .ok true E.w := fun d => by
      simp [Op.equalIn, run_underlying hk]
    simp [Op.equal, Op.maxDepth, h 9999]

theorem noV_sound {E : Env} {v : V} {b : Bool} (h : vrel E v (.bool b)) (hk : ∃ k x, isNil k x = some v) : vrel E (noV v) (.bool (!b)) := by
  obtain ⟨k, x, hk⟩ := hk
  have : (∃ c, v = .kb c) ∨ ∃ q p, v = .hint q p := by
    cases k <;> simp only [isNil, reduceCtorEq] at hk <;> cases x <;> simp only [reduceCtorEq, Option.some.injEq] at hk <;> subst hk <;> simp
  rcases this with ⟨c, rfl⟩ | ⟨q, p, rfl⟩
  · simp only [vrel, noV, Value.bool.injEq] at h ⊢; rw [h]
  · simp only [vrel, noV, Value.bool.injEq] at h ⊢
    obtain ⟨b', rfl, h⟩ := h
    exact ⟨!b, rfl, fun e => h (by cases b <;> cases p <;> simp_all)⟩

theorem evBin_sound {E : Env} {t : TypeId} {td : TD} (ht : TDok P t td) {op : BinOp} {x y : V} {xv yv : Value} (hx : vrel E x xv) (hy : vrel E y yv) (xo yo : Operand) {ps : List Prop} {v : V} {dh : List (Nat × Blk)}
    (h : evBin td op x y = .val ps v dh) (hps : ∀ p ∈ ps, p) : dh = [] ∧ ∃ v', (do eqGuard op t xo yo xv yv; binOp op t xv yv : Sem Value).run P E.w = .ok v' E.w ∧ vrel E v v' := by
  have hkd := ht.kind
  unfold evBin at h
  split at h
  · rename_i k a k' b
    split at h
    case isFalse => cases h
    rename_i e
    subst e
    simp only [vrel] at hx hy
    obtain ⟨rfl, ha⟩ := hx
    obtain ⟨rfl, hb⟩ := hy
    rw [Sem.run_bind, eqGuard_plain _ _ _ _ _ _ _ (by simp) (by simp)]
    simp only [Result.andThen_ok]
    cases op <;> simp only [reduceCtorEq, Res.val.injEq] at h <;> obtain ⟨rfl, rfl, rfl⟩ := h <;> refine ⟨rfl, ?_⟩
    case add => exact ⟨_, by simp [binOp, Op.intArith], vint (wrap_ok _ _)⟩
    case sub => exact ⟨_, by simp [binOp, Op.intArith], vint (wrap_ok _ _)⟩
    case mul => exact ⟨_, by simp [binOp, Op.intArith], vint (wrap_ok _ _)⟩
    case quo =>
      have hp := hps _ (List.mem_singleton.2 rfl)
      exact ⟨_, by simp [binOp, Op.intDiv, hp], vint (wrap_ok _ _)⟩
    case rem =>
      have hp := hps _ (List.mem_singleton.2 rfl)
      exact ⟨_, by simp [binOp, Op.intDiv, hp], vint (tmod_ok ha)⟩
    all_goals exact ⟨_, by simp [binOp, Op.intCmp], vbool _⟩
  · rename_i a b
    simp only [vrel] at hx hy
    obtain ⟨rfl, ha⟩ := hx
    obtain ⟨rfl, hb⟩ := hy
    rw [Sem.run_bind, eqGuard_plain _ _ _ _ _ _ _ (by simp) (by simp)]
    simp only [Result.andThen_ok]
    cases op <;> simp only [reduceCtorEq, Res.val.injEq] at h <;> obtain ⟨rfl, rfl, rfl⟩ := h <;> refine ⟨rfl, ?_⟩
    case add =>
      have hp := hps _ (List.mem_singleton.2 rfl)
      have hmax : ¬ ((9223372036854775807 : Int) < (a.size : Int) + (b.size : Int)) := by
        unfold lenB at hp
        omega
      exact ⟨_, by simp [binOp, Op.stringOp, IntKind.max, IntKind.signed, IntKind.bits, hmax], vstr (by rw [ByteArray.size_append]; exact hp)⟩
    all_goals exact ⟨_, by simp only [binOp, Op.stringOp, Sem.run_pure], vbool _⟩
  · rename_i xs ys
    split at h
    case isFalse => cases h
    rename_i e
    obtain ⟨e1, e2, e3⟩ := e
    simp only [vrel] at hx hy
    obtain ⟨cs, rfl, hx⟩ := hx
    obtain ⟨ds, rfl, hy⟩ := hy
    obtain ⟨hr, hg⟩ := run_eq_agg ht e1 hx hy e2 e3
    rw [Sem.run_bind, hg]
    simp only [Result.andThen_ok]
    cases op <;> simp only [reduceCtorEq, Res.val.injEq] at h <;> obtain ⟨rfl, rfl, rfl⟩ := h <;> refine ⟨rfl, ?_⟩
    all_goals exact ⟨_, by simp [binOp, hr], vbool _⟩
  · split at h
    case h_2 =>
      rename_i k _
      split at h
      case h_2 => cases h
      rename_i v0 hc hn
      obtain ⟨b, hr, hv, g1, g2, g3, g4, g5, g6⟩ := isNil_sound hkd hx hy hc hn
      rw [Sem.run_bind, eqGuard_plain _ _ _ _ _ _ _ g1 g2]
      simp only [Result.andThen_ok]
      cases op <;> simp only [reduceCtorEq, Res.val.injEq] at h <;> obtain ⟨rfl, rfl, rfl⟩ := h <;> refine ⟨rfl, ?_⟩
      · refine ⟨.bool b, ?_, hv⟩
        have : binOp .eql t xv yv = (do pure (.bool (← Op.equal t xv yv)) : Sem Value) := by
          cases xv <;> first | rfl | (exfalso; simp_all; done)
        rw [this]; simp [hr]
      · refine ⟨.bool (!b), ?_, noV_sound hv ⟨_, _, hn⟩⟩
        have : binOp .neq t xv yv = (do pure (.bool (!(← Op.equal t xv yv))) : Sem Value) := by
          cases xv <;> first | rfl | (exfalso; simp_all; done)
        rw [this]; simp [hr]
    rename_i a b h1 h2 hk
    rw [hk] at hkd
    simp only [kindOK] at hkd
    have ex : xv = .bool a := by
      cases x <;> simp only [asB, reduceCtorEq, Option.some.injEq] at h1 <;> subst h1 <;> simpa [vrel] using hx
    have ey : yv = .bool b := by
      cases y <;> simp only [asB, reduceCtorEq, Option.some.injEq] at h2 <;> subst h2 <;> simpa [vrel] using hy
    subst ex; subst ey
    rw [Sem.run_bind, eqGuard_plain _ _ _ _ _ _ _ (by simp) (by simp)]
    simp only [Result.andThen_ok]
    cases op <;> simp only [reduceCtorEq, Res.val.injEq] at h <;> obtain ⟨rfl, rfl, rfl⟩ := h <;> refine ⟨rfl, ?_⟩
    all_goals exact ⟨_, by simp [binOp, run_eq_bool hkd], vbool _⟩

theorem evUn_sound {E : Env} {op : UnOp} {x : V} {xv : Value} (hx : vrel E x xv) {ps : List Prop} {v : V} {dh : List (Nat × Blk)}
    (h : evUn op x = .val ps v dh) : dh = [] ∧ ∃ v', (Op.unary op xv).run P E.w = .ok v' E.w ∧ vrel E v v' := by
  unfold evUn at h
  split at h
  · cases h; simp only [vrel] at hx; subst hx; exact ⟨rfl, _, by simp [Op.unary], vbool _⟩
  · cases h; simp only [vrel] at hx; subst hx; exact ⟨rfl, _, by simp [Op.unary], vkb _⟩
  · rename_i q p
    cases h; simp only [vrel] at hx; obtain ⟨b, rfl, hb⟩ := hx
    exact ⟨rfl, .bool (!b), by simp [Op.unary], by simp only [vrel]; exact ⟨!b, rfl, fun e => hb (by cases b <;> cases p <;> simp_all)⟩⟩
  · cases h; simp only [vrel] at hx; obtain ⟨rfl, _⟩ := hx
    exact ⟨rfl, _, by simp only [Op.unary, Op.intArith, Sem.run_pure], vint (wrap_ok _ _)⟩
  · cases h

theorem evConv_sound {E : Env} {s d : TypeId} {ts td : TD} (hs : TDok P s ts) (hd : TDok P d td) {x : V} {xv : Value} (hx : vrel E x xv) {ps : List Prop} {v : V} {dh : List (Nat × Blk)}
    (h : evConv ts td x = .val ps v dh) : dh = [] ∧ ∃ v', (convert s d xv).run P E.w = .ok v' E.w ∧ vrel E v v' := by
  have hsk := hs.kind
  have hdk := hd.kind
  unfold evConv at h
  split at h
  · rename_i h1 h2
    cases h
    rw [h1] at hsk; rw [h2] at hdk
    simp only [kindOK] at hsk hdk
    simp only [vrel] at hx
    obtain ⟨rfl, _⟩ := hx
    exact ⟨rfl, _, by simp [convert, run_underlying hsk, run_underlying hdk, Conv.intToInt], vint (wrap_ok _ _)⟩
  · rename_i h1 h2
    cases h
    rw [h1] at hsk; rw [h2] at hdk
    simp only [kindOK] at hsk hdk
    simp only [vrel] at hx
    obtain ⟨rfl, hl⟩ := hx
    exact ⟨rfl, _, by simp [convert, run_underlying hsk, run_underlying hdk], vstr hl⟩
  · cases h

theorem evIdxVal_sound {E : Env} {t : TypeId} {td : TD} (ht : TDok P t td) {x i : V} {xv iv : Value} (hx : vrel E x xv) (hi : vrel E i iv) {ps : List Prop} {v : V} {dh : List (Nat × Blk)}
    (h : evIdxVal td x i = .val ps v dh) (hps : ∀ p ∈ ps, p) : dh = [] ∧ ∃ v', (Instr.index t xv iv).run P E.w = .ok v' E.w ∧ vrel E v v' := by
  have hk := ht.kind
  unfold evIdxVal at h
  split at h
  · rename_i s k n h1
    cases h
    rw [h1] at hk
    simp only [kindOK] at hk
    simp only [vrel] at hx hi
    obtain ⟨rfl, hs⟩ := hx
    obtain ⟨rfl, _⟩ := hi
    have hp := hps _ (List.mem_singleton.2 rfl)
    have hlt : n.toNat < s.size := by omega
    have e : s[n.toNat]? = some (s.data.getD n.toNat 0) := by
      rw [getElem?_pos s n.toNat hlt]
      congr 1
      show s.data[n.toNat] = s.data.getD n.toNat 0
      have : n.toNat < s.data.size := hlt
      rw [Array.getD_eq_getD_getElem?, Array.getElem?_eq_getElem this]
      rfl
    refine ⟨rfl, .int .u8 ((s.data.getD n.toNat 0).toNat : Int), ?_, vint (ok_u8 _)⟩
    simp only [Instr.index, asIntOf, Sem.run_bind, Sem.run_pure, Result.andThen_ok, run_underlying hk, hp.1, if_true, e]
  · cases h

theorem evPick_sound {E : Env} {c a b : V} {cv av bv : Value} (hc : vrel E c cv) (ha : vrel E a av) (hb : vrel E b bv) {ps : List Prop} {v : V} {dh : List (Nat × Blk)}
    (h : evPick c a b = .val ps v dh) : dh = [] ∧ ∃ q, (asBool cv).run P E.w = .ok q E.w ∧ vrel E v (if q then av else bv) := by
  cases c <;> simp only [evPick, reduceCtorEq, Res.val.injEq] at h
  case kb p =>
    obtain ⟨rfl, rfl, rfl⟩ := h
    simp only [vrel] at hc
    subst hc
    refine ⟨rfl, p, by simp [asBool], ?_⟩
    cases p
    · simpa using hb
    · simpa using ha
  case bool p =>
    simp only [vrel] at hc
    subst hc
    split at h
    case h_2 => cases h
    rename_i u hu
    cases h
    refine ⟨rfl, p, by simp [asBool], ?_⟩
    cases a <;> cases b <;> simp only [ite2, reduceCtorEq, Option.some.injEq] at hu
    all_goals first
      | (split at hu
         · rename_i e; subst e; simp only [Option.some.injEq] at hu; subst hu; cases p <;> simp_all [vrel]
         · cases hu)
      | (subst hu; cases p <;> simp_all [vrel])

theorem evFold_min {E : Env} : ∀ {xs : List V} {vs : List Value} {x : V} {xv : Value}, vrel E x xv → vrels E xs vs → ∀ {ps : List Prop} {v : V} {dh : List (Nat × Blk)}, evFold minI x xs = .val ps v dh →
    dh = [] ∧ ∃ v', (vs.foldlM Builtin.min2 xv : Sem Value).run P E.w = .ok v' E.w ∧ vrel E v v'
  | xs, vs, x, xv, hx, hv, ps, v, dh, h => by
    match xs, vs, hv with
    | [], [], _ =>
      unfold evFold at h
      split at h
      · cases h; exact ⟨rfl, xv, by simp, hx⟩
      · contradiction
      · cases h
    | y :: ys, u :: us, hv =>
      simp only [vrels] at hv
      unfold evFold at h
      split at h
      · contradiction
      · rename_i k a k' b r hh
        cases hh
        split at h
        case isFalse => cases h
        rename_i e
        subst e
        simp only [vrel] at hx hv
        obtain ⟨rfl, ha⟩ := hx
        obtain ⟨⟨rfl, hb⟩, hr⟩ := hv
        have hm : vrel E (.int k (minI a b)) (.int k (minI a b)) := by
          simp only [vrel, true_and]; unfold minI; split <;> assumption
        obtain ⟨e, v', h1, h2⟩ := evFold_min hm hr h
        refine ⟨e, v', ?_, h2⟩
        simp only [List.foldlM_cons, Sem.run_bind, Builtin.min2, Sem.run_pure, Result.andThen_ok]
        exact h1
      · cases h

theorem evFold_max {E : Env} : ∀ {xs : List V} {vs : List Value} {x : V} {xv : Value}, vrel E x xv → vrels E xs vs → ∀ {ps : List Prop} {v : V} {dh : List (Nat × Blk)}, evFold maxI x xs = .val ps v dh →
    dh = [] ∧ ∃ v', (vs.foldlM Builtin.max2 xv : Sem Value).run P E.w = .ok v' E.w ∧ vrel E v v'
  | xs, vs, x, xv, hx, hv, ps, v, dh, h => by
    match xs, vs, hv with
    | [], [], _ =>
      unfold evFold at h
      split at h
      · cases h; exact ⟨rfl, xv, by simp, hx⟩
      · contradiction
      · cases h
    | y :: ys, u :: us, hv =>
      simp only [vrels] at hv
      unfold evFold at h
      split at h
      · contradiction
      · rename_i k a k' b r hh
        cases hh
        split at h
        case isFalse => cases h
        rename_i e
        subst e
        simp only [vrel] at hx hv
        obtain ⟨rfl, ha⟩ := hx
        obtain ⟨⟨rfl, hb⟩, hr⟩ := hv
        have hm : vrel E (.int k (maxI a b)) (.int k (maxI a b)) := by
          simp only [vrel, true_and]; unfold maxI; split <;> assumption
        obtain ⟨e, v', h1, h2⟩ := evFold_max hm hr h
        refine ⟨e, v', ?_, h2⟩
        simp only [List.foldlM_cons, Sem.run_bind, Builtin.max2, Sem.run_pure, Result.andThen_ok]
        exact h1
      · cases h

theorem evLen_sound {B : Base} {E : Env} (hE : HRel B E) {t : TypeId} {td : TD} (ht : TDok P t td) {x : V} {xv : Value} (hx : vrel E x xv) (ty : TypeId) {ps : List Prop} {v : V} {dh : List (Nat × Blk)}
    (h : evLen td E.H x = .val ps v dh) : dh = [] ∧ ∃ v', (Builtin.len_ #[t] ty #[xv]).run P E.w = .ok v' E.w ∧ vrel E v v' := by
  have hk := ht.kind
  unfold evLen at h
  split at h
  · rename_i s h1
    cases h
    rw [h1] at hk; simp only [kindOK] at hk
    simp only [vrel] at hx
    obtain ⟨rfl, hs⟩ := hx
    exact ⟨rfl, _, by simp [Builtin.len_, run_underlying hk, goInt], vint (ok_len hs)⟩
  · rename_i e t' xs h1
    cases h
    rw [h1] at hk; simp only [kindOK] at hk
    simp only [vrel] at hx
    generalize hl : [xv] = l at hx
    cases hx with
    | nil => cases hl; exact ⟨rfl, _, by simp [Builtin.len_, run_underlying hk, goInt], vint (ok_len (n := 0) (Nat.zero_le _))⟩
    | slice _ _ _ _ h5 => cases hl; exact ⟨rfl, _, by simp [Builtin.len_, run_underlying hk, goInt], vint (ok_len h5)⟩
  · rename_i e h1
    cases h
    rw [h1] at hk; simp only [kindOK] at hk
    simp only [vrel] at hx
    subst hx
    exact ⟨rfl, _, by simp [Builtin.len_, run_underlying hk, goInt], vint (ok_len (n := 0) (Nat.zero_le _))⟩
  · rename_i e h1
    cases h
    rw [h1] at hk; simp only [kindOK] at hk
    simp only [vrel] at hx
    obtain ⟨a, rfl⟩ := hx
    exact ⟨rfl, _, by simp [Builtin.len_, run_underlying hk, goInt], vint (ok_len (n := 0) (Nat.zero_le _))⟩
  · rename_i e hh ver h1
    rw [h1] at hk; simp only [kindOK] at hk
    split at h
    case h_2 => cases h
    rename_i ver' rw' t' xs hH
    split at h
    case isFalse => cases h
    rename_i e1
    subst e1
    cases h
    rcases osl_row hE hH hx with ⟨_, h3, a, rfl⟩ | ⟨b, cap, c, T, fr, h3, rfl, h5, h6, hcap, h7, h8, h9, h10, h11, h12⟩
    · subst h3; exact ⟨rfl, _, by simp [Builtin.len_, run_underlying hk, goInt], vint (ok_len (n := 0) (Nat.zero_le _))⟩
    · exact ⟨rfl, _, by simp [Builtin.len_, run_underlying hk, goInt], vint (ok_len h11)⟩
  · rename_i n e x' h1
    rw [h1] at hk; simp only [kindOK] at hk
    split at h
    case isFalse => cases h
    rename_i hn
    cases h
    exact ⟨rfl, _, by simp [Builtin.len_, run_underlying hk, goInt], vint (ok_len (by unfold lenB; omega))⟩
  · cases h

end Go.Mir
