/- The mirror, part 10: arithmetic, literals. -/
import Derived.Test.YtogdeefpidccmaaMirI
namespace Go.Mir
open Go.RowKit

variable {P : Program}

theorem vint {E : Env} {k : IntKind} {n : Int} (h : ok k n) : vrel E (.int k n) (.int k n) := by simp [vrel, h]
theorem vbool {E : Env} (b : Bool) : vrel E (.bool b) (.bool b) := by simp [vrel]
theorem vkb {E : Env} (b : Bool) : vrel E (.kb b) (.bool b) := by simp [vrel]
theorem vstr {E : Env} {s : ByteArray} (h : s.size ≤ lenB) : vrel E (.str s) (.string s) := by simp [vrel, h]

theorem run_eqIn_bool {t : TypeId} (h : P.underlying t = some .bool) (d : Nat) (a b : Bool) (w : World) : (Op.equalIn (d + 1) t (.bool a) (.bool b)).run P w = .ok (a == b) w := by
  simp [Op.equalIn, run_underlying h]

theorem run_eq_bool {t : TypeId} (h : P.underlying t = some .bool) (a b : Bool) (w : World) : (Op.equal t (.bool a) (.bool b)).run P w = .ok (a == b) w := run_eqIn_bool h 9999 a b w

theorem ok_u8 (b : UInt8) : ok .u8 (b.toNat : Int) := by
  have := b.toNat_lt
  unfold ok IntKind.min IntKind.max
  simp [IntKind.bits, IntKind.signed]
  omega

theorem eqGuard_plain (op : BinOp) (t : TypeId) (x y : Operand) (a b : Value) (w : World) (ha : ∀ l, a ≠ .agg l) (hn : a ≠ .nilIface) : (eqGuard op t x y a b).run P w = .ok () w := by
  unfold eqGuard
  cases op <;> simp <;> (cases a <;> simp_all)

theorem evBin_sound {E : Env} {t : TypeId} {td : TD} (ht : TDok P t td) {op : BinOp} {x y : V} {xv yv : Value} (hx : vrel E x xv) (hy : vrel E y yv) (xo yo : Operand) {ps : List Prop} {v : V} {dh : List (Nat × Blk)}
    (h : evBin td op x y = .val ps v dh) (hps : ∀ p ∈ ps, p) : dh = [] ∧ ∃ v', (do eqGuard op t xo yo xv yv; binOp op t xv yv : Sem Value).run P E.w = .ok v' E.w ∧ vrel E v v' := by
  have hkd := ht.kind
  unfold evBin at h
  split at h
  · rename_i k a k' b
    split at h
    case isFalse => cases h
    rename_i e
    subst e
    simp only [vrel] at hx hy
    obtain ⟨rfl, ha⟩ := hx
    obtain ⟨rfl, hb⟩ := hy
    rw [Sem.run_bind, eqGuard_plain _ _ _ _ _ _ _ (by simp) (by simp)]
    simp only [Result.andThen_ok]
    cases op <;> simp only [reduceCtorEq, Res.val.injEq] at h <;> obtain ⟨rfl, rfl, rfl⟩ := h <;> refine ⟨rfl, ?_⟩
    case add => exact ⟨_, by simp [binOp, Op.intArith], vint (wrap_ok _ _)⟩
    case sub => exact ⟨_, by simp [binOp, Op.intArith], vint (wrap_ok _ _)⟩
    case mul => exact ⟨_, by simp [binOp, Op.intArith], vint (wrap_ok _ _)⟩
    case quo =>
      have hp := hps _ (List.mem_singleton.2 rfl)
      exact ⟨_, by simp [binOp, Op.intDiv, hp], vint (wrap_ok _ _)⟩
    case rem =>
      have hp := hps _ (List.mem_singleton.2 rfl)
      exact ⟨_, by simp [binOp, Op.intDiv, hp], vint (tmod_ok ha)⟩
    all_goals exact ⟨_, by simp [binOp, Op.intCmp], vbool _⟩
  · rename_i a b
    simp only [vrel] at hx hy
    obtain ⟨rfl, ha⟩ := hx
    obtain ⟨rfl, hb⟩ := hy
    rw [Sem.run_bind, eqGuard_plain _ _ _ _ _ _ _ (by simp) (by simp)]
    simp only [Result.andThen_ok]
    cases op <;> simp only [reduceCtorEq, Res.val.injEq] at h <;> obtain ⟨rfl, rfl, rfl⟩ := h <;> refine ⟨rfl, ?_⟩
    case add =>
      have hp := hps _ (List.mem_singleton.2 rfl)
      have hmax : ¬ ((9223372036854775807 : Int) < (a.size : Int) + (b.size : Int)) := by
        unfold lenB at hp
        omega
      exact ⟨_, by simp [binOp, Op.stringOp, IntKind.max, IntKind.signed, IntKind.bits, hmax], vstr (by rw [ByteArray.size_append]; exact hp)⟩
    all_goals exact ⟨_, by simp only [binOp, Op.stringOp, Sem.run_pure], vbool _⟩
  · split at h
    case h_2 => cases h
    rename_i a b h1 h2 hk
    rw [hk] at hkd
    simp only [kindOK] at hkd
    have ex : xv = .bool a := by
      cases x <;> simp only [asB, reduceCtorEq, Option.some.injEq] at h1 <;> subst h1 <;> simpa [vrel] using hx
    have ey : yv = .bool b := by
      cases y <;> simp only [asB, reduceCtorEq, Option.some.injEq] at h2 <;> subst h2 <;> simpa [vrel] using hy
    subst ex; subst ey
    rw [Sem.run_bind, eqGuard_plain _ _ _ _ _ _ _ (by simp) (by simp)]
    simp only [Result.andThen_ok]
    cases op <;> simp only [reduceCtorEq, Res.val.injEq] at h <;> obtain ⟨rfl, rfl, rfl⟩ := h <;> refine ⟨rfl, ?_⟩
    all_goals exact ⟨_, by simp [binOp, run_eq_bool hkd], vbool _⟩

theorem evUn_sound {E : Env} {op : UnOp} {x : V} {xv : Value} (hx : vrel E x xv) {ps : List Prop} {v : V} {dh : List (Nat × Blk)}
    (h : evUn op x = .val ps v dh) : dh = [] ∧ ∃ v', (Op.unary op xv).run P E.w = .ok v' E.w ∧ vrel E v v' := by
  unfold evUn at h
  split at h
  · cases h; simp only [vrel] at hx; subst hx; exact ⟨rfl, _, by simp [Op.unary], vbool _⟩
  · cases h; simp only [vrel] at hx; subst hx; exact ⟨rfl, _, by simp [Op.unary], vkb _⟩
  · cases h; simp only [vrel] at hx; obtain ⟨rfl, _⟩ := hx
    exact ⟨rfl, _, by simp only [Op.unary, Op.intArith, Sem.run_pure], vint (wrap_ok _ _)⟩
  · cases h

theorem evConv_sound {E : Env} {s d : TypeId} {ts td : TD} (hs : TDok P s ts) (hd : TDok P d td) {x : V} {xv : Value} (hx : vrel E x xv) {ps : List Prop} {v : V} {dh : List (Nat × Blk)}
    (h : evConv ts td x = .val ps v dh) : dh = [] ∧ ∃ v', (convert s d xv).run P E.w = .ok v' E.w ∧ vrel E v v' := by
  have hsk := hs.kind
  have hdk := hd.kind
  unfold evConv at h
  split at h
  · rename_i h1 h2
    cases h
    rw [h1] at hsk; rw [h2] at hdk
    simp only [kindOK] at hsk hdk
    simp only [vrel] at hx
    obtain ⟨rfl, _⟩ := hx
    exact ⟨rfl, _, by simp [convert, run_underlying hsk, run_underlying hdk, Conv.intToInt], vint (wrap_ok _ _)⟩
  · rename_i h1 h2
    cases h
    rw [h1] at hsk; rw [h2] at hdk
    simp only [kindOK] at hsk hdk
    simp only [vrel] at hx
    obtain ⟨rfl, hl⟩ := hx
    exact ⟨rfl, _, by simp [convert, run_underlying hsk, run_underlying hdk], vstr hl⟩
  · cases h

theorem evIdxVal_sound {E : Env} {t : TypeId} {td : TD} (ht : TDok P t td) {x i : V} {xv iv : Value} (hx : vrel E x xv) (hi : vrel E i iv) {ps : List Prop} {v : V} {dh : List (Nat × Blk)}
    (h : evIdxVal td x i = .val ps v dh) (hps : ∀ p ∈ ps, p) : dh = [] ∧ ∃ v', (Instr.index t xv iv).run P E.w = .ok v' E.w ∧ vrel E v v' := by
  have hk := ht.kind
  unfold evIdxVal at h
  split at h
  · rename_i s k n h1
    cases h
    rw [h1] at hk
    simp only [kindOK] at hk
    simp only [vrel] at hx hi
    obtain ⟨rfl, hs⟩ := hx
    obtain ⟨rfl, _⟩ := hi
    have hp := hps _ (List.mem_singleton.2 rfl)
    have hlt : n.toNat < s.size := by omega
    have e : s[n.toNat]? = some (s.data.getD n.toNat 0) := by
      rw [getElem?_pos s n.toNat hlt]
      congr 1
      show s.data[n.toNat] = s.data.getD n.toNat 0
      have : n.toNat < s.data.size := hlt
      rw [Array.getD_eq_getD_getElem?, Array.getElem?_eq_getElem this]
      rfl
    refine ⟨rfl, .int .u8 ((s.data.getD n.toNat 0).toNat : Int), ?_, vint (ok_u8 _)⟩
    simp only [Instr.index, asIntOf, Sem.run_bind, Sem.run_pure, Result.andThen_ok, run_underlying hk, hp.1, if_true, e]
  · cases h

theorem evPick_sound {E : Env} {c a b : V} {cv av bv : Value} (hc : vrel E c cv) (ha : vrel E a av) (hb : vrel E b bv) {ps : List Prop} {v : V} {dh : List (Nat × Blk)}
    (h : evPick c a b = .val ps v dh) : dh = [] ∧ ∃ q, (asBool cv).run P E.w = .ok q E.w ∧ vrel E v (if q then av else bv) := by
  cases c <;> simp only [evPick, reduceCtorEq, Res.val.injEq] at h
  case kb p =>
    obtain ⟨rfl, rfl, rfl⟩ := h
    simp only [vrel] at hc
    subst hc
    refine ⟨rfl, p, by simp [asBool], ?_⟩
    cases p
    · simpa using hb
    · simpa using ha
  case bool p =>
    simp only [vrel] at hc
    subst hc
    split at h
    case h_2 => cases h
    rename_i u hu
    cases h
    refine ⟨rfl, p, by simp [asBool], ?_⟩
    cases a <;> cases b <;> simp only [ite2, reduceCtorEq, Option.some.injEq] at hu
    all_goals first
      | (split at hu
         · rename_i e; subst e; simp only [Option.some.injEq] at hu; subst hu; cases p <;> simp_all [vrel]
         · cases hu)
      | (subst hu; cases p <;> simp_all [vrel])

theorem evFold_min {E : Env} : ∀ {xs : List V} {vs : List Value} {x : V} {xv : Value}, vrel E x xv → vrels E xs vs → ∀ {ps : List Prop} {v : V} {dh : List (Nat × Blk)}, evFold minI x xs = .val ps v dh →
    dh = [] ∧ ∃ v', (vs.foldlM Builtin.min2 xv : Sem Value).run P E.w = .ok v' E.w ∧ vrel E v v'
  | xs, vs, x, xv, hx, hv, ps, v, dh, h => by
    match xs, vs, hv with
    | [], [], _ =>
      unfold evFold at h
      split at h
      · cases h; exact ⟨rfl, xv, by simp, hx⟩
      · contradiction
      · cases h
    | y :: ys, u :: us, hv =>
      simp only [vrels] at hv
      unfold evFold at h
      split at h
      · contradiction
      · rename_i k a k' b r hh
        cases hh
        split at h
        case isFalse => cases h
        rename_i e
        subst e
        simp only [vrel] at hx hv
        obtain ⟨rfl, ha⟩ := hx
        obtain ⟨⟨rfl, hb⟩, hr⟩ := hv
        have hm : vrel E (.int k (minI a b)) (.int k (minI a b)) := by
          simp only [vrel, true_and]; unfold minI; split <;> assumption
        obtain ⟨e, v', h1, h2⟩ := evFold_min hm hr h
        refine ⟨e, v', ?_, h2⟩
        simp only [List.foldlM_cons, Sem.run_bind, Builtin.min2, Sem.run_pure, Result.andThen_ok]
        exact h1
      · cases h

theorem evFold_max {E : Env} : ∀ {xs : List V} {vs : List Value} {x : V} {xv : Value}, vrel E x xv → vrels E xs vs → ∀ {ps : List Prop} {v : V} {dh : List (Nat × Blk)}, evFold maxI x xs = .val ps v dh →
    dh = [] ∧ ∃ v', (vs.foldlM Builtin.max2 xv : Sem Value).run P E.w = .ok v' E.w ∧ vrel E v v'
  | xs, vs, x, xv, hx, hv, ps, v, dh, h => by
    match xs, vs, hv with
    | [], [], _ =>
      unfold evFold at h
      split at h
      · cases h; exact ⟨rfl, xv, by simp, hx⟩
      · contradiction
      · cases h
    | y :: ys, u :: us, hv =>
      simp only [vrels] at hv
      unfold evFold at h
      split at h
      · contradiction
      · rename_i k a k' b r hh
        cases hh
        split at h
        case isFalse => cases h
        rename_i e
        subst e
        simp only [vrel] at hx hv
        obtain ⟨rfl, ha⟩ := hx
        obtain ⟨⟨rfl, hb⟩, hr⟩ := hv
        have hm : vrel E (.int k (maxI a b)) (.int k (maxI a b)) := by
          simp only [vrel, true_and]; unfold maxI; split <;> assumption
        obtain ⟨e, v', h1, h2⟩ := evFold_max hm hr h
        refine ⟨e, v', ?_, h2⟩
        simp only [List.foldlM_cons, Sem.run_bind, Builtin.max2, Sem.run_pure, Result.andThen_ok]
        exact h1
      · cases h

theorem evLen_sound {B : Base} {E : Env} (hE : HRel B E) {t : TypeId} {td : TD} (ht : TDok P t td) {x : V} {xv : Value} (hx : vrel E x xv) (ty : TypeId) {ps : List Prop} {v : V} {dh : List (Nat × Blk)}
    (h : evLen td E.H x = .val ps v dh) : dh = [] ∧ ∃ v', (Builtin.len_ #[t] ty #[xv]).run P E.w = .ok v' E.w ∧ vrel E v v' := by
  have hk := ht.kind
  unfold evLen at h
  split at h
  · rename_i s h1
    cases h
    rw [h1] at hk; simp only [kindOK] at hk
    simp only [vrel] at hx
    obtain ⟨rfl, hs⟩ := hx
    exact ⟨rfl, _, by simp [Builtin.len_, run_underlying hk, goInt], vint (ok_len hs)⟩
  · rename_i e t' xs h1
    cases h
    rw [h1] at hk; simp only [kindOK] at hk
    simp only [vrel] at hx
    generalize hl : [xv] = l at hx
    cases hx with
    | nil => cases hl; exact ⟨rfl, _, by simp [Builtin.len_, run_underlying hk, goInt], vint (ok_len (n := 0) (Nat.zero_le _))⟩
    | slice _ _ _ _ h5 => cases hl; exact ⟨rfl, _, by simp [Builtin.len_, run_underlying hk, goInt], vint (ok_len h5)⟩
  · rename_i e h1
    cases h
    rw [h1] at hk; simp only [kindOK] at hk
    simp only [vrel] at hx
    subst hx
    exact ⟨rfl, _, by simp [Builtin.len_, run_underlying hk, goInt], vint (ok_len (n := 0) (Nat.zero_le _))⟩
  · rename_i e h1
    cases h
    rw [h1] at hk; simp only [kindOK] at hk
    simp only [vrel] at hx
    obtain ⟨a, rfl⟩ := hx
    exact ⟨rfl, _, by simp [Builtin.len_, run_underlying hk, goInt], vint (ok_len (n := 0) (Nat.zero_le _))⟩
  · rename_i e hh ver h1
    rw [h1] at hk; simp only [kindOK] at hk
    split at h
    case h_2 => cases h
    rename_i ver' rw' t' xs hH
    split at h
    case isFalse => cases h
    rename_i e1
    subst e1
    cases h
    rcases osl_row hE hH hx with ⟨_, h3, a, rfl⟩ | ⟨b, cap, c, T, fr, h3, rfl, h5, h6, hcap, h7, h8, h9, h10, h11, h12⟩
    · subst h3; exact ⟨rfl, _, by simp [Builtin.len_, run_underlying hk, goInt], vint (ok_len (n := 0) (Nat.zero_le _))⟩
    · exact ⟨rfl, _, by simp [Builtin.len_, run_underlying hk, goInt], vint (ok_len h11)⟩
  · rename_i n e x' h1
    rw [h1] at hk; simp only [kindOK] at hk
    split at h
    case isFalse => cases h
    rename_i hn
    cases h
    exact ⟨rfl, _, by simp [Builtin.len_, run_underlying hk, goInt], vint (ok_len (by unfold lenB; omega))⟩
  · cases h

end Go.Mir
