/- The mirror, part 13: callees, and any one operation. -/
import Derived.Test.YtogdeefpidccmaaMirL
namespace Go.Mir
open Go.RowKit

variable {P : Program}

structure GoodK (B : Base) (E : Env) (m K : Nat) (dh : List (Nat × Blk)) (w' : World) (E' : Env) : Prop where
  rel : HRel B E'
  ext : Ext E E'
  w : E'.w = w'
  h : E'.H = hset E.H dh
  u : ∀ n, E'.U n → E.U n ∨ (m ≤ n ∧ n < m + K)

theorem Good.toK {B : Base} {E : Env} {m K : Nat} {dh : List (Nat × Blk)} {w' : World} {E' : Env} (G : Good B E m dh w' E') (hK : 1 ≤ K) : GoodK B E m K dh w' E' :=
  ⟨G.rel, G.ext, G.w, G.h, fun n h => (G.u n h).imp id fun h => ⟨h.1, by have := h.2; unfold KN at this; omega⟩⟩

/-- a callee does what its contract says; K names are its own -/
structure CtrOK (P : Program) (K : Nat) (f : FuncId) (c : Ctr) : Prop where
  fn : ∃ fn, P.funcs[f]? = some fn ∧ fn.body.isSome = true ∧ (fn.name == "runtime.NumGoroutine") = false
  calls : ∀ (B : Base) (E : Env), HRel B E → ∀ (args : List V) (av : List Value), vrels E args av → ∀ m, (∀ n, m ≤ n → n < m + K → ¬ E.U n) → ∀ ps v dh, c args E.H m = some (ps, v, dh) → (∀ p ∈ ps, p) →
    Calls P f av.toArray E.w fun e w' => ∃ E' v', e = .returned v' ∧ GoodK B E m K dh w' E' ∧ vrel E' v v'

theorem vrels_map {E : Env} {α : Type} (f : α → V) (g : α → Value) (h : ∀ x, vrel E (f x) (g x)) : ∀ l : List α, vrels E (l.map f) (l.map g)
  | [] => by simp [vrels]
  | x :: l => by simp only [List.map_cons, vrels]; exact ⟨h x, vrels_map f g h l⟩

theorem prel_map {E : Env} (f : Operand → V) (g : Operand → Value) (h : ∀ x, vrel E (f x) (g x)) : ∀ l : List (Nat × Operand), prel E (l.map fun p => (p.1, f p.2)) (l.map fun p => (p.1, g p.2))
  | [] => by simp [prel]
  | x :: l => by simp only [List.map_cons, prel]; exact ⟨trivial, h _, prel_map f g h l⟩

theorem orel_map {E : Env} (f : Operand → V) (g : Operand → Value) (h : ∀ x, vrel E (f x) (g x)) (o : Option Operand) : orel E (o.map f) (o.map g) := by
  cases o with
  | none => simp [orel]
  | some x => simp only [Option.map_some, orel]; exact h x

variable {B : Base} {E : Env} {tb : Tbl} {K : Nat} {Γ : FuncId → Option Ctr} {m : Nat} {ev : Operand → V} {a : Act}

theorem evCall_sound (hE : HRel B E) (hΓ : ∀ f c, Γ f = some c → CtrOK P K f c) (hm : ∀ n, m ≤ n → n < m + K → ¬ E.U n) (hev : ∀ x, vrel E (ev x) (a.eval x)) {c : Call} {o : Oper} (ho : o.op = .call c) {f : Operand} (hf : c.callee = .value f) {g : FuncId} {caps : List V} (hg : ev f = .fn g caps) {ct : Ctr} (hct : Γ g = some ct) {ps : List Prop} {v : V} {dh : List (Nat × Blk)}
    (h : evCall ct (c.args.toList.map ev ++ caps) E.H m = .val ps v dh) (hps : ∀ p ∈ ps, p) {next : Act → World → Prop} {Q : Exit → Act → World → Prop}
    (hn : ∀ v' E', GoodK B E m K dh E'.w E' → vrel E' v v' → next (a.put o.dst v') E'.w) : o.wp P a E.w next Q := by
  have hfv := hev f
  rw [hg] at hfv
  simp only [vrel] at hfv
  obtain ⟨l, hfe, hl⟩ := hfv
  unfold evCall at h
  split at h
  case h_2 => cases h
  rename_i ps' v' dh' hc
  cases h
  have hok := hΓ _ _ hct
  obtain ⟨fn, h1, h2, h3⟩ := hok.fn
  have hb : ¬ fn.body = none := by cases hb : fn.body with | none => rw [hb] at h2; cases h2 | some _ => simp
  have h4 : ¬ fn.name = "runtime.NumGoroutine" := by simpa using h3
  have hargs : vrels E (c.args.toList.map ev ++ caps) (c.args.toList.map a.eval ++ l.toList) := vrels_append (vrels_map _ _ hev _) hl
  have hcalls := hok.calls B E hE _ _ hargs m hm _ _ _ hc hps
  have hrun : (execOp a.eval o).run P E.w = .ok (.enter g (c.args.toList.map a.eval ++ l.toList).toArray) E.w := by
    have e : (c.args.toList.map a.eval ++ l.toList).toArray = #[] ++ c.args.map a.eval ++ l := by
      apply Array.ext'
      simp
    rw [e]
    simp [execOp, ho, resolve, hf, Deferred.ofValue, hfe, invoke, callFunc, h1, h4, hb]
  unfold Oper.wp
  rw [hrun]
  simp only [Oper.upon]
  refine hcalls.mono fun e w' hh => ?_
  obtain ⟨E', v'', rfl, G, hv⟩ := hh
  have := hn v'' E' (by rw [G.w]; exact G) hv
  rw [G.w] at this
  exact this

/-- an operation that yields a value -/
theorem evOp_sound (hE : HRel B E) (hT : TblOK P tb) (hK : 1 ≤ K) (hΓ : ∀ f c, Γ f = some c → CtrOK P K f c) (hm : ∀ n, m ≤ n → n < m + K → ¬ E.U n) (hev : ∀ x, vrel E (ev x) (a.eval x)) {o : Oper} {ps : List Prop} {v : V} {dh : List (Nat × Blk)} (h : evOp tb Γ m E.H ev o.op = .val ps v dh) (hps : ∀ p ∈ ps, p) {next : Act → World → Prop} {Q : Exit → Act → World → Prop}
    (hn : ∀ v' E', GoodK B E m K dh E'.w E' → vrel E' v v' → next (a.put o.dst v') E'.w) : o.wp P a E.w next Q := by
  have hm0 : ¬ E.U m := hm m (Nat.le_refl _) (by omega)
  have same : ∀ {v'}, (execOp a.eval o).run P E.w = .ok (.value v') E.w → dh = [] → vrel E v v' → o.wp P a E.w next Q := fun hrun hd hv => by
    unfold Oper.wp
    rw [hrun]
    simp only [Oper.upon]
    subst hd
    exact hn _ E ((good_same hE m).toK hK) hv
  have step : ∀ {v' w' E'}, (execOp a.eval o).run P E.w = .ok (.value v') w' → Good B E m dh w' E' → vrel E' v v' → o.wp P a E.w next Q := fun hrun G hv => by
    unfold Oper.wp
    rw [hrun]
    simp only [Oper.upon]
    have := hn _ _ (by rw [G.w]; exact G.toK hK) hv
    rw [G.w] at this
    exact this
  cases ho : o.op <;> rw [ho] at h <;> simp only [evOp, reduceCtorEq] at h
  case move x => cases h; exact same (by simp [execOp, ho]) rfl (hev x)
  case assign x => cases h; exact same (by simp [execOp, ho]) rfl (hev x)
  case pick c x y =>
    obtain ⟨e, q, h1, h2⟩ := evPick_sound (P := P) (hev c) (hev x) (hev y) h
    exact same (by simp [execOp, ho, h1]) e h2
  case alloc t =>
    split at h
    case h_2 => cases h
    rename_i td htd
    cases h
    have ht := hT _ _ htd
    obtain ⟨z, hz, hzz⟩ := ht.zeroValue E.w
    obtain ⟨E', G, hv⟩ := new_cells hE m hm0 td.zero z.cells t (zeqs_vrels hzz)
    exact step (by simp [execOp, ho, Instr.alloc, hz, newVar, newRow]) G hv
  case box t x =>
    split at h
    case h_2 => cases h
    rename_i cs hcs
    cases h
    obtain ⟨E', G, hv⟩ := new_cells hE m hm0 cs (a.eval x).cells t (cellsOf_sound (hev x) hcs)
    exact step (by simp [execOp, ho, Instr.box, newVar, newRow]) G hv
  case build t parts =>
    split at h
    case h_2 => cases h
    rename_i td htd
    obtain ⟨e, v', hr, hv⟩ := evBuild_sound hT (hT _ _ htd) (pv := parts.map fun p => (p.1, a.eval p.2)) (by rw [Array.toList_map]; exact prel_map _ _ hev _) h
    exact same (by simp [execOp, ho, hr]) e hv
  case buildSlice t n parts =>
    split at h
    case h_2 => cases h
    rename_i td htd
    obtain ⟨v', w', E', hr, G, hv⟩ := evBuildSlice_sound hE hT (hT _ _ htd) m hm0 (pv := parts.map fun p => (p.1, a.eval p.2)) (by rw [Array.toList_map]; exact prel_map _ _ hev _) h
    exact step (by simp [execOp, ho, hr]) G hv
  case load t x =>
    split at h
    case h_2 => cases h
    rename_i td htd
    obtain ⟨e, v', hr, hv⟩ := evLoad_sound hE (hT _ _ htd) (hev x) h
    exact same (by simp [execOp, ho, hr]) e hv
  case nilCheck x =>
    have hx := hev x
    unfold evNil at h
    split at h
    · rename_i hh off e; cases h; rw [e] at hx; have hx0 := hx; simp only [vrel] at hx0; obtain ⟨ad, hx1⟩ := hx0.2.1
      exact same (v' := a.eval x) (by simp [execOp, ho, hx1]) rfl hx
    · rename_i t' xs i off e; cases h; rw [e] at hx; have hx0 := hx; simp only [vrel] at hx0
      obtain ⟨_, _, _, _, _, _, _, _, _, _, _, hx1⟩ := hx0
      exact same (v' := a.eval x) (by simp [execOp, ho, hx1]) rfl hx
    · rename_i hh ver i off e; cases h; rw [e] at hx; have hx0 := hx; simp only [vrel] at hx0; obtain ⟨ad, hx1⟩ := hx0.2.2.1
      exact same (v' := a.eval x) (by simp [execOp, ho, hx1]) rfl hx
    · rename_i f caps e; cases h; rw [e] at hx; have hx0 := hx; simp only [vrel] at hx0; obtain ⟨l, hx1, _⟩ := hx0
      exact same (v' := a.eval x) (by simp [execOp, ho, hx1]) rfl hx
    · cases h
  case binOp op t x y t' =>
    split at h
    case h_2 => cases h
    rename_i td htd
    obtain ⟨e, v', hr, hv⟩ := evBin_sound (hT _ _ htd) (hev x) (hev y) x y h hps
    refine same (v' := v') ?_ e hv
    have e2 : execOp a.eval o = (do let r ← (do eqGuard op t x y (a.eval x) (a.eval y); binOp op t (a.eval x) (a.eval y) : Sem Value); pure (.value r)) := by simp only [execOp, ho]
    rw [e2, Sem.run_bind, hr]
    rfl
  case unOp op t x =>
    obtain ⟨e, v', hr, hv⟩ := evUn_sound (P := P) (hev x) h
    exact same (by simp [execOp, ho, hr]) e hv
  case convert s d x =>
    split at h
    case h_2 => cases h
    rename_i ts td hts htd
    obtain ⟨e, v', hr, hv⟩ := evConv_sound (hT _ _ hts) (hT _ _ htd) (hev x) h
    exact same (by simp [execOp, ho, hr]) e hv
  case makeFunc fn first caps =>
    cases fn <;> simp only [reduceCtorEq] at h
    rename_i f
    split at h
    case isFalse => cases h
    rename_i hsz
    cases h
    have hf : first = #[] := Array.eq_empty_of_size_eq_zero hsz
    refine same (v' := .func (.func f) #[] (caps.map a.eval)) (by simp [execOp, ho, Instr.makeFunc, hf]) rfl ?_
    simp only [vrel]
    exact ⟨_, rfl, by rw [Array.toList_map]; exact vrels_map _ _ hev _⟩
  case makeSlice t l c =>
    split at h
    case h_2 => cases h
    rename_i td htd
    obtain ⟨v', w', E', hr, G, hv⟩ := evMakeSlice_sound hE hT (hT _ _ htd) m hm0 (hev l) (hev c) h hps
    exact step (by simp [execOp, ho, hr]) G hv
  case slice t x lo hi mx =>
    split at h
    case h_2 => cases h
    rename_i td htd
    obtain ⟨v', E', hr, G, hv⟩ := evSlice_sound hE hT (hT _ _ htd) m (hev x) (orel_map _ _ hev lo) (orel_map _ _ hev hi) (orel_map _ _ hev mx) h hps
    exact step (by simp [execOp, ho, hr]) G hv
  case fieldAddr t x f =>
    split at h
    case h_2 => cases h
    rename_i td htd
    obtain ⟨e, v', hr, hv⟩ := evField_sound hT (hT _ _ htd) (hev x) h
    exact same (by simp [execOp, ho, hr]) e hv
  case field t x f =>
    split at h
    case h_2 => cases h
    rename_i td htd
    obtain ⟨e, v', hr, hv⟩ := evFieldVal_sound hT (hT _ _ htd) (hev x) h
    exact same (by simp [execOp, ho, hr]) e hv
  case indexAddr t x i =>
    split at h
    case h_2 => cases h
    rename_i td htd
    obtain ⟨e, v', hr, hv⟩ := evIndex_sound hE hT (hT _ _ htd) (hev x) (hev i) h hps
    exact same (by simp [execOp, ho, hr]) e hv
  case index t x i =>
    split at h
    case h_2 => cases h
    rename_i td htd
    obtain ⟨e, v', hr, hv⟩ := evIdxVal_sound (hT _ _ htd) (hev x) (hev i) h hps
    exact same (by simp [execOp, ho, hr]) e hv
  case extract t i =>
    have hx := hev t
    generalize hy : ev t = y at h hx
    cases y <;> simp only [evExtract, reduceCtorEq] at h
    rename_i vs
    simp only [vrel] at hx
    obtain ⟨l, hx1, hl⟩ := hx
    split at h
    case h_2 => cases h
    rename_i u hu
    cases h
    obtain ⟨v', h1, h2⟩ := vrels_get hl _ _ hu
    have h1' : l[i]? = some v' := by simpa using h1
    exact same (v' := v') (by simp [execOp, ho, hx1, Instr.extract, h1']) rfl h2
  case call c =>
    split at h
    · -- len
      rename_i hc
      split at h
      case h_2 => cases h
      rename_i t x ht hx
      split at h
      case h_2 => cases h
      rename_i td htd
      obtain ⟨e, v', hr, hv⟩ := evLen_sound hE (hT _ _ htd) (hev x) o.type h
      have e1 : c.argTypes = #[t] := by apply Array.ext'; exact ht
      have e2 : c.args = #[x] := by apply Array.ext'; exact hx
      exact same (v' := v') (by simp [execOp, ho, resolve, hc, invoke, builtin, e1, e2, hr]) e hv
    · rename_i hc
      split at h
      case h_2 => cases h
      rename_i x r hx
      obtain ⟨e, v', hr, hv⟩ := evFold_min (P := P) (hev x) (vrels_map _ _ hev r) h
      have e2 : c.args.toList.map a.eval = a.eval x :: r.map a.eval := by rw [hx]; rfl
      exact same (v' := v') (by simp [execOp, ho, resolve, hc, invoke, builtin, Builtin.min_, e2, hr]) e hv
    · rename_i hc
      split at h
      case h_2 => cases h
      rename_i x r hx
      obtain ⟨e, v', hr, hv⟩ := evFold_max (P := P) (hev x) (vrels_map _ _ hev r) h
      have e2 : c.args.toList.map a.eval = a.eval x :: r.map a.eval := by rw [hx]; rfl
      exact same (v' := v') (by simp [execOp, ho, resolve, hc, invoke, builtin, Builtin.max_, e2, hr]) e hv
    · rename_i hc
      split at h
      case h_2 => cases h
      rename_i t t2 s x ht hx
      split at h
      case h_2 => cases h
      rename_i td td2 htd htd2
      split at h
      case isFalse => cases h
      rename_i hel
      obtain ⟨n, hn'⟩ := Option.isSome_iff_exists.1 hel
      obtain ⟨eX, te, hkX, _⟩ := elSize_ok hT hn'
      obtain ⟨v', w', E', hr, G, hv⟩ := evAppend_sound hE hT (hT _ _ htd) (hT _ _ htd2) hkX m hm0 (hev s) (hev x) o.type h hps
      have e1 : c.argTypes = #[t, t2] := by apply Array.ext'; exact ht
      have e2 : c.args = #[s, x] := by apply Array.ext'; exact hx
      exact step (v' := v') (w' := w') (by simp [execOp, ho, resolve, hc, invoke, builtin, e1, e2, hr]) G hv
    · rename_i f hc
      split at h
      case h_2 => cases h
      rename_i g caps hg
      split at h
      case h_2 => cases h
      rename_i ct hct
      exact evCall_sound hE hΓ hm hev ho hc hg hct h hps hn
    · cases h

/-- a store -/
theorem evSt_sound (hE : HRel B E) (hT : TblOK P tb) (hK : 1 ≤ K) (hev : ∀ x, vrel E (ev x) (a.eval x)) {o : Oper} {ps : List Prop} {dh : List (Nat × Blk)} (h : evSt tb E.H ev o.op = some (ps, dh)) {next : Act → World → Prop} {Q : Exit → Act → World → Prop}
    (hn : ∀ E', GoodK B E m K dh E'.w E' → next (a.put o.dst undef) E'.w) : o.wp P a E.w next Q := by
  cases ho : o.op <;> rw [ho] at h <;> simp only [evSt, reduceCtorEq] at h
  rename_i t x y
  split at h
  case h_2 => cases h
  rename_i td htd
  split at h
  case h_2 => cases h
  rename_i ps' dh' hs
  cases h
  obtain ⟨w', E', hr, G⟩ := evStore_sound hE (hT _ _ htd) (hev x) (hev y) m hs
  unfold Oper.wp
  have e : (execOp a.eval o).run P E.w = .ok .skip w' := by simp [execOp, ho, hr]
  rw [e]
  simp only [Oper.upon]
  have := hn E' (by rw [G.w]; exact G.toK hK)
  rw [G.w] at this
  exact this

end Go.Mir
