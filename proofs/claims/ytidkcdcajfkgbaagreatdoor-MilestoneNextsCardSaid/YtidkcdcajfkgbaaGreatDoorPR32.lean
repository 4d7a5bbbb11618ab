/- Texts of the mirror and contracts, put together. -/
import Derived.Test.YtidkcdcajfkgbaaGreatDoorPR31
import Derived.LoopN

/- The mirror, part 13: callees, and any one operation. -/
namespace Go.Mir
open Go.RowKit

variable {P : Program}

structure GoodK (B : Base) (E : Env) (m K : Nat) (dh : List (Nat × Blk)) (w' : World) (E' : Env) : Prop where
  rel : HRel B E'
  ext : Ext E E'
  w : E'.w = w'
  h : E'.H = hset E.H dh
  u : ∀ n, E'.U n → E.U n ∨ (m ≤ n ∧ n < m + K)

theorem Good.toK {B : Base} {E : Env} {m K : Nat} {dh : List (Nat × Blk)} {w' : World} {E' : Env} (G : Good B E m dh w' E') (hK : 1 ≤ K) : GoodK B E m K dh w' E' :=
  ⟨G.rel, G.ext, G.w, G.h, fun n h => (G.u n h).imp id fun h => ⟨h.1, by have := h.2; unfold KN at this; omega⟩⟩

/-- a callee does what its contract says; K names are its own -/
structure CtrOK (P : Program) (K : Nat) (f : FuncId) (c : Ctr) : Prop where
  fn : ∃ fn, P.funcs[f]? = some fn ∧ fn.body.isSome = true ∧ (fn.name == "runtime.NumGoroutine") = false
  calls : ∀ (B : Base) (E : Env), HRel B E → ∀ (args : List V) (av : List Value), vrels E args av → ∀ m, (∀ n, m ≤ n → n < m + K → ¬ E.U n) → ∀ ps v dh, c args E.H m = some (ps, v, dh) → (∀ p ∈ ps, p) →
    Calls P f av.toArray E.w fun e w' => ∃ E' v', e = .returned v' ∧ GoodK B E m K dh w' E' ∧ vrel E' v v'

theorem prel_map {E : Env} (f : Operand → V) (g : Operand → Value) (h : ∀ x, vrel E (f x) (g x)) : ∀ l : List (Nat × Operand), prel E (l.map fun p => (p.1, f p.2)) (l.map fun p => (p.1, g p.2))
  | [] => by simp [prel]
  | x :: l => by simp only [List.map_cons, prel]; exact ⟨trivial, h _, prel_map f g h l⟩

theorem orel_map {E : Env} (f : Operand → V) (g : Operand → Value) (h : ∀ x, vrel E (f x) (g x)) (o : Option Operand) : orel E (o.map f) (o.map g) := by
  cases o with
  | none => simp [orel]
  | some x => simp only [Option.map_some, orel]; exact h x

variable {B : Base} {E : Env} {tb : Tbl} {K : Nat} {Γ : FuncId → Option Ctr} {m : Nat} {ev : Operand → V} {a : Act}

theorem evCall_sound (hE : HRel B E) (hΓ : ∀ f c, Γ f = some c → CtrOK P K f c) (hm : ∀ n, m ≤ n → n < m + K → ¬ E.U n) (hev : ∀ x, vrel E (ev x) (a.eval x)) {c : Call} {o : Oper} (ho : o.op = .call c) {f : Operand} (hf : c.callee = .value f) {g : FuncId} {caps : List V} (hg : ev f = .fn g caps) {ct : Ctr} (hct : Γ g = some ct) {ps : List Ob} {v : V} {dh : List (Nat × Blk)}
    (h : evCall ct (c.args.toList.map ev ++ caps) E.H m = .val ps v dh) (hps : ∀ p ∈ ps, p.holds) {next : Act → World → Prop} {Q : Exit → Act → World → Prop}
    (hn : ∀ v' E', GoodK B E m K dh E'.w E' → vrel E' v v' → next (a.put o.dst v') E'.w) : o.wp P a E.w next Q := by
  have hfv := hev f
  rw [hg] at hfv
  simp only [vrel] at hfv
  obtain ⟨l, hfe, hl⟩ := hfv
  unfold evCall at h
  split at h
  case h_2 => cases h
  rename_i ps' v' dh' hc
  cases h
  have hok := hΓ _ _ hct
  obtain ⟨fn, h1, h2, h3⟩ := hok.fn
  have hb : ¬ fn.body = none := by cases hb : fn.body with | none => rw [hb] at h2; cases h2 | some _ => simp
  have h4 : ¬ fn.name = "runtime.NumGoroutine" := by simpa using h3
  have hargs : vrels E (c.args.toList.map ev ++ caps) (c.args.toList.map a.eval ++ l.toList) := vrels_append (vrels_map _ _ hev _) hl
  have hcalls := hok.calls B E hE _ _ hargs m hm _ _ _ hc (fun p hp => hps (.prop p) (List.mem_map_of_mem hp))
  have hrun : (execOp a.eval o).run P E.w = .ok (.enter g (c.args.toList.map a.eval ++ l.toList).toArray) E.w := by
    have e : (c.args.toList.map a.eval ++ l.toList).toArray = #[] ++ c.args.map a.eval ++ l := by
      apply Array.ext'
      simp
    rw [e]
    simp [execOp, ho, resolve, hf, Deferred.ofValue, hfe, invoke, callFunc, h1, h4, hb]
  unfold Oper.wp
  rw [hrun]
  simp only [Oper.upon]
  refine hcalls.mono fun e w' hh => ?_
  obtain ⟨E', v'', rfl, G, hv⟩ := hh
  have := hn v'' E' (by rw [G.w]; exact G) hv
  rw [G.w] at this
  exact this

/-- an operation that yields a value -/
theorem evOp_sound (hE : HRel B E) (hT : TblOK P tb) (hK : 1 ≤ K) (hΓ : ∀ f c, Γ f = some c → CtrOK P K f c) (hm : ∀ n, m ≤ n → n < m + K → ¬ E.U n) (hev : ∀ x, vrel E (ev x) (a.eval x)) {o : Oper} {ps : List Ob} {v : V} {dh : List (Nat × Blk)} (h : evOp tb Γ m E.H ev o.op = .val ps v dh) (hps : ∀ p ∈ ps, p.holds) {next : Act → World → Prop} {Q : Exit → Act → World → Prop}
    (hn : ∀ v' E', GoodK B E m K dh E'.w E' → vrel E' v v' → next (a.put o.dst v') E'.w) : o.wp P a E.w next Q := by
  have hm0 : ¬ E.U m := hm m (Nat.le_refl _) (by omega)
  have same : ∀ {v'}, (execOp a.eval o).run P E.w = .ok (.value v') E.w → dh = [] → vrel E v v' → o.wp P a E.w next Q := fun hrun hd hv => by
    unfold Oper.wp
    rw [hrun]
    simp only [Oper.upon]
    subst hd
    exact hn _ E ((good_same hE m).toK hK) hv
  have step : ∀ {v' w' E'}, (execOp a.eval o).run P E.w = .ok (.value v') w' → Good B E m dh w' E' → vrel E' v v' → o.wp P a E.w next Q := fun hrun G hv => by
    unfold Oper.wp
    rw [hrun]
    simp only [Oper.upon]
    have := hn _ _ (by rw [G.w]; exact G.toK hK) hv
    rw [G.w] at this
    exact this
  cases ho : o.op <;> rw [ho] at h <;> simp only [evOp, reduceCtorEq] at h
  case move x => cases h; exact same (by simp [execOp, ho]) rfl (hev x)
  case assign x => cases h; exact same (by simp [execOp, ho]) rfl (hev x)
  case pick c x y =>
    obtain ⟨e, q, h1, h2⟩ := evPick_sound (P := P) (hev c) (hev x) (hev y) h
    exact same (by simp [execOp, ho, h1]) e h2
  case alloc t =>
    split at h
    case h_2 => cases h
    rename_i td htd
    cases h
    have ht := hT _ _ htd
    obtain ⟨z, hz, hzz⟩ := ht.zeroValue E.w
    obtain ⟨E', G, hv⟩ := new_cells hE m hm0 td.zero z.cells t (zeqs_vrels hzz)
    exact step (by simp [execOp, ho, Instr.alloc, hz, newVar, newRow]) G hv
  case box t x =>
    split at h
    case h_2 => cases h
    rename_i cs hcs
    cases h
    obtain ⟨E', G, hv⟩ := new_cells hE m hm0 cs (a.eval x).cells t (cellsOf_sound (hev x) hcs)
    exact step (by simp [execOp, ho, Instr.box, newVar, newRow]) G hv
  case build t parts =>
    split at h
    case h_2 => cases h
    rename_i td htd
    obtain ⟨e, v', hr, hv⟩ := evBuild_sound hT (hT _ _ htd) (pv := parts.map fun p => (p.1, a.eval p.2)) (by rw [Array.toList_map]; exact prel_map _ _ hev _) h
    exact same (by simp [execOp, ho, hr]) e hv
  case buildSlice t n parts =>
    split at h
    case h_2 => cases h
    rename_i td htd
    obtain ⟨v', w', E', hr, G, hv⟩ := evBuildSliceG_sound hE hT (hT _ _ htd) m hm0 (pv := parts.map fun p => (p.1, a.eval p.2)) (by rw [Array.toList_map]; exact prel_map _ _ hev _) h
    exact step (by simp [execOp, ho, hr]) G hv
  case load t x =>
    split at h
    case h_2 => cases h
    rename_i td htd
    obtain ⟨e, v', hr, hv⟩ := evLoadG_sound hE (hT _ _ htd) (hev x) h
    exact same (by simp [execOp, ho, hr]) e hv
  case nilCheck x =>
    have hx := hev x
    unfold evNil at h
    split at h
    · rename_i hh off e; cases h; rw [e] at hx; have hx0 := hx; simp only [vrel] at hx0; obtain ⟨ad, hx1⟩ := hx0.2.1
      exact same (v' := a.eval x) (by simp [execOp, ho, hx1]) rfl hx
    · rename_i t' xs i off e; cases h; rw [e] at hx; have hx0 := hx; simp only [vrel] at hx0
      obtain ⟨_, _, _, _, _, _, _, _, _, _, _, hx1⟩ := hx0
      exact same (v' := a.eval x) (by simp [execOp, ho, hx1]) rfl hx
    · rename_i hh ver i off e; cases h; rw [e] at hx; have hx0 := hx; simp only [vrel] at hx0; obtain ⟨ad, hx1⟩ := hx0.2.2.1
      exact same (v' := a.eval x) (by simp [execOp, ho, hx1]) rfl hx
    · rename_i f caps e; cases h; rw [e] at hx; have hx0 := hx; simp only [vrel] at hx0; obtain ⟨l, hx1, _⟩ := hx0
      exact same (v' := a.eval x) (by simp [execOp, ho, hx1]) rfl hx
    · rename_i hh ver off e; cases h; rw [e] at hx; have hx0 := hx; simp only [vrel] at hx0; obtain ⟨ad, hx1⟩ := hx0.2.2.1
      exact same (v' := a.eval x) (by simp [execOp, ho, hx1]) rfl hx
    · cases h
  case binOp op t x y t' =>
    split at h
    case h_2 => cases h
    rename_i td htd
    obtain ⟨e, v', hr, hv⟩ := evBin_sound (hT _ _ htd) (hev x) (hev y) x y h hps
    refine same (v' := v') ?_ e hv
    have e2 : execOp a.eval o = (do let r ← (do eqGuard op t x y (a.eval x) (a.eval y); binOp op t (a.eval x) (a.eval y) : Sem Value); pure (.value r)) := by simp only [execOp, ho]
    rw [e2, Sem.run_bind, hr]
    rfl
  case unOp op t x =>
    obtain ⟨e, v', hr, hv⟩ := evUn_sound (P := P) (hev x) h
    exact same (by simp [execOp, ho, hr]) e hv
  case convert s d x =>
    split at h
    case h_2 => cases h
    rename_i ts td hts htd
    unfold evConv2 at h
    split at h
    · obtain ⟨v', w', E', hr, G, hv⟩ := evBytesG_sound hE hT (hT _ _ hts) (hT _ _ htd) m hm0 (hev x) h
      exact step (by simp [execOp, ho, hr]) G hv
    · obtain ⟨e, v', hr, hv⟩ := evConv_sound (hT _ _ hts) (hT _ _ htd) (hev x) h
      exact same (by simp [execOp, ho, hr]) e hv
  case makeFunc fn first caps =>
    cases fn <;> simp only [reduceCtorEq] at h
    rename_i f
    split at h
    case isFalse => cases h
    rename_i hsz
    cases h
    have hf : first = #[] := Array.eq_empty_of_size_eq_zero hsz
    refine same (v' := .func (.func f) #[] (caps.map a.eval)) (by simp [execOp, ho, Instr.makeFunc, hf]) rfl ?_
    simp only [vrel]
    exact ⟨_, rfl, by rw [Array.toList_map]; exact vrels_map _ _ hev _⟩
  case makeSlice t l c =>
    split at h
    case h_2 => cases h
    rename_i td htd
    obtain ⟨v', w', E', hr, G, hv⟩ := evMakeSliceG_sound hE hT (hT _ _ htd) m hm0 (hev l) (hev c) h hps
    exact step (by simp [execOp, ho, hr]) G hv
  case slice t x lo hi mx =>
    split at h
    case h_2 => cases h
    rename_i td htd
    obtain ⟨v', E', hr, G, hv⟩ := evSliceG_sound hE hT (hT _ _ htd) m (hev x) (orel_map _ _ hev lo) (orel_map _ _ hev hi) (orel_map _ _ hev mx) h hps
    exact step (by simp [execOp, ho, hr]) G hv
  case fieldAddr t x f =>
    split at h
    case h_2 => cases h
    rename_i td htd
    obtain ⟨e, v', hr, hv⟩ := evFieldG_sound hT (hT _ _ htd) (hev x) h
    exact same (by simp [execOp, ho, hr]) e hv
  case field t x f =>
    split at h
    case h_2 => cases h
    rename_i td htd
    obtain ⟨e, v', hr, hv⟩ := evFieldVal_sound hT (hT _ _ htd) (hev x) h
    exact same (by simp [execOp, ho, hr]) e hv
  case indexAddr t x i =>
    split at h
    case h_2 => cases h
    rename_i td htd
    obtain ⟨e, v', hr, hv⟩ := evIndexG_sound hE hT (hT _ _ htd) (hev x) (hev i) h hps
    exact same (by simp [execOp, ho, hr]) e hv
  case index t x i =>
    split at h
    case h_2 => cases h
    rename_i td htd
    obtain ⟨e, v', hr, hv⟩ := evIdxVal_sound hT (hT _ _ htd) (hev x) (hev i) h hps
    exact same (by simp [execOp, ho, hr]) e hv
  case extract t i =>
    have hx := hev t
    generalize hy : ev t = y at h hx
    cases y <;> simp only [evExtract, reduceCtorEq] at h
    rename_i vs
    simp only [vrel] at hx
    obtain ⟨l, hx1, hl⟩ := hx
    split at h
    case h_2 => cases h
    rename_i u hu
    cases h
    obtain ⟨v', h1, h2⟩ := vrels_get hl _ _ hu
    have h1' : l[i]? = some v' := by simpa using h1
    exact same (v' := v') (by simp [execOp, ho, hx1, Instr.extract, h1']) rfl h2
  case makeMap t r =>
    cases r with
    | some _ => cases h
    | none =>
      cases h
      obtain ⟨w', E', hr, G, hv⟩ := makeMap_sound (P := P) hE m hm0 t
      exact step (by simp [execOp, ho, hr]) G hv
  case lookup t x k ok =>
    split at h
    case h_2 => cases h
    rename_i q hq
    obtain ⟨e, v', hr, hv⟩ := evLookup_sound hE hT hq (hev x) (hev k) h
    exact same (by simp [execOp, ho, hr]) e hv
  case mapEntry t x k =>
    split at h
    case h_2 => cases h
    rename_i q hq
    obtain ⟨v', w', E', hr, G, hv⟩ := evMapEntry_sound hE hT hq (hev x) (hev k) m h
    exact step (by simp [execOp, ho, hr]) G hv
  case call c =>
    split at h
    · -- len
      rename_i hc
      split at h
      case h_2 => cases h
      rename_i t x ht hx
      split at h
      case h_2 => cases h
      rename_i td htd
      obtain ⟨e, v', hr, hv⟩ := evLenG_sound hE (hT _ _ htd) (hev x) o.type h
      have e1 : c.argTypes = #[t] := by apply Array.ext'; exact ht
      have e2 : c.args = #[x] := by apply Array.ext'; exact hx
      exact same (v' := v') (by simp [execOp, ho, resolve, hc, invoke, builtin, e1, e2, hr]) e hv
    · rename_i hc
      split at h
      case h_2 => cases h
      rename_i x r hx
      obtain ⟨e, v', hr, hv⟩ := evFold_min (P := P) (hev x) (vrels_map _ _ hev r) h
      have e2 : c.args.toList.map a.eval = a.eval x :: r.map a.eval := by rw [hx]; rfl
      exact same (v' := v') (by simp [execOp, ho, resolve, hc, invoke, builtin, Builtin.min_, e2, hr]) e hv
    · rename_i hc
      split at h
      case h_2 => cases h
      rename_i x r hx
      obtain ⟨e, v', hr, hv⟩ := evFold_max (P := P) (hev x) (vrels_map _ _ hev r) h
      have e2 : c.args.toList.map a.eval = a.eval x :: r.map a.eval := by rw [hx]; rfl
      exact same (v' := v') (by simp [execOp, ho, resolve, hc, invoke, builtin, Builtin.max_, e2, hr]) e hv
    · rename_i hc
      split at h
      case h_2 => cases h
      rename_i t t2 s x ht hx
      split at h
      case h_2 => cases h
      rename_i td td2 htd htd2
      split at h
      case isFalse => cases h
      rename_i hel
      obtain ⟨n, hn'⟩ := Option.isSome_iff_exists.1 hel
      obtain ⟨eX, te, hkX, _⟩ := elSize_ok hT hn'
      obtain ⟨v', w', E', hr, G, hv⟩ := evAppendG_sound hE hT (hT _ _ htd) (hT _ _ htd2) hkX m hm0 (hev s) (hev x) o.type h hps
      have e1 : c.argTypes = #[t, t2] := by apply Array.ext'; exact ht
      have e2 : c.args = #[s, x] := by apply Array.ext'; exact hx
      exact step (v' := v') (w' := w') (by simp [execOp, ho, resolve, hc, invoke, builtin, e1, e2, hr]) G hv
    · rename_i f hc
      split at h
      case h_2 => cases h
      rename_i g caps hg
      split at h
      case h_2 => cases h
      rename_i ct hct
      exact evCall_sound hE hΓ hm hev ho hc hg hct h hps hn
    · cases h

/-- a store -/
theorem evSt_sound (hE : HRel B E) (hT : TblOK P tb) (hK : 1 ≤ K) (hev : ∀ x, vrel E (ev x) (a.eval x)) {o : Oper} {ps : List Ob} {dh : List (Nat × Blk)} (h : evSt tb E.H ev o.op = some (ps, dh)) {next : Act → World → Prop} {Q : Exit → Act → World → Prop}
    (hn : ∀ E', GoodK B E m K dh E'.w E' → next (a.put o.dst undef) E'.w) : o.wp P a E.w next Q := by
  have step : ∀ {w' E'}, (execOp a.eval o).run P E.w = .ok .skip w' → Good B E m dh w' E' → o.wp P a E.w next Q := fun hrun G => by
    unfold Oper.wp
    rw [hrun]
    simp only [Oper.upon]
    have := hn _ (by rw [G.w]; exact G.toK hK)
    rw [G.w] at this
    exact this
  cases ho : o.op <;> rw [ho] at h <;> simp only [evSt, reduceCtorEq] at h
  case store t x y =>
    split at h
    case h_2 => cases h
    rename_i td htd
    split at h
    case h_2 => cases h
    rename_i ps' dh' hs
    cases h
    obtain ⟨w', E', hr, G⟩ := evStoreG_sound hE (hT _ _ htd) (hev x) (hev y) m hs
    exact step (by simp [execOp, ho, hr]) G
  case mapUpdate t x k v =>
    split at h
    case h_2 => cases h
    rename_i q hq
    obtain ⟨w', E', hr, G⟩ := evMapPut_sound hE hT hq (hev x) (hev k) (hev v) m h
    exact step (by simp [execOp, ho, hr]) G
  case entryStore t x s v =>
    obtain ⟨w', E', hr, G⟩ := evEntryStore_sound (P := P) hE t (hev x) (hev s) (hev v) m h
    exact step (by simp [execOp, ho, hr]) G

end Go.Mir

/- The mirror, part 14: the frame rule. -/
namespace Go.Mir
open Go.RowKit

variable {P : Program}

def hsE : List (V × V) → List Nat
  | [] => []
  | (k, v) :: r => k.hs ++ v.hs ++ hsE r

def Blk.hs : Blk → List Nat
  | .cells cs => hss cs
  | .grow _ _ cs => hss cs
  | .mp es => hsE es
  | .row _ _ _ _ => []

def restr (H : Heap) (R : List Nat) : Heap := fun h => bif memN R h then H h else none

mutual
/-- what a value needs of an environment -/
theorem vrel_same {E E' : Env} (hU : ∀ n, E.U n → E'.U n) (hS : ∀ b, E.S b → E'.S b) (hw : E'.w = E.w) (D : Nat → Prop) (hD : ∀ h, D h → E'.H h = E.H h ∧ E'.ρ h = E.ρ h) : ∀ (x : V) (v : Value), (∀ h ∈ x.hs, D h) → vrel E x v → vrel E' x v
  | .any, _, _, _ => by simp [vrel]
  | .int _ _, _, _, h => by simpa [vrel] using h
  | .bool _, _, _, h => by simpa [vrel] using h
  | .kb _, _, _, h => by simpa [vrel] using h
  | .str _, _, _, h => by simpa [vrel] using h
  | .nilptr, _, _, h => by simpa [vrel] using h
  | .ptr hh off, v, hd, h => by
    simp only [vrel] at h ⊢
    obtain ⟨e1, e2⟩ := hD hh (hd hh (by simp [V.hs]))
    rw [e1, e2]
    exact ⟨hU _ h.1, h.2⟩
  | .fp t xs i off, v, _, h => by
    simp only [vrel] at h ⊢
    obtain ⟨b, o, c, T, fr, h1, h2, h3, h4, h5, h6, h7⟩ := h
    exact ⟨b, o, c, T, fr, hS _ h1, by rw [hw]; exact h2, h3, fun j hj => (h4 j hj).ext hS (fun _ _ => by rw [hw]), h5, h6, h7⟩
  | .rp hh ver i off, v, hd, h => by
    simp only [vrel] at h ⊢
    obtain ⟨e1, e2⟩ := hD hh (hd hh (by simp [V.hs]))
    rw [e1, e2]
    exact ⟨hU _ h.1, hU _ h.2.1, h.2.2⟩
  | .nilsl, _, _, h => by simpa [vrel] using h
  | .esl, _, _, h => by simpa [vrel] using h
  | .osl hh ver, v, hd, h => by
    simp only [vrel] at h ⊢
    obtain ⟨e1, e2⟩ := hD hh (hd hh (by simp [V.hs]))
    rw [e1, e2, hw]
    exact ⟨hU _ h.1, hU _ h.2.1, h.2.2⟩
  | .fsl t xs, v, _, h => by
    simp only [vrel] at h ⊢
    exact h.ext hS (fun _ _ => by rw [hw])
  | .gsl hh ver esz off len, v, hd, h => by
    simp only [vrel] at h ⊢
    obtain ⟨e1, e2⟩ := hD hh (hd hh (by simp [V.hs]))
    rw [e1, e2, hw]
    exact ⟨hU _ h.1, hU _ h.2.1, h.2.2⟩
  | .gp hh ver off, v, hd, h => by
    simp only [vrel] at h ⊢
    obtain ⟨e1, e2⟩ := hD hh (hd hh (by simp [V.hs]))
    rw [e1, e2]
    exact ⟨hU _ h.1, hU _ h.2.1, h.2.2⟩
  | .mpv hh, v, hd, h => by
    simp only [vrel] at h ⊢
    obtain ⟨e1, e2⟩ := hD hh (hd hh (by simp [V.hs]))
    rw [e1, e2]
    exact ⟨hU _ h.1, h.2⟩
  | .nilfn, _, _, h => by simpa [vrel] using h
  | .nilmap, _, _, h => by simpa [vrel] using h
  | .hint _ _, _, _, h => by simpa [vrel] using h
  | .fn f caps, v, hd, h => by
    simp only [vrel] at h ⊢
    obtain ⟨l, h1, h2⟩ := h
    exact ⟨l, h1, vrels_same hU hS hw D hD _ _ (fun h hh => hd h (by simpa [V.hs] using hh)) h2⟩
  | .agg cs, v, hd, h => by
    simp only [vrel] at h ⊢
    obtain ⟨l, h1, h2⟩ := h
    exact ⟨l, h1, vrels_same hU hS hw D hD _ _ (fun h hh => hd h (by simpa [V.hs] using hh)) h2⟩
  | .tup cs, v, hd, h => by
    simp only [vrel] at h ⊢
    obtain ⟨l, h1, h2⟩ := h
    exact ⟨l, h1, vrels_same hU hS hw D hD _ _ (fun h hh => hd h (by simpa [V.hs] using hh)) h2⟩
theorem vrels_same {E E' : Env} (hU : ∀ n, E.U n → E'.U n) (hS : ∀ b, E.S b → E'.S b) (hw : E'.w = E.w) (D : Nat → Prop) (hD : ∀ h, D h → E'.H h = E.H h ∧ E'.ρ h = E.ρ h) : ∀ (xs : List V) (vs : List Value), (∀ h ∈ hss xs, D h) → vrels E xs vs → vrels E' xs vs
  | [], [], _, _ => by simp [vrels]
  | _ :: _, [], _, h => by simp [vrels] at h
  | [], _ :: _, _, h => by simp [vrels] at h
  | x :: xs, v :: vs, hd, h => by
    simp only [vrels] at h ⊢
    exact ⟨vrel_same hU hS hw D hD x v (fun h hh => hd h (by simp [hss, hh])) h.1, vrels_same hU hS hw D hD xs vs (fun h hh => hd h (by simp [hss, hh])) h.2⟩
end

theorem erels_same {E E' : Env} (hU : ∀ n, E.U n → E'.U n) (hS : ∀ b, E.S b → E'.S b) (hw : E'.w = E.w) (D : Nat → Prop) (hD : ∀ h, D h → E'.H h = E.H h ∧ E'.ρ h = E.ρ h) : ∀ (i : Nat) (xs : List (V × V)) (es : List MapEntry), (∀ h ∈ hsE xs, D h) → erels E i xs es → erels E' i xs es
  | _, [], [], _, _ => trivial
  | _, _ :: _, [], _, h => by simp [erels] at h
  | _, [], _ :: _, _, h => by simp [erels] at h
  | i, (k, v) :: xs, e :: es, hd, h => ⟨⟨vrel_same hU hS hw D hD _ _ (fun h hh => hd h (by simp [hsE, hh])) h.1.1, vrel_same hU hS hw D hD _ _ (fun h hh => hd h (by simp [hsE, hh])) h.1.2.1, h.1.2.2⟩,
    erels_same hU hS hw D hD (i + 1) xs es (fun h hh => hd h (by simp [hsE, hh])) h.2⟩

theorem brel_same {E E' : Env} (hU : ∀ n, E.U n → E'.U n) (hS : ∀ b, E.S b → E'.S b) (hS' : ∀ b, E'.S b → E.S b) (hw : E'.w = E.w) (D : Nat → Prop) (hD : ∀ h, D h → E'.H h = E.H h ∧ E'.ρ h = E.ρ h) {h : Nat} (hh : D h) {k : Blk} (hk : ∀ x ∈ k.hs, D x) (hb : brel E h k) : brel E' h k := by
  obtain ⟨_, e2⟩ := hD h hh
  cases k with
  | cells cs =>
    obtain ⟨b, c, T, fr, h1, h2, h3, h4, h5⟩ := hb
    exact ⟨b, c, T, fr, by rw [e2]; exact h1, by rw [hw]; exact h2, h3, fun hs => h4 (hS' _ hs), vrels_same hU hS hw D hD _ _ hk h5⟩
  | row ver rw t xs =>
    obtain ⟨hu, hb⟩ := hb
    refine ⟨hU _ hu, ?_⟩
    rcases hb with ⟨h1, h2⟩ | ⟨b, c, T, fr, h1, h2, h3, h4, h5, h6, h7, h8⟩
    · exact .inl ⟨by rw [e2]; exact h1, h2⟩
    · exact .inr ⟨b, c, T, fr, by rw [e2]; exact h1, by rw [hw]; exact h2, h3, fun e hs => h4 e (hS' _ hs), fun e => hS _ (h5 e), h6, h7, fun i hi => (h8 i hi).ext hS (fun _ _ => by rw [hw])⟩
  | grow ver esz cs =>
    obtain ⟨hu, b, c, T, fr, h1, h2, h3, h4, h5⟩ := hb
    exact ⟨hU _ hu, b, c, T, fr, by rw [e2]; exact h1, by rw [hw]; exact h2, h3, fun hs => h4 (hS' _ hs), vrels_same hU hS hw D hD _ _ hk h5⟩
  | mp es =>
    obtain ⟨b, l, k, h1, h2, h3, h4, h5⟩ := hb
    exact ⟨b, l, k, by rw [e2]; exact h1, by rw [hw]; exact h2, fun hs => h3 (hS' _ hs), erels_same hU hS hw D hD _ _ _ hk h4, h5⟩

/-- the blocks that a part of the heap holds -/
def foot (E : Env) (R : List Nat) : Nat → Prop := fun b => ∃ h, h ∈ R ∧ (∃ k, E.H h = some k) ∧ E.ρ h = some b

def subB (E : Env) (R : List Nat) : Base := base3 E.w (foot E R) E.S

theorem HRel.restr {B : Base} {E : Env} (hE : HRel B E) (R : List Nat) : HRel (subB E R) { E with H := Mir.restr E.H R } := by
  have get : ∀ h k, Mir.restr E.H R h = some k → h ∈ R ∧ E.H h = some k := fun h k hh => by
    unfold Mir.restr at hh
    cases hm : memN R h with
    | false => rw [hm] at hh; cases hh
    | true => rw [hm] at hh; exact ⟨memN_iff.1 hm, hh⟩
  have X : Ext E { E with H := Mir.restr E.H R } := by
    refine ⟨fun _ h => h, fun _ h => h, fun _ _ => rfl, fun h cs _ hx => ⟨⟨cs, (get _ _ hx).2⟩, rfl⟩, fun h ver rw t xs _ _ hx => ⟨rw, xs, (get _ _ hx).2, rfl, rfl, fun b c T fr _ hw => ⟨c, T, fr, hw, rfl⟩⟩, fun h ver esz cs _ _ hx => ⟨cs, (get _ _ hx).2, rfl, rfl, fun b c T fr _ hw => ⟨c, T, fr, hw, rfl⟩⟩, fun h es _ hx => ⟨⟨es, (get _ _ hx).2⟩, rfl⟩⟩
  refine ⟨fun h b hx => hE.used _ _ (get _ _ hx).2, hE.stab, fun h k b hx hb => hE.lt _ _ _ (get _ _ hx).2 hb, fun h h' k k' b h1 h2 b1 b2 => hE.inj _ _ _ _ _ (get _ _ h1).2 (get _ _ h2).2 b1 b2,
    fun h k hx => brel_ext X rfl (fun _ _ => rfl) (fun _ _ _ h => h) (hE.blk _ _ (get _ _ hx).2), Keeps.refl _ _, fun h k b hx hb => .inl ⟨h, (get _ _ hx).1, ⟨_, (get _ _ hx).2⟩, hb⟩, fun _ h => h, fun _ h => .inl h⟩

/-- THE FRAME RULE: what is done with a part of the heap is done with the whole. -/
theorem frame {B : Base} {E : Env} (hE : HRel B E) {R : List Nat} {m K : Nat} (hm : ∀ n, m ≤ n → n < m + K → ¬ E.U n) {dh : List (Nat × Blk)} {w' : World} {Es : Env} (G : GoodK (subB E R) { E with H := restr E.H R } m K dh w' Es)
    (_ : ∀ h ∈ R, ∃ k, E.H h = some k) (hc : ∀ h ∈ R, ∀ k, E.H h = some k → ∀ x ∈ k.hs, x ∈ R ∨ (m ≤ x ∧ x < m + K))
    (hk : ∀ h k, find dh h = some k → (h ∈ R ∨ (m ≤ h ∧ h < m + K)) ∧ ∀ x ∈ k.hs, x ∈ R ∨ (m ≤ x ∧ x < m + K)) :
    ∃ E', GoodK B E m K dh w' E' ∧ ∀ (v : V) (u : Value), (∀ x ∈ v.hs, x ∈ R ∨ (m ≤ x ∧ x < m + K)) → vrel Es v u → vrel E' v u := by
  classical
  let D : Nat → Prop := fun h => h ∈ R ∨ (m ≤ h ∧ h < m + K)
  let E' : Env := ⟨Es.U, fun h => if D h then Es.ρ h else E.ρ h, Es.S, Es.w, hset E.H dh⟩
  have hEs := G.rel
  have Xs := G.ext
  have hH : ∀ h, D h → E'.H h = Es.H h := fun h hd => by
    show hset E.H dh h = Es.H h
    rw [G.h]
    unfold hset
    cases hf : find dh h with
    | some k => rfl
    | none =>
      simp only
      unfold Mir.restr
      cases hm' : memN R h with
      | true => rfl
      | false =>
        rcases hd with hd | hd
        · rw [memN_iff.2 hd] at hm'; cases hm'
        · cases hx : E.H h with
          | none => rfl
          | some k => exact absurd (hE.used _ _ hx) (hm h hd.1 hd.2)
  have hρ : ∀ h, D h → E'.ρ h = Es.ρ h := fun h hd => if_pos hd
  have hHn : ∀ h, ¬ D h → E'.H h = E.H h := fun h hd => by
    show hset E.H dh h = E.H h
    unfold hset
    cases hf : find dh h with
    | some k => exact absurd (hk h k hf).1 hd
    | none => rfl
  have hρn : ∀ h, ¬ D h → E'.ρ h = E.ρ h := fun h hd => if_neg hd
  have notF : ∀ h k b, ¬ D h → E.H h = some k → E.ρ h = some b → ¬ foot E R b := fun h k b hd hx hb hf => by
    obtain ⟨h2, g1, ⟨k2, g2⟩, g3⟩ := hf
    have := hE.inj _ _ _ _ _ hx g2 hb g3
    subst this
    exact hd (.inl g1)
  have keep : ∀ h k b, ¬ D h → E.H h = some k → E.ρ h = some b → Es.w.heap[b]? = E.w.heap[b]? := fun h k b hd hx hb =>
    hEs.keeps.block b (hE.lt _ _ _ hx hb) (notF h k b hd hx hb)
  have X : Ext E E' := by
    refine ⟨Xs.u, Xs.s, Xs.keepS, fun h cs' hu hx => ?_, fun h ver rw' t' xs' hu hv hx => ?_, fun h ver esz cs' hu hv hx => ?_, fun h es' hu hx => ?_⟩
    · by_cases hd : D h
      · rw [hH h hd] at hx
        obtain ⟨⟨cs, h1⟩, h2⟩ := Xs.hc h cs' hu hx
        refine ⟨⟨cs, ?_⟩, by rw [hρ h hd]; exact h2⟩
        have h1' : Mir.restr E.H R h = some (.cells cs) := h1
        unfold Mir.restr at h1'
        cases hm' : memN R h with
        | false => rw [hm'] at h1'; cases h1'
        | true => rw [hm'] at h1'; exact h1'
      · rw [hHn h hd] at hx
        exact ⟨⟨cs', hx⟩, hρn h hd⟩
    · by_cases hd : D h
      · rw [hH h hd] at hx
        obtain ⟨rw, xs, h1, h2, h3, h4⟩ := Xs.hr h ver rw' t' xs' hu hv hx
        refine ⟨rw, xs, ?_, h2, by rw [hρ h hd]; exact h3, h4⟩
        have h1' : Mir.restr E.H R h = some (.row ver rw t' xs) := h1
        unfold Mir.restr at h1'
        cases hm' : memN R h with
        | false => rw [hm'] at h1'; cases h1'
        | true => rw [hm'] at h1'; exact h1'
      · rw [hHn h hd] at hx
        exact ⟨rw', xs', hx, rfl, hρn h hd, fun b c T fr hb hw => ⟨c, T, fr, by rw [show E'.w = Es.w from rfl, keep h _ b hd hx hb]; exact hw, rfl⟩⟩
    · by_cases hd : D h
      · rw [hH h hd] at hx
        obtain ⟨xs, h1, h2, h3, h4⟩ := Xs.hg h ver esz cs' hu hv hx
        refine ⟨xs, ?_, h2, by rw [hρ h hd]; exact h3, h4⟩
        have h1' : Mir.restr E.H R h = some (.grow ver esz xs) := h1
        unfold Mir.restr at h1'
        cases hm' : memN R h with
        | false => rw [hm'] at h1'; cases h1'
        | true => rw [hm'] at h1'; exact h1'
      · rw [hHn h hd] at hx
        exact ⟨cs', hx, rfl, hρn h hd, fun b c T fr hb hw => ⟨c, T, fr, by rw [show E'.w = Es.w from rfl, keep h _ b hd hx hb]; exact hw, rfl⟩⟩
    · by_cases hd : D h
      · rw [hH h hd] at hx
        obtain ⟨⟨es, h1⟩, h2⟩ := Xs.hm h es' hu hx
        refine ⟨⟨es, ?_⟩, by rw [hρ h hd]; exact h2⟩
        have h1' : Mir.restr E.H R h = some (.mp es) := h1
        unfold Mir.restr at h1'
        cases hm' : memN R h with
        | false => rw [hm'] at h1'; cases h1'
        | true => rw [hm'] at h1'; exact h1'
      · rw [hHn h hd] at hx
        exact ⟨⟨es', hx⟩, hρn h hd⟩
  have trans : ∀ (v : V) (u : Value), (∀ x ∈ v.hs, D x) → vrel Es v u → vrel E' v u := fun v u hd hv =>
    vrel_same (E := Es) (E' := E') (fun _ h => h) (fun _ h => h) rfl D (fun h hd => ⟨hH h hd, hρ h hd⟩) v u hd hv
  have hw0 : E.w.heap.size ≤ Es.w.heap.size := hEs.keeps.size
  have hB0 : B.w0.heap.size ≤ E.w.heap.size := hE.keeps.size
  have hfoot : ∀ b, foot E R b → B.F b ∨ B.w0.heap.size ≤ b := fun b ⟨h2, _, ⟨k2, g2⟩, g3⟩ => hE.own _ _ _ g2 g3
  have R' : HRel B E' := by
    refine ⟨fun h b hx => ?_, hEs.stab, fun h k b hx hb => ?_, fun h h' k k' b h1 h2 b1 b2 => ?_, fun h k hx => ?_, ?_, fun h k b hx hb => ?_, fun b hs => Xs.s _ (hE.s0 b hs), fun b hs => ?_⟩
    · by_cases hd : D h
      · rw [hH h hd] at hx; exact hEs.used _ _ hx
      · rw [hHn h hd] at hx; exact Xs.u _ (hE.used _ _ hx)
    · by_cases hd : D h
      · rw [hH h hd] at hx; rw [hρ h hd] at hb; exact hEs.lt _ _ _ hx hb
      · rw [hHn h hd] at hx; rw [hρn h hd] at hb; exact Nat.lt_of_lt_of_le (hE.lt _ _ _ hx hb) hw0
    · have mix : ∀ h h' k k', D h → ¬ D h' → E'.H h = some k → E'.H h' = some k' → E'.ρ h = some b → E'.ρ h' = some b → False := fun h h' k k' hd hd' h1 h2 b1 b2 => by
        rw [hH h hd] at h1; rw [hρ h hd] at b1; rw [hHn h' hd'] at h2; rw [hρn h' hd'] at b2
        rcases hEs.own _ _ _ h1 b1 with h3 | h3
        · exact notF _ _ _ hd' h2 b2 h3
        · have h4 := hE.lt _ _ _ h2 b2
          have h5 : E.w.heap.size ≤ b := h3
          omega
      by_cases hd : D h <;> by_cases hd' : D h'
      · rw [hH h hd] at h1; rw [hρ h hd] at b1; rw [hH h' hd'] at h2; rw [hρ h' hd'] at b2
        exact hEs.inj _ _ _ _ _ h1 h2 b1 b2
      · exact (mix h h' k k' hd hd' h1 h2 b1 b2).elim
      · exact (mix h' h k' k hd' hd h2 h1 b2 b1).elim
      · rw [hHn h hd] at h1; rw [hρn h hd] at b1; rw [hHn h' hd'] at h2; rw [hρn h' hd'] at b2
        exact hE.inj _ _ _ _ _ h1 h2 b1 b2
    · by_cases hd : D h
      · have hx' := hx
        rw [hH h hd] at hx'
        refine brel_same (E := Es) (E' := E') (fun _ h => h) (fun _ h => h) (fun _ h => h) rfl D (fun h hd => ⟨hH h hd, hρ h hd⟩) hd ?_ (hEs.blk _ _ hx')
        have hx2 : hset E.H dh h = some k := hx
        unfold hset at hx2
        cases hf : find dh h with
        | some k2 => rw [hf] at hx2; simp only [Option.some.injEq] at hx2; subst hx2; exact (hk h _ hf).2
        | none =>
          rw [hf] at hx2
          rcases hd with hd | hd
          · exact hc h hd k hx2
          · exact absurd (hE.used _ _ hx2) (hm h hd.1 hd.2)
      · have hx' := hx
        rw [hHn h hd] at hx'
        refine brel_ext X (hρn h hd) (fun b hb => keep h k b hd hx' hb) (fun b hb _ hs hs' => ?_) (hE.blk _ _ hx')
        rcases hEs.sb b hs' with h1 | h1 | h1
        · exact hs h1
        · exact notF h k b hd hx' hb h1
        · have h4 := hE.lt _ _ _ hx' hb
          have h5 : E.w.heap.size ≤ b := h1
          omega
    · exact hE.keeps.trans hEs.keeps hfoot
    · by_cases hd : D h
      · rw [hH h hd] at hx; rw [hρ h hd] at hb
        rcases hEs.own _ _ _ hx hb with h3 | h3
        · exact hfoot b h3
        · exact .inr (Nat.le_trans hB0 h3)
      · rw [hHn h hd] at hx; rw [hρn h hd] at hb; exact hE.own _ _ _ hx hb
    · rcases hEs.sb b hs with h1 | h1 | h1
      · exact hE.sb b h1
      · exact .inr (hfoot b h1)
      · exact .inr (.inr (Nat.le_trans hB0 h1))
  exact ⟨E', ⟨R', X, G.w, rfl, G.u⟩, trans⟩

end Go.Mir

/- The mirror, part 15: states, and the operations of a region one after the other: definitions. -/
namespace Go.Mir
open Go.RowKit

structure Cfg where
  tb : Tbl
  Γ : FuncId → Option Ctr
  K : Nat
  N : Nat

structure Dl where
  tm : List (Nat × V)
  hp : List (Nat × Blk)

structure St where
  tm : List (Nat × V)
  hp : List (Nat × Blk)
  H0 : Heap
  nx : Nat

def St.H (s : St) : Heap := hset s.H0 s.hp
def St.app (s : St) (d : Dl) (nx : Nat) : St := ⟨d.tm ++ s.tm, d.hp ++ s.hp, s.H0, nx⟩

def lookV (tm : List (Nat × V)) (i : Nat) : V := match find tm i with | some v => v | none => .any

def opnd (tm : List (Nat × V)) : Operand → V
  | .tmp t => lookV tm t
  | .const v => cv v
  | .func f => .fn f []
  | .global _ => .any

/-- the operands that an operation may look at; all others are hidden -/
def maskEv (rs : List Nat) (tm : List (Nat × V)) : Operand → V
  | .tmp t => bif memN rs t then lookV tm t else .any
  | .const v => cv v
  | .func f => .fn f []
  | .global _ => .any

inductive Lf where
  | nrm | ext (id : Nat) | ret

inductive Tr where
  | leaf (e : Lf) (d : Dl) (nx : Nat)
  | br (b : Bool) (t e : Tr)
  | need (p : Prop) (t : Tr)
  | both (t u : Tr)
  | when (b : Bool) (t : Tr)
  | done
  | bad

def Tr.sat (Q : Lf → Dl → Nat → Prop) : Tr → Prop
  | .leaf e d nx => Q e d nx
  | .br b t e => (b = true → t.sat Q) ∧ (b = false → e.sat Q)
  | .need p t => p ∧ t.sat Q
  | .both t u => t.sat Q ∧ u.sat Q
  | .when b t => b = true → t.sat Q
  | .done => True
  | .bad => False

def needs : List Ob → Tr → Tr
  | [], t => t
  | p :: ps, t => .need p.holds (needs ps t)

theorem needs_sat {Q : Lf → Dl → Nat → Prop} {t : Tr} : ∀ {ps : List Ob}, (needs ps t).sat Q → (∀ p ∈ ps, p.holds) ∧ t.sat Q
  | [], h => ⟨fun p hp => by simp at hp, h⟩
  | p :: ps, h => by
    simp only [needs, Tr.sat] at h
    obtain ⟨h1, h2⟩ := needs_sat h.2
    exact ⟨fun q hq => by rcases List.mem_cons.1 hq with rfl | hq; exact h.1; exact h1 q hq, h2⟩

def dstPut : Option Nat → V → List (Nat × V)
  | some d, v => [(d, v)]
  | none, _ => []

def dstIn (N : Nat) : Option Nat → Bool
  | some d => Nat.blt d N
  | none => true

/-- the slots that an operation reads, its guard's among them -/
def slotsOf (all : List Oper) (o : Oper) : List Nat :=
  (o.op.operands.toList.filterMap fun | .tmp t => some t | _ => none) ++
    (match o.guard with | some (j, _) => (match all[j]? with | some oj => oj.dst.toList | none => []) | none => [])

/-- is the operation carried out -/
def guardOf (all : List Oper) (tm : List (Nat × V)) (o : Oper) : Option Bool :=
  match o.guard with
  | none => some true
  | some (j, want) => match all[j]? with
    | some oj => match oj.dst with
      | some dj => match lookV tm dj with
        | .kb b => some (b == want)
        | .tup [] => some false
        | _ => none
      | none => none
    | none => none

def isGuard (all : List Oper) (i : Nat) : Bool := all.any fun o => match o.guard with | some (j, _) => Nat.beq j i | none => false

/-- handles that can be reached, by n steps -/
def reach (H : Heap) : Nat → List Nat → List Nat → List Nat
  | 0, _, acc => acc
  | n + 1, new, acc =>
    let add := new.filter fun h => !memN acc h
    let nxt := add.flatMap fun h => match H h with | some b => b.hs | none => []
    match add with
    | [] => acc
    | _ => reach H n nxt (add ++ acc)

def hsOK (R : List Nat) (m K : Nat) (l : List Nat) : Bool := l.all fun h => memN R h || (Nat.ble m h && Nat.blt h (m + K))

def frameOK (H : Heap) (R : List Nat) (m K : Nat) (v : V) (dh : List (Nat × Blk)) : Bool :=
  (R.all fun h => match H h with | some b => hsOK R m K b.hs | none => false) && (dh.all fun q => hsOK R m K [q.1] && hsOK R m K q.2.hs) && hsOK R m K v.hs

/-- one operation, on a heap -/
def evAny (C : Cfg) (m : Nat) (H : Heap) (ev : Operand → V) (o : Op) : Option (List Ob × V × List (Nat × Blk)) :=
  match evSt C.tb H ev o with
  | some (ps, dh) => some (ps, .tup [], dh)
  | none => match evOp C.tb C.Γ m H ev o with
    | .val ps v dh => some (ps, v, dh)
    | _ => none

structure Rec where
  dst : Option Nat
  v : V
  dh : List (Nat × Blk)
  R : List Nat
  rs : List Nat

/-- one operation, in a region that draws its order or not: with the handles that it may touch -/
def stepOp (C : Cfg) (dr : Bool) (rs : List Nat) (tm : List (Nat × V)) (H : Heap) (m : Nat) (o : Oper) : Option (List Ob × V × List (Nat × Blk) × List Nat) :=
  match dr with
  | false => match evAny C m H (opnd tm) o.op with
    | some (ps, v, dh) => some (ps, v, dh, [])
    | none => none
  | true =>
    let ev := maskEv rs tm
    let R := reach H 8 (o.op.operands.toList.flatMap fun x => (ev x).hs) []
    match evAny C m (restr H R) ev o.op with
    | some (ps, v, dh) => bif frameOK H R m C.K v dh then some (ps, v, dh, R) else none
    | none => none

def mask1 (acc : List Nat) : List Edge → Nat
  | [] => 0
  | e :: es => if Region.binds .any e then (mask1 acc es ||| 2 ^ e.on) ||| (acc[e.on]?).getD 0 else mask1 acc es

def masks : List Oper → List Nat → List Nat
  | [], acc => acc
  | o :: os, acc => masks os (acc ++ [mask1 acc o.after.toList])

def edgesOK : Nat → List Oper → Bool
  | _, [] => true
  | i, o :: os => (o.after.toList.all fun e => !Region.binds .any e || Nat.blt e.on i) && edgesOK (i + 1) os

def disj (l r : List Nat) : Bool := l.all fun x => !memN r x

def comm (r s : Rec) : Bool :=
  disj r.dst.toList s.dst.toList && disj r.dst.toList s.rs && disj s.dst.toList r.rs &&
    (disj (r.dh.map (·.1)) (s.dh.map (·.1)) && disj (r.dh.map (·.1)) s.R && disj (s.dh.map (·.1)) r.R)

def pairOK (ms : List Nat) (i : Nat) (r : Rec) : Nat → List Rec → Bool
  | _, [] => true
  | j, s :: ss => (((ms[j]?).getD 0).testBit i || comm r s) && pairOK ms i r (j + 1) ss

def chkAll (ms : List Nat) : Nat → List Rec → Bool
  | _, [] => true
  | i, r :: rs => pairOK ms i r (i + 1) rs && chkAll ms (i + 1) rs

/-- a Bool on which guards hang parts the ways -/
def splitG (g : Bool) (v : V) (k : V → Tr) : Tr :=
  match g, v with
  | true, .bool b => .br b (k (.kb true)) (k (.kb false))
  | _, v => k v

theorem splitG_sat {Q : Lf → Dl → Nat → Prop} {g : Bool} {v : V} {k : V → Tr} (h : (splitG g v k).sat Q) : ∃ v', (v' = v ∨ ∃ b, v = .bool b ∧ v' = .kb b) ∧ (k v').sat Q := by
  unfold splitG at h
  split at h
  · simp only [Tr.sat] at h
    rename_i b
    cases b with
    | true => exact ⟨_, .inr ⟨true, rfl, rfl⟩, h.1 rfl⟩
    | false => exact ⟨_, .inr ⟨false, rfl, rfl⟩, h.2 rfl⟩
  · exact ⟨_, .inl rfl, h⟩

def evOps (C : Cfg) (dr : Bool) (all : List Oper) (st : St) : Nat → List Oper → Dl → List Rec → Tr
  | _, [], d, recs => if dr = false ∨ (edgesOK 0 all = true ∧ chkAll (masks all []) 0 recs = true) then .leaf .nrm d (st.nx + all.length * C.K) else .bad
  | i, o :: rest, d, recs =>
    let tm := d.tm ++ st.tm
    let rs := slotsOf all o
    bif dstIn C.N o.dst then
      match guardOf all tm o with
      | some false => evOps C dr all st (i + 1) rest ⟨dstPut o.dst (.tup []) ++ d.tm, d.hp⟩ (recs ++ [⟨o.dst, .tup [], [], [], rs⟩])
      | some true => match stepOp C dr rs tm (hset st.H d.hp) (st.nx + i * C.K) o with
        | some (ps, v, dh, R) => needs ps (splitG (isGuard all i) v fun v => evOps C dr all st (i + 1) rest ⟨dstPut o.dst v ++ d.tm, dh ++ d.hp⟩ (recs ++ [⟨o.dst, v, dh, R, rs⟩]))
        | none => .bad
      | none => .bad
    else .bad

/-! ## a run in the text's order -/

/-- an operation's record: what it does in the state before it -/
inductive Does (C : Cfg) (dr : Bool) (all : List Oper) (tm : List (Nat × V)) (H : Heap) (m : Nat) (o : Oper) : Rec → Prop
  | skip : dstIn C.N o.dst = true → guardOf all tm o = some false → Does C dr all tm H m o ⟨o.dst, .tup [], [], [], slotsOf all o⟩
  | run {ps : List Ob} {v v' : V} {dh : List (Nat × Blk)} {R : List Nat} : dstIn C.N o.dst = true → guardOf all tm o = some true → stepOp C dr (slotsOf all o) tm H m o = some (ps, v, dh, R) → (∀ p ∈ ps, p.holds) →
      (v' = v ∨ ∃ b, v = .bool b ∧ v' = .kb b) → Does C dr all tm H m o ⟨o.dst, v', dh, R, slotsOf all o⟩

inductive Run (C : Cfg) (dr : Bool) (all : List Oper) (st : St) : Nat → List Oper → Dl → List Rec → Dl → List Rec → Prop
  | nil {i : Nat} {d : Dl} {recs : List Rec} : Run C dr all st i [] d recs d recs
  | cons {i : Nat} {o : Oper} {rest : List Oper} {d : Dl} {recs : List Rec} {r : Rec} {df : Dl} {rf : List Rec} : Does C dr all (d.tm ++ st.tm) (hset st.H d.hp) (st.nx + i * C.K) o r →
      Run C dr all st (i + 1) rest ⟨dstPut r.dst r.v ++ d.tm, r.dh ++ d.hp⟩ (recs ++ [r]) df rf → Run C dr all st i (o :: rest) d recs df rf

theorem run_of_sat {C : Cfg} {dr : Bool} {all : List Oper} {st : St} {Q : Lf → Dl → Nat → Prop} : ∀ (rest : List Oper) (i : Nat) (d : Dl) (recs : List Rec), (evOps C dr all st i rest d recs).sat Q →
    ∃ df rf, Run C dr all st i rest d recs df rf ∧ (dr = false ∨ (edgesOK 0 all = true ∧ chkAll (masks all []) 0 rf = true)) ∧ Q .nrm df (st.nx + all.length * C.K)
  | [], i, d, recs, h => by
    unfold evOps at h
    split at h
    · rename_i hc
      exact ⟨d, recs, .nil, hc, h⟩
    · exact h.elim
  | o :: rest, i, d, recs, h => by
    unfold evOps at h
    dsimp only at h
    cases hd : dstIn C.N o.dst with
    | false => rw [hd] at h; exact h.elim
    | true =>
      rw [hd] at h
      simp only [cond_true] at h
      split at h
      · rename_i hg
        obtain ⟨df, rf, h1, h2⟩ := run_of_sat rest _ _ _ h
        exact ⟨df, rf, .cons (.skip hd hg) h1, h2⟩
      · rename_i hg
        split at h
        case h_2 => exact h.elim
        rename_i ps v dh R hs
        obtain ⟨hps, h⟩ := needs_sat h
        obtain ⟨v', hv, h⟩ := splitG_sat h
        obtain ⟨df, rf, h1, h2⟩ := run_of_sat rest _ _ _ h
        exact ⟨df, rf, .cons (.run hd hg hs hps hv) h1, h2⟩
      · exact h.elim

end Go.Mir

/- The mirror, part 16: a region whose order is the text's. -/
namespace Go.Mir
open Go.RowKit

variable {P : Program}

structure SRel (B : Base) (N : Nat) (T : Nat → Option V) (H : Heap) (U : Nat → Prop) (a : Act) (w : World) : Prop where
  ex : ∃ E, HRel B E ∧ E.w = w ∧ E.H = H ∧ (B.G E ∧ ∀ n, E.U n → U n) ∧ ∀ s v, T s = some v → vrel E v (a.tmps.getD s undef)
  size : a.tmps.size = N
  defers : a.defers = []

theorem find_append {α : Type} (l r : List (Nat × α)) (i : Nat) : find (l ++ r) i = match find l i with | some v => some v | none => find r i := by
  induction l with
  | nil => rfl
  | cons x l ih =>
    obtain ⟨k, v⟩ := x
    simp only [List.cons_append, find]
    cases Nat.beq k i with
    | true => rfl
    | false => simpa using ih

theorem hset_append (H : Heap) (l r : List (Nat × Blk)) : hset H (l ++ r) = hset (hset H r) l := by
  funext h
  simp only [hset, find_append]
  cases find l h <;> rfl

theorem cv_sound {E : Env} (v : Value) : vrel E (cv v) v := by
  unfold cv
  split
  · split
    · rename_i h; exact vint h
    · simp [vrel]
  · exact vkb _
  · split
    · rename_i h; exact vstr h
    · simp [vrel]
  · simp [vrel]
  · simp [vrel]
  · simp [vrel]
  · simp [vrel]
  · simp [vrel]

def tmOK (E : Env) (T : Nat → Option V) (a : Act) : Prop := ∀ s v, T s = some v → vrel E v (a.tmps.getD s undef)

theorem lookV_sound {E : Env} {tm : List (Nat × V)} {a : Act} (h : tmOK E (find tm) a) (s : Nat) : vrel E (lookV tm s) (a.tmps.getD s undef) := by
  unfold lookV
  cases hf : find tm s with
  | some v => exact h s v hf
  | none => simp [vrel]

theorem opnd_sound {E : Env} {tm : List (Nat × V)} {a : Act} (h : tmOK E (find tm) a) (x : Operand) : vrel E (opnd tm x) (a.eval x) := by
  cases x with
  | tmp t => exact lookV_sound h t
  | const v => exact cv_sound v
  | func f => simp only [opnd, vrel, Act.eval]; exact ⟨#[], rfl, by simp [vrels]⟩
  | _ => simp [opnd, vrel]

theorem Does.dstIn {C : Cfg} {dr : Bool} {all : List Oper} {tm : List (Nat × V)} {H : Heap} {m : Nat} {o : Oper} {r : Rec} (h : Does C dr all tm H m o r) : dstIn C.N o.dst = true ∧ r.dst = o.dst ∧ r.rs = slotsOf all o := by
  cases h with
  | skip h _ => exact ⟨h, rfl, rfl⟩
  | run h _ _ _ _ => exact ⟨h, rfl, rfl⟩

theorem put_ok {E E' : Env} (X : Ext E E') {T : Nat → Option V} {a : Act} (h : tmOK E T a) {N : Nat} (hs : a.tmps.size = N) {dst : Option Nat} (hd : dstIn N dst = true) {v : V} {v' : Value} (hv : vrel E' v v') {T' : Nat → Option V}
    (hT : ∀ s u, T' s = some u → find (dstPut dst v) s = some u ∨ (find (dstPut dst v) s = none ∧ T s = some u)) : tmOK E' T' (a.put dst v') := by
  intro s u hu
  cases dst with
  | none =>
    rcases hT s u hu with h1 | h1
    · simp [dstPut, find] at h1
    · exact vrel_ext X _ _ (h s u h1.2)
  | some d =>
    simp only [Mir.dstIn, Nat.blt_eq] at hd
    simp only [Act.put]
    rcases hT s u hu with h1 | ⟨h1, h2⟩
    · simp only [dstPut, find] at h1
      cases hb : Nat.beq d s with
      | true =>
        rw [hb] at h1
        simp only [cond_true, Option.some.injEq] at h1
        subst h1
        obtain rfl := Nat.eq_of_beq_eq_true hb
        have : (a.tmps.setIfInBounds d v').getD d undef = v' := by simp [Array.getD_eq_getD_getElem?, hs, hd]
        rw [this]; exact hv
      | false => rw [hb] at h1; simp at h1
    · simp only [dstPut, find] at h1
      cases hb : Nat.beq d s with
      | true => rw [hb] at h1; simp at h1
      | false =>
        have hne : d ≠ s := fun e => by subst e; rw [Nat.beq_refl] at hb; cases hb
        have : (a.tmps.setIfInBounds d v').getD s undef = a.tmps.getD s undef := by
          simp [Array.getD_eq_getD_getElem?, Array.getElem?_setIfInBounds_ne hne]
        rw [this]; exact vrel_ext X _ _ (h s u h2)

theorem put_size {a : Act} {dst : Option Nat} {v : Value} : (a.put dst v).tmps.size = a.tmps.size := by cases dst <;> simp [Act.put]
theorem put_defers {a : Act} {dst : Option Nat} {v : Value} : (a.put dst v).defers = a.defers := by cases dst <;> simp [Act.put]

theorem getD_get {t : Array Value} {d : Nat} {v : Value} (h : t.getD d undef = v) (hv : v ≠ undef) : t[d]? = some v := by
  rw [Array.getD_eq_getD_getElem?] at h
  cases hx : t[d]? with
  | none => rw [hx] at h; exact absurd h.symm hv
  | some u => rw [hx] at h; simpa using h

theorem guard_sound {E : Env} {all : List Oper} {T : Nat → V} {a : Act} (hT : ∀ s, vrel E (T s) (a.tmps.getD s undef)) {o : Oper} {b : Bool}
    (h : (match o.guard with
      | none => some true
      | some (j, want) => match all[j]? with
        | some oj => match oj.dst with
          | some dj => match T dj with
            | .kb b => some (b == want)
            | .tup [] => some false
            | _ => none
          | none => none
        | none => none : Option Bool) = some b) : Region.wanted o (yielded all.toArray a.tmps) = b := by
  unfold Region.wanted
  cases hg : o.guard with
  | none => rw [hg] at h; simpa using h
  | some q =>
    obtain ⟨j, want⟩ := q
    rw [hg] at h
    simp only at h ⊢
    cases hj : all[j]? with
    | none => rw [hj] at h; simp at h
    | some oj =>
      rw [hj] at h
      simp only at h
      cases hd : oj.dst with
      | none => rw [hd] at h; simp at h
      | some dj =>
        rw [hd] at h
        simp only at h
        have hv := hT dj
        have hy : yielded all.toArray a.tmps j = match a.tmps[dj]? with | some (.bool b) => some b | _ => none := by
          unfold yielded
          simp only [List.getElem?_toArray, hj, Option.bind_some, hd]
          rfl
        rw [hy]
        split at h
        · rename_i b' hb
          rw [hb] at hv
          simp only [vrel] at hv
          rw [getD_get hv (by simp [undef])]
          simp only [Option.some.injEq] at h
          subst h
          cases b' <;> cases want <;> rfl
        · rename_i hb
          rw [hb] at hv
          simp only [vrel] at hv
          obtain ⟨l, hl, hv⟩ := hv
          have hl0 : l.toList = [] := by cases hx : l.toList with | nil => rfl | cons => rw [hx] at hv; simp [vrels] at hv
          have hl1 : l = #[] := by apply Array.ext'; simpa using hl0
          subst hl1
          simp only [Option.some.injEq] at h
          subst h
          rw [Array.getD_eq_getD_getElem?] at hl
          cases hx : a.tmps[dj]? with
          | none => rfl
          | some u => rw [hx] at hl; simp only [Option.getD_some] at hl; subst hl; rfl
        · cases h

theorem guardOf_sound {E : Env} {all : List Oper} {tm : List (Nat × V)} {a : Act} (hT : tmOK E (find tm) a) {o : Oper} {b : Bool} (h : guardOf all tm o = some b) : Region.wanted o (yielded all.toArray a.tmps) = b :=
  guard_sound (E := E) (T := lookV tm) (fun s => lookV_sound hT s) h

theorem evAny_sound {B : Base} {E : Env} (hE : HRel B E) {C : Cfg} (hT : TblOK P C.tb) (hK : 1 ≤ C.K) (hΓ : ∀ f c, C.Γ f = some c → CtrOK P C.K f c) {m : Nat} (hm : ∀ n, m ≤ n → n < m + C.K → ¬ E.U n) {ev : Operand → V} {a : Act} (hev : ∀ x, vrel E (ev x) (a.eval x))
    {o : Oper} {ps : List Ob} {v : V} {dh : List (Nat × Blk)} (h : evAny C m E.H ev o.op = some (ps, v, dh)) (hps : ∀ p ∈ ps, p.holds) {next : Act → World → Prop} {Q : Exit → Act → World → Prop}
    (hn : ∀ v' E', GoodK B E m C.K dh E'.w E' → vrel E' v v' → next (a.put o.dst v') E'.w) : o.wp P a E.w next Q := by
  unfold evAny at h
  split at h
  · rename_i ps' dh' hs
    cases h
    exact evSt_sound hE hT hK hev hs fun E' G => hn _ _ G (by simp [vrel, undef, vrels])
  · split at h
    case h_2 => cases h
    rename_i ps' v' dh' hs
    cases h
    exact evOp_sound hE hT hK hΓ hm hev hs hps hn

theorem vput {E : Env} {v v' : V} {u : Value} (h : v' = v ∨ ∃ b, v = .bool b ∧ v' = .kb b) (hv : vrel E v u) : vrel E v' u := by
  rcases h with rfl | ⟨b, rfl, rfl⟩
  · exact hv
  · simpa [vrel] using hv

/-- what is asked of a setting -/
structure CfgOK (P : Program) (C : Cfg) : Prop where
  tb : TblOK P C.tb
  K : 1 ≤ C.K
  Γ : ∀ f c, C.Γ f = some c → CtrOK P C.K f c

/-- A region in the text's order. -/
theorem run_seq {C : Cfg} (hC : CfgOK P C) {B : Base} {all : List Oper} {st : St} {Q : Exit → Act → World → Prop} : ∀ (rest : List Oper) (i : Nat) (d : Dl) (recs : List Rec) (df : Dl) (rf : List Rec), Run C false all st i rest d recs df rf →
    (∀ a w, SRel B C.N (find (df.tm ++ st.tm)) (hset st.H df.hp) (fun n => n < st.nx + (i + rest.length) * C.K) a w → Q .normal a w) →
    ∀ a w, SRel B C.N (find (d.tm ++ st.tm)) (hset st.H d.hp) (fun n => n < st.nx + i * C.K) a w → wpList P all.toArray Q rest a w
  | [], i, d, recs, df, rf, hr, hQ, a, w, hs => by
    cases hr
    exact wpList_nil (hQ a w (by simpa using hs))
  | o :: rest, i, d, recs, df, rf, hr, hQ, a, w, hs => by
    cases hr with
    | @cons _ _ _ _ _ r _ _ hdo hrun =>
      have ih := run_seq hC (B := B) (Q := Q) rest (i + 1) _ _ _ _ hrun (fun a w h => hQ a w (by
        have e : i + 1 + rest.length = i + (o :: rest).length := by simp; omega
        rw [e] at h; exact h))
      obtain ⟨⟨E, hE, rfl, hH, ⟨hG, hU⟩, hT⟩, hsz, hdf⟩ := hs
      have hTm : tmOK E (find (d.tm ++ st.tm)) a := hT
      -- what stands behind it
      have after : ∀ (E' : Env) (v' : Value), GoodK B E (st.nx + i * C.K) C.K r.dh E'.w E' → vrel E' r.v v' → dstIn C.N o.dst = true → r.dst = o.dst →
          SRel B C.N (find (dstPut r.dst r.v ++ d.tm ++ st.tm)) (hset st.H (r.dh ++ d.hp)) (fun n => n < st.nx + (i + 1) * C.K) (a.put o.dst v') E'.w := fun E' v' G hv hd he => by
        refine ⟨⟨E', G.rel, rfl, by rw [G.h, hset_append, hH], ⟨B.clo _ _ hG G.ext, fun n hn => ?_⟩, ?_⟩, by rw [put_size]; exact hsz, by rw [put_defers]; exact hdf⟩
        · rw [Nat.add_mul, Nat.one_mul]
          rcases G.u n hn with h | h
          · have := hU n h; omega
          · omega
        · rw [he]
          exact put_ok G.ext hTm hsz hd hv (fun s u hu => by
            rw [List.append_assoc, find_append] at hu
            cases hf : find (dstPut o.dst r.v) s with
            | some x => rw [hf] at hu; exact .inl hu
            | none => rw [hf] at hu; exact .inr ⟨rfl, hu⟩)
      obtain ⟨hd, he, _⟩ := hdo.dstIn
      unfold wpList
      cases hdo with
      | skip _ hg =>
        have hw := guardOf_sound (E := E) hTm hg
        rw [hw]
        simp only [Bool.false_eq_true, if_false]
        exact ih _ _ (after E undef ⟨hE, Ext.refl E, rfl, rfl, fun n h => .inl h⟩ (by simp [vrel, undef, vrels]) hd rfl)
      | @run ps v v' dh R _ hg hst hps hv =>
        have hw := guardOf_sound (E := E) hTm hg
        rw [hw]
        simp only [if_true]
        simp only [stepOp] at hst
        split at hst
        case h_2 => cases hst
        rename_i ps' v2 dh' hev
        cases hst
        rw [← hH] at hev
        exact .inl (evAny_sound hE hC.tb hC.K hC.Γ (fun n h1 h2 hu => by have := hU n hu; omega) (opnd_sound hTm) hev hps fun v'' E' G hv' => ih _ _ (after E' v'' G (vput hv hv') hd rfl))

end Go.Mir

/- The mirror, part 17: a region that draws its order: whatever the order, one end. -/
namespace Go.Mir
open Go.RowKit

variable {P : Program}

def gset {α : Type} (f : Nat → Option α) (l : List (Nat × α)) : Nat → Option α := fun k => match find l k with | some v => some v | none => f k

/-- what the chosen ones of a list of updates leave, in the list's order -/
def selF {α : Type} (L : Nat → Bool) : (Nat → Option α) → Nat → List (List (Nat × α)) → (Nat → Option α)
  | f, _, [] => f
  | f, i, u :: us => selF L (if L i = true then gset f u else f) (i + 1) us

theorem gset_none {α : Type} {f : Nat → Option α} {u : List (Nat × α)} {k : Nat} (h : find u k = none) : gset f u k = f k := by simp [gset, h]
theorem gset_some {α : Type} {f : Nat → Option α} {u : List (Nat × α)} {k : Nat} {v : α} (h : find u k = some v) : gset f u k = some v := by simp [gset, h]

theorem selF_congr {α : Type} {L L' : Nat → Bool} {k : Nat} : ∀ (us : List (List (Nat × α))) (i : Nat) (f f' : Nat → Option α), f k = f' k → (∀ j u, us[j]? = some u → find u k ≠ none → L (i + j) = L' (i + j)) → selF L f i us k = selF L' f' i us k
  | [], _, _, _, h, _ => h
  | u :: us, i, f, f', h, hu => by
    unfold selF
    refine selF_congr us (i + 1) _ _ ?_ (fun j u' hj hf => by
      have := hu (j + 1) u' (by simpa using hj) hf
      rwa [show i + (j + 1) = i + 1 + j by omega] at this)
    cases hf : find u k with
    | none =>
      have e1 : (if L i = true then gset f u else f) k = f k := by split <;> simp [gset_none hf]
      have e2 : (if L' i = true then gset f' u else f') k = f' k := by split <;> simp [gset_none hf]
      rw [e1, e2, h]
    | some v =>
      have := hu 0 u (by simp) (by rw [hf]; simp)
      simp only [Nat.add_zero] at this
      rw [this]
      split
      · rw [gset_some hf, gset_some hf]
      · exact h

theorem selF_last {α : Type} {L : Nat → Bool} {k : Nat} {v : α} : ∀ (us : List (List (Nat × α))) (i : Nat) (f : Nat → Option α) (j0 : Nat) (u0 : List (Nat × α)), us[j0]? = some u0 → L (i + j0) = true → find u0 k = some v →
    (∀ j u, j0 < j → us[j]? = some u → L (i + j) = true → find u k = none) → selF L f i us k = some v
  | [], _, _, j0, u0, h, _, _, _ => by simp at h
  | u :: us, i, f, 0, u0, h, hL, hf, hl => by
    simp only [List.getElem?_cons_zero, Option.some.injEq] at h
    subst h
    unfold selF
    simp only [Nat.add_zero] at hL
    rw [if_pos hL]
    have key : ∀ (us : List (List (Nat × α))) (i : Nat) (g : Nat → Option α), g k = some v → (∀ j u, us[j]? = some u → L (i + j) = true → find u k = none) → selF L g i us k = some v := by
      intro us
      induction us with
      | nil => intro i g hg _; exact hg
      | cons u us ih =>
        intro i g hg hh
        unfold selF
        refine ih _ _ ?_ (fun j u' hj hLj => hh (j + 1) u' (by simpa using hj) (by rwa [show i + (j + 1) = i + 1 + j by omega]))
        split
        · rename_i hL0
          rw [gset_none (hh 0 u (by simp) (by simpa using hL0))]; exact hg
        · exact hg
    refine key us (i + 1) _ (gset_some hf) (fun j u' hj hLj => hl (j + 1) u' (by omega) (by simpa using hj) (by rwa [show i + (j + 1) = i + 1 + j by omega]))
  | u :: us, i, f, j0 + 1, u0, h, hL, hf, hl => by
    unfold selF
    exact selF_last us (i + 1) _ j0 u0 (by simpa using h) (by rwa [show i + 1 + j0 = i + (j0 + 1) by omega]) hf
      (fun j u' hj hu' hLj => hl (j + 1) u' (by omega) (by simpa using hu') (by rwa [show i + (j + 1) = i + 1 + j by omega]))

/-- one more is chosen -/
theorem selF_add {α : Type} {L L' : Nat → Bool} (us : List (List (Nat × α))) (f : Nat → Option α) (i : Nat) (u0 : List (Nat × α)) (hi : us[i]? = some u0) (hL' : ∀ j, L' j = if j = i then true else L j)
    (hd : ∀ j u, i < j → us[j]? = some u → L j = true → ∀ k, find u0 k ≠ none → find u k = none) : selF L' f 0 us = gset (selF L f 0 us) u0 := by
  funext k
  cases hf : find u0 k with
  | none =>
    rw [gset_none hf]
    refine selF_congr us 0 f f rfl (fun j u hj hu => ?_)
    rw [Nat.zero_add, hL' j]
    by_cases e : j = i
    · subst e; rw [hi] at hj; cases hj; exact absurd hf hu
    · rw [if_neg e]
  | some v =>
    rw [gset_some hf]
    refine selF_last us 0 f i u0 hi (by rw [Nat.zero_add, hL', if_pos rfl]) hf (fun j u hj hu hLj => ?_)
    rw [Nat.zero_add, hL', if_neg (by omega)] at hLj
    exact hd j u hj hu hLj k (by rw [hf]; simp)

theorem selF_lt {α : Type} : ∀ (us : List (List (Nat × α))) (f : Nat → Option α) (i n : Nat), selF (fun j => Nat.blt j (i + n)) f i us = (us.take n).foldl gset f
  | [], f, i, n => by simp [selF]
  | u :: us, f, i, 0 => by
    have hall : ∀ (us : List (List (Nat × α))) (f : Nat → Option α) (k : Nat), i ≤ k → selF (fun j => Nat.blt j (i + 0)) f k us = f := by
      intro us
      induction us with
      | nil => intro f k _; rfl
      | cons u us ih =>
        intro f k hk
        unfold selF
        have : Nat.blt k (i + 0) = false := by cases hb : Nat.blt k (i + 0) with | false => rfl | true => rw [Nat.blt_eq] at hb; omega
        rw [this]
        simp only [Bool.false_eq_true, if_false]
        exact ih _ _ (by omega)
    rw [hall _ _ _ (Nat.le_refl i)]
    rfl
  | u :: us, f, i, n + 1 => by
    unfold selF
    have : Nat.blt i (i + (n + 1)) = true := by rw [Nat.blt_eq]; omega
    rw [this]
    simp only [if_true, List.take_succ_cons, List.foldl_cons]
    have := selF_lt us (gset f u) (i + 1) n
    rw [show i + 1 + n = i + (n + 1) by omega] at this
    exact this

theorem hset_gset (H : Heap) (l : List (Nat × Blk)) : hset H l = gset H l := by
  funext h
  unfold hset gset
  cases find l h <;> rfl

theorem find_gset (tm r : List (Nat × V)) : find (r ++ tm) = gset (find tm) r := by
  funext k
  rw [find_append]
  rfl

def updT (r : Rec) : List (Nat × V) := dstPut r.dst r.v

/-- what a run in the text's order says of each of its operations -/
theorem run_each {C : Cfg} {dr : Bool} {all : List Oper} {st : St} : ∀ (rest : List Oper) (i : Nat) (d : Dl) (recs : List Rec) (df : Dl) (rf : List Rec), Run C dr all st i rest d recs df rf → recs.length = i →
    find (d.tm ++ st.tm) = (recs.map updT).foldl gset (find st.tm) → hset st.H d.hp = (recs.map Rec.dh).foldl gset st.H →
    (∃ more, rf = recs ++ more ∧ more.length = rest.length) ∧ find (df.tm ++ st.tm) = (rf.map updT).foldl gset (find st.tm) ∧ hset st.H df.hp = (rf.map Rec.dh).foldl gset st.H ∧
    ∀ j o, rest[j]? = some o → ∃ r tm H, rf[i + j]? = some r ∧ Does C dr all tm H (st.nx + (i + j) * C.K) o r ∧ find tm = ((rf.take (i + j)).map updT).foldl gset (find st.tm) ∧ H = ((rf.take (i + j)).map Rec.dh).foldl gset st.H
  | [], i, d, recs, df, rf, hr, hl, h1, h2 => by
    cases hr
    exact ⟨⟨[], by simp, rfl⟩, h1, h2, fun j o h => by simp at h⟩
  | o :: rest, i, d, recs, df, rf, hr, hl, h1, h2 => by
    cases hr with
    | @cons _ _ _ _ _ r _ _ hdo hrun =>
      obtain ⟨⟨more, e1, e2⟩, g1, g2, g3⟩ := run_each rest (i + 1) _ _ _ _ hrun (by simp [hl])
        (by rw [List.append_assoc, find_gset, h1]; simp [updT]) (by rw [hset_append, h2]; simp [hset_gset])
      refine ⟨⟨r :: more, by rw [e1]; simp, by simp [e2]⟩, g1, g2, fun j o' hj => ?_⟩
      cases j with
      | zero =>
        simp only [List.getElem?_cons_zero, Option.some.injEq] at hj
        subst hj
        have et : rf.take i = recs := by rw [e1, List.append_assoc, List.take_append_of_le_length (by omega), List.take_of_length_le (by omega)]
        refine ⟨r, _, _, ?_, hdo, ?_, ?_⟩
        · rw [e1, Nat.add_zero, List.append_assoc, List.getElem?_append_right (by omega)]
          simp [hl]
        · rw [Nat.add_zero, et]; exact h1
        · rw [Nat.add_zero, et]; exact h2
      | succ j =>
        obtain ⟨r', tm, H, k1, k2, k3, k4⟩ := g3 j o' (by simpa using hj)
        rw [show i + 1 + j = i + (j + 1) by omega] at k1 k2 k3 k4
        exact ⟨r', tm, H, k1, k2, k3, k4⟩

/-! ## the edges -/

theorem mask1_bit (acc : List Nat) (j : Nat) : ∀ (es : List Edge), (mask1 acc es).testBit j = true → ∃ e ∈ es, Region.binds .any e = true ∧ (j = e.on ∨ ((acc[e.on]?).getD 0).testBit j = true)
  | [], h => by simp [mask1] at h
  | e :: es, h => by
    unfold mask1 at h
    split at h
    · rename_i hb
      simp only [Nat.testBit_or, Bool.or_eq_true] at h
      rcases h with (h | h) | h
      · obtain ⟨e', h1, h2⟩ := mask1_bit acc j es h
        exact ⟨e', List.mem_cons_of_mem _ h1, h2⟩
      · have : j = e.on := by
          rw [Nat.testBit_two_pow] at h
          simpa using (of_decide_eq_true h).symm
        exact ⟨e, List.mem_cons_self, hb, .inl this⟩
      · exact ⟨e, List.mem_cons_self, hb, .inr h⟩
    · obtain ⟨e', h1, h2⟩ := mask1_bit acc j es h
      exact ⟨e', List.mem_cons_of_mem _ h1, h2⟩

/-- the masks of a list of operations, known one by one -/
theorem masks_spec : ∀ (os : List Oper) (acc : List Nat), (∃ more, masks os acc = acc ++ more ∧ more.length = os.length) ∧
    ∀ j o, os[j]? = some o → (masks os acc)[acc.length + j]? = some (mask1 ((masks os acc).take (acc.length + j)) o.after.toList)
  | [], acc => ⟨⟨[], by simp [masks], rfl⟩, fun j o h => by simp at h⟩
  | o :: os, acc => by
    obtain ⟨⟨more, e1, e2⟩, h⟩ := masks_spec os (acc ++ [mask1 acc o.after.toList])
    unfold masks
    refine ⟨⟨mask1 acc o.after.toList :: more, by rw [e1]; simp, by simp [e2]⟩, fun j o' hj => ?_⟩
    cases j with
    | zero =>
      simp only [List.getElem?_cons_zero, Option.some.injEq] at hj
      subst hj
      rw [e1, Nat.add_zero, List.append_assoc, List.getElem?_append_right (Nat.le_refl _), List.take_append_of_le_length (Nat.le_refl _), List.take_of_length_le (Nat.le_refl _)]
      simp
    | succ j =>
      have := h j o' (by simpa using hj)
      rw [List.length_append, List.length_singleton, show acc.length + 1 + j = acc.length + (j + 1) by omega] at this
      exact this

theorem edgesOK_spec : ∀ (os : List Oper) (i : Nat), edgesOK i os = true → ∀ j o, os[j]? = some o → ∀ e ∈ o.after, Region.binds .any e = true → e.on < i + j
  | [], _, _, j, o, h, _, _, _ => by simp at h
  | o :: os, i, h, j, o', hj, e, he, hb => by
    simp only [edgesOK, Bool.and_eq_true] at h
    cases j with
    | zero =>
      simp only [List.getElem?_cons_zero, Option.some.injEq] at hj
      subst hj
      have := List.all_eq_true.1 h.1 e (by simpa using he)
      rw [hb] at this
      simp only [Bool.not_true, Bool.false_or, Nat.blt_eq] at this
      omega
    | succ j =>
      have := edgesOK_spec os (i + 1) h.2 j o' (by simpa using hj) e he hb
      omega

/-- whatever stands ahead of an operation by the edges is listed when its direct ones are -/
theorem ahead_listed {all : List Oper} (hE : edgesOK 0 all = true) {listed : Array Bool} (hclosed : ∀ j oj, all[j]? = some oj → listed.getD j false = true → ∀ e ∈ oj.after, Region.binds .any e = true → listed.getD e.on false = true) :
    ∀ (n i : Nat), i ≤ n → ∀ oi, all[i]? = some oi → (∀ e ∈ oi.after, Region.binds .any e = true → listed.getD e.on false = true) → ∀ j, (((masks all [])[i]?).getD 0).testBit j = true → listed.getD j false = true
  | 0, i, hn, oi, hoi, hdir, j, hj => by
    have hm := (masks_spec all []).2 i oi hoi
    simp only [List.length_nil, Nat.zero_add] at hm
    rw [hm] at hj
    obtain ⟨e, he, hb, h1⟩ := mask1_bit _ j _ hj
    have := edgesOK_spec all 0 hE i oi hoi e (by simpa using he) hb
    omega
  | n + 1, i, hn, oi, hoi, hdir, j, hj => by
    have hm := (masks_spec all []).2 i oi hoi
    simp only [List.length_nil, Nat.zero_add] at hm
    rw [hm] at hj
    obtain ⟨e, he, hb, h1⟩ := mask1_bit _ j _ hj
    have he' : e ∈ oi.after := by simpa using he
    have hlt := edgesOK_spec all 0 hE i oi hoi e he' hb
    have hl := hdir e he' hb
    rcases h1 with rfl | h1
    · exact hl
    · have hilt : i < all.length := (List.getElem?_eq_some_iff.1 hoi).1
      have helt : e.on < all.length := by omega
      have hoe : all[e.on]? = some all[e.on] := List.getElem?_eq_getElem helt
      rw [List.getElem?_take_of_lt (by omega)] at h1
      exact ahead_listed hE hclosed n e.on (by omega) _ hoe (hclosed _ _ hoe hl) j h1

structure Comm (r s : Rec) : Prop where
  d : ∀ x, x ∈ r.dst.toList → x ∈ s.dst.toList → False
  ds : ∀ x, x ∈ r.dst.toList → x ∈ s.rs → False
  sd : ∀ x, x ∈ s.dst.toList → x ∈ r.rs → False
  k : ∀ x, x ∈ r.dh.map (·.1) → x ∈ s.dh.map (·.1) → False
  kR : ∀ x, x ∈ r.dh.map (·.1) → x ∈ s.R → False
  sk : ∀ x, x ∈ s.dh.map (·.1) → x ∈ r.R → False

theorem Comm.symm {r s : Rec} (h : Comm r s) : Comm s r := ⟨fun x a b => h.d x b a, h.sd, h.ds, fun x a b => h.k x b a, h.sk, h.kR⟩

theorem disj_spec {l r : List Nat} (h : disj l r = true) : ∀ x, x ∈ l → x ∈ r → False := fun x hl hr => by
  have := List.all_eq_true.1 h x hl
  rw [memN_iff.2 hr] at this
  cases this

theorem comm_spec {r s : Rec} (h : comm r s = true) : Comm r s := by
  simp only [comm, Bool.and_eq_true] at h
  exact ⟨disj_spec h.1.1.1, disj_spec h.1.1.2, disj_spec h.1.2, disj_spec h.2.1.1, disj_spec h.2.1.2, disj_spec h.2.2⟩

theorem pairOK_spec {ms : List Nat} {i : Nat} {r : Rec} : ∀ (rs : List Rec) (j : Nat), pairOK ms i r j rs = true → ∀ k s, rs[k]? = some s → (((ms[j + k]?).getD 0).testBit i = true ∨ Comm r s)
  | [], _, _, k, s, h => by simp at h
  | s :: ss, j, h, k, s', hk => by
    simp only [pairOK, Bool.and_eq_true, Bool.or_eq_true] at h
    cases k with
    | zero =>
      simp only [List.getElem?_cons_zero, Option.some.injEq] at hk
      subst hk
      exact h.1.imp id comm_spec
    | succ k =>
      have := pairOK_spec ss (j + 1) h.2 k s' (by simpa using hk)
      rwa [show j + 1 + k = j + (k + 1) by omega] at this

theorem chkAll_spec {ms : List Nat} : ∀ (rs : List Rec) (i : Nat), chkAll ms i rs = true → ∀ a b r s, a < b → rs[a]? = some r → rs[b]? = some s → (((ms[i + b]?).getD 0).testBit (i + a) = true ∨ Comm r s)
  | [], _, _, a, b, r, s, _, h, _ => by simp at h
  | r0 :: rs, i, h, a, b, r, s, hab, ha, hb => by
    simp only [chkAll, Bool.and_eq_true] at h
    cases b with
    | zero => omega
    | succ b =>
      cases a with
      | zero =>
        simp only [List.getElem?_cons_zero, Option.some.injEq] at ha
        subst ha
        have := pairOK_spec rs (i + 1) h.1 b s (by simpa using hb)
        rwa [show i + 1 + b = i + (b + 1) by omega] at this
      | succ a =>
        have := chkAll_spec rs (i + 1) h.2 a b r s (by omega) (by simpa using ha) (by simpa using hb)
        rwa [show i + 1 + b = i + (b + 1) by omega, show i + 1 + a = i + (a + 1) by omega] at this

end Go.Mir

/- The mirror, part 18: a region that draws its order is sound. -/
namespace Go.Mir
open Go.RowKit

variable {P : Program}

theorem Ext.restr (E : Env) (R : List Nat) : Ext E { E with H := Mir.restr E.H R } := by
  have get : ∀ h k, Mir.restr E.H R h = some k → E.H h = some k := fun h k hh => by
    unfold Mir.restr at hh
    cases hm : memN R h with
    | false => rw [hm] at hh; cases hh
    | true => rw [hm] at hh; exact hh
  exact ⟨fun _ h => h, fun _ h => h, fun _ _ => rfl, fun h cs _ hx => ⟨⟨cs, get _ _ hx⟩, rfl⟩, fun h ver rw t xs _ _ hx => ⟨rw, xs, get _ _ hx, rfl, rfl, fun b c T fr _ hw => ⟨c, T, fr, hw, rfl⟩⟩, fun h ver esz cs _ _ hx => ⟨cs, get _ _ hx, rfl, rfl, fun b c T fr _ hw => ⟨c, T, fr, hw, rfl⟩⟩, fun h es _ hx => ⟨⟨es, get _ _ hx⟩, rfl⟩⟩

theorem find_key {α : Type} {l : List (Nat × α)} {k : Nat} (h : find l k ≠ none) : k ∈ l.map (·.1) := by
  induction l with
  | nil => simp [find] at h
  | cons x l ih =>
    obtain ⟨a, v⟩ := x
    simp only [find] at h
    cases hb : Nat.beq a k with
    | true => simp [Nat.eq_of_beq_eq_true hb]
    | false => rw [hb] at h; simp only [cond_false] at h; simp only [List.map_cons, List.mem_cons]; exact .inr (ih h)

theorem find_mem {α : Type} {l : List (Nat × α)} {k : Nat} {v : α} (h : find l k = some v) : (k, v) ∈ l := by
  induction l with
  | nil => simp [find] at h
  | cons q l ih =>
    obtain ⟨a, b⟩ := q
    simp only [find] at h
    cases hb : Nat.beq a k with
    | true => rw [hb] at h; simp only [cond_true, Option.some.injEq] at h; simp [Nat.eq_of_beq_eq_true hb, h]
    | false => rw [hb] at h; simp only [cond_false] at h; exact List.mem_cons_of_mem _ (ih h)

theorem updT_key {r : Rec} {k : Nat} (h : find (updT r) k ≠ none) : k ∈ r.dst.toList := by
  unfold updT at h
  cases hd : r.dst with
  | none => rw [hd] at h; simp [dstPut, find] at h
  | some d =>
    rw [hd] at h
    have := find_key h
    simpa [dstPut] using this

theorem hsOK_spec {R : List Nat} {m K : Nat} {l : List Nat} (h : hsOK R m K l = true) : ∀ x ∈ l, x ∈ R ∨ (m ≤ x ∧ x < m + K) := fun x hx => by
  have := List.all_eq_true.1 h x hx
  simp only [Bool.or_eq_true, Bool.and_eq_true, memN_iff, Nat.blt_eq] at this
  exact this.imp id fun h => ⟨Nat.le_of_ble_eq_true h.1, h.2⟩

theorem guardOf_masked {E : Env} {all : List Oper} {tm : List (Nat × V)} {a : Act} {o : Oper} {b : Bool} (hT : ∀ s ∈ slotsOf all o, vrel E (lookV tm s) (a.tmps.getD s undef)) (h : guardOf all tm o = some b) :
    Region.wanted o (yielded all.toArray a.tmps) = b := by
  refine guard_sound (E := E) (T := fun s => bif memN (slotsOf all o) s then lookV tm s else .any) (fun s => ?_) ?_
  · cases hm : memN (slotsOf all o) s with
    | true => simpa using hT s (memN_iff.1 hm)
    | false => simp [vrel]
  · unfold guardOf at h
    cases hg : o.guard with
    | none => rw [hg] at h; exact h
    | some q =>
      obtain ⟨j, want⟩ := q
      rw [hg] at h
      simp only at h ⊢
      cases hj : all[j]? with
      | none => rw [hj] at h; exact h
      | some oj =>
        rw [hj] at h
        simp only at h ⊢
        cases hd : oj.dst with
        | none => rw [hd] at h; exact h
        | some dj =>
          rw [hd] at h
          have hm : memN (slotsOf all o) dj = true := by
            rw [memN_iff]
            unfold slotsOf
            rw [hg]
            simp [hj, hd]
          simp only [hm, cond_true]
          exact h

/-- where a draw stands: what the listed ones have done -/
structure Inv (C : Cfg) (B : Base) (E0 : Env) (st : St) (rf : List Rec) (L : Nat → Bool) (a : Act) (w : World) : Prop where
  ex : ∃ E, HRel B E ∧ E.w = w ∧ Ext E0 E ∧ E.H = selF L st.H 0 (rf.map Rec.dh) ∧ (∀ n, E.U n → E0.U n ∨ ∃ i, i < rf.length ∧ L i = true ∧ st.nx + i * C.K ≤ n ∧ n < st.nx + i * C.K + C.K) ∧ tmOK E (selF L (find st.tm) 0 (rf.map updT)) a
  size : a.tmps.size = C.N
  defers : a.defers = []

theorem inv_step {C : Cfg} (hC : CfgOK P C) {B : Base} {E0 : Env} {all : List Oper} {st : St} {rf : List Rec} (hfr0 : ∀ n, st.nx ≤ n → n < st.nx + rf.length * C.K → ¬ E0.U n) {L L' : Nat → Bool} {i : Nat} {o : Oper} {r : Rec} (ho : all[i]? = some o) (hr : rf[i]? = some r) (hLi : L i = false) (hL' : ∀ j, L' j = if j = i then true else L j)
    {tm : List (Nat × V)} {H : Heap} (hdo : Does C true all tm H (st.nx + i * C.K) o r) (htm : find tm = selF (fun j => Nat.blt j i) (find st.tm) 0 (rf.map updT)) (hH : H = selF (fun j => Nat.blt j i) st.H 0 (rf.map Rec.dh))
    (hcomm : ∀ j s, rf[j]? = some s → (j < i ∧ L j = false) ∨ (i < j ∧ L j = true) → Comm r s) {Q : Exit → Act → World → Prop} {a : Act} {w : World} (hI : Inv C B E0 st rf L a w) {K : Act → World → Prop} (hK : ∀ a w, Inv C B E0 st rf L' a w → K a w) :
    wpOp P all.toArray Q i K a w := by
  obtain ⟨⟨E, hE, rfl, hX, hEH, hU, hT⟩, hsz, hdf⟩ := hI
  obtain ⟨hd, he, hrs⟩ := hdo.dstIn
  have hiL : i < rf.length := (List.getElem?_eq_some_iff.1 hr).1
  have hLsel : ∀ {α : Type} (us : List (List (Nat × α))) (f : Nat → Option α) (k : Nat) (g : Rec → List (Nat × α)), us = rf.map g → (∀ j s, rf[j]? = some s → find (g s) k ≠ none → j ≠ i → Comm r s → False) → selF L f 0 us k = selF (fun j => Nat.blt j i) f 0 us k := by
    intro α us f k g hus hno
    refine selF_congr us 0 f f rfl (fun j u hj hu => ?_)
    rw [Nat.zero_add]
    subst hus
    rw [List.getElem?_map] at hj
    cases hs : rf[j]? with
    | none => rw [hs] at hj; simp at hj
    | some s =>
      rw [hs] at hj
      simp only [Option.map_some, Option.some.injEq] at hj
      subst hj
      by_cases hji : j = i
      · subst hji
        rw [hLi]
        cases hb : Nat.blt j j with
        | false => rfl
        | true => rw [Nat.blt_eq] at hb; omega
      · rcases Nat.lt_or_gt_of_ne hji with hlt | hgt
        · have hb : Nat.blt j i = true := by rw [Nat.blt_eq]; exact hlt
          rw [hb]
          cases hLj : L j with
          | true => rfl
          | false => exact (hno j s hs hu hji (hcomm j s hs (.inl ⟨hlt, hLj⟩))).elim
        · have hb : Nat.blt j i = false := by cases hb : Nat.blt j i with | false => rfl | true => rw [Nat.blt_eq] at hb; omega
          rw [hb]
          cases hLj : L j with
          | false => rfl
          | true => exact (hno j s hs hu hji (hcomm j s hs (.inr ⟨hgt, hLj⟩))).elim
  have hslot : ∀ s ∈ slotsOf all o, selF L (find st.tm) 0 (rf.map updT) s = find tm s := fun s hs => by
    rw [htm]
    refine hLsel _ _ s updT rfl (fun j s' hs' hne hji hc => ?_)
    exact hc.sd s (updT_key hne) (by rw [hrs]; exact hs)
  have hlook : ∀ s ∈ slotsOf all o, vrel E (lookV tm s) (a.tmps.getD s undef) := fun s hs => by
    unfold lookV
    cases hf : find tm s with
    | none => simp [vrel]
    | some v => exact hT s v (by rw [hslot s hs]; exact hf)
  have hL0 : ∀ {α : Type} (us : List (List (Nat × α))) (f : Nat → Option α) (g : Rec → List (Nat × α)), us = rf.map g → (∀ j s, i < j → rf[j]? = some s → Comm r s → ∀ k, find (g r) k ≠ none → find (g s) k = none) → selF L' f 0 us = gset (selF L f 0 us) (g r) := by
    intro α us f g hus hno
    subst hus
    refine selF_add (rf.map g) f i (g r) (by rw [List.getElem?_map, hr]; rfl) hL' (fun j u hj hu hLj k hk => ?_)
    rw [List.getElem?_map] at hu
    cases hs : rf[j]? with
    | none => rw [hs] at hu; simp at hu
    | some s =>
      rw [hs] at hu
      simp only [Option.map_some, Option.some.injEq] at hu
      subst hu
      exact hno j s hj hs (hcomm j s hs (.inr ⟨hj, hLj⟩)) k hk
  have none_of : ∀ {α : Type} {l : List (Nat × α)} {k : Nat}, (k ∈ l.map (·.1) → False) → find l k = none := fun {α l k} h => by
    cases hf : find l k with
    | none => rfl
    | some v => exact (h (find_key (by rw [hf]; simp))).elim
  have hT' : selF L' (find st.tm) 0 (rf.map updT) = gset (selF L (find st.tm) 0 (rf.map updT)) (updT r) := hL0 _ _ updT rfl (fun j s _ _ hc k hk => by
    cases hf : find (updT s) k with
    | none => rfl
    | some v => exact (hc.d k (updT_key hk) (updT_key (by rw [hf]; simp))).elim)
  have hH' : selF L' st.H 0 (rf.map Rec.dh) = gset (selF L st.H 0 (rf.map Rec.dh)) r.dh := hL0 _ _ Rec.dh rfl (fun j s _ _ hc k hk => none_of fun hm => hc.k k (find_key hk) hm)
  have after : ∀ (E' : Env) (v' : Value), GoodK B E (st.nx + i * C.K) C.K r.dh E'.w E' → vrel E' r.v v' → Inv C B E0 st rf L' (a.put o.dst v') E'.w := fun E' v' G hv => by
    refine ⟨⟨E', G.rel, rfl, hX.trans G.ext, by rw [G.h, hH', hEH, hset_gset], fun n hn => ?_, ?_⟩, by rw [put_size]; exact hsz, by rw [put_defers]; exact hdf⟩
    · rcases G.u n hn with h | h
      · rcases hU n h with h1 | ⟨j, h1, h2, h3⟩
        · exact .inl h1
        · refine .inr ⟨j, h1, ?_, h3⟩
          rw [hL']
          split
          · rfl
          · exact h2
      · exact .inr ⟨i, hiL, by rw [hL', if_pos rfl], h.1, h.2⟩
    · rw [hT']
      exact put_ok G.ext hT hsz hd (v := r.v) hv (fun s u hu => by
        unfold gset updT at hu
        rw [he] at hu
        cases hf : find (dstPut o.dst r.v) s with
        | some x => rw [hf] at hu; exact .inl hu
        | none => rw [hf] at hu; exact .inr ⟨rfl, hu⟩)
  unfold wpOp
  simp only [List.getElem?_toArray, ho]
  cases hdo with
  | skip _ hg =>
    rw [guardOf_masked hlook hg]
    simp only [Bool.false_eq_true, if_false]
    exact hK _ _ (after E undef ⟨hE, Ext.refl E, rfl, rfl, fun n h => .inl h⟩ (by simp [vrel, undef, vrels]))
  | @run ps v v' dh R _ hg hst hps hv =>
    rw [guardOf_masked hlook hg]
    simp only [if_true]
    left
    simp only [stepOp] at hst
    split at hst
    case h_2 => cases hst
    rename_i ps' v2 dh' hev
    cases hfr : frameOK H (reach H 8 (o.op.operands.toList.flatMap fun x => (maskEv (slotsOf all o) tm x).hs) []) (st.nx + i * C.K) C.K v2 dh' with
    | false => rw [hfr] at hst; cases hst
    | true =>
      rw [hfr] at hst
      simp only [cond_true, Option.some.injEq, Prod.mk.injEq] at hst
      obtain ⟨rfl, rfl, rfl, hR⟩ := hst
      rw [hR] at hfr hev
      -- the part of the heap that it touches is as it was in the text's order
      have hHR : ∀ h ∈ R, E.H h = H h := fun h hh => by
        rw [hEH, hH]
        refine hLsel _ _ h Rec.dh rfl (fun j s hs hne hji hc => ?_)
        exact hc.sk h (find_key hne) hh
      have hrest : restr H R = restr E.H R := by
        funext h
        unfold restr
        cases hm : memN R h with
        | false => rfl
        | true => simp only [cond_true]; exact (hHR h (memN_iff.1 hm)).symm
      simp only [frameOK, Bool.and_eq_true] at hfr
      obtain ⟨⟨f1, f2⟩, f3⟩ := hfr
      have fR : ∀ h ∈ R, ∃ b, H h = some b ∧ hsOK R (st.nx + i * C.K) C.K b.hs = true := fun h hh => by
        have := List.all_eq_true.1 f1 h hh
        split at this
        · rename_i b hb; exact ⟨b, hb, this⟩
        · cases this
      have hfresh : ∀ n, st.nx + i * C.K ≤ n → n < st.nx + i * C.K + C.K → ¬ E.U n := fun n h1 h2 hu => by
        have hiK := Nat.mul_le_mul_right C.K (show i + 1 ≤ rf.length from hiL)
        rw [Nat.add_mul] at hiK
        rcases hU n hu with h3 | ⟨j, h3, h4, h5, h6⟩
        · exact hfr0 n (by omega) (by omega) h3
        · have hji : j ≠ i := fun e => by subst e; rw [hLi] at h4; cases h4
          rcases Nat.lt_or_gt_of_ne hji with hlt | hgt
          · have := Nat.mul_le_mul_right C.K (show j + 1 ≤ i from hlt)
            rw [Nat.add_mul] at this
            omega
          · have := Nat.mul_le_mul_right C.K (show i + 1 ≤ j from hgt)
            rw [Nat.add_mul] at this
            omega
      have hEs := hE.restr R
      have Xs := Ext.restr E R
      rw [hrest] at hev
      have hevm : ∀ x, vrel { E with H := Mir.restr E.H R } (maskEv (slotsOf all o) tm x) (a.eval x) := fun x => by
        cases x with
        | tmp t =>
          simp only [maskEv]
          cases hm : memN (slotsOf all o) t with
          | false => simp [vrel]
          | true => exact vrel_ext Xs _ _ (hlook t (memN_iff.1 hm))
        | const v => exact cv_sound v
        | func f => simp only [maskEv, vrel, Act.eval]; exact ⟨#[], rfl, by simp [vrels]⟩
        | _ => simp [maskEv, vrel]
      exact evAny_sound (E := { E with H := Mir.restr E.H R }) hEs hC.tb hC.K hC.Γ hfresh hevm hev hps fun v'' Es G hv' => by
        obtain ⟨E', G', tr⟩ := frame hE hfresh G (fun h hh => by obtain ⟨b, hb, _⟩ := fR h hh; exact ⟨b, by rw [hHR h hh]; exact hb⟩)
          (fun h hh k hk x hx => by
            obtain ⟨b, hb, hb2⟩ := fR h hh
            rw [hHR h hh, hb] at hk
            cases hk
            exact hsOK_spec hb2 x hx)
          (fun h k hk => by
            have hq := find_mem hk
            have := List.all_eq_true.1 f2 _ hq
            simp only [Bool.and_eq_true] at this
            exact ⟨hsOK_spec this.1 h (by simp), hsOK_spec this.2⟩)
        have hw : E'.w = Es.w := G'.w
        have hv2 : vrel E' v2 v'' := tr _ _ (hsOK_spec f3) hv'
        have := hK _ _ (after E' _ (by rw [hw]; exact G') (vput hv hv2))
        rw [hw] at this
        exact this

/-! ## the draw -/

def unl (n : Nat) (listed : Array Bool) : Nat := ((List.range n).filter fun i => !listed.getD i true).length

theorem filter_one {p q : Nat → Bool} {i : Nat} (hp : p i = true) (hq : q i = false) (hs : ∀ j, j ≠ i → q j = p j) : ∀ (l : List Nat), l.Nodup → i ∈ l → (l.filter q).length + 1 = (l.filter p).length
  | [], _, h => by simp at h
  | x :: l, hn, hm => by
    have hn' := List.nodup_cons.1 hn
    by_cases e : x = i
    · subst e
      have : l.filter q = l.filter p := List.filter_congr fun y hy => hs y (fun e => by subst e; exact hn'.1 hy)
      simp [hp, hq, this]
    · have hm' : i ∈ l := by
        rcases List.mem_cons.1 hm with h | h
        · exact absurd h.symm e
        · exact h
      have ih := filter_one hp hq hs l hn'.2 hm'
      simp only [List.filter_cons, hs x e]
      split
      · simp [ih]
      · exact ih

theorem draw_any {C : Cfg} (hC : CfgOK P C) {B : Base} {E0 : Env} {all : List Oper} {st : St} {df : Dl} {rf : List Rec} (hrun : Run C true all st 0 all ⟨[], []⟩ [] df rf) (hE : edgesOK 0 all = true) (hck : chkAll (masks all []) 0 rf = true) {Q : Exit → Act → World → Prop}
    (hfr0 : ∀ n, st.nx ≤ n → n < st.nx + all.length * C.K → ¬ E0.U n)
    (hQ : ∀ E a, HRel B E → Ext E0 E → E.H = hset st.H df.hp → (∀ n, E.U n → E0.U n ∨ (st.nx ≤ n ∧ n < st.nx + all.length * C.K)) → tmOK E (find (df.tm ++ st.tm)) a → a.tmps.size = C.N → a.defers = [] → Q .normal a E.w) :
    ∀ (fuel : Nat) (listed : Array Bool) (a : Act) (w : World), listed.size = all.length → unl all.length listed = fuel →
      (∀ j oj, all[j]? = some oj → listed.getD j false = true → ∀ e ∈ oj.after, Region.binds .any e = true → listed.getD e.on false = true) →
      Inv C B E0 st rf (fun i => listed.getD i false) a w → wpAny P .any all.toArray Q fuel listed a w := by
  obtain ⟨⟨more, e1, e2⟩, g1, g2, g3⟩ := run_each all 0 ⟨[], []⟩ [] df rf hrun rfl rfl rfl
  have hlen : rf.length = all.length := by rw [e1]; simpa using e2
  -- nobody is left when nobody is ready
  have full : ∀ (listed : Array Bool), listed.size = all.length → Region.ready .any all.toArray listed = [] → ∀ i, i < all.length → listed.getD i false = true := by
    intro listed hsz hrd i
    induction i using Nat.strongRecOn with
    | _ i ih =>
      intro hi
      cases hb : listed.getD i false with
      | true => rfl
      | false =>
        have hun : listed.getD i true = false := by
          have : i < listed.size := by omega
          simp [this] at hb ⊢
          exact hb
        have hoi : all[i]? = some all[i] := List.getElem?_eq_getElem hi
        have : i ∈ Region.ready .any all.toArray listed := mem_ready.2 ⟨hun, all[i], by simp, fun e he hbd => by
          have := edgesOK_spec all 0 hE i _ hoi e he hbd
          exact ih e.on (by omega) (by omega)⟩
        rw [hrd] at this
        cases this
  have close : ∀ (listed : Array Bool) (a : Act) (w : World), listed.size = all.length → (∀ i, i < all.length → listed.getD i false = true) → Inv C B E0 st rf (fun i => listed.getD i false) a w → Q .normal a w := by
    intro listed a w hsz hall hI
    obtain ⟨⟨E, hE', rfl, hX, hEH, hU, hT⟩, hs, hd⟩ := hI
    have hsel : ∀ {α : Type} (us : List (List (Nat × α))) (f : Nat → Option α), us.length = all.length → selF (fun i => listed.getD i false) f 0 us = us.foldl gset f := fun us f hl => by
      have h1 := selF_lt us f 0 us.length
      rw [List.take_of_length_le (Nat.le_refl _)] at h1
      rw [← h1]
      funext k
      refine selF_congr us 0 f f rfl (fun j u hj _ => ?_)
      have hjl : j < us.length := (List.getElem?_eq_some_iff.1 hj).1
      rw [Nat.zero_add, hall j (by omega)]
      exact (by rw [Nat.blt_eq]; omega : Nat.blt j (0 + us.length) = true).symm
    refine hQ E a hE' hX ?_ (fun n hn => ?_) (fun s v hv => ?_) hs hd
    · rw [hEH, hsel _ _ (by simp [hlen]), g2]
    · rcases hU n hn with h | ⟨i, h1, _, h3, h4⟩
      · exact .inl h
      · have := Nat.mul_le_mul_right C.K (show i + 1 ≤ all.length by omega)
        rw [Nat.add_mul] at this
        exact .inr ⟨by omega, by omega⟩
    · refine hT s v ?_
      rw [hsel _ _ (by simp [hlen]), ← g1]
      exact hv
  intro fuel
  induction fuel with
  | zero =>
    intro listed a w hsz hun _ hI
    have hall : ∀ i, i < all.length → listed.getD i false = true := fun i hi => by
      have h0 : (List.range all.length).filter (fun i => !listed.getD i true) = [] := List.eq_nil_of_length_eq_zero hun
      have := List.filter_eq_nil_iff.1 h0 i (List.mem_range.2 hi)
      have hi' : i < listed.size := by omega
      simp [hi'] at this ⊢
      exact this
    refine ⟨?_, close listed a w hsz hall hI⟩
    cases hr : Region.ready .any all.toArray listed with
    | nil => rfl
    | cons i l =>
      have hm : i ∈ Region.ready .any all.toArray listed := by rw [hr]; exact List.mem_cons_self
      obtain ⟨h1, o, h2, _⟩ := mem_ready.1 hm
      have hi : i < all.length := by
        have := (Array.getElem?_eq_some_iff.1 h2).1
        simpa using this
      have h3 := hall i hi
      have hi' : i < listed.size := by omega
      simp [hi'] at h1 h3
      rw [h1] at h3; cases h3
  | succ fuel ih =>
    intro listed a w hsz hun hclosed hI
    refine ⟨fun hr => close listed a w hsz (full listed hsz hr) hI, fun i hi => ?_⟩
    obtain ⟨h1, o, h2, hdir⟩ := mem_ready.1 hi
    have ho : all[i]? = some o := by simpa using h2
    have hil : i < all.length := (List.getElem?_eq_some_iff.1 ho).1
    have his : i < listed.size := by omega
    have hLi : listed.getD i false = false := by simp [his] at h1 ⊢; exact h1
    obtain ⟨r, tm, H, k1, k2, k3, k4⟩ := g3 i o ho
    simp only [Nat.zero_add] at k1 k2 k3 k4
    have hget : ∀ j, (listed.setIfInBounds i true).getD j false = if j = i then true else listed.getD j false := fun j => by
      by_cases e : j = i
      · subst e; simp [his]
      · simp [e, Array.getElem?_setIfInBounds_ne (Ne.symm e), Array.getD_eq_getD_getElem?]
    have hgetT : ∀ j, j ≠ i → (listed.setIfInBounds i true).getD j true = listed.getD j true := fun j e => by
      simp [Array.getElem?_setIfInBounds_ne (Ne.symm e), Array.getD_eq_getD_getElem?]
    refine inv_step hC (E0 := E0) (by rw [hlen]; exact hfr0) (L := fun i => listed.getD i false) (L' := fun j => (listed.setIfInBounds i true).getD j false) ho k1 hLi hget k2 ?_ ?_ (fun j s hs hor => ?_) hI (fun a w hI' => ih _ a w (by simpa using hsz) ?_ ?_ hI')
    · rw [k3]
      have := selF_lt (rf.map updT) (find st.tm) 0 i
      rw [← List.map_take, ] at this
      simpa using this.symm
    · rw [k4]
      have := selF_lt (rf.map Rec.dh) st.H 0 i
      rw [← List.map_take] at this
      simpa using this.symm
    · rcases hor with ⟨hlt, hLj⟩ | ⟨hgt, hLj⟩
      · rcases chkAll_spec rf 0 hck j i s r hlt hs k1 with h | h
        · simp only [Nat.zero_add] at h
          have := ahead_listed hE hclosed i i (Nat.le_refl _) o ho hdir j h
          rw [this] at hLj; cases hLj
        · exact h.symm
      · rcases chkAll_spec rf 0 hck i j r s hgt k1 hs with h | h
        · simp only [Nat.zero_add] at h
          have hjl : j < all.length := by rw [← hlen]; exact (List.getElem?_eq_some_iff.1 hs).1
          have hoj : all[j]? = some all[j] := List.getElem?_eq_getElem hjl
          have := ahead_listed hE hclosed j j (Nat.le_refl _) _ hoj (hclosed j _ hoj hLj) i h
          rw [this] at hLi; cases hLi
        · exact h
    · have := filter_one (p := fun j => !listed.getD j true) (q := fun j => !(listed.setIfInBounds i true).getD j true) (i := i) (by simp [h1]) (by simp [his]) (fun j e => by simp [hgetT j e]) (List.range all.length) List.nodup_range (List.mem_range.2 hil)
      unfold unl at hun ⊢
      omega
    · intro j oj hj hlj e he hb
      rw [hget] at hlj ⊢
      by_cases e1 : e.on = i
      · rw [if_pos e1]
      · rw [if_neg e1]
        by_cases e2 : j = i
        · subst e2
          rw [ho] at hj; cases hj
          exact hdir e he hb
        · rw [if_neg e2] at hlj
          exact hclosed j oj hj hlj e he hb

/-- A region that draws its order, at an environment. -/
theorem draw_env {C : Cfg} (hC : CfgOK P C) (hP : P.follows .mixedOrders = true) {B : Base} {all : List Oper} {st : St} {df : Dl} {rf : List Rec} (hrun : Run C true all st 0 all ⟨[], []⟩ [] df rf) (hE : edgesOK 0 all = true) (hck : chkAll (masks all []) 0 rf = true) {Q : Exit → Act → World → Prop}
    {E : Env} (hE' : HRel B E) (hH : E.H = st.H) {a : Act} (hT : tmOK E (find st.tm) a) (hsz : a.tmps.size = C.N) (hdf : a.defers = [])
    (hfr0 : ∀ n, st.nx ≤ n → n < st.nx + all.length * C.K → ¬ E.U n)
    (hQ : ∀ E' a, HRel B E' → Ext E E' → E'.H = hset st.H df.hp → (∀ n, E'.U n → E.U n ∨ (st.nx ≤ n ∧ n < st.nx + all.length * C.K)) → tmOK E' (find (df.tm ++ st.tm)) a → a.tmps.size = C.N → a.defers = [] → Q .normal a E'.w) (id : Nat) :
    (Code.region id all.toArray true).wp P Q a E.w := by
  refine wp_region_any hP ?_
  obtain ⟨R, X⟩ := step0 hE' { E.w with drawn := E.w.drawn + 1 } rfl rfl rfl rfl
  have hfalse : ∀ i, (Array.replicate all.toArray.size false).getD i false = false := fun i => by
    rcases Nat.lt_or_ge i all.length with h | h
    · simp [h]
    · simp [h]
  have hno : ∀ {α : Type} (us : List (List (Nat × α))) (f : Nat → Option α) (i : Nat), selF (fun i => (Array.replicate all.toArray.size false).getD i false) f i us = f := by
    intro α us
    induction us with
    | nil => intro f i; rfl
    | cons u us ih => intro f i; unfold selF; rw [hfalse]; simp only [Bool.false_eq_true, if_false]; exact ih f _
  refine draw_any hC (E0 := { E with w := { E.w with drawn := E.w.drawn + 1 } }) hrun hE hck hfr0 (fun E1 a1 r1 x1 h1 u1 t1 s1 d1 => hQ E1 a1 r1 (X.trans x1) h1 u1 t1 s1 d1) _ _ a _ (by simp) ?_ (fun j oj hj hl => by rw [hfalse] at hl; cases hl) ⟨⟨_, R, rfl, Ext.refl _, ?_, fun n hn => .inl hn, fun s v hv => ?_⟩, hsz, hdf⟩
  · unfold unl
    have : (List.range all.length).filter (fun i => !(Array.replicate all.toArray.size false).getD i true) = List.range all.length := List.filter_eq_self.2 fun i hi => by
      have := List.mem_range.1 hi
      simp [this]
    rw [this]
    simp
  · rw [hno _ _ _]; exact hH
  · rw [hno] at hv
    exact vrel_ext X _ _ (hT s v hv)

/-- A region that draws its order. -/
theorem draw_sound {C : Cfg} (hC : CfgOK P C) (hP : P.follows .mixedOrders = true) {B : Base} {all : List Oper} {st : St} {df : Dl} {rf : List Rec} (hrun : Run C true all st 0 all ⟨[], []⟩ [] df rf) (hE : edgesOK 0 all = true) (hck : chkAll (masks all []) 0 rf = true) {Q : Exit → Act → World → Prop}
    (hQ : ∀ a w, SRel B C.N (find (df.tm ++ st.tm)) (hset st.H df.hp) (fun n => n < st.nx + all.length * C.K) a w → Q .normal a w) {a : Act} {w : World} (hs : SRel B C.N (find st.tm) st.H (fun n => n < st.nx) a w) (id : Nat) :
    (Code.region id all.toArray true).wp P Q a w := by
  obtain ⟨⟨E, hE', rfl, hH, ⟨hG, hU⟩, hT⟩, hsz, hdf⟩ := hs
  refine draw_env hC hP hrun hE hck hE' hH hT hsz hdf (fun n h1 _ hu => ?_) (fun E1 a1 r1 x1 h1 u1 t1 s1 d1 => hQ _ _ ⟨⟨E1, r1, rfl, h1, ⟨B.clo _ _ hG x1, fun n hn => ?_⟩, t1⟩, s1, d1⟩) id
  · have := hU n hu; omega
  · rcases u1 n hn with h | h
    · have := hU n h; omega
    · exact h.2

end Go.Mir

/- The mirror, part 19: code. -/
namespace Go.Mir
open Go.RowKit

variable {P : Program}

def Tr.pre (d : Dl) : Tr → Tr
  | .leaf e d' nx => .leaf e ⟨d'.tm ++ d.tm, d'.hp ++ d.hp⟩ nx
  | .br b t e => .br b (t.pre d) (e.pre d)
  | .need p t => .need p (t.pre d)
  | .both t u => .both (t.pre d) (u.pre d)
  | .when b t => .when b (t.pre d)
  | .done => .done
  | .bad => .bad

def Tr.graft (k : Dl → Nat → Tr) : Tr → Tr
  | .leaf .nrm d nx => (k d nx).pre d
  | .leaf e d nx => .leaf e d nx
  | .br b t e => .br b (t.graft k) (e.graft k)
  | .need p t => .need p (t.graft k)
  | .both t u => .both (t.graft k) (u.graft k)
  | .when b t => .when b (t.graft k)
  | .done => .done
  | .bad => .bad

def Tr.nN : Tr → Nat
  | .leaf .nrm _ _ => 1
  | .leaf _ _ _ => 0
  | .br _ t e => t.nN + e.nN
  | .need _ t => t.nN
  | .both t u => t.nN + u.nN
  | .when _ t => t.nN
  | .done | .bad => 0

def Tr.cut : Tr → Tr
  | .leaf .nrm _ _ => .done
  | .leaf e d nx => .leaf e d nx
  | .br b t e => .br b t.cut e.cut
  | .need p t => .need p t.cut
  | .both t u => .both t.cut u.cut
  | .when b t => .when b t.cut
  | .done => .done
  | .bad => .bad

/-- nothing but ways to the normal end, and nothing asked -/
def Tr.clean : Tr → Bool
  | .leaf .nrm _ _ => true
  | .br _ t e => t.clean && e.clean
  | _ => false

/-- is the normal end come to: known or not -/
inductive KB where
  | yes | no | is (b : Bool)

def KB.val : KB → Bool
  | .yes => true
  | .no => false
  | .is b => b

def KB.ite (b : Bool) : KB → KB → KB
  | .yes, .yes => .yes
  | .no, .no => .no
  | .yes, .no => .is b
  | .no, .yes => .is (!b)
  | x, y => .is (cond b x.val y.val)
def KB.or : KB → KB → KB
  | .yes, _ => .yes
  | _, .yes => .yes
  | .no, y => y
  | x, .no => x
  | x, y => .is (x.val || y.val)
def KB.and (b : Bool) : KB → KB
  | .yes => .is b
  | .no => .no
  | .is c => .is (b && c)

def Tr.isN : Tr → KB
  | .leaf .nrm _ _ => .yes
  | .leaf _ _ _ => .no
  | .br b t e => KB.ite b t.isN e.isN
  | .need _ t => t.isN
  | .both t u => KB.or t.isN u.isN
  | .when b t => KB.and b t.isN
  | .done | .bad => .no

mutual
def mergeV (p : Bool) : V → V → Option V
  | .any, _ => some .any
  | .hint _ _, _ => some .any
  | .int k a, y => match y with | .int k' b => (if k = k' then some (.int k (cond p a b)) else none) | .any => some .any | _ => none
  | .bool a, y => match y with | .bool b => some (.bool (cond p a b)) | .kb b => some (.bool (cond p a b)) | .any => some .any | _ => none
  | .kb a, y => match y with
    | .bool b => some (.bool (cond p a b))
    | .kb b => (match a, b with | true, true => some (.kb true) | false, false => some (.kb false) | true, false => some (.bool p) | false, true => some (.bool (!p)))
    | .any => some .any
    | _ => none
  | .str a, y => match y with | .str b => some (.str (cond p a b)) | .any => some .any | _ => none
  | .nilptr, y => match y with | .nilptr => some .nilptr | .any => some .any | _ => none
  | .ptr h o, y => match y with | .ptr h' o' => (if h = h' ∧ o = o' then some (.ptr h o) else none) | .any => some .any | _ => none
  | .fp t xs i o, y => match y with | .fp t' ys j o' => (if e : t' = t then (if o = o' then some (.fp t (cond p xs (e ▸ ys)) (cond p i j) o) else none) else none) | .any => some .any | _ => none
  | .rp h ver i o, y => match y with | .rp h' ver' j o' => (if h = h' ∧ ver = ver' ∧ o = o' then some (.rp h ver (cond p i j) o) else none) | .any => some .any | _ => none
  | .nilsl, y => match y with | .nilsl => some .nilsl | .fsl t ys => some (.fsl t (cond p [] ys)) | .any => some .any | _ => none
  | .esl, y => match y with | .esl => some .esl | .any => some .any | _ => none
  | .osl h ver, y => match y with | .osl h' ver' => (if h = h' ∧ ver = ver' then some (.osl h ver) else none) | .any => some .any | _ => none
  | .fsl t xs, y => match y with | .fsl t' ys => (if e : t' = t then some (.fsl t (cond p xs (e ▸ ys))) else none) | .nilsl => some (.fsl t (cond p xs [])) | .any => some .any | _ => none
  | .gsl h ver e o l, y => match y with | .gsl h' ver' e' o' l' => (if h = h' ∧ ver = ver' ∧ e = e' ∧ o = o' ∧ l = l' then some (.gsl h ver e o l) else none) | .any => some .any | _ => none
  | .gp h ver o, y => match y with | .gp h' ver' o' => (if h = h' ∧ ver = ver' ∧ o = o' then some (.gp h ver o) else none) | .any => some .any | _ => none
  | .mpv h, y => match y with | .mpv h' => (if h = h' then some (.mpv h) else none) | .any => some .any | _ => none
  | .nilfn, y => match y with | .nilfn => some .nilfn | .any => some .any | _ => none
  | .nilmap, y => match y with | .nilmap => some .nilmap | .any => some .any | _ => none
  | .fn f cs, y => match y with | .fn f' ds => (if f = f' then (match mergeVs p cs ds with | some l => some (.fn f l) | none => none) else none) | .any => some .any | _ => none
  | .agg cs, y => match y with | .agg ds => (match mergeVs p cs ds with | some l => some (.agg l) | none => none) | .any => some .any | _ => none
  | .tup cs, y => match y with | .tup ds => (match mergeVs p cs ds with | some l => some (.tup l) | none => none) | .any => some .any | _ => none
def mergeVs (p : Bool) : List V → List V → Option (List V)
  | [], [] => some []
  | x :: xs, y :: ys => match mergeV p x y with
    | some v => match mergeVs p xs ys with
      | some l => some (v :: l)
      | none => none
    | none => none
  | _, _ => none
end

/-- what an operation leaves that is not carried out -/
def isUndef : V → Bool
  | .tup [] => true
  | _ => false

def mergeU (p : Bool) (x y : V) : Option V := bif isUndef x || isUndef y then some .any else mergeV p x y

def mergeB (p : Bool) : Blk → Blk → Option Blk
  | .cells cs, .cells ds => match mergeVs p cs ds with | some l => some (.cells l) | none => none
  | .row ver rw t xs, .row ver' rw' t' ys => if e : t' = t then (if ver = ver' ∧ rw = rw' then some (.row ver rw t (cond p xs (e ▸ ys))) else none) else none
  | _, _ => none

/-- the keys of two lists, each once -/
def keysOf {α : Type} : List (Nat × α) → List Nat → List Nat
  | [], acc => acc
  | (k, _) :: r, acc => bif memN acc k then keysOf r acc else keysOf r (k :: acc)

def mergeTm (p : Bool) (t1 t2 : List (Nat × V)) : List Nat → Option (List (Nat × V))
  | [] => some []
  | k :: ks => match mergeU p (lookV t1 k) (lookV t2 k) with
    | some v => match mergeTm p t1 t2 ks with
      | some l => some ((k, v) :: l)
      | none => none
    | none => none

def mergeHp (p : Bool) (H H1 H2 : Heap) : List Nat → Option (List (Nat × Blk))
  | [] => some []
  | k :: ks => match H1 k, H2 k with
    | some b1, some b2 => match mergeB p b1 b2 with
      | some b => match mergeHp p H H1 H2 ks with
        | some l => some ((k, b) :: l)
        | none => none
      | none => none
    | _, _ => match H k with
      | some _ => none
      | none => mergeHp p H H1 H2 ks

def mergeDl (p : Bool) (st : St) (d1 d2 : Dl) : Option Dl :=
  match mergeTm p (d1.tm ++ st.tm) (d2.tm ++ st.tm) (keysOf d1.tm (keysOf d2.tm [])) with
  | some tm => match mergeHp p st.H (hset st.H d1.hp) (hset st.H d2.hp) (keysOf d1.hp (keysOf d2.hp [])) with
    | some hp => some ⟨tm, hp⟩
    | none => none
  | none => none

/-- the normal ends in one -/
def Tr.mrg (st : St) : Tr → Option (Option (Dl × Nat))
  | .leaf .nrm d nx => some (some (d, nx))
  | .leaf _ _ _ => some none
  | .br b t e => match t.mrg st, e.mrg st with
    | some none, r => r
    | r, some none => r
    | some (some (d1, n1)), some (some (d2, n2)) => match mergeDl b st d1 d2 with
      | some d => some (some (d, Nat.max n1 n2))
      | none => none
    | _, _ => none
  | .need _ t => t.mrg st
  | .both t u => match t.mrg st, u.mrg st with
    | some none, r => r
    | r, some none => r
    | _, _ => none
  | .when _ t => t.mrg st
  | .done | .bad => some none

def seqT (st : St) (t : Tr) (k : Dl → Nat → Tr) : Tr :=
  bif Nat.ble t.nN 1 then t.graft k
  else match t.mrg st with
    | some (some (d, nx)) => bif t.clean then (k d nx).pre d else .both t.cut (.when t.isN.val ((k d nx).pre d))
    | _ => t.graft k

def Tr.catch (id : Nat) : Tr → Tr
  | .leaf (.ext id') d nx => if id' = id then .leaf .nrm d nx else .leaf (.ext id') d nx
  | .leaf e d nx => .leaf e d nx
  | .br b t e => .br b (t.catch id) (e.catch id)
  | .need p t => .need p (t.catch id)
  | .both t u => .both (t.catch id) (u.catch id)
  | .when b t => .when b (t.catch id)
  | .done => .done
  | .bad => .bad

/-- the number of the first region -/
def ridO : Code → Option Nat
  | .region id _ _ => some id
  | .seq a b => match ridO a with | some n => some n | none => ridO b
  | .cond _ a b => match ridO a with | some n => some n | none => ridO b
  | .block _ b => ridO b
  | .loop b => ridO b
  | _ => none
def rid (c : Code) : Nat := match ridO c with | some n => n | none => 0

structure LoopSum where
  pre : St → Prop
  T : St → Tr

/-- round after round -/
def unroll (f : St → Tr) : Nat → St → Tr
  | 0, _ => .bad
  | n + 1, st => seqT st (f st) fun d nx => unroll f n (st.app d nx)

/-- so many rounds are carried out, of a loop without a summary -/
def ROUNDS : Nat := 100000

/-- the same, where every Bool that a way hangs on is a known one -/
def evCodeS (C : Cfg) (Λ : Nat → Option LoopSum) : Code → St → Tr
  | .skip, st => .leaf .nrm ⟨[], []⟩ st.nx
  | .region _ ops dr, st => evOps C dr ops.toList st 0 ops.toList ⟨[], []⟩ []
  | .seq a b, st => seqT st (evCodeS C Λ a st) fun d nx => evCodeS C Λ b (st.app d nx)
  | .cond c x y, st => match opnd st.tm c with
    | .kb true => evCodeS C Λ x st
    | .kb false => evCodeS C Λ y st
    | .bool b => match b with | true => evCodeS C Λ x st | false => evCodeS C Λ y st
    | .hint q true => .both (.when q (evCodeS C Λ x st)) (evCodeS C Λ y st)
    | .hint q false => .both (.when q (evCodeS C Λ y st)) (evCodeS C Λ x st)
    | _ => .bad
  | .block id b, st => (evCodeS C Λ b st).catch id
  | .loop b, st => match Λ (rid b) with
    | some L => .need (L.pre st) (L.T st)
    | none => unroll (evCodeS C Λ b) ROUNDS st
  | .exit id, st => .leaf (.ext id) ⟨[], []⟩ st.nx
  | .ret, st => .leaf .ret ⟨[], []⟩ st.nx
  | _, _ => .bad

def evCode (C : Cfg) (Λ : Nat → Option LoopSum) : Code → St → Tr
  | .skip, st => .leaf .nrm ⟨[], []⟩ st.nx
  | .region _ ops dr, st => evOps C dr ops.toList st 0 ops.toList ⟨[], []⟩ []
  | .seq a b, st => seqT st (evCode C Λ a st) fun d nx => evCode C Λ b (st.app d nx)
  | .cond c x y, st => match opnd st.tm c with
    | .kb true => evCode C Λ x st
    | .kb false => evCode C Λ y st
    | .bool b => .br b (evCode C Λ x st) (evCode C Λ y st)
    | .hint q true => .both (.when q (evCode C Λ x st)) (evCode C Λ y st)
    | .hint q false => .both (.when q (evCode C Λ y st)) (evCode C Λ x st)
    | _ => .bad
  | .block id b, st => (evCode C Λ b st).catch id
  | .loop b, st => match Λ (rid b) with
    | some L => .need (L.pre st) (L.T st)
    | none => unroll (evCodeS C Λ b) ROUNDS st
  | .exit id, st => .leaf (.ext id) ⟨[], []⟩ st.nx
  | .ret, st => .leaf .ret ⟨[], []⟩ st.nx
  | _, _ => .bad

/-- the loops that are come to: those inside a loop with a summary are not -/
def loopsIn (Λ : Nat → Option LoopSum) : Code → List Code
  | .seq a b => loopsIn Λ a ++ loopsIn Λ b
  | .cond _ a b => loopsIn Λ a ++ loopsIn Λ b
  | .block _ b => loopsIn Λ b
  | .loop b => b :: (match Λ (rid b) with | some _ => [] | none => loopsIn Λ b)
  | _ => []

def loopsOf : Code → List Code
  | .seq a b => loopsOf a ++ loopsOf b
  | .cond _ a b => loopsOf a ++ loopsOf b
  | .block _ b => loopsOf b
  | .loop b => [b]
  | _ => []

end Go.Mir

/- The mirror, part 20: where ways meet again. -/
namespace Go.Mir
open Go.RowKit

variable {P : Program}

theorem cond_t {α : Sort _} (a b : α) : cond true a b = a := rfl
theorem cond_f {α : Sort _} (a b : α) : cond false a b = b := rfl

set_option maxHeartbeats 1000000 in
mutual
theorem mergeV_sound {E : Env} {p : Bool} : ∀ (x y v : V) (u : Value), mergeV p x y = some v → (p = true → vrel E x u) → (p = false → vrel E y u) → vrel E v u
  | .any, y, v, u, h, _, _ => by simp only [mergeV, Option.some.injEq] at h; subst h; simp [vrel]
  | .int k a, y, v, u, h, h1, h2 => by
    cases y <;> simp only [mergeV, reduceCtorEq, Option.some.injEq] at h
    case any => subst h; simp [vrel]
    case int k' b =>
      split at h
      case isFalse => cases h
      rename_i e; subst e
      cases h
      cases p
      · exact h2 rfl
      · exact h1 rfl
  | .bool a, y, v, u, h, h1, h2 => by
    cases y <;> simp only [mergeV, reduceCtorEq, Option.some.injEq] at h
    case any => subst h; simp [vrel]
    all_goals (subst h; cases p <;> first | exact h1 rfl | (have := h2 rfl; simpa [vrel] using this))
  | .kb a, y, v, u, h, h1, h2 => by
    cases y <;> simp only [mergeV, reduceCtorEq, Option.some.injEq] at h
    case any => subst h; simp [vrel]
    case bool b => subst h; cases p <;> first | (have := h1 rfl; simpa [vrel] using this) | (have := h2 rfl; simpa [vrel] using this)
    case kb b =>
      cases a <;> cases b <;> simp only [Option.some.injEq] at h <;> subst h <;> cases p <;> first | (have := h1 rfl; simpa [vrel] using this) | (have := h2 rfl; simpa [vrel] using this)
  | .str a, y, v, u, h, h1, h2 => by
    cases y <;> simp only [mergeV, reduceCtorEq, Option.some.injEq] at h
    case any => subst h; simp [vrel]
    case str b => subst h; cases p <;> first | exact h1 rfl | exact h2 rfl
  | .nilptr, y, v, u, h, h1, h2 => by
    cases y <;> simp only [mergeV, reduceCtorEq, Option.some.injEq] at h
    case any => subst h; simp [vrel]
    case nilptr => subst h; cases p <;> first | exact h1 rfl | exact h2 rfl
  | .ptr hh o, y, v, u, h, h1, h2 => by
    cases y <;> simp only [mergeV, reduceCtorEq, Option.some.injEq] at h
    case any => subst h; simp [vrel]
    case ptr h' o' =>
      split at h
      case isFalse => cases h
      rename_i e; obtain ⟨rfl, rfl⟩ := e
      cases h
      cases p <;> first | exact h1 rfl | exact h2 rfl
  | .fp t xs i o, y, v, u, h, h1, h2 => by
    cases y <;> simp only [mergeV, reduceCtorEq, Option.some.injEq] at h
    case any => subst h; simp [vrel]
    case fp t' ys j o' =>
      split at h
      case isFalse => cases h
      rename_i e; subst e
      split at h
      case isFalse => cases h
      rename_i e; subst e
      cases h
      cases p <;> first | exact h1 rfl | exact h2 rfl
  | .rp hh ver i o, y, v, u, h, h1, h2 => by
    cases y <;> simp only [mergeV, reduceCtorEq, Option.some.injEq] at h
    case any => subst h; simp [vrel]
    case rp h' ver' j o' =>
      split at h
      case isFalse => cases h
      rename_i e; obtain ⟨rfl, rfl, rfl⟩ := e
      cases h
      cases p <;> first | exact h1 rfl | exact h2 rfl
  | .nilsl, y, v, u, h, h1, h2 => by
    cases y <;> simp only [mergeV, reduceCtorEq, Option.some.injEq] at h
    case any => subst h; simp [vrel]
    case nilsl => subst h; cases p <;> first | exact h1 rfl | exact h2 rfl
    case fsl t ys =>
      subst h
      cases p
      · exact h2 rfl
      · have := h1 rfl
        simp only [vrel] at this ⊢
        subst this
        exact .nil
  | .esl, y, v, u, h, h1, h2 => by
    cases y <;> simp only [mergeV, reduceCtorEq, Option.some.injEq] at h
    case any => subst h; simp [vrel]
    case esl => subst h; cases p <;> first | exact h1 rfl | exact h2 rfl
  | .osl hh ver, y, v, u, h, h1, h2 => by
    cases y <;> simp only [mergeV, reduceCtorEq, Option.some.injEq] at h
    case any => subst h; simp [vrel]
    case osl h' ver' =>
      split at h
      case isFalse => cases h
      rename_i e; obtain ⟨rfl, rfl⟩ := e
      cases h
      cases p <;> first | exact h1 rfl | exact h2 rfl
  | .fsl t xs, y, v, u, h, h1, h2 => by
    cases y <;> simp only [mergeV, reduceCtorEq, Option.some.injEq] at h
    case any => subst h; simp [vrel]
    case fsl t' ys =>
      split at h
      case isFalse => cases h
      rename_i e; subst e
      cases h
      cases p <;> first | exact h1 rfl | exact h2 rfl
    case nilsl =>
      subst h
      cases p
      · have := h2 rfl
        simp only [vrel] at this ⊢
        subst this
        exact .nil
      · exact h1 rfl
  | .hint _ _, y, v, u, h, h1, h2 => by
    simp only [mergeV, Option.some.injEq] at h
    subst h; simp [vrel]
  | .gsl hh ver e o l, y, v, u, h, h1, h2 => by
    cases y <;> simp only [mergeV, reduceCtorEq, Option.some.injEq] at h
    case any => subst h; simp [vrel]
    case gsl h' ver' e' o' l' =>
      split at h
      case isFalse => cases h
      rename_i e; obtain ⟨rfl, rfl, rfl, rfl, rfl⟩ := e
      cases h
      cases p <;> first | exact h1 rfl | exact h2 rfl
  | .gp hh ver o, y, v, u, h, h1, h2 => by
    cases y <;> simp only [mergeV, reduceCtorEq, Option.some.injEq] at h
    case any => subst h; simp [vrel]
    case gp h' ver' o' =>
      split at h
      case isFalse => cases h
      rename_i e; obtain ⟨rfl, rfl, rfl⟩ := e
      cases h
      cases p <;> first | exact h1 rfl | exact h2 rfl
  | .mpv hh, y, v, u, h, h1, h2 => by
    cases y <;> simp only [mergeV, reduceCtorEq, Option.some.injEq] at h
    case any => subst h; simp [vrel]
    case mpv h' =>
      split at h
      case isFalse => cases h
      rename_i e; subst e
      cases h
      cases p <;> first | exact h1 rfl | exact h2 rfl
  | .nilfn, y, v, u, h, h1, h2 => by
    cases y <;> simp only [mergeV, reduceCtorEq, Option.some.injEq] at h
    case any => subst h; simp [vrel]
    case nilfn => subst h; cases p <;> first | exact h1 rfl | exact h2 rfl
  | .nilmap, y, v, u, h, h1, h2 => by
    cases y <;> simp only [mergeV, reduceCtorEq, Option.some.injEq] at h
    case any => subst h; simp [vrel]
    case nilmap => subst h; cases p <;> first | exact h1 rfl | exact h2 rfl
  | .fn f cs, y, v, u, h, h1, h2 => by
    cases y <;> simp only [mergeV, reduceCtorEq, Option.some.injEq] at h
    case any => subst h; simp [vrel]
    case fn f' ds =>
      split at h
      case isFalse => cases h
      rename_i e; subst e
      split at h
      case h_2 => cases h
      rename_i l hl
      cases h
      simp only [vrel] at h1 h2 ⊢
      cases p with
      | true =>
        obtain ⟨l', e1, e2⟩ := h1 rfl
        exact ⟨l', e1, mergeVs_sound cs ds l l'.toList hl (fun _ => e2) (fun e => by cases e)⟩
      | false =>
        obtain ⟨l', e1, e2⟩ := h2 rfl
        exact ⟨l', e1, mergeVs_sound cs ds l l'.toList hl (fun e => by cases e) (fun _ => e2)⟩
  | .agg cs, y, v, u, h, h1, h2 => by
    cases y <;> simp only [mergeV, reduceCtorEq, Option.some.injEq] at h
    case any => subst h; simp [vrel]
    case agg ds =>
      split at h
      case h_2 => cases h
      rename_i l hl
      cases h
      simp only [vrel] at h1 h2 ⊢
      cases p with
      | true =>
        obtain ⟨l', e1, e2⟩ := h1 rfl
        exact ⟨l', e1, mergeVs_sound cs ds l l'.toList hl (fun _ => e2) (fun e => by cases e)⟩
      | false =>
        obtain ⟨l', e1, e2⟩ := h2 rfl
        exact ⟨l', e1, mergeVs_sound cs ds l l'.toList hl (fun e => by cases e) (fun _ => e2)⟩
  | .tup cs, y, v, u, h, h1, h2 => by
    cases y <;> simp only [mergeV, reduceCtorEq, Option.some.injEq] at h
    case any => subst h; simp [vrel]
    case tup ds =>
      split at h
      case h_2 => cases h
      rename_i l hl
      cases h
      simp only [vrel] at h1 h2 ⊢
      cases p with
      | true =>
        obtain ⟨l', e1, e2⟩ := h1 rfl
        exact ⟨l', e1, mergeVs_sound cs ds l l'.toList hl (fun _ => e2) (fun e => by cases e)⟩
      | false =>
        obtain ⟨l', e1, e2⟩ := h2 rfl
        exact ⟨l', e1, mergeVs_sound cs ds l l'.toList hl (fun e => by cases e) (fun _ => e2)⟩
theorem mergeVs_sound {E : Env} {p : Bool} : ∀ (xs ys l : List V) (us : List Value), mergeVs p xs ys = some l → (p = true → vrels E xs us) → (p = false → vrels E ys us) → vrels E l us
  | [], [], l, us, h, h1, h2 => by
    simp only [mergeVs, Option.some.injEq] at h
    subst h
    cases p
    · exact h2 rfl
    · exact h1 rfl
  | _ :: _, [], l, us, h, _, _ => by simp [mergeVs] at h
  | [], _ :: _, l, us, h, _, _ => by simp [mergeVs] at h
  | x :: xs, y :: ys, l, us, h, h1, h2 => by
    simp only [mergeVs] at h
    split at h
    case h_2 => cases h
    rename_i v hv
    split at h
    case h_2 => cases h
    rename_i l' hl
    cases h
    cases us with
    | nil =>
      cases p
      · have := h2 rfl; simp [vrels] at this
      · have := h1 rfl; simp [vrels] at this
    | cons u us =>
      simp only [vrels] at h1 h2 ⊢
      exact ⟨mergeV_sound x y v u hv (fun e => (h1 e).1) (fun e => (h2 e).1), mergeVs_sound xs ys l' us hl (fun e => (h1 e).2) (fun e => (h2 e).2)⟩
end

/-- a weaker heap: blocks dropped, cells known less -/
theorem HRel.weak {B : Base} {E : Env} (hE : HRel B E) (H' : Heap) (h : ∀ h k', H' h = some k' → ∃ k, E.H h = some k ∧ (k' = k ∨ ∃ cs cs', k = .cells cs ∧ k' = .cells cs' ∧ ∀ l, vrels E cs l → vrels E cs' l)) :
    HRel B { E with H := H' } ∧ Ext E { E with H := H' } := by
  have X : Ext E { E with H := H' } := by
    refine ⟨fun _ h => h, fun _ h => h, fun _ _ => rfl, fun hh cs _ hx => ?_, fun hh ver rw t xs _ _ hx => ?_, fun hh ver esz cs _ _ hx => ?_, fun hh es _ hx => ?_⟩
    · obtain ⟨k, h1, h2⟩ := h _ _ hx
      rcases h2 with h2 | ⟨cs1, cs2, h2, h3, _⟩
      · subst h2; exact ⟨⟨_, h1⟩, rfl⟩
      · subst h2; exact ⟨⟨_, h1⟩, rfl⟩
    · obtain ⟨k, h1, h2⟩ := h _ _ hx
      rcases h2 with h2 | ⟨cs1, cs2, h2, h3, _⟩
      · subst h2; exact ⟨rw, xs, h1, rfl, rfl, fun b c T fr _ hw => ⟨c, T, fr, hw, rfl⟩⟩
      · cases h3
    · obtain ⟨k, h1, h2⟩ := h _ _ hx
      rcases h2 with h2 | ⟨cs1, cs2, h2, h3, _⟩
      · subst h2; exact ⟨cs, h1, rfl, rfl, fun b c T fr _ hw => ⟨c, T, fr, hw, rfl⟩⟩
      · cases h3
    · obtain ⟨k, h1, h2⟩ := h _ _ hx
      rcases h2 with h2 | ⟨cs1, cs2, h2, h3, _⟩
      · subst h2; exact ⟨⟨es, h1⟩, rfl⟩
      · cases h3
  refine ⟨⟨fun hh b hx => ?_, hE.stab, fun hh k b hx hb => ?_, fun h1 h2 k1 k2 b x1 x2 b1 b2 => ?_, fun hh k hx => ?_, hE.keeps, fun hh k b hx hb => ?_, hE.s0, hE.sb⟩, X⟩
  · obtain ⟨k, h1, _⟩ := h _ _ hx; exact hE.used _ _ h1
  · obtain ⟨k, h1, _⟩ := h _ _ hx; exact hE.lt _ _ _ h1 hb
  · obtain ⟨_, y1, _⟩ := h _ _ x1
    obtain ⟨_, y2, _⟩ := h _ _ x2
    exact hE.inj _ _ _ _ _ y1 y2 b1 b2
  · obtain ⟨k0, h1, h2⟩ := h _ _ hx
    rcases h2 with h2 | ⟨cs1, cs2, h2, h3, h4⟩
    · subst h2; exact brel_ext X rfl (fun _ _ => rfl) (fun _ _ _ h => h) (hE.blk _ _ h1)
    · subst h2; subst h3
      obtain ⟨b, c, T, fr, g1, g2, g3, g4, g5⟩ := hE.blk _ _ h1
      exact ⟨b, c, T, fr, g1, g2, g3, g4, vrels_ext X _ _ (h4 _ g5)⟩
  · obtain ⟨k, h1, _⟩ := h _ _ hx; exact hE.own _ _ _ h1 hb

theorem keysOf_mem {α : Type} : ∀ (l : List (Nat × α)) (acc : List Nat) (k : Nat), (k ∈ acc ∨ find l k ≠ none) → k ∈ keysOf l acc
  | [], acc, k, h => by
    rcases h with h | h
    · exact h
    · simp [find] at h
  | (a, b) :: l, acc, k, h => by
    unfold keysOf
    cases hm : memN acc a with
    | true =>
      refine keysOf_mem l acc k ?_
      rcases h with h | h
      · exact .inl h
      · simp only [find] at h
        cases hb : Nat.beq a k with
        | true => obtain rfl := Nat.eq_of_beq_eq_true hb; exact .inl (memN_iff.1 hm)
        | false => rw [hb] at h; exact .inr h
    | false =>
      refine keysOf_mem l (a :: acc) k ?_
      rcases h with h | h
      · exact .inl (List.mem_cons_of_mem _ h)
      · simp only [find] at h
        cases hb : Nat.beq a k with
        | true => obtain rfl := Nat.eq_of_beq_eq_true hb; exact .inl List.mem_cons_self
        | false => rw [hb] at h; exact .inr h

theorem mergeU_sound {E : Env} {p : Bool} {x y v : V} {u : Value} (h : mergeU p x y = some v) (h1 : p = true → vrel E x u) (h2 : p = false → vrel E y u) : vrel E v u := by
  unfold mergeU at h
  cases hb : isUndef x || isUndef y with
  | true => rw [hb] at h; simp only [cond_true, Option.some.injEq] at h; subst h; simp [vrel]
  | false => rw [hb] at h; exact mergeV_sound _ _ _ _ h h1 h2

theorem mergeTm_spec {p : Bool} {t1 t2 : List (Nat × V)} : ∀ {ks : List Nat} {l : List (Nat × V)}, mergeTm p t1 t2 ks = some l → ∀ s v, find l s = some v → s ∈ ks ∧ mergeU p (lookV t1 s) (lookV t2 s) = some v
  | [], l, h, s, v, hf => by simp only [mergeTm, Option.some.injEq] at h; subst h; simp [find] at hf
  | k :: ks, l, h, s, v, hf => by
    simp only [mergeTm] at h
    split at h
    case h_2 => cases h
    rename_i v0 hv
    split at h
    case h_2 => cases h
    rename_i l' hl
    cases h
    simp only [find] at hf
    cases hb : Nat.beq k s with
    | true =>
      obtain rfl := Nat.eq_of_beq_eq_true hb
      rw [hb] at hf; simp only [cond_true, Option.some.injEq] at hf; subst hf
      exact ⟨List.mem_cons_self, hv⟩
    | false =>
      rw [hb] at hf
      obtain ⟨h1, h2⟩ := mergeTm_spec hl s v hf
      exact ⟨List.mem_cons_of_mem _ h1, h2⟩

theorem mergeTm_none {p : Bool} {t1 t2 : List (Nat × V)} : ∀ {ks : List Nat} {l : List (Nat × V)}, mergeTm p t1 t2 ks = some l → ∀ s, find l s = none → s ∉ ks
  | [], l, h, s, hf => by simp
  | k :: ks, l, h, s, hf => by
    simp only [mergeTm] at h
    split at h
    case h_2 => cases h
    split at h
    case h_2 => cases h
    rename_i l' hl
    cases h
    simp only [find] at hf
    cases hb : Nat.beq k s with
    | true => rw [hb] at hf; cases hf
    | false =>
      rw [hb] at hf
      intro hm
      rcases List.mem_cons.1 hm with rfl | hm
      · rw [Nat.beq_refl] at hb; cases hb
      · exact mergeTm_none hl s hf hm

theorem mergeHp_spec {p : Bool} {H H1 H2 : Heap} : ∀ {ks : List Nat} {l : List (Nat × Blk)}, mergeHp p H H1 H2 ks = some l →
    (∀ h b, find l h = some b → ∃ b1 b2, H1 h = some b1 ∧ H2 h = some b2 ∧ mergeB p b1 b2 = some b) ∧ (∀ h, find l h = none → h ∈ ks → H h = none)
  | [], l, h => by simp only [mergeHp, Option.some.injEq] at h; subst h; exact ⟨fun h b hf => by simp [find] at hf, fun h _ hm => by simp at hm⟩
  | k :: ks, l, h => by
    simp only [mergeHp] at h
    split at h
    · rename_i b1 b2 e1 e2
      split at h
      case h_2 => cases h
      rename_i b hb
      split at h
      case h_2 => cases h
      rename_i l' hl
      cases h
      obtain ⟨g1, g2⟩ := mergeHp_spec hl
      refine ⟨fun h b' hf => ?_, fun h hf hm => ?_⟩
      · simp only [find] at hf
        cases hbq : Nat.beq k h with
        | true =>
          obtain rfl := Nat.eq_of_beq_eq_true hbq
          rw [hbq] at hf; simp only [cond_true, Option.some.injEq] at hf; subst hf
          exact ⟨b1, b2, e1, e2, hb⟩
        | false => rw [hbq] at hf; exact g1 h b' hf
      · simp only [find] at hf
        cases hbq : Nat.beq k h with
        | true => rw [hbq] at hf; cases hf
        | false =>
          rw [hbq] at hf
          rcases List.mem_cons.1 hm with rfl | hm
          · rw [Nat.beq_refl] at hbq; cases hbq
          · exact g2 h hf hm
    · split at h
      · cases h
      · rename_i hH
        obtain ⟨g1, g2⟩ := mergeHp_spec h
        refine ⟨g1, fun h hf hm => ?_⟩
        rcases List.mem_cons.1 hm with rfl | hm
        · exact hH
        · exact g2 h hf hm

theorem mergeB_sound {E : Env} {p : Bool} {b1 b2 b : Blk} (h : mergeB p b1 b2 = some b) :
    (p = true → b = b1 ∨ ∃ cs cs', b1 = .cells cs ∧ b = .cells cs' ∧ ∀ l, vrels E cs l → vrels E cs' l) ∧ (p = false → b = b2 ∨ ∃ cs cs', b2 = .cells cs ∧ b = .cells cs' ∧ ∀ l, vrels E cs l → vrels E cs' l) := by
  unfold mergeB at h
  split at h
  · rename_i cs ds
    split at h
    case h_2 => cases h
    rename_i l hl
    cases h
    exact ⟨fun e => .inr ⟨cs, l, rfl, rfl, fun us hu => mergeVs_sound cs ds l us hl (fun _ => hu) (fun e' => by rw [e] at e'; cases e')⟩, fun e => .inr ⟨ds, l, rfl, rfl, fun us hu => mergeVs_sound cs ds l us hl (fun e' => by rw [e] at e'; cases e') (fun _ => hu)⟩⟩
  · split at h
    case isFalse => cases h
    rename_i e
    subst e
    split at h
    case isFalse => cases h
    rename_i e
    obtain ⟨rfl, rfl⟩ := e
    cases h
    exact ⟨fun e => .inl (by subst e; rfl), fun e => .inl (by subst e; rfl)⟩
  · cases h

theorem SRel.weak {B : Base} {N : Nat} {T T' : Nat → Option V} {H H' : Heap} {U U' : Nat → Prop} {a : Act} {w : World} (hs : SRel B N T H U a w) (hU : ∀ n, U n → U' n)
    (hH : ∀ E : Env, E.H = H → ∀ h k', H' h = some k' → ∃ k, H h = some k ∧ (k' = k ∨ ∃ cs cs', k = .cells cs ∧ k' = .cells cs' ∧ ∀ l, vrels E cs l → vrels E cs' l))
    (hT : ∀ E : Env, tmOK E T a → ∀ s v, T' s = some v → vrel E v (a.tmps.getD s undef)) : SRel B N T' H' U' a w := by
  obtain ⟨⟨E, hE, rfl, hEH, ⟨hG, hEU⟩, hET⟩, hsz, hd⟩ := hs
  obtain ⟨R, X⟩ := hE.weak H' (fun h k' hx => by rw [hEH]; exact hH E hEH h k' hx)
  exact ⟨⟨_, R, rfl, rfl, ⟨B.clo _ _ hG X, fun n hn => hU n (hEU n hn)⟩, fun s v hv => vrel_ext X _ _ (hT E hET s v hv)⟩, hsz, hd⟩

/-- both ways come to the merged state -/
theorem mergeDl_sound {B : Base} {N : Nat} {p : Bool} {st : St} {d1 d2 d : Dl} (h : mergeDl p st d1 d2 = some d) {U U' : Nat → Prop} (hU : ∀ n, U n → U' n) {a : Act} {w : World} :
    (p = true → SRel B N (find (d1.tm ++ st.tm)) (hset st.H d1.hp) U a w → SRel B N (find (d.tm ++ st.tm)) (hset st.H d.hp) U' a w) ∧
    (p = false → SRel B N (find (d2.tm ++ st.tm)) (hset st.H d2.hp) U a w → SRel B N (find (d.tm ++ st.tm)) (hset st.H d.hp) U' a w) := by
  unfold mergeDl at h
  split at h
  case h_2 => cases h
  rename_i tm htm
  split at h
  case h_2 => cases h
  rename_i hp hhp
  cases h
  obtain ⟨g1, g2⟩ := mergeHp_spec hhp
  have hTn : ∀ s, find tm s = none → find d1.tm s = none ∧ find d2.tm s = none := fun s hs => by
    have hn := mergeTm_none htm s hs
    constructor
    · cases hf : find d1.tm s with
      | none => rfl
      | some v => exact absurd (keysOf_mem _ _ _ (.inr (by rw [hf]; simp))) hn
    · cases hf : find d2.tm s with
      | none => rfl
      | some v => exact absurd (keysOf_mem _ _ _ (.inl (keysOf_mem _ _ _ (.inr (by rw [hf]; simp))))) hn
  have hHn : ∀ h, find hp h = none → (find d1.hp h = none ∧ find d2.hp h = none) ∨ st.H h = none := fun h hs => by
    by_cases hm : h ∈ keysOf d1.hp (keysOf d2.hp [])
    · exact .inr (g2 h hs hm)
    · left
      constructor
      · cases hf : find d1.hp h with
        | none => rfl
        | some v => exact absurd (keysOf_mem _ _ _ (.inr (by rw [hf]; simp))) hm
      · cases hf : find d2.hp h with
        | none => rfl
        | some v => exact absurd (keysOf_mem _ _ _ (.inl (keysOf_mem _ _ _ (.inr (by rw [hf]; simp))))) hm
  refine ⟨fun hp1 hs => hs.weak hU (fun E hEH h k' hx => ?_) (fun E hE s v hv => ?_), fun hp1 hs => hs.weak hU (fun E hEH h k' hx => ?_) (fun E hE s v hv => ?_)⟩
  · simp only [hset] at hx ⊢
    cases hf : find hp h with
    | some b =>
      rw [hf] at hx
      simp only [Option.some.injEq] at hx
      subst hx
      obtain ⟨b1, b2, e1, e2, e3⟩ := g1 h b hf
      exact ⟨b1, by simpa [hset] using e1, (mergeB_sound (E := E) e3).1 hp1⟩
    | none =>
      rw [hf] at hx
      rcases hHn h hf with ⟨h1, h2⟩ | h1
      · rw [h1]; exact ⟨k', hx, .inl rfl⟩
      · simp only at hx; rw [h1] at hx; cases hx
  · rw [find_append] at hv
    cases hf : find tm s with
    | some x =>
      rw [hf] at hv
      simp only [Option.some.injEq] at hv
      subst hv
      exact mergeU_sound (mergeTm_spec htm s x hf).2 (fun _ => lookV_sound hE s) (fun e => by rw [hp1] at e; cases e)
    | none =>
      rw [hf] at hv
      refine hE s v ?_
      rw [find_append, (hTn s hf).1]; exact hv
  · simp only [hset] at hx ⊢
    cases hf : find hp h with
    | some b =>
      rw [hf] at hx
      simp only [Option.some.injEq] at hx
      subst hx
      obtain ⟨b1, b2, e1, e2, e3⟩ := g1 h b hf
      exact ⟨b2, by simpa [hset] using e2, (mergeB_sound (E := E) e3).2 hp1⟩
    | none =>
      rw [hf] at hx
      rcases hHn h hf with ⟨h1, h2⟩ | h1
      · rw [h2]; exact ⟨k', hx, .inl rfl⟩
      · simp only at hx; rw [h1] at hx; cases hx
  · rw [find_append] at hv
    cases hf : find tm s with
    | some x =>
      rw [hf] at hv
      simp only [Option.some.injEq] at hv
      subst hv
      exact mergeU_sound (mergeTm_spec htm s x hf).2 (fun e => by rw [hp1] at e; cases e) (fun _ => lookV_sound hE s)
    | none =>
      rw [hf] at hv
      refine hE s v ?_
      rw [find_append, (hTn s hf).2]; exact hv

end Go.Mir

/- The mirror, part 21: code is sound. -/
namespace Go.Mir
open Go.RowKit

variable {P : Program}

/-- what a leaf's delta leaves of a state -/
def at_ (B : Base) (N : Nat) (st : St) (d : Dl) (nx : Nat) (a : Act) (w : World) : Prop := SRel B N (find (d.tm ++ st.tm)) (hset st.H d.hp) (fun n => n < nx) a w
def here (B : Base) (N : Nat) (st : St) (a : Act) (w : World) : Prop := SRel B N (find st.tm) st.H (fun n => n < st.nx) a w

theorem at_here {B : Base} {N : Nat} {st : St} {d : Dl} {nx : Nat} {a : Act} {w : World} : at_ B N st d nx a w ↔ here B N (st.app d nx) a w := by
  unfold at_ here St.app St.H
  rw [hset_append]

theorem at_pre {B : Base} {N : Nat} {st : St} {d d' : Dl} {nx nx' : Nat} {a : Act} {w : World} : at_ B N (st.app d nx) d' nx' a w ↔ at_ B N st ⟨d'.tm ++ d.tm, d'.hp ++ d.hp⟩ nx' a w := by
  unfold at_ St.app St.H
  simp only [hset_append, List.append_assoc]

def exitOf : Lf → Exit
  | .nrm => .normal
  | .ext id => .exit id
  | .ret => .ret

theorem pre_sat {Q : Lf → Dl → Nat → Prop} {d : Dl} : ∀ {t : Tr}, (t.pre d).sat Q ↔ t.sat fun e d' nx => Q e ⟨d'.tm ++ d.tm, d'.hp ++ d.hp⟩ nx
  | .leaf _ _ _ => Iff.rfl
  | .br b t e => by simp only [Tr.pre, Tr.sat, pre_sat (t := t), pre_sat (t := e)]
  | .need p t => by simp only [Tr.pre, Tr.sat, pre_sat (t := t)]
  | .both t u => by simp only [Tr.pre, Tr.sat, pre_sat (t := t), pre_sat (t := u)]
  | .when b t => by simp only [Tr.pre, Tr.sat, pre_sat (t := t)]
  | .done => Iff.rfl
  | .bad => Iff.rfl

theorem Tr.sat_mono {Q Q' : Lf → Dl → Nat → Prop} (h : ∀ e d nx, Q e d nx → Q' e d nx) : ∀ {t : Tr}, t.sat Q → t.sat Q'
  | .leaf _ _ _, hs => h _ _ _ hs
  | .br _ _ _, hs => ⟨fun hb => sat_mono h (hs.1 hb), fun hb => sat_mono h (hs.2 hb)⟩
  | .need _ _, hs => ⟨hs.1, sat_mono h hs.2⟩
  | .both _ _, hs => ⟨sat_mono h hs.1, sat_mono h hs.2⟩
  | .when _ _, hs => fun hb => sat_mono h (hs hb)
  | .done, hs => hs
  | .bad, hs => hs

/-- a tree, its normal ends going on otherwise -/
def thenQ (Y : Dl → Nat → Prop) (Q : Lf → Dl → Nat → Prop) : Lf → Dl → Nat → Prop
  | .nrm, d, nx => Y d nx
  | e, d, nx => Q e d nx

theorem graft_sat {Q : Lf → Dl → Nat → Prop} {k : Dl → Nat → Tr} : ∀ {t : Tr}, (t.graft k).sat Q → t.sat (thenQ (fun d nx => ((k d nx).pre d).sat Q) Q)
  | .leaf .nrm _ _, h => h
  | .leaf (.ext _) _ _, h => h
  | .leaf .ret _ _, h => h
  | .br _ _ _, h => ⟨fun hb => graft_sat (h.1 hb), fun hb => graft_sat (h.2 hb)⟩
  | .need _ _, h => ⟨h.1, graft_sat h.2⟩
  | .both _ _, h => ⟨graft_sat h.1, graft_sat h.2⟩
  | .when _ _, h => fun hb => graft_sat (h hb)
  | .done, h => h
  | .bad, h => h

theorem KB.ite_val (b : Bool) (x y : KB) : (KB.ite b x y).val = cond b x.val y.val := by
  cases x <;> cases y <;> cases b <;> simp [KB.ite, KB.val]
theorem KB.or_val (x y : KB) : (KB.or x y).val = (x.val || y.val) := by
  cases x <;> cases y <;> simp [KB.or, KB.val]
theorem KB.and_val (b : Bool) (x : KB) : (KB.and b x).val = (b && x.val) := by
  cases x <;> simp [KB.and, KB.val]

/-- no normal end: what is left of the tree says all -/
theorem cut_none {st : St} {Q : Lf → Dl → Nat → Prop} {Y : Dl → Nat → Prop} : ∀ {t : Tr}, t.mrg st = some none → t.cut.sat Q → t.sat (thenQ Y Q)
  | .leaf .nrm d nx, h, _ => by simp [Tr.mrg] at h
  | .leaf (.ext id) d nx, _, hs => hs
  | .leaf .ret d nx, _, hs => hs
  | .br b t e, h, hs => by
    simp only [Tr.mrg] at h
    have h2 : t.mrg st = some none ∧ e.mrg st = some none := by
      split at h
      · rename_i h1; exact ⟨h1, h⟩
      · rename_i h1 _; exact ⟨h, h1⟩
      · split at h <;> simp at h
      · simp at h
    exact ⟨fun hb => cut_none h2.1 (hs.1 hb), fun hb => cut_none h2.2 (hs.2 hb)⟩
  | .need p t, h, hs => ⟨hs.1, cut_none (t := t) h hs.2⟩
  | .both t u, h, hs => by
    simp only [Tr.mrg] at h
    have h2 : t.mrg st = some none ∧ u.mrg st = some none := by
      split at h
      · rename_i h1; exact ⟨h1, h⟩
      · rename_i h1 _; exact ⟨h, h1⟩
      · simp at h
    exact ⟨cut_none h2.1 hs.1, cut_none h2.2 hs.2⟩
  | .when b t, h, hs => fun hb => cut_none (t := t) h (hs hb)
  | .done, _, hs => hs
  | .bad, _, hs => hs

/-- the normal ends meet in the merged state -/
theorem cut_some {B : Base} {N : Nat} {st : St} {Q : Lf → Dl → Nat → Prop} {Y : Act → World → Prop} : ∀ {t : Tr} {d : Dl} {nx : Nat}, t.mrg st = some (some (d, nx)) → t.cut.sat Q → (t.isN.val = true → ∀ a w, at_ B N st d nx a w → Y a w) →
    t.sat (thenQ (fun d nx => ∀ a w, at_ B N st d nx a w → Y a w) Q)
  | .leaf .nrm d' nx', d, nx, h, _, hy => by
    simp only [Tr.mrg, Option.some.injEq, Prod.mk.injEq] at h
    obtain ⟨rfl, rfl⟩ := h
    exact hy rfl
  | .leaf (.ext id) _ _, d, nx, h, _, _ => by simp [Tr.mrg] at h
  | .leaf .ret _ _, d, nx, h, _, _ => by simp [Tr.mrg] at h
  | .br b t e, d, nx, h, hs, hy => by
    simp only [Tr.isN, KB.ite_val] at hy
    simp only [Tr.mrg] at h
    split at h
    · rename_i h1
      refine ⟨fun hb => cut_none h1 (hs.1 hb), fun hb => cut_some h (hs.2 hb) (fun hn => hy (by rw [hb]; exact hn))⟩
    · rename_i h1 _
      refine ⟨fun hb => cut_some h (hs.1 hb) (fun hn => hy (by rw [hb]; exact hn)), fun hb => cut_none h1 (hs.2 hb)⟩
    · rename_i d1 n1 d2 n2 e1 e2
      split at h
      case h_2 => cases h
      rename_i dm hm
      simp only [Option.some.injEq, Prod.mk.injEq] at h
      obtain ⟨rfl, rfl⟩ := h
      refine ⟨fun hb => cut_some e1 (hs.1 hb) (fun hn a w ha => ?_), fun hb => cut_some e2 (hs.2 hb) (fun hn a w ha => ?_)⟩
      · refine hy (by rw [hb]; exact hn) a w ?_
        exact (mergeDl_sound hm (fun n h => Nat.lt_of_lt_of_le h (Nat.le_max_left n1 n2))).1 hb ha
      · refine hy (by rw [hb]; exact hn) a w ?_
        exact (mergeDl_sound hm (fun n h => Nat.lt_of_lt_of_le h (Nat.le_max_right n1 n2))).2 hb ha
    · simp at h
  | .need p t, d, nx, h, hs, hy => ⟨hs.1, cut_some (t := t) h hs.2 hy⟩
  | .both t u, d, nx, h, hs, hy => by
    simp only [Tr.isN, KB.or_val, Bool.or_eq_true] at hy
    simp only [Tr.mrg] at h
    split at h
    · rename_i h1
      exact ⟨cut_none h1 hs.1, cut_some h hs.2 (fun hn => hy (.inr hn))⟩
    · rename_i h1 _
      exact ⟨cut_some h hs.1 (fun hn => hy (.inl hn)), cut_none h1 hs.2⟩
    · simp at h
  | .when b t, d, nx, h, hs, hy => fun hb => cut_some (t := t) h (hs hb) (fun hn => hy (by simp only [Tr.isN, KB.and_val, hb, hn, Bool.and_self]))
  | .done, _, _, h, _, _ => by simp [Tr.mrg] at h
  | .bad, _, _, _, hs, _ => hs.elim

theorem clean_cut {Q : Lf → Dl → Nat → Prop} : ∀ {t : Tr}, t.clean = true → t.cut.sat Q
  | .leaf .nrm _ _, _ => trivial
  | .leaf (.ext _) _ _, h => by simp [Tr.clean] at h
  | .leaf .ret _ _, h => by simp [Tr.clean] at h
  | .br b t e, h => by
    simp only [Tr.clean, Bool.and_eq_true] at h
    exact ⟨fun _ => clean_cut h.1, fun _ => clean_cut h.2⟩
  | .need _ _, h => by simp [Tr.clean] at h
  | .both _ _, h => by simp [Tr.clean] at h
  | .when _ _, h => by simp [Tr.clean] at h
  | .done, h => by simp [Tr.clean] at h
  | .bad, h => by simp [Tr.clean] at h

theorem seqT_sat {B : Base} {N : Nat} {st : St} {t : Tr} {k : Dl → Nat → Tr} {Q : Lf → Dl → Nat → Prop} {Y : Act → World → Prop} (h : (seqT st t k).sat Q)
    (hk : ∀ d nx, ((k d nx).pre d).sat Q → ∀ a w, at_ B N st d nx a w → Y a w) : t.sat (thenQ (fun d nx => ∀ a w, at_ B N st d nx a w → Y a w) Q) := by
  have byGraft : (t.graft k).sat Q → t.sat (thenQ (fun d nx => ∀ a w, at_ B N st d nx a w → Y a w) Q) := fun hg =>
    Tr.sat_mono (fun e d nx hq => by
      cases e with
      | nrm => exact hk d nx hq
      | ext id => exact hq
      | ret => exact hq) (graft_sat hg)
  unfold seqT at h
  cases hb : Nat.ble t.nN 1 with
  | true => rw [hb] at h; exact byGraft h
  | false =>
    rw [hb] at h
    simp only [cond_false] at h
    split at h
    · rename_i d nx hm
      cases hc : t.clean with
      | true =>
        rw [hc] at h
        exact cut_some hm (clean_cut hc) (fun _ => hk d nx h)
      | false =>
        rw [hc] at h
        simp only [cond_false, Tr.sat] at h
        exact cut_some hm h.1 (fun hn => hk d nx (h.2 hn))
    · exact byGraft h

theorem catch_sat {Q : Lf → Dl → Nat → Prop} {id : Nat} : ∀ {t : Tr}, (t.catch id).sat Q → t.sat fun e d nx => match e with | .ext id' => if id' = id then Q .nrm d nx else Q (.ext id') d nx | e => Q e d nx
  | .leaf .nrm d nx, h => h
  | .leaf (.ext id') d nx, h => by
    simp only [Tr.catch] at h
    simp only [Tr.sat]
    split
    · rename_i e; rw [if_pos e] at h; exact h
    · rename_i e; rw [if_neg e] at h; exact h
  | .leaf .ret d nx, h => h
  | .br b t e, h => ⟨fun hb => catch_sat (h.1 hb), fun hb => catch_sat (h.2 hb)⟩
  | .need p t, h => ⟨h.1, catch_sat h.2⟩
  | .both t u, h => ⟨catch_sat h.1, catch_sat h.2⟩
  | .when b t, h => fun hb => catch_sat (h hb)
  | .done, h => h
  | .bad, h => h

/-- a loop does what its summary says, in one base -/
def LoopAt (P : Program) (N : Nat) (B : Base) (body : Code) (L : LoopSum) : Prop :=
  ∀ (st : St) (Q : Lf → Dl → Nat → Prop) (CQ : Exit → Act → World → Prop), L.pre st → (L.T st).sat Q → (∀ e d nx a w, Q e d nx → at_ B N st d nx a w → CQ (exitOf e) a w) → ∀ a w, here B N st a w → (Code.loop body).wp P CQ a w

/-- the base asks for nothing more -/
def Base.free (B : Base) : Prop := ∀ E, B.G E

/-- a loop does what its summary says -/
def LoopOK (P : Program) (N : Nat) (body : Code) (L : LoopSum) : Prop := ∀ (B : Base), B.free → LoopAt P N B body L

theorem LoopOK.at_free {N : Nat} {B : Base} {body : Code} {L : LoopSum} (h : LoopOK P N body L) (hB : B.free) : LoopAt P N B body L := h B hB

theorem here_nil {B : Base} {N : Nat} {st : St} {a : Act} {w : World} (h : here B N st a w) : at_ B N st ⟨[], []⟩ st.nx a w := h

theorem unroll_sound {B : Base} {N : Nat} {b : Code} {f : St → Tr}
    (hb : ∀ (st : St) (Q : Lf → Dl → Nat → Prop) (CQ : Exit → Act → World → Prop), (f st).sat Q → (∀ e d nx a w, Q e d nx → at_ B N st d nx a w → CQ (exitOf e) a w) → ∀ a w, here B N st a w → b.wp P CQ a w) :
    ∀ (n : Nat) (st : St) (Q : Lf → Dl → Nat → Prop) (CQ : Exit → Act → World → Prop), (unroll f n st).sat Q → (∀ e d nx a w, Q e d nx → at_ B N st d nx a w → CQ (exitOf e) a w) → ∀ a w, here B N st a w → Code.rounds P b CQ n a w
  | 0, _, _, _, h, _, _, _, _ => h.elim
  | n + 1, st, Q, CQ, h, hQ, a, w, hs => by
    unfold unroll at h
    have h2 := seqT_sat (B := B) (N := N) (Y := fun a w => Code.rounds P b CQ n a w) h (fun d nx hk a w ha => by
      rw [pre_sat] at hk
      exact unroll_sound hb n (st.app d nx) _ CQ hk (fun e d' nx' a w hq hat => hQ e _ _ a w hq (at_pre.1 hat)) a w (at_here.1 ha))
    rw [rounds_succ]
    refine hb st _ _ h2 (fun e d nx a w hq hat => ?_) a w hs
    cases e with
    | nrm => exact hq a w hat
    | ext id => exact hQ (.ext id) d nx a w hq hat
    | ret => exact hQ .ret d nx a w hq hat

theorem evCodeS_sound {C : Cfg} (hC : CfgOK P C) (hP : P.follows .mixedOrders = true) {Λ : Nat → Option LoopSum} {B : Base} : ∀ (c : Code), (∀ b ∈ loopsIn Λ c, ∀ L, Λ (rid b) = some L → LoopAt P C.N B b L) →
    ∀ (st : St) (Q : Lf → Dl → Nat → Prop) (CQ : Exit → Act → World → Prop), (evCodeS C Λ c st).sat Q → (∀ e d nx a w, Q e d nx → at_ B C.N st d nx a w → CQ (exitOf e) a w) → ∀ a w, here B C.N st a w → c.wp P CQ a w
  | .skip, _, st, Q, CQ, h, hQ, a, w, hs => wp_skip (hQ .nrm _ _ a w h (here_nil hs))
  | .ret, _, st, Q, CQ, h, hQ, a, w, hs => wp_ret (hQ .ret _ _ a w h (here_nil hs))
  | .exit id, _, st, Q, CQ, h, hQ, a, w, hs => wp_exit (hQ (.ext id) _ _ a w h (here_nil hs))
  | .region id ops dr, _, st, Q, CQ, h, hQ, a, w, hs => by
    simp only [evCodeS] at h
    obtain ⟨df, rf, hrun, hc, hq⟩ := run_of_sat _ _ _ _ h
    have hfin : ∀ a w, SRel B C.N (find (df.tm ++ st.tm)) (hset st.H df.hp) (fun n => n < st.nx + ops.toList.length * C.K) a w → CQ .normal a w := fun a w h' => hQ .nrm _ _ a w hq h'
    cases dr with
    | false =>
      refine wp_region_list ?_
      have := run_seq hC ops.toList 0 _ _ _ _ hrun (Q := CQ) (B := B) (fun a w h' => hfin a w (by simpa using h')) a w (by simpa [here, hset_nil] using hs)
      simpa using this
    | true =>
      rcases hc with hc | hc
      · cases hc
      · have := draw_sound hC hP hrun hc.1 hc.2 hfin hs id
        simpa using this
  | .seq x y, hL, st, Q, CQ, h, hQ, a, w, hs => by
    simp only [evCodeS] at h
    have hx := evCodeS_sound hC hP (Λ := Λ) (B := B) x (fun b hb => hL b (by simp [loopsIn, hb]))
    have hy := evCodeS_sound hC hP (Λ := Λ) (B := B) y (fun b hb => hL b (by simp [loopsIn, hb]))
    have h2 := seqT_sat (B := B) (N := C.N) (Y := fun a w => y.wp P CQ a w) h (fun d nx hk a w ha => by
      rw [pre_sat] at hk
      exact hy (st.app d nx) _ CQ hk (fun e d' nx' a w hq hat => hQ e _ _ a w hq (at_pre.1 hat)) a w (at_here.1 ha))
    refine wp_seq (hx st _ _ h2 (fun e d nx a w hq hat => ?_) a w hs)
    cases e with
    | nrm => exact hq a w hat
    | ext id => exact hQ (.ext id) d nx a w hq hat
    | ret => exact hQ .ret d nx a w hq hat
  | .cond c x y, hL, st, Q, CQ, h, hQ, a, w, hs => by
    simp only [evCodeS] at h
    have hx := evCodeS_sound hC hP (Λ := Λ) (B := B) x (fun b hb => hL b (by simp [loopsIn, hb]))
    have hy := evCodeS_sound hC hP (Λ := Λ) (B := B) y (fun b hb => hL b (by simp [loopsIn, hb]))
    have hv : ∃ E : Env, tmOK E (find st.tm) a := by
      obtain ⟨⟨E, _, _, _, _, hT⟩, _⟩ := hs
      exact ⟨E, hT⟩
    obtain ⟨E, hT⟩ := hv
    have hc := opnd_sound hT c
    split at h
    · rename_i e; rw [e] at hc; simp only [vrel] at hc
      exact wp_cond_true hc (hx st Q CQ h hQ a w hs)
    · rename_i e; rw [e] at hc; simp only [vrel] at hc
      exact wp_cond_false hc (hy st Q CQ h hQ a w hs)
    · rename_i b e; rw [e] at hc; simp only [vrel] at hc
      cases b with
      | true => exact wp_cond_true hc (hx st Q CQ h hQ a w hs)
      | false => exact wp_cond_false hc (hy st Q CQ h hQ a w hs)
    · rename_i q e; rw [e] at hc; simp only [vrel] at hc
      obtain ⟨b, hc, hq⟩ := hc
      exact wp_cond_split hc (fun hb => hx st Q CQ (h.1 (hq hb)) hQ a w hs) (fun _ => hy st Q CQ h.2 hQ a w hs)
    · rename_i q e; rw [e] at hc; simp only [vrel] at hc
      obtain ⟨b, hc, hq⟩ := hc
      exact wp_cond_split hc (fun _ => hx st Q CQ h.2 hQ a w hs) (fun hb => hy st Q CQ (h.1 (hq hb)) hQ a w hs)
    · exact h.elim
  | .block id b, hL, st, Q, CQ, h, hQ, a, w, hs => by
    simp only [evCodeS] at h
    refine wp_block (evCodeS_sound hC hP b (fun b' hb => hL b' (by simpa [loopsIn] using hb)) st _ _ (catch_sat h) (fun e d nx a w hq hat => ?_) a w hs)
    cases e with
    | nrm => exact hQ .nrm d nx a w hq hat
    | ret => exact hQ .ret d nx a w hq hat
    | ext id' =>
      simp only [exitOf, Exit.inBlock]
      simp only at hq
      split
      · rename_i e; rw [if_pos e] at hq; exact hQ .nrm d nx a w hq hat
      · rename_i e; rw [if_neg e] at hq; exact hQ (.ext id') d nx a w hq hat
  | .loop b, hL, st, Q, CQ, h, hQ, a, w, hs => by
    simp only [evCodeS] at h
    split at h
    · rename_i L hl
      exact hL b (by simp [loopsIn]) L hl st Q CQ h.1 h.2 hQ a w hs
    · rename_i hl
      have hb := evCodeS_sound hC hP (Λ := Λ) (B := B) b (fun b' hb' => hL b' (by simp [loopsIn, hl, hb']))
      exact wp_loop_rounds ROUNDS (unroll_sound hb ROUNDS st Q CQ h hQ a w hs)
  | .rangeFunc _ _ _ _, _, _, _, _, h, _, _, _, _ => h.elim
  | .scope _, _, _, _, _, h, _, _, _, _ => h.elim
  | .label _, _, _, _, _, h, _, _, _, _ => h.elim
  | .goto _, _, _, _, _, h, _, _, _, _ => h.elim
  | .refuse _, _, _, _, _, h, _, _, _, _ => h.elim


theorem evCode_sound {C : Cfg} (hC : CfgOK P C) (hP : P.follows .mixedOrders = true) {Λ : Nat → Option LoopSum} {B : Base} : ∀ (c : Code), (∀ b ∈ loopsIn Λ c, ∀ L, Λ (rid b) = some L → LoopAt P C.N B b L) →
    ∀ (st : St) (Q : Lf → Dl → Nat → Prop) (CQ : Exit → Act → World → Prop), (evCode C Λ c st).sat Q → (∀ e d nx a w, Q e d nx → at_ B C.N st d nx a w → CQ (exitOf e) a w) → ∀ a w, here B C.N st a w → c.wp P CQ a w
  | .skip, _, st, Q, CQ, h, hQ, a, w, hs => wp_skip (hQ .nrm _ _ a w h (here_nil hs))
  | .ret, _, st, Q, CQ, h, hQ, a, w, hs => wp_ret (hQ .ret _ _ a w h (here_nil hs))
  | .exit id, _, st, Q, CQ, h, hQ, a, w, hs => wp_exit (hQ (.ext id) _ _ a w h (here_nil hs))
  | .region id ops dr, _, st, Q, CQ, h, hQ, a, w, hs => by
    simp only [evCode] at h
    obtain ⟨df, rf, hrun, hc, hq⟩ := run_of_sat _ _ _ _ h
    have hfin : ∀ a w, SRel B C.N (find (df.tm ++ st.tm)) (hset st.H df.hp) (fun n => n < st.nx + ops.toList.length * C.K) a w → CQ .normal a w := fun a w h' => hQ .nrm _ _ a w hq h'
    cases dr with
    | false =>
      refine wp_region_list ?_
      have := run_seq hC ops.toList 0 _ _ _ _ hrun (Q := CQ) (B := B) (fun a w h' => hfin a w (by simpa using h')) a w (by simpa [here, hset_nil] using hs)
      simpa using this
    | true =>
      rcases hc with hc | hc
      · cases hc
      · have := draw_sound hC hP hrun hc.1 hc.2 hfin hs id
        simpa using this
  | .seq x y, hL, st, Q, CQ, h, hQ, a, w, hs => by
    simp only [evCode] at h
    have hx := evCode_sound hC hP (Λ := Λ) (B := B) x (fun b hb => hL b (by simp [loopsIn, hb]))
    have hy := evCode_sound hC hP (Λ := Λ) (B := B) y (fun b hb => hL b (by simp [loopsIn, hb]))
    have h2 := seqT_sat (B := B) (N := C.N) (Y := fun a w => y.wp P CQ a w) h (fun d nx hk a w ha => by
      rw [pre_sat] at hk
      exact hy (st.app d nx) _ CQ hk (fun e d' nx' a w hq hat => hQ e _ _ a w hq (at_pre.1 hat)) a w (at_here.1 ha))
    refine wp_seq (hx st _ _ h2 (fun e d nx a w hq hat => ?_) a w hs)
    cases e with
    | nrm => exact hq a w hat
    | ext id => exact hQ (.ext id) d nx a w hq hat
    | ret => exact hQ .ret d nx a w hq hat
  | .cond c x y, hL, st, Q, CQ, h, hQ, a, w, hs => by
    simp only [evCode] at h
    have hx := evCode_sound hC hP (Λ := Λ) (B := B) x (fun b hb => hL b (by simp [loopsIn, hb]))
    have hy := evCode_sound hC hP (Λ := Λ) (B := B) y (fun b hb => hL b (by simp [loopsIn, hb]))
    have hv : ∃ E : Env, tmOK E (find st.tm) a := by
      obtain ⟨⟨E, _, _, _, _, hT⟩, _⟩ := hs
      exact ⟨E, hT⟩
    obtain ⟨E, hT⟩ := hv
    have hc := opnd_sound hT c
    split at h
    · rename_i e; rw [e] at hc; simp only [vrel] at hc
      exact wp_cond_true hc (hx st Q CQ h hQ a w hs)
    · rename_i e; rw [e] at hc; simp only [vrel] at hc
      exact wp_cond_false hc (hy st Q CQ h hQ a w hs)
    · rename_i b e; rw [e] at hc; simp only [vrel] at hc
      exact wp_cond_split hc (fun hb => hx st Q CQ (h.1 hb) hQ a w hs) (fun hb => hy st Q CQ (h.2 hb) hQ a w hs)
    · rename_i q e; rw [e] at hc; simp only [vrel] at hc
      obtain ⟨b, hc, hq⟩ := hc
      exact wp_cond_split hc (fun hb => hx st Q CQ (h.1 (hq hb)) hQ a w hs) (fun _ => hy st Q CQ h.2 hQ a w hs)
    · rename_i q e; rw [e] at hc; simp only [vrel] at hc
      obtain ⟨b, hc, hq⟩ := hc
      exact wp_cond_split hc (fun _ => hx st Q CQ h.2 hQ a w hs) (fun hb => hy st Q CQ (h.1 (hq hb)) hQ a w hs)
    · exact h.elim
  | .block id b, hL, st, Q, CQ, h, hQ, a, w, hs => by
    simp only [evCode] at h
    refine wp_block (evCode_sound hC hP b (fun b' hb => hL b' (by simpa [loopsIn] using hb)) st _ _ (catch_sat h) (fun e d nx a w hq hat => ?_) a w hs)
    cases e with
    | nrm => exact hQ .nrm d nx a w hq hat
    | ret => exact hQ .ret d nx a w hq hat
    | ext id' =>
      simp only [exitOf, Exit.inBlock]
      simp only at hq
      split
      · rename_i e; rw [if_pos e] at hq; exact hQ .nrm d nx a w hq hat
      · rename_i e; rw [if_neg e] at hq; exact hQ (.ext id') d nx a w hq hat
  | .loop b, hL, st, Q, CQ, h, hQ, a, w, hs => by
    simp only [evCode] at h
    split at h
    · rename_i L hl
      exact hL b (by simp [loopsIn]) L hl st Q CQ h.1 h.2 hQ a w hs
    · rename_i hl
      have hb := evCodeS_sound hC hP (Λ := Λ) (B := B) b (fun b' hb' => hL b' (by simp [loopsIn, hl, hb']))
      exact wp_loop_rounds ROUNDS (unroll_sound hb ROUNDS st Q CQ h hQ a w hs)
  | .rangeFunc _ _ _ _, _, _, _, _, h, _, _, _, _ => h.elim
  | .scope _, _, _, _, _, h, _, _, _, _ => h.elim
  | .label _, _, _, _, _, h, _, _, _, _ => h.elim
  | .goto _, _, _, _, _, h, _, _, _, _ => h.elim
  | .refuse _, _, _, _, _, h, _, _, _, _ => h.elim

end Go.Mir

/- The mirror, part 22: functions, and contracts of functions that only read. -/
namespace Go.Mir
open Go.RowKit

variable {P : Program}

structure RowD where
  t : Ty
  xs : List (Den t)

inductive RT where
  | ret (v : V) (rows : List RowD)
  | br (b : Bool) (t e : RT)
  | need (p : Prop) (t : RT)
  | both (t u : RT)
  | when (b : Bool) (t : RT)
  | done
  | bad

def RT.sat (Q : V → List RowD → Prop) : RT → Prop
  | .ret v rows => Q v rows
  | .br b t e => (b = true → t.sat Q) ∧ (b = false → e.sat Q)
  | .need p t => p ∧ t.sat Q
  | .both t u => t.sat Q ∧ u.sat Q
  | .when b t => b = true → t.sat Q
  | .done => True
  | .bad => False

mutual
/-- a result, its rows numbered as they come -/
def canV (H : Heap) : V → List (Nat × RowD) → Option (V × List (Nat × RowD))
  | .osl h ver, acc => match H h with
    | some (.row ver' rw t xs) => if ver = ver' then (bif rw then (bif memN (acc.map (·.1)) h then none else some (.osl acc.length acc.length, acc ++ [(h, ⟨t, xs⟩)])) else some (.fsl t xs, acc)) else none
    | _ => none
  | .agg cs, acc => match canVs H cs acc with | some (l, acc') => some (.agg l, acc') | none => none
  | .tup cs, acc => match canVs H cs acc with | some (l, acc') => some (.tup l, acc') | none => none
  | .ptr _ _, _ | .rp _ _ _ _, _ | .fp _ _ _ _, _ | .fn _ _, _ | .hint _ _, _ | .gsl _ _ _ _ _, _ | .gp _ _ _, _ | .mpv _, _ => none
  | v, acc => some (v, acc)
def canVs (H : Heap) : List V → List (Nat × RowD) → Option (List V × List (Nat × RowD))
  | [], acc => some ([], acc)
  | v :: vs, acc => match canV H v acc with
    | some (v', acc') => match canVs H vs acc' with
      | some (l, acc'') => some (v' :: l, acc'')
      | none => none
    | none => none
end

/-- one of a function's results -/
def res1 (tb : Tbl) (tm : List (Nat × V)) (H : Heap) : ResultVar → Option V
  | .tmp t => some (lookV tm t)
  | .cell a t => match tb t with
    | some td => match evLoad td H (lookV tm a) with
      | .val _ v _ => some v
      | _ => none
    | none => none

def resL (tb : Tbl) (tm : List (Nat × V)) (H : Heap) : List ResultVar → Option (List V)
  | [] => some []
  | r :: rs => match res1 tb tm H r with
    | some v => match resL tb tm H rs with
      | some l => some (v :: l)
      | none => none
    | none => none

def resV (tb : Tbl) (tm : List (Nat × V)) (H : Heap) (rs : List ResultVar) : Option V :=
  match resL tb tm H rs with
  | some [v] => some v
  | some l => some (.tup l)
  | none => none

/-- the element types of a datum's slices, cell by cell -/
def slTys : Nat → Ty → List (Option Ty)
  | 0, _ => []
  | f + 1, .prod a b => slTys f a ++ slTys f b
  | f + 1, .nm n => slTys f n.flds
  | _ + 1, .slice t => [some t]
  | _ + 1, .unit => []
  | _ + 1, _ => [none]

/-- nil slices become empty rows: the names from n on -/
def matC : List (Option Ty) → List V → Nat → List V × List (Nat × Blk)
  | o :: ts, v :: vs, n => match o, v with
    | some t, .nilsl => (.osl n n :: (matC ts vs (n + 1)).1, (matC ts vs (n + 1)).2 ++ [(n, .row n true t [])])
    | _, v => (v :: (matC ts vs n).1, (matC ts vs n).2)
  | _, vs, _ => (vs, [])

def matT (o : Option Ty) (v : V) (n : Nat) : V × List (Nat × Blk) := match o with
  | some ty => match v with
    | .agg cs => (.agg (matC (slTys FUEL ty) cs n).1, (matC (slTys FUEL ty) cs n).2)
    | .nilsl => match ty with
      | .slice t => (.osl n n, [(n, .row n true t [])])
      | _ => (.nilsl, [])
    | v => (v, [])
  | none => (v, [])

def tyOf (tb : Tbl) (t : TypeId) : Option Ty := match tb t with
  | some td => td.ty
  | none => none

def matL (tb : Tbl) : List TypeId → List V → Nat → List V × List (Nat × Blk)
  | t :: ts, v :: vs, n => let r := matT (tyOf tb t) v n; let q := matL tb ts vs (n + r.2.length); (r.1 :: q.1, q.2 ++ r.2)
  | _, vs, _ => (vs, [])

def matR (tb : Tbl) (ts : List TypeId) (v : V) (n : Nat) : V × List (Nat × Blk) := match ts with
  | [t] => matT (tyOf tb t) v n
  | ts => match v with
    | .tup vs => (.tup (matL tb ts vs n).1, (matL tb ts vs n).2)
    | v => (v, [])

def toRT (tb : Tbl) (rs : List ResultVar) (ts : List TypeId) (st : St) : Tr → RT
  | .leaf (.ext _) _ _ => .bad
  | .leaf _ d nx => match resV tb (d.tm ++ st.tm) (hset st.H d.hp) rs with
    | some v => match canV (hset (hset st.H d.hp) (matR tb ts v nx).2) (matR tb ts v nx).1 [] with
      | some (v', acc) => .ret v' (acc.map (·.2))
      | none => .bad
    | none => .bad
  | .br b t e => .br b (toRT tb rs ts st t) (toRT tb rs ts st e)
  | .need p t => .need p (toRT tb rs ts st t)
  | .both t u => .both (toRT tb rs ts st t) (toRT tb rs ts st u)
  | .when b t => .when b (toRT tb rs ts st t)
  | .done => .done
  | .bad => .bad

def number {α : Type} : Nat → List α → List (Nat × α)
  | _, [] => []
  | n, x :: xs => (n, x) :: number (n + 1) xs

def startOf (args : List V) : St := ⟨number 0 args, [], fun _ => none, 0⟩

/-- a function's body, evaluated -/
def evFn (C : Cfg) (Λ : Nat → Option LoopSum) (fn : Func) (args : List V) : RT :=
  match fn.body with
  | some c => toRT C.tb fn.results.toList fn.resultTypes.toList (startOf args) (evCode C Λ c (startOf args))
  | none => .bad

/-! ## arguments by their types -/

def argV : (t : Ty) → Den t → V
  | .int k, n => .int k n
  | .bool, b => .bool b
  | .str, s => .str s
  | .slice t, xs => .fsl t xs
  | .unit, _ => .agg []
  | .prod a b, x => .agg (flat FUEL (.prod a b) x)
  | .nm n, x => .agg (flat FUEL (.nm n) x)

def argsV : (ps : Ty) → Den ps → List V
  | .prod a b, x => argV a x.1 :: argsV b x.2
  | _, _ => []

/-- is the value of a type of several cells -/
def aggT : Ty → Bool
  | .prod _ _ | .nm _ | .unit => true
  | _ => false

def isAggV : V → Bool
  | .agg _ => true
  | _ => false

def packArgs (H : Heap) : (ps : Ty) → List V → Option (Den ps)
  | .prod a b, v :: vs => bif aggT a == isAggV v then (match cellsOf v with
    | some cs => match pack H a cs with
      | some x => match packArgs H b vs with
        | some y => some (x, y)
        | none => none
      | none => none
    | none => none) else none
  | .unit, [] => some ()
  | _, _ => none

structure PRes where
  needs : List Prop
  v : V
  rows : List RowD

/-- no slices inside -/
def Ty.flat1 : Ty → Bool
  | .int _ | .bool | .str | .unit => true
  | .prod a b => Ty.flat1 a && Ty.flat1 b
  | _ => false

def Ty.flatB : Ty → Bool
  | .int _ | .bool | .str | .unit => true
  | .prod a b => a.flatB && b.flatB
  | .slice _ => false
  | .nm n => n.flds.flat1

theorem Rd.flat1 {S S' : Nat → Prop} {w w' : World} {t : Ty} {x : Den t} {cs : List Value} (h : Rd S w t x cs) (hf : t.flat1 = true) : Rd S' w' t x cs := by
  induction h with
  | int h => exact .int h
  | bool => exact .bool
  | str h => exact .str h
  | unit => exact .unit
  | prod _ _ ih1 ih2 =>
    simp only [Ty.flat1, Bool.and_eq_true] at hf
    exact .prod (ih1 hf.1) (ih2 hf.2)
  | nm _ _ => simp [Ty.flat1] at hf
  | nil => simp [Ty.flat1] at hf
  | slice => simp [Ty.flat1] at hf

theorem Rd.flatB {S S' : Nat → Prop} {w w' : World} {t : Ty} {x : Den t} {cs : List Value} (h : Rd S w t x cs) (hf : t.flatB = true) : Rd S' w' t x cs := by
  induction h with
  | int h => exact .int h
  | bool => exact .bool
  | str h => exact .str h
  | unit => exact .unit
  | prod _ _ ih1 ih2 =>
    simp only [Ty.flatB, Bool.and_eq_true] at hf
    exact .prod (ih1 hf.1) (ih2 hf.2)
  | nm h _ => exact .nm (h.flat1 hf)
  | nil => simp [Ty.flatB] at hf
  | slice => simp [Ty.flatB] at hf

mutual
/-- does a value hold a frozen slice -/
def V.noF : V → Bool
  | .fsl _ _ | .fp _ _ _ _ => false
  | .fn _ cs => noFs cs
  | .agg cs => noFs cs
  | .tup cs => noFs cs
  | _ => true
def noFs : List V → Bool
  | [] => true
  | v :: vs => v.noF && noFs vs
end

mutual
def V.shift (m : Nat) : V → V
  | .osl h ver => .osl (m + h) (m + ver)
  | .agg cs => .agg (shifts m cs)
  | .tup cs => .tup (shifts m cs)
  | v => v
def shifts (m : Nat) : List V → List V
  | [] => []
  | v :: vs => v.shift m :: shifts m vs
end

def rowsHp (m : Nat) : Nat → List RowD → List (Nat × Blk)
  | _, [] => []
  | i, r :: rs => (m + i, .row (m + i) true r.t r.xs) :: rowsHp m (i + 1) rs

def PRes.flat (r : PRes) : Bool := r.v.noF && r.rows.all fun q => q.t.flatB

/-- the contract of a function that only reads -/
def pureCtr (K : Nat) (ps : Ty) (spec : Den ps → PRes) : Ctr := fun args H m =>
  let L := hss args
  match packArgs (roL H L) ps args with
  | some x =>
    let r := spec x
    bif Nat.ble r.rows.length K then
      some (r.needs, r.v.shift m, rowsHp m 0 r.rows ++ (bif r.flat then [] else seals H L))
    else none
  | none => none

end Go.Mir

/- The mirror, part 23: contracts of functions that only read are sound. -/
namespace Go.Mir
open Go.RowKit

variable {P : Program}

/-- a datum that some world holds -/
def wfD (t : Ty) (x : Den t) : Prop := ∃ (S : Nat → Prop) (w : World) (cs : List Value), Rd S w t x cs

theorem one_cells {v : Value} (h : v.oneCell' = true) : v.cells = #[v] := by cases v <;> first | rfl | (simp [Value.oneCell'] at h)

theorem packArgs_sound {B : Base} {E : Env} (hE : HRel B E) {Ec : Env} (hS : Ec.S = E.S) (hw : Ec.w = E.w) : ∀ {ps : Ty} {args : List V} {av : List Value} {x : Den ps}, vrels E args av → packArgs E.H ps args = some x → vrels Ec (argsV ps x) av ∧ ∃ cs, Rd E.S E.w ps x cs
  | .unit, [], av, x, hv, _ => by
    cases av with
    | nil => exact ⟨trivial, [], .unit⟩
    | cons => simp [vrels] at hv
  | .prod a b, v :: vs, av, x, hv, h => by
    simp only [packArgs] at h
    cases hg : aggT a == isAggV v with
    | false => rw [hg] at h; cases h
    | true =>
      rw [hg] at h
      simp only [cond_true] at h
      split at h
      case h_2 => cases h
      rename_i cs hcs
      split at h
      case h_2 => cases h
      rename_i x1 hx1
      split at h
      case h_2 => cases h
      rename_i y1 hy1
      cases h
      cases av with
      | nil => simp [vrels] at hv
      | cons u us =>
        simp only [vrels] at hv
        obtain ⟨ih, cs2, hrd2⟩ := packArgs_sound hE hS hw hv.2 hy1
        have hrd := pack_sound hE hx1 (cellsOf_sound hv.1 hcs)
        have hrdc : Rd Ec.S Ec.w a x1 u.cells.toList := by rw [hS, hw]; exact hrd
        refine ⟨?_, ?_⟩
        · simp only [argsV, vrels]
          refine ⟨?_, ih⟩
          simp only [beq_iff_eq] at hg
          have one : aggT a = false → u.cells.toList = [u] := fun e => by
            rw [e] at hg
            have h1 : u.oneCell' = true := by
              cases v <;> simp only [isAggV, Bool.false_eq_true] at hg <;> simp only [cellsOf, reduceCtorEq] at hcs <;> exact one_oneCell rfl hv.1
            rw [one_cells h1]
          have agg : aggT a = true → ∃ l, u = .agg l := fun e => by
            rw [e] at hg
            cases v <;> simp only [isAggV, Bool.true_eq_false] at hg
            have := hv.1
            simp only [vrel] at this
            obtain ⟨l, hl, _⟩ := this
            exact ⟨l, hl⟩
          cases a with
          | int k => rw [one rfl] at hrdc; cases hrdc with | int hk => simp only [argV]; exact vint hk
          | bool => rw [one rfl] at hrdc; cases hrdc with | bool => simp only [argV, vrel]
          | str => rw [one rfl] at hrdc; cases hrdc with | str hk => simp only [argV]; exact vstr hk
          | slice t => rw [one rfl] at hrdc; simp only [argV, vrel]; exact hrdc
          | unit =>
            obtain ⟨l, rfl⟩ := agg rfl
            simp only [argV, vrel]
            refine ⟨l, rfl, ?_⟩
            have h0 : l.toList = [] := List.eq_nil_of_length_eq_zero hrdc.len
            rw [h0]; simp [vrels]
          | prod c d =>
            obtain ⟨l, rfl⟩ := agg rfl
            simp only [argV, vrel]
            exact ⟨l, rfl, hrdc.flat FUEL⟩
          | nm n =>
            obtain ⟨l, rfl⟩ := agg rfl
            simp only [argV, vrel]
            exact ⟨l, rfl, hrdc.flat FUEL⟩
        · exact ⟨_, .prod hrd hrd2⟩
  | .int _, _, _, _, _, h => by simp [packArgs] at h
  | .bool, _, _, _, _, h => by simp [packArgs] at h
  | .str, _, _, _, _, h => by simp [packArgs] at h
  | .slice _, _, _, _, _, h => by simp [packArgs] at h
  | .nm _, _, _, _, _, h => by simp [packArgs] at h
  | .unit, _ :: _, _, _, _, h => by simp [packArgs] at h
  | .prod _ _, [], _, _, _, h => by simp [packArgs] at h

end Go.Mir
