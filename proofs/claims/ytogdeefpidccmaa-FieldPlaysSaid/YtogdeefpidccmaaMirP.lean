/- The mirror, part 16: a region whose order is the text's. -/
import Derived.Test.YtogdeefpidccmaaMirO
namespace Go.Mir
open Go.RowKit

variable {P : Program}

structure SRel (B : Base) (N : Nat) (T : Nat → Option V) (H : Heap) (U : Nat → Prop) (a : Act) (w : World) : Prop where
  ex : ∃ E, HRel B E ∧ E.w = w ∧ E.H = H ∧ (∀ n, E.U n → U n) ∧ ∀ s v, T s = some v → vrel E v (a.tmps.getD s undef)
  size : a.tmps.size = N
  defers : a.defers = []

theorem find_append {α : Type} (l r : List (Nat × α)) (i : Nat) : find (l ++ r) i = match find l i with | some v => some v | none => find r i := by
  induction l with
  | nil => rfl
  | cons x l ih =>
    obtain ⟨k, v⟩ := x
    simp only [List.cons_append, find]
    cases Nat.beq k i with
    | true => rfl
    | false => simpa using ih

theorem hset_append (H : Heap) (l r : List (Nat × Blk)) : hset H (l ++ r) = hset (hset H r) l := by
  funext h
  simp only [hset, find_append]
  cases find l h <;> rfl

theorem cv_sound {E : Env} (v : Value) : vrel E (cv v) v := by
  unfold cv
  split
  · split
    · rename_i h; exact vint h
    · simp [vrel]
  · exact vkb _
  · split
    · rename_i h; exact vstr h
    · simp [vrel]
  · simp [vrel]
  · simp [vrel]
  · simp [vrel]
  · simp [vrel]
  · simp [vrel]

def tmOK (E : Env) (T : Nat → Option V) (a : Act) : Prop := ∀ s v, T s = some v → vrel E v (a.tmps.getD s undef)

theorem lookV_sound {E : Env} {tm : List (Nat × V)} {a : Act} (h : tmOK E (find tm) a) (s : Nat) : vrel E (lookV tm s) (a.tmps.getD s undef) := by
  unfold lookV
  cases hf : find tm s with
  | some v => exact h s v hf
  | none => simp [vrel]

theorem opnd_sound {E : Env} {tm : List (Nat × V)} {a : Act} (h : tmOK E (find tm) a) (x : Operand) : vrel E (opnd tm x) (a.eval x) := by
  cases x with
  | tmp t => exact lookV_sound h t
  | const v => exact cv_sound v
  | func f => simp only [opnd, vrel, Act.eval]; exact ⟨#[], rfl, by simp [vrels]⟩
  | _ => simp [opnd, vrel]

theorem Does.dstIn {C : Cfg} {dr : Bool} {all : List Oper} {tm : List (Nat × V)} {H : Heap} {m : Nat} {o : Oper} {r : Rec} (h : Does C dr all tm H m o r) : dstIn C.N o.dst = true ∧ r.dst = o.dst ∧ r.rs = slotsOf all o := by
  cases h with
  | skip h _ => exact ⟨h, rfl, rfl⟩
  | run h _ _ _ _ => exact ⟨h, rfl, rfl⟩

theorem put_ok {E E' : Env} (X : Ext E E') {T : Nat → Option V} {a : Act} (h : tmOK E T a) {N : Nat} (hs : a.tmps.size = N) {dst : Option Nat} (hd : dstIn N dst = true) {v : V} {v' : Value} (hv : vrel E' v v') {T' : Nat → Option V}
    (hT : ∀ s u, T' s = some u → find (dstPut dst v) s = some u ∨ (find (dstPut dst v) s = none ∧ T s = some u)) : tmOK E' T' (a.put dst v') := by
  intro s u hu
  cases dst with
  | none =>
    rcases hT s u hu with h1 | h1
    · simp [dstPut, find] at h1
    · exact vrel_ext X _ _ (h s u h1.2)
  | some d =>
    simp only [Mir.dstIn, Nat.blt_eq] at hd
    simp only [Act.put]
    rcases hT s u hu with h1 | ⟨h1, h2⟩
    · simp only [dstPut, find] at h1
      cases hb : Nat.beq d s with
      | true =>
        rw [hb] at h1
        simp only [cond_true, Option.some.injEq] at h1
        subst h1
        obtain rfl := Nat.eq_of_beq_eq_true hb
        have : (a.tmps.setIfInBounds d v').getD d undef = v' := by simp [Array.getD_eq_getD_getElem?, hs, hd]
        rw [this]; exact hv
      | false => rw [hb] at h1; simp at h1
    · simp only [dstPut, find] at h1
      cases hb : Nat.beq d s with
      | true => rw [hb] at h1; simp at h1
      | false =>
        have hne : d ≠ s := fun e => by subst e; rw [Nat.beq_refl] at hb; cases hb
        have : (a.tmps.setIfInBounds d v').getD s undef = a.tmps.getD s undef := by
          simp [Array.getD_eq_getD_getElem?, Array.getElem?_setIfInBounds_ne hne]
        rw [this]; exact vrel_ext X _ _ (h s u h2)

theorem put_size {a : Act} {dst : Option Nat} {v : Value} : (a.put dst v).tmps.size = a.tmps.size := by cases dst <;> simp [Act.put]
theorem put_defers {a : Act} {dst : Option Nat} {v : Value} : (a.put dst v).defers = a.defers := by cases dst <;> simp [Act.put]

theorem getD_get {t : Array Value} {d : Nat} {v : Value} (h : t.getD d undef = v) (hv : v ≠ undef) : t[d]? = some v := by
  rw [Array.getD_eq_getD_getElem?] at h
  cases hx : t[d]? with
  | none => rw [hx] at h; exact absurd h.symm hv
  | some u => rw [hx] at h; simpa using h

theorem guard_sound {E : Env} {all : List Oper} {T : Nat → V} {a : Act} (hT : ∀ s, vrel E (T s) (a.tmps.getD s undef)) {o : Oper} {b : Bool}
    (h : (match o.guard with
      | none => some true
      | some (j, want) => match all[j]? with
        | some oj => match oj.dst with
          | some dj => match T dj with
            | .kb b => some (b == want)
            | .tup [] => some false
            | _ => none
          | none => none
        | none => none : Option Bool) = some b) : Region.wanted o (yielded all.toArray a.tmps) = b := by
  unfold Region.wanted
  cases hg : o.guard with
  | none => rw [hg] at h; simpa using h
  | some q =>
    obtain ⟨j, want⟩ := q
    rw [hg] at h
    simp only at h ⊢
    cases hj : all[j]? with
    | none => rw [hj] at h; simp at h
    | some oj =>
      rw [hj] at h
      simp only at h
      cases hd : oj.dst with
      | none => rw [hd] at h; simp at h
      | some dj =>
        rw [hd] at h
        simp only at h
        have hv := hT dj
        have hy : yielded all.toArray a.tmps j = match a.tmps[dj]? with | some (.bool b) => some b | _ => none := by
          unfold yielded
          simp only [List.getElem?_toArray, hj, Option.bind_some, hd]
          rfl
        rw [hy]
        split at h
        · rename_i b' hb
          rw [hb] at hv
          simp only [vrel] at hv
          rw [getD_get hv (by simp [undef])]
          simp only [Option.some.injEq] at h
          subst h
          cases b' <;> cases want <;> rfl
        · rename_i hb
          rw [hb] at hv
          simp only [vrel] at hv
          obtain ⟨l, hl, hv⟩ := hv
          have hl0 : l.toList = [] := by cases hx : l.toList with | nil => rfl | cons => rw [hx] at hv; simp [vrels] at hv
          have hl1 : l = #[] := by apply Array.ext'; simpa using hl0
          subst hl1
          simp only [Option.some.injEq] at h
          subst h
          rw [Array.getD_eq_getD_getElem?] at hl
          cases hx : a.tmps[dj]? with
          | none => rfl
          | some u => rw [hx] at hl; simp only [Option.getD_some] at hl; subst hl; rfl
        · cases h

theorem guardOf_sound {E : Env} {all : List Oper} {tm : List (Nat × V)} {a : Act} (hT : tmOK E (find tm) a) {o : Oper} {b : Bool} (h : guardOf all tm o = some b) : Region.wanted o (yielded all.toArray a.tmps) = b :=
  guard_sound (E := E) (T := lookV tm) (fun s => lookV_sound hT s) h

theorem evAny_sound {B : Base} {E : Env} (hE : HRel B E) {C : Cfg} (hT : TblOK P C.tb) (hK : 1 ≤ C.K) (hΓ : ∀ f c, C.Γ f = some c → CtrOK P C.K f c) {m : Nat} (hm : ∀ n, m ≤ n → n < m + C.K → ¬ E.U n) {ev : Operand → V} {a : Act} (hev : ∀ x, vrel E (ev x) (a.eval x))
    {o : Oper} {ps : List Prop} {v : V} {dh : List (Nat × Blk)} (h : evAny C m E.H ev o.op = some (ps, v, dh)) (hps : ∀ p ∈ ps, p) {next : Act → World → Prop} {Q : Exit → Act → World → Prop}
    (hn : ∀ v' E', GoodK B E m C.K dh E'.w E' → vrel E' v v' → next (a.put o.dst v') E'.w) : o.wp P a E.w next Q := by
  unfold evAny at h
  split at h
  · rename_i ps' dh' hs
    cases h
    exact evSt_sound hE hT hK hev hs fun E' G => hn _ _ G (by simp [vrel, undef, vrels])
  · split at h
    case h_2 => cases h
    rename_i ps' v' dh' hs
    cases h
    exact evOp_sound hE hT hK hΓ hm hev hs hps hn

theorem vput {E : Env} {v v' : V} {u : Value} (h : v' = v ∨ ∃ b, v = .bool b ∧ v' = .kb b) (hv : vrel E v u) : vrel E v' u := by
  rcases h with rfl | ⟨b, rfl, rfl⟩
  · exact hv
  · simpa [vrel] using hv

/-- what is asked of a setting -/
structure CfgOK (P : Program) (C : Cfg) : Prop where
  tb : TblOK P C.tb
  K : 1 ≤ C.K
  Γ : ∀ f c, C.Γ f = some c → CtrOK P C.K f c

/-- A region in the text's order. -/
theorem run_seq {C : Cfg} (hC : CfgOK P C) {B : Base} {all : List Oper} {st : St} {Q : Exit → Act → World → Prop} : ∀ (rest : List Oper) (i : Nat) (d : Dl) (recs : List Rec) (df : Dl) (rf : List Rec), Run C false all st i rest d recs df rf →
    (∀ a w, SRel B C.N (find (df.tm ++ st.tm)) (hset st.H df.hp) (fun n => n < st.nx + (i + rest.length) * C.K) a w → Q .normal a w) →
    ∀ a w, SRel B C.N (find (d.tm ++ st.tm)) (hset st.H d.hp) (fun n => n < st.nx + i * C.K) a w → wpList P all.toArray Q rest a w
  | [], i, d, recs, df, rf, hr, hQ, a, w, hs => by
    cases hr
    exact wpList_nil (hQ a w (by simpa using hs))
  | o :: rest, i, d, recs, df, rf, hr, hQ, a, w, hs => by
    cases hr with
    | @cons _ _ _ _ _ r _ _ hdo hrun =>
      have ih := run_seq hC (B := B) (Q := Q) rest (i + 1) _ _ _ _ hrun (fun a w h => hQ a w (by
        have e : i + 1 + rest.length = i + (o :: rest).length := by simp; omega
        rw [e] at h; exact h))
      obtain ⟨⟨E, hE, rfl, hH, hU, hT⟩, hsz, hdf⟩ := hs
      have hTm : tmOK E (find (d.tm ++ st.tm)) a := hT
      -- what stands behind it
      have after : ∀ (E' : Env) (v' : Value), GoodK B E (st.nx + i * C.K) C.K r.dh E'.w E' → vrel E' r.v v' → dstIn C.N o.dst = true → r.dst = o.dst →
          SRel B C.N (find (dstPut r.dst r.v ++ d.tm ++ st.tm)) (hset st.H (r.dh ++ d.hp)) (fun n => n < st.nx + (i + 1) * C.K) (a.put o.dst v') E'.w := fun E' v' G hv hd he => by
        refine ⟨⟨E', G.rel, rfl, by rw [G.h, hset_append, hH], fun n hn => ?_, ?_⟩, by rw [put_size]; exact hsz, by rw [put_defers]; exact hdf⟩
        · rw [Nat.add_mul, Nat.one_mul]
          rcases G.u n hn with h | h
          · have := hU n h; omega
          · omega
        · rw [he]
          exact put_ok G.ext hTm hsz hd hv (fun s u hu => by
            rw [List.append_assoc, find_append] at hu
            cases hf : find (dstPut o.dst r.v) s with
            | some x => rw [hf] at hu; exact .inl hu
            | none => rw [hf] at hu; exact .inr ⟨rfl, hu⟩)
      obtain ⟨hd, he, _⟩ := hdo.dstIn
      unfold wpList
      cases hdo with
      | skip _ hg =>
        have hw := guardOf_sound (E := E) hTm hg
        rw [hw]
        simp only [Bool.false_eq_true, if_false]
        exact ih _ _ (after E undef ⟨hE, Ext.refl E, rfl, rfl, fun n h => .inl h⟩ (by simp [vrel, undef, vrels]) hd rfl)
      | @run ps v v' dh R _ hg hst hps hv =>
        have hw := guardOf_sound (E := E) hTm hg
        rw [hw]
        simp only [if_true]
        simp only [stepOp] at hst
        split at hst
        case h_2 => cases hst
        rename_i ps' v2 dh' hev
        cases hst
        rw [← hH] at hev
        exact .inl (evAny_sound hE hC.tb hC.K hC.Γ (fun n h1 h2 hu => by have := hU n hu; omega) (opnd_sound hTm) hev hps fun v'' E' G hv' => ih _ _ (after E' v'' G (vput hv hv') hd rfl))

end Go.Mir
