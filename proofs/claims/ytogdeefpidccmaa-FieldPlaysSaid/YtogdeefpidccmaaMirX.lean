/- The mirror, part 24: results of functions. -/
import Derived.Test.YtogdeefpidccmaaMirW
namespace Go.Mir
open Go.RowKit

variable {P : Program}

abbrev Acc := List (Nat × RowD)

structure AccOK (E : Env) (acc : Acc) : Prop where
  nodup : (acc.map (·.1)).Nodup
  row : ∀ h r, (h, r) ∈ acc → ∃ ver, E.H h = some (.row ver true r.t r.xs)

/-- the rows stand under new names -/
def Ren (E E2 : Env) (m : Nat) (acc : Acc) : Prop := ∀ i h r, acc[i]? = some (h, r) → E2.U (m + i) ∧ E2.ρ (m + i) = E.ρ h ∧ E2.H (m + i) = some (.row (m + i) true r.t r.xs)

theorem Ren.front {E E2 : Env} {m : Nat} {acc suf : Acc} (h : Ren E E2 m (acc ++ suf)) : Ren E E2 m acc := fun i hh r hi => h i hh r (by
  have : i < acc.length := by
    rcases Nat.lt_or_ge i acc.length with h1 | h1
    · exact h1
    · rw [List.getElem?_eq_none h1] at hi; cases hi
  rw [List.getElem?_append_left this]; exact hi)

structure CanOK (E : Env) (m : Nat) (acc acc' : Acc) (v : V) (u : Value) : Prop where
  pre : ∃ suf, acc' = acc ++ suf
  acc : AccOK E acc → AccOK E acc'
  rel : ∀ E2 : Env, E2.w = E.w → ((∀ b, E.S b → E2.S b) ∨ v.noF = true) → Ren E E2 m acc' → vrel E2 (v.shift m) u

structure CansOK (E : Env) (m : Nat) (acc acc' : Acc) (v : List V) (u : List Value) : Prop where
  pre : ∃ suf, acc' = acc ++ suf
  acc : AccOK E acc → AccOK E acc'
  rel : ∀ E2 : Env, E2.w = E.w → ((∀ b, E.S b → E2.S b) ∨ noFs v = true) → Ren E E2 m acc' → vrels E2 (shifts m v) u

theorem can_same {E : Env} {m : Nat} {acc : Acc} {v : V} {u : Value} (h : ∀ E2 : Env, E2.w = E.w → ((∀ b, E.S b → E2.S b) ∨ v.noF = true) → vrel E2 (v.shift m) u) : CanOK E m acc acc v u :=
  ⟨⟨[], by simp⟩, fun h => h, fun E2 hw hs _ => h E2 hw hs⟩

mutual
theorem canV_sound {B : Base} {E : Env} (hE : HRel B E) (m : Nat) : ∀ (v0 : V) (acc : Acc) (v : V) (acc' : Acc) (u : Value), canV E.H v0 acc = some (v, acc') → vrel E v0 u → CanOK E m acc acc' v u
  | .osl h ver, acc, v, acc', u, hc, hv => by
    simp only [canV] at hc
    split at hc
    case h_2 => cases hc
    rename_i ver' rw t xs hH
    split at hc
    case isFalse => cases hc
    rename_i e
    subst e
    have hrow := osl_row hE hH hv
    cases rw with
    | true =>
      simp only [cond_true] at hc
      cases hm : memN (acc.map (·.1)) h with
      | true => rw [hm] at hc; cases hc
      | false =>
        rw [hm] at hc
        simp only [cond_false, Option.some.injEq, Prod.mk.injEq] at hc
        obtain ⟨rfl, rfl⟩ := hc
        have hnm : h ∉ acc.map (·.1) := fun hh => by rw [memN_iff.2 hh] at hm; cases hm
        refine ⟨⟨_, rfl⟩, fun ha => ⟨?_, fun h2 r hr => ?_⟩, fun E2 hw _ hren => ?_⟩
        · rw [List.map_append, List.nodup_append]
          refine ⟨ha.nodup, by simp, fun a ha' b hb => ?_⟩
          simp only [List.map_cons, List.map_nil, List.mem_singleton] at hb
          subst hb
          exact fun e => hnm (e ▸ ha')
        · rcases List.mem_append.1 hr with hr | hr
          · exact ha.row _ _ hr
          · simp only [List.mem_singleton, Prod.mk.injEq] at hr
            obtain ⟨rfl, rfl⟩ := hr
            exact ⟨_, hH⟩
        · obtain ⟨h1, h2, h3⟩ := hren acc.length h ⟨t, xs⟩ (by simp)
          simp only [V.shift, vrel]
          refine ⟨h1, h1, ?_, fun rw' t' xs' hx => ?_⟩
          · rcases hrow with ⟨_, _, a, ha⟩ | ⟨b, cap, c, T, fr, _, hh, _⟩
            · exact ⟨_, _, _, ha⟩
            · exact ⟨_, _, _, hh⟩
          · rw [h3] at hx
            cases hx
            rw [h2, hw]
            rcases hrow with ⟨k1, _, k3⟩ | ⟨b, cap, c, T, fr, k1, k2, k3, k4, k5, _⟩
            · exact .inl ⟨k1, k3⟩
            · exact .inr ⟨b, cap, c, T, fr, k1, k2, k3, k4, k5⟩
    | false =>
      simp only [cond_false, Option.some.injEq, Prod.mk.injEq] at hc
      obtain ⟨rfl, rfl⟩ := hc
      refine can_same fun E2 hw hs => ?_
      rcases hs with hs | hs
      case inr => simp [V.noF] at hs
      simp only [V.shift, vrel]
      rcases hrow with ⟨_, rfl, a, rfl⟩ | ⟨b, cap, c, T, fr, _, rfl, k3, k4, k5, _, _, k8, k9, k10, k11⟩
      · exact .nil
      · exact .slice (hs _ (k8 rfl)) (by rw [hw]; exact k3) (by simpa using k9) k5 k10 (fun i hi => by
          have := (k11 i hi).ext hs (w' := E2.w) (fun b _ => by rw [hw])
          simpa using this)
  | .agg cs, acc, v, acc', u, hc, hv => by
    simp only [canV] at hc
    split at hc
    case h_2 => cases hc
    rename_i l acc2 hcs
    simp only [Option.some.injEq, Prod.mk.injEq] at hc
    obtain ⟨rfl, rfl⟩ := hc
    simp only [vrel] at hv
    obtain ⟨l', rfl, hv⟩ := hv
    obtain ⟨h1, h2, h3⟩ := canVs_sound hE m cs acc l acc2 _ hcs hv
    refine ⟨h1, h2, fun E2 hw hs hren => ?_⟩
    simp only [V.shift, vrel]
    exact ⟨l', rfl, h3 E2 hw hs hren⟩
  | .tup cs, acc, v, acc', u, hc, hv => by
    simp only [canV] at hc
    split at hc
    case h_2 => cases hc
    rename_i l acc2 hcs
    simp only [Option.some.injEq, Prod.mk.injEq] at hc
    obtain ⟨rfl, rfl⟩ := hc
    simp only [vrel] at hv
    obtain ⟨l', rfl, hv⟩ := hv
    obtain ⟨h1, h2, h3⟩ := canVs_sound hE m cs acc l acc2 _ hcs hv
    refine ⟨h1, h2, fun E2 hw hs hren => ?_⟩
    simp only [V.shift, vrel]
    exact ⟨l', rfl, h3 E2 hw hs hren⟩
  | .ptr _ _, _, _, _, _, hc, _ => by simp [canV] at hc
  | .rp _ _ _ _, _, _, _, _, hc, _ => by simp [canV] at hc
  | .fp _ _ _ _, _, _, _, _, hc, _ => by simp [canV] at hc
  | .fn _ _, _, _, _, _, hc, _ => by simp [canV] at hc
  | .hint _ _, _, _, _, _, hc, _ => by simp [canV] at hc
  | .any, acc, v, acc', u, hc, hv => by
    simp only [canV, Option.some.injEq, Prod.mk.injEq] at hc
    obtain ⟨rfl, rfl⟩ := hc
    exact can_same fun E2 hw hs => by simp [V.shift, vrel]
  | .int k n, acc, v, acc', u, hc, hv => by
    simp only [canV, Option.some.injEq, Prod.mk.injEq] at hc
    obtain ⟨rfl, rfl⟩ := hc
    exact can_same fun E2 hw hs => by simpa [V.shift, vrel] using hv
  | .bool b, acc, v, acc', u, hc, hv => by
    simp only [canV, Option.some.injEq, Prod.mk.injEq] at hc
    obtain ⟨rfl, rfl⟩ := hc
    exact can_same fun E2 hw hs => by simpa [V.shift, vrel] using hv
  | .kb b, acc, v, acc', u, hc, hv => by
    simp only [canV, Option.some.injEq, Prod.mk.injEq] at hc
    obtain ⟨rfl, rfl⟩ := hc
    exact can_same fun E2 hw hs => by simpa [V.shift, vrel] using hv
  | .str s, acc, v, acc', u, hc, hv => by
    simp only [canV, Option.some.injEq, Prod.mk.injEq] at hc
    obtain ⟨rfl, rfl⟩ := hc
    exact can_same fun E2 hw hs => by simpa [V.shift, vrel] using hv
  | .nilptr, acc, v, acc', u, hc, hv => by
    simp only [canV, Option.some.injEq, Prod.mk.injEq] at hc
    obtain ⟨rfl, rfl⟩ := hc
    exact can_same fun E2 hw hs => by simpa [V.shift, vrel] using hv
  | .nilsl, acc, v, acc', u, hc, hv => by
    simp only [canV, Option.some.injEq, Prod.mk.injEq] at hc
    obtain ⟨rfl, rfl⟩ := hc
    exact can_same fun E2 hw hs => by simpa [V.shift, vrel] using hv
  | .esl, acc, v, acc', u, hc, hv => by
    simp only [canV, Option.some.injEq, Prod.mk.injEq] at hc
    obtain ⟨rfl, rfl⟩ := hc
    exact can_same fun E2 hw hs => by simpa [V.shift, vrel] using hv
  | .fsl t xs, acc, v, acc', u, hc, hv => by
    simp only [canV, Option.some.injEq, Prod.mk.injEq] at hc
    obtain ⟨rfl, rfl⟩ := hc
    refine can_same fun E2 hw hs => ?_
    rcases hs with hs | hs
    case inr => simp [V.noF] at hs
    simp only [V.shift, vrel] at hv ⊢
    exact hv.ext hs (fun b _ => by rw [hw])
  | .nilfn, acc, v, acc', u, hc, hv => by
    simp only [canV, Option.some.injEq, Prod.mk.injEq] at hc
    obtain ⟨rfl, rfl⟩ := hc
    exact can_same fun E2 hw hs => by simpa [V.shift, vrel] using hv
  | .nilmap, acc, v, acc', u, hc, hv => by
    simp only [canV, Option.some.injEq, Prod.mk.injEq] at hc
    obtain ⟨rfl, rfl⟩ := hc
    exact can_same fun E2 hw hs => by simpa [V.shift, vrel] using hv
theorem canVs_sound {B : Base} {E : Env} (hE : HRel B E) (m : Nat) : ∀ (v0 : List V) (acc : Acc) (v : List V) (acc' : Acc) (u : List Value), canVs E.H v0 acc = some (v, acc') → vrels E v0 u → CansOK E m acc acc' v u
  | [], acc, v, acc', u, hc, hv => by
    simp only [canVs, Option.some.injEq, Prod.mk.injEq] at hc
    obtain ⟨rfl, rfl⟩ := hc
    exact ⟨⟨[], by simp⟩, fun h => h, fun E2 hw hs _ => by cases u <;> simp_all [shifts, vrels]⟩
  | x :: xs, acc, v, acc', u, hc, hv => by
    simp only [canVs] at hc
    split at hc
    case h_2 => cases hc
    rename_i v1 acc1 h1
    split at hc
    case h_2 => cases hc
    rename_i l2 acc2 h2
    simp only [Option.some.injEq, Prod.mk.injEq] at hc
    obtain ⟨rfl, rfl⟩ := hc
    cases u with
    | nil => simp [vrels] at hv
    | cons u us =>
      simp only [vrels] at hv
      obtain ⟨⟨s1, e1⟩, a2, a3⟩ := canV_sound hE m x acc v1 acc1 u h1 hv.1
      obtain ⟨⟨s2, e2⟩, b2, b3⟩ := canVs_sound hE m xs acc1 l2 acc2 us h2 hv.2
      refine ⟨⟨s1 ++ s2, by rw [e2, e1, List.append_assoc]⟩, fun h => b2 (a2 h), fun E2 hw hs hren => ?_⟩
      simp only [shifts, vrels]
      simp only [noFs, Bool.and_eq_true] at hs
      exact ⟨a3 E2 hw (hs.imp id (·.1)) (by rw [e2] at hren; exact hren.front), b3 E2 hw (hs.imp id (·.2)) hren⟩
end

/-! ## the results out of the last state -/

/-- one result, read -/
def rd1 (tmps : Array Value) : ResultVar → Sem Value
  | .tmp t => pure (tmps.getD t undef)
  | .cell c t => do loadVar t (← asAddr (tmps.getD c undef))

theorem results_eq (fn : Func) (tmps : Array Value) : results fn tmps = ((fn.results.mapM (rd1 tmps)) >>= fun (vs : Array Value) => pure (if h : vs.size = 1 then vs[0] else .tuple vs)) := by
  unfold results
  congr

theorem res1_sound {B : Base} {E : Env} (hE : HRel B E) {tb : Tbl} (hT : TblOK P tb) {tm : List (Nat × V)} {a : Act} (ha : tmOK E (find tm) a) {r : ResultVar} {v : V} (h : res1 tb tm E.H r = some v) :
    ∃ v', (rd1 a.tmps r).run P E.w = .ok v' E.w ∧ vrel E v v' := by
  cases r with
  | tmp t =>
    simp only [res1, Option.some.injEq] at h
    subst h
    exact ⟨_, rfl, lookV_sound ha t⟩
  | cell c t =>
    simp only [res1] at h
    split at h
    case h_2 => cases h
    rename_i td htd
    split at h
    case h_2 => cases h
    rename_i ps v2 dh hl
    simp only [Option.some.injEq] at h
    subst h
    obtain ⟨_, v', h1, h2⟩ := evLoad_sound hE (hT _ _ htd) (lookV_sound ha c) hl
    refine ⟨v', ?_, h2⟩
    have : ∀ x : Value, (Instr.loadAt t x).run P E.w = .ok v' E.w → ((do loadVar t (← asAddr x) : Sem Value).run P E.w = .ok v' E.w) := fun x hx => by
      cases x with
      | pointer o =>
        cases o with
        | some ad => simpa [Instr.loadAt, Instr.sureAddr, asAddr] using hx
        | none => simp [Instr.loadAt, Instr.sureAddr] at hx
      | _ => simp [Instr.loadAt, Instr.sureAddr] at hx
    exact this _ h1

theorem run_mapM_rel {α : Type} {E : Env} {w : World} (f : α → Sem Value) (g : α → Option V) (hfg : ∀ x v, g x = some v → ∃ v', (f x).run P w = .ok v' w ∧ vrel E v v') : ∀ (l : List α) (vs : List V), l.length = vs.length → (∀ (i : Nat) (x : α) (v : V), l[i]? = some x → vs[i]? = some v → g x = some v) →
    ∃ us, (l.mapM f).run P w = .ok us w ∧ vrels E vs us
  | [], [], _, _ => ⟨[], rfl, by simp [vrels]⟩
  | [], _ :: _, h, _ => by simp at h
  | _ :: _, [], h, _ => by simp at h
  | x :: l, v :: vs, h, hg => by
    obtain ⟨v', h1, h2⟩ := hfg x v (hg 0 x v rfl rfl)
    obtain ⟨us, h3, h4⟩ := run_mapM_rel f g hfg l vs (by simpa using h) (fun i y u hy hu => hg (i + 1) y u (by simpa using hy) (by simpa using hu))
    refine ⟨v' :: us, ?_, by simp only [vrels]; exact ⟨h2, h4⟩⟩
    simp [List.mapM_cons, h1, h3]

theorem resL_get {tb : Tbl} {tm : List (Nat × V)} {H : Heap} : ∀ {rs : List ResultVar} {l : List V}, resL tb tm H rs = some l → rs.length = l.length ∧ ∀ (i : Nat) (x : ResultVar) (v : V), rs[i]? = some x → l[i]? = some v → res1 tb tm H x = some v
  | [], l, h => by simp only [resL, Option.some.injEq] at h; subst h; exact ⟨rfl, fun i x v hx => by simp at hx⟩
  | r :: rs, l, h => by
    simp only [resL] at h
    split at h
    case h_2 => cases h
    rename_i v1 h1
    split at h
    case h_2 => cases h
    rename_i l2 h2
    simp only [Option.some.injEq] at h
    subst h
    obtain ⟨k1, k2⟩ := resL_get h2
    refine ⟨by simp [k1], fun i x v hx hv => ?_⟩
    cases i with
    | zero => simp only [List.getElem?_cons_zero, Option.some.injEq] at hx hv; subst hx; subst hv; exact h1
    | succ i => exact k2 i x v (by simpa using hx) (by simpa using hv)

theorem resV_sound {B : Base} {E : Env} (hE : HRel B E) {tb : Tbl} (hT : TblOK P tb) {tm : List (Nat × V)} {a : Act} (ha : tmOK E (find tm) a) {fn : Func} {v : V} (h : resV tb tm E.H fn.results.toList = some v) :
    ∃ v', (results fn a.tmps).run P E.w = .ok v' E.w ∧ vrel E v v' := by
  unfold resV at h
  have key : ∀ l, resL tb tm E.H fn.results.toList = some l → ∃ us, (fn.results.mapM (rd1 a.tmps)).run P E.w = .ok us E.w ∧ vrels E l us.toList := fun l hl => by
    obtain ⟨k1, k2⟩ := resL_get hl
    obtain ⟨us, h1, h2⟩ := run_mapM_rel (P := P) (E := E) (w := E.w) (rd1 a.tmps) (res1 tb tm E.H) (fun x v hx => res1_sound hE hT ha hx) _ _ k1 k2
    refine ⟨us.toArray, ?_, by simpa using h2⟩
    rw [Array.mapM_eq_mapM_toList, Sem.run_map, h1]
    rfl
  split at h
  · rename_i v1 hl
    simp only [Option.some.injEq] at h
    subst h
    obtain ⟨us, h1, h2⟩ := key _ hl
    have hsz : us.size = 1 := by have := vrels_len h2; simpa using this.symm
    refine ⟨us[0], ?_, ?_⟩
    · rw [results_eq, Sem.run_bind, h1]
      simp [hsz]
    · have : us.toList = [us[0]] := by
        apply List.ext_getElem?
        intro i
        cases i with
        | zero => simp [hsz]
        | succ i => simp [hsz]
      rw [this] at h2
      simp only [vrels] at h2
      exact h2.1
  · rename_i l hne hl
    simp only [Option.some.injEq] at h
    subst h
    obtain ⟨us, h1, h2⟩ := key _ hl
    have hsz : ¬ us.size = 1 := fun hs => by
      have := vrels_len h2
      have h3 : l.length = 1 := by simpa [hs] using this
      obtain ⟨x, rfl⟩ := List.length_eq_one_iff.1 h3
      exact hne x rfl
    refine ⟨.tuple us, ?_, ?_⟩
    · rw [results_eq, Sem.run_bind, h1]
      simp [hsz]
    · simp only [vrel]; exact ⟨us, rfl, h2⟩
  · cases h

end Go.Mir
