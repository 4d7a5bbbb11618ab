/- Texts of the mirror and contracts, put together. -/
import Derived.Test.YtidkcdcajfkgbaaGreatDoorPR32

/- The mirror, part 24: results of functions. -/
namespace Go.Mir
open Go.RowKit

variable {P : Program}

abbrev Acc := List (Nat × RowD)

structure AccOK (E : Env) (acc : Acc) : Prop where
  nodup : (acc.map (·.1)).Nodup
  row : ∀ h r, (h, r) ∈ acc → ∃ ver, E.H h = some (.row ver true r.t r.xs)

/-- the rows stand under new names -/
def Ren (E E2 : Env) (m : Nat) (acc : Acc) : Prop := ∀ i h r, acc[i]? = some (h, r) → E2.U (m + i) ∧ E2.ρ (m + i) = E.ρ h ∧ E2.H (m + i) = some (.row (m + i) true r.t r.xs)

theorem Ren.front {E E2 : Env} {m : Nat} {acc suf : Acc} (h : Ren E E2 m (acc ++ suf)) : Ren E E2 m acc := fun i hh r hi => h i hh r (by
  have : i < acc.length := by
    rcases Nat.lt_or_ge i acc.length with h1 | h1
    · exact h1
    · rw [List.getElem?_eq_none h1] at hi; cases hi
  rw [List.getElem?_append_left this]; exact hi)

structure CanOK (E : Env) (m : Nat) (acc acc' : Acc) (v : V) (u : Value) : Prop where
  pre : ∃ suf, acc' = acc ++ suf
  acc : AccOK E acc → AccOK E acc'
  rel : ∀ E2 : Env, E2.w = E.w → ((∀ b, E.S b → E2.S b) ∨ v.noF = true) → Ren E E2 m acc' → vrel E2 (v.shift m) u

structure CansOK (E : Env) (m : Nat) (acc acc' : Acc) (v : List V) (u : List Value) : Prop where
  pre : ∃ suf, acc' = acc ++ suf
  acc : AccOK E acc → AccOK E acc'
  rel : ∀ E2 : Env, E2.w = E.w → ((∀ b, E.S b → E2.S b) ∨ noFs v = true) → Ren E E2 m acc' → vrels E2 (shifts m v) u

theorem can_same {E : Env} {m : Nat} {acc : Acc} {v : V} {u : Value} (h : ∀ E2 : Env, E2.w = E.w → ((∀ b, E.S b → E2.S b) ∨ v.noF = true) → vrel E2 (v.shift m) u) : CanOK E m acc acc v u :=
  ⟨⟨[], by simp⟩, fun h => h, fun E2 hw hs _ => h E2 hw hs⟩

mutual
theorem canV_sound {B : Base} {E : Env} (hE : HRel B E) (m : Nat) : ∀ (v0 : V) (acc : Acc) (v : V) (acc' : Acc) (u : Value), canV E.H v0 acc = some (v, acc') → vrel E v0 u → CanOK E m acc acc' v u
  | .osl h ver, acc, v, acc', u, hc, hv => by
    simp only [canV] at hc
    split at hc
    case h_2 => cases hc
    rename_i ver' rw t xs hH
    split at hc
    case isFalse => cases hc
    rename_i e
    subst e
    have hrow := osl_row hE hH hv
    cases rw with
    | true =>
      simp only [cond_true] at hc
      cases hm : memN (acc.map (·.1)) h with
      | true => rw [hm] at hc; cases hc
      | false =>
        rw [hm] at hc
        simp only [cond_false, Option.some.injEq, Prod.mk.injEq] at hc
        obtain ⟨rfl, rfl⟩ := hc
        have hnm : h ∉ acc.map (·.1) := fun hh => by rw [memN_iff.2 hh] at hm; cases hm
        refine ⟨⟨_, rfl⟩, fun ha => ⟨?_, fun h2 r hr => ?_⟩, fun E2 hw _ hren => ?_⟩
        · rw [List.map_append, List.nodup_append]
          refine ⟨ha.nodup, by simp, fun a ha' b hb => ?_⟩
          simp only [List.map_cons, List.map_nil, List.mem_singleton] at hb
          subst hb
          exact fun e => hnm (e ▸ ha')
        · rcases List.mem_append.1 hr with hr | hr
          · exact ha.row _ _ hr
          · simp only [List.mem_singleton, Prod.mk.injEq] at hr
            obtain ⟨rfl, rfl⟩ := hr
            exact ⟨_, hH⟩
        · obtain ⟨h1, h2, h3⟩ := hren acc.length h ⟨t, xs⟩ (by simp)
          simp only [V.shift, vrel]
          refine ⟨h1, h1, ?_, fun rw' t' xs' hx => ?_⟩
          · rcases hrow with ⟨_, _, a, ha⟩ | ⟨b, cap, c, T, fr, _, hh, _⟩
            · exact ⟨_, _, _, ha⟩
            · exact ⟨_, _, _, hh⟩
          · rw [h3] at hx
            cases hx
            rw [h2, hw]
            rcases hrow with ⟨k1, _, k3⟩ | ⟨b, cap, c, T, fr, k1, k2, k3, k4, k5, _⟩
            · exact .inl ⟨k1, k3⟩
            · exact .inr ⟨b, cap, c, T, fr, k1, k2, k3, k4, k5⟩
    | false =>
      simp only [cond_false, Option.some.injEq, Prod.mk.injEq] at hc
      obtain ⟨rfl, rfl⟩ := hc
      refine can_same fun E2 hw hs => ?_
      rcases hs with hs | hs
      case inr => simp [V.noF] at hs
      simp only [V.shift, vrel]
      rcases hrow with ⟨_, rfl, a, rfl⟩ | ⟨b, cap, c, T, fr, _, rfl, k3, k4, k5, _, _, k8, k9, k10, k11⟩
      · exact .nil
      · exact .slice (hs _ (k8 rfl)) (by rw [hw]; exact k3) (by simpa using k9) k5 k10 (fun i hi => by
          have := (k11 i hi).ext hs (w' := E2.w) (fun b _ => by rw [hw])
          simpa using this)
  | .agg cs, acc, v, acc', u, hc, hv => by
    simp only [canV] at hc
    split at hc
    case h_2 => cases hc
    rename_i l acc2 hcs
    simp only [Option.some.injEq, Prod.mk.injEq] at hc
    obtain ⟨rfl, rfl⟩ := hc
    simp only [vrel] at hv
    obtain ⟨l', rfl, hv⟩ := hv
    obtain ⟨h1, h2, h3⟩ := canVs_sound hE m cs acc l acc2 _ hcs hv
    refine ⟨h1, h2, fun E2 hw hs hren => ?_⟩
    simp only [V.shift, vrel]
    exact ⟨l', rfl, h3 E2 hw hs hren⟩
  | .tup cs, acc, v, acc', u, hc, hv => by
    simp only [canV] at hc
    split at hc
    case h_2 => cases hc
    rename_i l acc2 hcs
    simp only [Option.some.injEq, Prod.mk.injEq] at hc
    obtain ⟨rfl, rfl⟩ := hc
    simp only [vrel] at hv
    obtain ⟨l', rfl, hv⟩ := hv
    obtain ⟨h1, h2, h3⟩ := canVs_sound hE m cs acc l acc2 _ hcs hv
    refine ⟨h1, h2, fun E2 hw hs hren => ?_⟩
    simp only [V.shift, vrel]
    exact ⟨l', rfl, h3 E2 hw hs hren⟩
  | .ptr _ _, _, _, _, _, hc, _ => by simp [canV] at hc
  | .rp _ _ _ _, _, _, _, _, hc, _ => by simp [canV] at hc
  | .fp _ _ _ _, _, _, _, _, hc, _ => by simp [canV] at hc
  | .fn _ _, _, _, _, _, hc, _ => by simp [canV] at hc
  | .hint _ _, _, _, _, _, hc, _ => by simp [canV] at hc
  | .any, acc, v, acc', u, hc, hv => by
    simp only [canV, Option.some.injEq, Prod.mk.injEq] at hc
    obtain ⟨rfl, rfl⟩ := hc
    exact can_same fun E2 hw hs => by simp [V.shift, vrel]
  | .int k n, acc, v, acc', u, hc, hv => by
    simp only [canV, Option.some.injEq, Prod.mk.injEq] at hc
    obtain ⟨rfl, rfl⟩ := hc
    exact can_same fun E2 hw hs => by simpa [V.shift, vrel] using hv
  | .bool b, acc, v, acc', u, hc, hv => by
    simp only [canV, Option.some.injEq, Prod.mk.injEq] at hc
    obtain ⟨rfl, rfl⟩ := hc
    exact can_same fun E2 hw hs => by simpa [V.shift, vrel] using hv
  | .kb b, acc, v, acc', u, hc, hv => by
    simp only [canV, Option.some.injEq, Prod.mk.injEq] at hc
    obtain ⟨rfl, rfl⟩ := hc
    exact can_same fun E2 hw hs => by simpa [V.shift, vrel] using hv
  | .str s, acc, v, acc', u, hc, hv => by
    simp only [canV, Option.some.injEq, Prod.mk.injEq] at hc
    obtain ⟨rfl, rfl⟩ := hc
    exact can_same fun E2 hw hs => by simpa [V.shift, vrel] using hv
  | .nilptr, acc, v, acc', u, hc, hv => by
    simp only [canV, Option.some.injEq, Prod.mk.injEq] at hc
    obtain ⟨rfl, rfl⟩ := hc
    exact can_same fun E2 hw hs => by simpa [V.shift, vrel] using hv
  | .nilsl, acc, v, acc', u, hc, hv => by
    simp only [canV, Option.some.injEq, Prod.mk.injEq] at hc
    obtain ⟨rfl, rfl⟩ := hc
    exact can_same fun E2 hw hs => by simpa [V.shift, vrel] using hv
  | .esl, acc, v, acc', u, hc, hv => by
    simp only [canV, Option.some.injEq, Prod.mk.injEq] at hc
    obtain ⟨rfl, rfl⟩ := hc
    exact can_same fun E2 hw hs => by simpa [V.shift, vrel] using hv
  | .fsl t xs, acc, v, acc', u, hc, hv => by
    simp only [canV, Option.some.injEq, Prod.mk.injEq] at hc
    obtain ⟨rfl, rfl⟩ := hc
    refine can_same fun E2 hw hs => ?_
    rcases hs with hs | hs
    case inr => simp [V.noF] at hs
    simp only [V.shift, vrel] at hv ⊢
    exact hv.ext hs (fun b _ => by rw [hw])
  | .nilfn, acc, v, acc', u, hc, hv => by
    simp only [canV, Option.some.injEq, Prod.mk.injEq] at hc
    obtain ⟨rfl, rfl⟩ := hc
    exact can_same fun E2 hw hs => by simpa [V.shift, vrel] using hv
  | .nilmap, acc, v, acc', u, hc, hv => by
    simp only [canV, Option.some.injEq, Prod.mk.injEq] at hc
    obtain ⟨rfl, rfl⟩ := hc
    exact can_same fun E2 hw hs => by simpa [V.shift, vrel] using hv
theorem canVs_sound {B : Base} {E : Env} (hE : HRel B E) (m : Nat) : ∀ (v0 : List V) (acc : Acc) (v : List V) (acc' : Acc) (u : List Value), canVs E.H v0 acc = some (v, acc') → vrels E v0 u → CansOK E m acc acc' v u
  | [], acc, v, acc', u, hc, hv => by
    simp only [canVs, Option.some.injEq, Prod.mk.injEq] at hc
    obtain ⟨rfl, rfl⟩ := hc
    exact ⟨⟨[], by simp⟩, fun h => h, fun E2 hw hs _ => by cases u <;> simp_all [shifts, vrels]⟩
  | x :: xs, acc, v, acc', u, hc, hv => by
    simp only [canVs] at hc
    split at hc
    case h_2 => cases hc
    rename_i v1 acc1 h1
    split at hc
    case h_2 => cases hc
    rename_i l2 acc2 h2
    simp only [Option.some.injEq, Prod.mk.injEq] at hc
    obtain ⟨rfl, rfl⟩ := hc
    cases u with
    | nil => simp [vrels] at hv
    | cons u us =>
      simp only [vrels] at hv
      obtain ⟨⟨s1, e1⟩, a2, a3⟩ := canV_sound hE m x acc v1 acc1 u h1 hv.1
      obtain ⟨⟨s2, e2⟩, b2, b3⟩ := canVs_sound hE m xs acc1 l2 acc2 us h2 hv.2
      refine ⟨⟨s1 ++ s2, by rw [e2, e1, List.append_assoc]⟩, fun h => b2 (a2 h), fun E2 hw hs hren => ?_⟩
      simp only [shifts, vrels]
      simp only [noFs, Bool.and_eq_true] at hs
      exact ⟨a3 E2 hw (hs.imp id (·.1)) (by rw [e2] at hren; exact hren.front), b3 E2 hw (hs.imp id (·.2)) hren⟩
end

/-! ## the results out of the last state -/

/-- one result, read -/
def rd1 (tmps : Array Value) : ResultVar → Sem Value
  | .tmp t => pure (tmps.getD t undef)
  | .cell c t => do loadVar t (← asAddr (tmps.getD c undef))

theorem results_eq (fn : Func) (tmps : Array Value) : results fn tmps = ((fn.results.mapM (rd1 tmps)) >>= fun (vs : Array Value) => pure (if h : vs.size = 1 then vs[0] else .tuple vs)) := by
  unfold results
  congr

theorem res1_sound {B : Base} {E : Env} (hE : HRel B E) {tb : Tbl} (hT : TblOK P tb) {tm : List (Nat × V)} {a : Act} (ha : tmOK E (find tm) a) {r : ResultVar} {v : V} (h : res1 tb tm E.H r = some v) :
    ∃ v', (rd1 a.tmps r).run P E.w = .ok v' E.w ∧ vrel E v v' := by
  cases r with
  | tmp t =>
    simp only [res1, Option.some.injEq] at h
    subst h
    exact ⟨_, rfl, lookV_sound ha t⟩
  | cell c t =>
    simp only [res1] at h
    split at h
    case h_2 => cases h
    rename_i td htd
    split at h
    case h_2 => cases h
    rename_i ps v2 dh hl
    simp only [Option.some.injEq] at h
    subst h
    obtain ⟨_, v', h1, h2⟩ := evLoad_sound hE (hT _ _ htd) (lookV_sound ha c) hl
    refine ⟨v', ?_, h2⟩
    have : ∀ x : Value, (Instr.loadAt t x).run P E.w = .ok v' E.w → ((do loadVar t (← asAddr x) : Sem Value).run P E.w = .ok v' E.w) := fun x hx => by
      cases x with
      | pointer o =>
        cases o with
        | some ad => simpa [Instr.loadAt, Instr.sureAddr, asAddr] using hx
        | none => simp [Instr.loadAt, Instr.sureAddr] at hx
      | _ => simp [Instr.loadAt, Instr.sureAddr] at hx
    exact this _ h1

theorem run_mapM_rel {α : Type} {E : Env} {w : World} (f : α → Sem Value) (g : α → Option V) (hfg : ∀ x v, g x = some v → ∃ v', (f x).run P w = .ok v' w ∧ vrel E v v') : ∀ (l : List α) (vs : List V), l.length = vs.length → (∀ (i : Nat) (x : α) (v : V), l[i]? = some x → vs[i]? = some v → g x = some v) →
    ∃ us, (l.mapM f).run P w = .ok us w ∧ vrels E vs us
  | [], [], _, _ => ⟨[], rfl, by simp [vrels]⟩
  | [], _ :: _, h, _ => by simp at h
  | _ :: _, [], h, _ => by simp at h
  | x :: l, v :: vs, h, hg => by
    obtain ⟨v', h1, h2⟩ := hfg x v (hg 0 x v rfl rfl)
    obtain ⟨us, h3, h4⟩ := run_mapM_rel f g hfg l vs (by simpa using h) (fun i y u hy hu => hg (i + 1) y u (by simpa using hy) (by simpa using hu))
    refine ⟨v' :: us, ?_, by simp only [vrels]; exact ⟨h2, h4⟩⟩
    simp [List.mapM_cons, h1, h3]

theorem resL_get {tb : Tbl} {tm : List (Nat × V)} {H : Heap} : ∀ {rs : List ResultVar} {l : List V}, resL tb tm H rs = some l → rs.length = l.length ∧ ∀ (i : Nat) (x : ResultVar) (v : V), rs[i]? = some x → l[i]? = some v → res1 tb tm H x = some v
  | [], l, h => by simp only [resL, Option.some.injEq] at h; subst h; exact ⟨rfl, fun i x v hx => by simp at hx⟩
  | r :: rs, l, h => by
    simp only [resL] at h
    split at h
    case h_2 => cases h
    rename_i v1 h1
    split at h
    case h_2 => cases h
    rename_i l2 h2
    simp only [Option.some.injEq] at h
    subst h
    obtain ⟨k1, k2⟩ := resL_get h2
    refine ⟨by simp [k1], fun i x v hx hv => ?_⟩
    cases i with
    | zero => simp only [List.getElem?_cons_zero, Option.some.injEq] at hx hv; subst hx; subst hv; exact h1
    | succ i => exact k2 i x v (by simpa using hx) (by simpa using hv)

theorem resV_sound {B : Base} {E : Env} (hE : HRel B E) {tb : Tbl} (hT : TblOK P tb) {tm : List (Nat × V)} {a : Act} (ha : tmOK E (find tm) a) {fn : Func} {v : V} (h : resV tb tm E.H fn.results.toList = some v) :
    ∃ v', (results fn a.tmps).run P E.w = .ok v' E.w ∧ vrel E v v' := by
  unfold resV at h
  have key : ∀ l, resL tb tm E.H fn.results.toList = some l → ∃ us, (fn.results.mapM (rd1 a.tmps)).run P E.w = .ok us E.w ∧ vrels E l us.toList := fun l hl => by
    obtain ⟨k1, k2⟩ := resL_get hl
    obtain ⟨us, h1, h2⟩ := run_mapM_rel (P := P) (E := E) (w := E.w) (rd1 a.tmps) (res1 tb tm E.H) (fun x v hx => res1_sound hE hT ha hx) _ _ k1 k2
    refine ⟨us.toArray, ?_, by simpa using h2⟩
    rw [Array.mapM_eq_mapM_toList, Sem.run_map, h1]
    rfl
  split at h
  · rename_i v1 hl
    simp only [Option.some.injEq] at h
    subst h
    obtain ⟨us, h1, h2⟩ := key _ hl
    have hsz : us.size = 1 := by have := vrels_len h2; simpa using this.symm
    refine ⟨us[0], ?_, ?_⟩
    · rw [results_eq, Sem.run_bind, h1]
      simp [hsz]
    · have : us.toList = [us[0]] := by
        apply List.ext_getElem?
        intro i
        cases i with
        | zero => simp [hsz]
        | succ i => simp [hsz]
      rw [this] at h2
      simp only [vrels] at h2
      exact h2.1
  · rename_i l hne hl
    simp only [Option.some.injEq] at h
    subst h
    obtain ⟨us, h1, h2⟩ := key _ hl
    have hsz : ¬ us.size = 1 := fun hs => by
      have := vrels_len h2
      have h3 : l.length = 1 := by simpa [hs] using this
      obtain ⟨x, rfl⟩ := List.length_eq_one_iff.1 h3
      exact hne x rfl
    refine ⟨.tuple us, ?_, ?_⟩
    · rw [results_eq, Sem.run_bind, h1]
      simp [hsz]
    · simp only [vrel]; exact ⟨us, rfl, h2⟩
  · cases h

end Go.Mir

/- The mirror, part 25: contracts of functions that only read are sound. -/
namespace Go.Mir
open Go.RowKit

variable {P : Program}

theorem find_rowsHp (m : Nat) : ∀ (rows : List RowD) (i h : Nat), find (rowsHp m i rows) h = if m + i ≤ h ∧ h < m + i + rows.length then (rows[h - (m + i)]?).map fun r => .row h true r.t r.xs else none
  | [], i, h => by simp [rowsHp, find]
  | r :: rs, i, h => by
    simp only [rowsHp, find]
    cases hb : Nat.beq (m + i) h with
    | true =>
      obtain rfl := Nat.eq_of_beq_eq_true hb
      simp
    | false =>
      have hne : m + i ≠ h := fun e => by subst e; rw [Nat.beq_refl] at hb; cases hb
      simp only [cond_false]
      rw [find_rowsHp m rs (i + 1) h]
      by_cases hc : m + i ≤ h ∧ h < m + i + (r :: rs).length
      · have hc2 : m + (i + 1) ≤ h ∧ h < m + (i + 1) + rs.length := by simp at hc; omega
        rw [if_pos hc, if_pos hc2]
        have : h - (m + i) = (h - (m + (i + 1))) + 1 := by omega
        rw [this, List.getElem?_cons_succ]
      · have hc2 : ¬ (m + (i + 1) ≤ h ∧ h < m + (i + 1) + rs.length) := by simp at hc; omega
        rw [if_neg hc, if_neg hc2]

/-- The caller takes a callee's rows over. -/
theorem adopt {B : Base} {Eb : Env} (hEb : HRel B Eb) {m K : Nat} (hm : ∀ n, m ≤ n → n < m + K → ¬ Eb.U n) {S1 : Nat → Prop} (_ : ∀ b, Eb.S b → S1 b) {Ec : Env} (hEc : HRel (base3 Eb.w (fun _ => False) S1) Ec) {acc : Acc} (ha : AccOK Ec acc) (hK : acc.length ≤ K)
    (hfl : (∀ b, S1 b → Eb.S b) ∨ ∀ q ∈ acc, q.2.t.flatB = true) :
    ∃ E', GoodK B Eb m K (rowsHp m 0 (acc.map (·.2))) Ec.w E' ∧ Ren Ec E' m acc ∧ ((∀ b, S1 b → Eb.S b) → ∀ b, Ec.S b → E'.S b) := by
  classical
  let D : Nat → Prop := fun h => m ≤ h ∧ h < m + K
  let ρ' : Nat → Option Nat := fun h => if D h then (match acc[h - m]? with | some q => Ec.ρ q.1 | none => none) else Eb.ρ h
  let E' : Env := ⟨fun n => Eb.U n ∨ D n, ρ', fun b => Eb.S b ∨ (Ec.S b ∧ Eb.w.heap.size ≤ b), Ec.w, hset Eb.H (rowsHp m 0 (acc.map (·.2)))⟩
  have hfind : ∀ h, find (rowsHp m 0 (acc.map (·.2))) h = if m ≤ h ∧ h < m + acc.length then (acc[h - m]?).map fun q => Blk.row h true q.2.t q.2.xs else none := fun h => by
    rw [find_rowsHp]
    simp only [Nat.add_zero, List.length_map, List.getElem?_map, Option.map_map]
    rfl
  have hHn : ∀ h, ¬ D h → E'.H h = Eb.H h := fun h hd => by
    show hset Eb.H _ h = Eb.H h
    unfold hset
    rw [hfind, if_neg (fun hc => hd ⟨hc.1, by omega⟩)]
  have hρn : ∀ h, ¬ D h → E'.ρ h = Eb.ρ h := fun h hd => if_neg hd
  have hHd : ∀ h k, D h → E'.H h = some k → ∃ h0 r, acc[h - m]? = some (h0, r) ∧ k = .row h true r.t r.xs := fun h k hd hk => by
    have hk' : hset Eb.H (rowsHp m 0 (acc.map (·.2))) h = some k := hk
    unfold hset at hk'
    rw [hfind] at hk'
    by_cases hc : m ≤ h ∧ h < m + acc.length
    · rw [if_pos hc] at hk'
      cases hq : acc[h - m]? with
      | none => rw [List.getElem?_eq_none_iff] at hq; omega
      | some q =>
        obtain ⟨h0, r⟩ := q
        rw [hq] at hk'
        simp only [Option.map_some, Option.some.injEq] at hk'
        exact ⟨h0, r, rfl, hk'.symm⟩
    · rw [if_neg hc] at hk'
      simp only at hk'
      exact absurd (hEb.used _ _ hk') (hm h hd.1 hd.2)
  have hρd : ∀ h h0 r, D h → acc[h - m]? = some (h0, r) → E'.ρ h = Ec.ρ h0 := fun h h0 r hd hq => by
    show (if D h then _ else _) = _
    rw [if_pos hd, hq]
  have used' : ∀ h k, Eb.H h = some k → ¬ D h := fun h k hx hd => hm h hd.1 hd.2 (hEb.used _ _ hx)
  have hw0 : Eb.w.heap.size ≤ Ec.w.heap.size := hEc.keeps.size
  have hB0 : B.w0.heap.size ≤ Eb.w.heap.size := hEb.keeps.size
  have same : ∀ b, b < Eb.w.heap.size → Ec.w.heap[b]? = Eb.w.heap[b]? := fun b hb => hEc.keeps.block b hb (fun h => h)
  have newb : ∀ h0 r b, (h0, r) ∈ acc → Ec.ρ h0 = some b → Eb.w.heap.size ≤ b := fun h0 r b hq hb => by
    obtain ⟨ver, hx⟩ := ha.row _ _ hq
    rcases hEc.own _ _ _ hx hb with h | h
    · exact h.elim
    · exact h
  have X : Ext Eb E' := by
    refine ⟨fun _ h => .inl h, fun _ h => .inl h, fun b hb => same b (hEb.stab b hb), fun h cs hu hx => ?_, fun h ver rw t xs hu hv hx => ?_, fun h ver esz cs hu hv hx => ?_, fun h es hu hx => ?_⟩
    · have hd : ¬ D h := fun hd => hm h hd.1 hd.2 hu
      rw [hHn h hd] at hx
      exact ⟨⟨cs, hx⟩, hρn h hd⟩
    · have hd : ¬ D h := fun hd => hm h hd.1 hd.2 hu
      rw [hHn h hd] at hx
      exact ⟨rw, xs, hx, rfl, hρn h hd, fun b c T fr hb hw => ⟨c, T, fr, by rw [show E'.w = Ec.w from rfl, same b (hEb.lt _ _ _ hx hb)]; exact hw, rfl⟩⟩
    · have hd : ¬ D h := fun hd => hm h hd.1 hd.2 hu
      rw [hHn h hd] at hx
      exact ⟨cs, hx, rfl, hρn h hd, fun b c T fr hb hw => ⟨c, T, fr, by rw [show E'.w = Ec.w from rfl, same b (hEb.lt _ _ _ hx hb)]; exact hw, rfl⟩⟩
    · have hd : ¬ D h := fun hd => hm h hd.1 hd.2 hu
      rw [hHn h hd] at hx
      exact ⟨⟨es, hx⟩, hρn h hd⟩
  have R : HRel B E' := by
    refine ⟨fun h k hx => ?_, fun b hs => ?_, fun h k b hx hb => ?_, fun h h' k k' b h1 h2 b1 b2 => ?_, fun h k hx => ?_, ?_, fun h k b hx hb => ?_, fun b hs => .inl (hEb.s0 b hs), fun b hs => ?_⟩
    · by_cases hd : D h
      · exact .inr hd
      · rw [hHn h hd] at hx; exact .inl (hEb.used _ _ hx)
    · rcases hs with hs | hs
      · exact Nat.lt_of_lt_of_le (hEb.stab b hs) hw0
      · exact hEc.stab b hs.1
    · by_cases hd : D h
      · obtain ⟨h0, r, hq, rfl⟩ := hHd h k hd hx
        rw [hρd h h0 r hd hq] at hb
        obtain ⟨ver, hx0⟩ := ha.row _ _ (List.mem_of_getElem? hq)
        exact hEc.lt _ _ _ hx0 hb
      · rw [hHn h hd] at hx; rw [hρn h hd] at hb; exact Nat.lt_of_lt_of_le (hEb.lt _ _ _ hx hb) hw0
    · have mix : ∀ h h' k k', D h → ¬ D h' → E'.H h = some k → E'.H h' = some k' → E'.ρ h = some b → E'.ρ h' = some b → False := fun h h' k k' hd hd' h1 h2 b1 b2 => by
        obtain ⟨h0, r, hq, rfl⟩ := hHd h k hd h1
        rw [hρd h h0 r hd hq] at b1; rw [hHn h' hd'] at h2; rw [hρn h' hd'] at b2
        have h3 := newb _ _ _ (List.mem_of_getElem? hq) b1
        have h4 := hEb.lt _ _ _ h2 b2
        omega
      by_cases hd : D h <;> by_cases hd' : D h'
      · obtain ⟨a0, r, hq, rfl⟩ := hHd h k hd h1
        obtain ⟨a0', r', hq', rfl⟩ := hHd h' k' hd' h2
        rw [hρd h _ _ hd hq] at b1; rw [hρd h' _ _ hd' hq'] at b2
        obtain ⟨_, x1⟩ := ha.row _ _ (List.mem_of_getElem? hq)
        obtain ⟨_, x2⟩ := ha.row _ _ (List.mem_of_getElem? hq')
        have e := hEc.inj _ _ _ _ _ x1 x2 b1 b2
        have n1 : (acc.map (·.1))[h - m]? = some a0 := by simp [hq]
        have n2 : (acc.map (·.1))[h' - m]? = some a0 := by simp [hq', e]
        have hl : h - m < (acc.map (·.1)).length := by
          rcases Nat.lt_or_ge (h - m) (acc.map (·.1)).length with h1 | h1
          · exact h1
          · rw [List.getElem?_eq_none h1] at n1; cases n1
        have := (List.getElem?_inj hl ha.nodup).1 (n1.trans n2.symm)
        have := hd.1; have := hd'.1
        omega
      · exact (mix h h' k k' hd hd' h1 h2 b1 b2).elim
      · exact (mix h' h k' k hd' hd h2 h1 b2 b1).elim
      · rw [hHn h hd] at h1; rw [hρn h hd] at b1; rw [hHn h' hd'] at h2; rw [hρn h' hd'] at b2
        exact hEb.inj _ _ _ _ _ h1 h2 b1 b2
    · by_cases hd : D h
      · obtain ⟨h0, r, hq, rfl⟩ := hHd h k hd hx
        have hmem := List.mem_of_getElem? hq
        obtain ⟨ver, hx0⟩ := ha.row _ _ hmem
        obtain ⟨_, hbl⟩ := hEc.blk _ _ hx0
        refine ⟨.inr hd, ?_⟩
        rw [hρd h h0 r hd hq]
        rcases hbl with hbl | ⟨b, c, T, fr, k1, k2, k3, k4, k5, k6, k7, k8⟩
        · exact .inl hbl
        · refine .inr ⟨b, c, T, fr, k1, k2, k3, fun _ hs => ?_, (fun h => by cases h), k6, k7, fun i hi => ?_⟩
          · rcases hs with hs | hs
            · have h3 := hEb.stab b hs
              have h4 := newb _ _ _ hmem k1
              omega
            · exact k4 rfl hs.1
          · rcases hfl with hfl | hfl
            · refine (k8 i hi).ext (fun b hs => ?_) (fun b _ => rfl)
              rcases hEc.sb b hs with h | h | h
              · exact .inl (hfl b h)
              · exact h.elim
              · exact .inr ⟨hs, h⟩
            · exact (k8 i hi).flatB (hfl _ hmem)
      · have hx' := hx
        rw [hHn h hd] at hx'
        refine brel_ext X (hρn h hd) (fun b hb => same b (hEb.lt _ _ _ hx' hb)) (fun b hb _ hs hs' => ?_) (hEb.blk _ _ hx')
        rcases hs' with hs' | hs'
        · exact hs hs'
        · have h4 := hEb.lt _ _ _ hx' hb
          have := hs'.2
          omega
    · exact hEb.keeps.trans hEc.keeps (fun b h => h.elim)
    · by_cases hd : D h
      · obtain ⟨h0, r, hq, rfl⟩ := hHd h k hd hx
        rw [hρd h h0 r hd hq] at hb
        exact .inr (Nat.le_trans hB0 (newb _ _ _ (List.mem_of_getElem? hq) hb))
      · rw [hHn h hd] at hx; rw [hρn h hd] at hb; exact hEb.own _ _ _ hx hb
    · rcases hs with hs | hs
      · exact hEb.sb b hs
      · exact .inr (.inr (Nat.le_trans hB0 hs.2))
  refine ⟨E', ⟨R, X, rfl, rfl, fun n h => h⟩, fun i h0 r hq => ?_, fun hs b hb => ?_⟩
  · have hi : i < acc.length := by
      rcases Nat.lt_or_ge i acc.length with h1 | h1
      · exact h1
      · rw [List.getElem?_eq_none h1] at hq; cases hq
    have hd : D (m + i) := ⟨by omega, by omega⟩
    refine ⟨.inr hd, hρd _ h0 r hd (by rw [Nat.add_sub_cancel_left]; exact hq), ?_⟩
    show hset Eb.H _ (m + i) = _
    unfold hset
    rw [hfind, if_pos ⟨by omega, by omega⟩, Nat.add_sub_cancel_left, hq]
    rfl
  · rcases hEc.sb b hb with h | h | h
    · exact .inl (hs b h)
    · exact h.elim
    · exact .inr ⟨hb, h⟩

/-! ## a function's whole body -/

theorem find_number {α : Type} : ∀ (l : List α) (n i : Nat), find (number n l) i = if n ≤ i then l[i - n]? else none
  | [], n, i => by simp [number, find]
  | x :: l, n, i => by
    simp only [number, find]
    cases hb : Nat.beq n i with
    | true => obtain rfl := Nat.eq_of_beq_eq_true hb; simp
    | false =>
      have hne : n ≠ i := fun e => by subst e; rw [Nat.beq_refl] at hb; cases hb
      simp only [cond_false]
      rw [find_number l (n + 1) i]
      by_cases hc : n ≤ i
      · rw [if_pos hc, if_pos (by omega)]
        have : i - n = (i - (n + 1)) + 1 := by omega
        rw [this, List.getElem?_cons_succ]
      · rw [if_neg hc, if_neg (by omega)]

/-- what becomes of a state when nil slices become rows -/
structure Mat (B : Base) (E : Env) (n : Nat) (dh : List (Nat × Blk)) (E' : Env) : Prop where
  rel : HRel B E'
  ext : Ext E E'
  w : E'.w = E.w
  h : E'.H = hset E.H dh
  u : ∀ k, E'.U k → k < n + dh.length

theorem Mat.refl {B : Base} {E : Env} (hE : HRel B E) {n : Nat} (hn : ∀ k, E.U k → k < n) : Mat B E n [] E :=
  ⟨hE, Ext.refl E, rfl, by funext h; simp [hset, find], by simpa using hn⟩



theorem Mat.trans {B : Base} {E E1 E2 : Env} {n : Nat} {d1 d2 : List (Nat × Blk)} (h1 : Mat B E n d1 E1) (h2 : Mat B E1 (n + d1.length) d2 E2) : Mat B E n (d2 ++ d1) E2 :=
  ⟨h2.rel, h1.ext.trans h2.ext, h2.w.trans h1.w, by rw [h2.h, h1.h, hset_append], fun k hk => by have := h2.u k hk; simp only [List.length_append]; omega⟩

theorem mat_one {B : Base} {E : Env} (hE : HRel B E) {n : Nat} (hn : ∀ k, E.U k → k < n) (t : Ty) : ∃ E', Mat B E n [(n, .row n true t [])] E' ∧ vrel E' (.osl n n) (.slice none 0 0) := by
  have hnot : ¬ E.U n := fun h => Nat.lt_irrefl _ (hn n h)
  obtain ⟨R, X⟩ := step1 hE n (.row n true t []) none E.w (fun k => E.U k ∨ k = n) (fun _ h => .inl h) (.inr rfl) (Keeps.refl _ _) (fun b h => by cases h) (fun b h => by cases h) (fun cs h => by cases h) (fun _ _ _ _ _ h => absurd h hnot)
    (fun _ => ⟨.inr rfl, .inl ⟨upd_same _ _ _, rfl⟩⟩)
  refine ⟨_, ⟨R, X, rfl, (hset_one _ _ _).symm, fun k hk => ?_⟩, ?_⟩
  · rcases hk with hk | rfl
    · have := hn k hk; simp only [List.length_cons, List.length_nil]; omega
    · simp
  · simp only [vrel]
    exact ⟨.inr trivial, .inr trivial, ⟨_, _, _, rfl⟩, fun rw t' xs hx => .inl ⟨upd_same _ _ _, _, rfl⟩⟩

theorem matC_sound {B : Base} : ∀ (ts : List (Option Ty)) (cs : List V) (n : Nat) (E : Env) (vs : List Value), HRel B E → (∀ k, E.U k → k < n) → vrels E cs vs →
    ∃ E', Mat B E n (matC ts cs n).2 E' ∧ vrels E' (matC ts cs n).1 vs
  | [], cs, n, E, vs, hE, hn, hv => ⟨E, by simpa [matC] using Mat.refl hE hn, by simpa [matC] using hv⟩
  | _ :: _, [], n, E, vs, hE, hn, hv => ⟨E, by simpa [matC] using Mat.refl hE hn, by simpa [matC] using hv⟩
  | o :: ts, c :: cs, n, E, vs, hE, hn, hv => by
    cases vs with
    | nil => simp [vrels] at hv
    | cons v vs =>
      simp only [vrels] at hv
      simp only [matC]
      split
      · rename_i t
        have hv1 := hv.1
        simp only [vrel] at hv1
        subst hv1
        obtain ⟨E1, M1, r1⟩ := mat_one hE hn t
        obtain ⟨E2, M2, r2⟩ := matC_sound ts cs (n + 1) E1 vs M1.rel (fun k hk => by simpa using M1.u k hk) (vrels_ext M1.ext _ _ hv.2)
        exact ⟨E2, M1.trans M2, by simp only [vrels]; exact ⟨vrel_ext M2.ext _ _ r1, r2⟩⟩
      · obtain ⟨E2, M2, r2⟩ := matC_sound ts cs n E vs hE hn hv.2
        exact ⟨E2, M2, by simp only [vrels]; exact ⟨vrel_ext M2.ext _ _ hv.1, r2⟩⟩

theorem matT_sound {B : Base} {E : Env} (hE : HRel B E) {n : Nat} (hn : ∀ k, E.U k → k < n) (o : Option Ty) {v : V} {u : Value} (hv : vrel E v u) : ∃ E', Mat B E n (matT o v n).2 E' ∧ vrel E' (matT o v n).1 u := by
  unfold matT
  split
  · split
    · rename_i ty _ cs
      simp only [vrel] at hv
      obtain ⟨l, rfl, hl⟩ := hv
      obtain ⟨E', M, r⟩ := matC_sound (slTys FUEL ty) cs n E l.toList hE hn hl
      exact ⟨E', M, by simp only [vrel]; exact ⟨l, rfl, r⟩⟩
    · split
      · simp only [vrel] at hv
        subst hv
        exact mat_one hE hn _
      · exact ⟨E, Mat.refl hE hn, hv⟩
    · exact ⟨E, Mat.refl hE hn, hv⟩
  · exact ⟨E, Mat.refl hE hn, hv⟩

theorem matL_sound {B : Base} (tb : Tbl) : ∀ (ts : List TypeId) (vs : List V) (n : Nat) (E : Env) (us : List Value), HRel B E → (∀ k, E.U k → k < n) → vrels E vs us →
    ∃ E', Mat B E n (matL tb ts vs n).2 E' ∧ vrels E' (matL tb ts vs n).1 us
  | [], vs, n, E, us, hE, hn, hv => ⟨E, by simpa [matL] using Mat.refl hE hn, by simpa [matL] using hv⟩
  | _ :: _, [], n, E, us, hE, hn, hv => ⟨E, by simpa [matL] using Mat.refl hE hn, by simpa [matL] using hv⟩
  | t :: ts, v :: vs, n, E, us, hE, hn, hv => by
    cases us with
    | nil => simp [vrels] at hv
    | cons u us =>
      simp only [vrels] at hv
      simp only [matL]
      obtain ⟨E1, M1, r1⟩ := matT_sound hE hn (tyOf tb t) hv.1
      obtain ⟨E2, M2, r2⟩ := matL_sound tb ts vs _ E1 us M1.rel M1.u (vrels_ext M1.ext _ _ hv.2)
      exact ⟨E2, M1.trans M2, by simp only [vrels]; exact ⟨vrel_ext M2.ext _ _ r1, r2⟩⟩

theorem matR_sound {B : Base} {E : Env} (hE : HRel B E) {n : Nat} (hn : ∀ k, E.U k → k < n) (tb : Tbl) (ts : List TypeId) {v : V} {u : Value} (hv : vrel E v u) : ∃ E', Mat B E n (matR tb ts v n).2 E' ∧ vrel E' (matR tb ts v n).1 u := by
  unfold matR
  split
  · exact matT_sound hE hn _ hv
  · split
    · rename_i vs
      simp only [vrel] at hv
      obtain ⟨l, rfl, hl⟩ := hv
      obtain ⟨E', M, r⟩ := matL_sound tb ts vs n E l.toList hE hn hl
      exact ⟨E', M, by simp only [vrel]; exact ⟨l, rfl, r⟩⟩
    · exact ⟨E, Mat.refl hE hn, hv⟩

/-- what a body's end says -/
def ends (_ : Base) (Q : V → List RowD → Prop) (tb : Tbl) (rs : List ResultVar) (ts : List TypeId) (st : St) : Lf → Dl → Nat → Prop
  | .ext _, _, _ => False
  | _, d, nx => ∃ v0 v acc, resV tb (d.tm ++ st.tm) (hset st.H d.hp) rs = some v0 ∧ canV (hset (hset st.H d.hp) (matR tb ts v0 nx).2) (matR tb ts v0 nx).1 [] = some (v, acc) ∧ Q v (acc.map (·.2))

theorem toRT_sat {B : Base} {Q : V → List RowD → Prop} {tb : Tbl} {rs : List ResultVar} {ts : List TypeId} {st : St} : ∀ {t : Tr}, (toRT tb rs ts st t).sat Q → t.sat (ends B Q tb rs ts st)
  | .leaf (.ext _) _ _, h => h.elim
  | .leaf .nrm d nx, h => by
    simp only [toRT] at h
    split at h
    case h_2 => exact h.elim
    rename_i v0 hv
    split at h
    case h_2 => exact h.elim
    rename_i v acc hc
    exact ⟨v0, v, acc, hv, hc, h⟩
  | .leaf .ret d nx, h => by
    simp only [toRT] at h
    split at h
    case h_2 => exact h.elim
    rename_i v0 hv
    split at h
    case h_2 => exact h.elim
    rename_i v acc hc
    exact ⟨v0, v, acc, hv, hc, h⟩
  | .br b t e, h => ⟨fun hb => toRT_sat (h.1 hb), fun hb => toRT_sat (h.2 hb)⟩
  | .need p t, h => ⟨h.1, toRT_sat h.2⟩
  | .both t u, h => ⟨toRT_sat h.1, toRT_sat h.2⟩
  | .when b t, h => fun hb => toRT_sat (h hb)
  | .done, h => h
  | .bad, h => h

theorem evFn_sound {C : Cfg} (hC : CfgOK P C) (hP : P.follows .mixedOrders = true) {Λ : Nat → Option LoopSum} {f : FuncId} {fn : Func} (hf : P.funcs[f]? = some fn) (hN : C.N = fn.ntmps)
    (hΛ : ∀ c, fn.body = some c → ∀ b ∈ loopsIn Λ c, ∀ L, Λ (rid b) = some L → LoopOK P C.N b L) {args : List V} {Q : V → List RowD → Prop} (h : (evFn C Λ fn args).sat Q)
    {B : Base} {E : Env} (hE : HRel B E) (hF : B.free) (hH : E.H = fun _ => none) (hU : ∀ n, ¬ E.U n) {av : List Value} (hav : vrels E args av) (hlen : av.length ≤ fn.ntmps) :
    Calls P f av.toArray E.w fun e w' => ∃ Ec v' v0 v acc, e = .returned v' ∧ HRel B Ec ∧ Ec.w = w' ∧ vrel Ec v0 v' ∧ canV Ec.H v0 [] = some (v, acc) ∧ Q v (acc.map (·.2)) := by
  unfold evFn at h
  split at h
  case h_2 => exact h.elim
  rename_i c hc
  refine calls_of_wp hf hc ?_
  have hs := toRT_sat (B := B) h
  refine evCode_sound hC hP (B := B) c (fun b hb L hL => LoopOK.at_free (hΛ c hc b hb L hL) hF) (startOf args) _ _ hs (fun e d nx a w hq hat => ?_) _ _ ?_
  · obtain ⟨⟨Ec, hEc, rfl, hHc, hUc, hT⟩, hsz, hdf⟩ := hat
    have fin : (∃ v0 v acc, resV C.tb (d.tm ++ (startOf args).tm) (hset (startOf args).H d.hp) fn.results.toList = some v0 ∧ canV (hset (hset (startOf args).H d.hp) (matR C.tb fn.resultTypes.toList v0 nx).2) (matR C.tb fn.resultTypes.toList v0 nx).1 [] = some (v, acc) ∧ Q v (acc.map (·.2))) →
        ∃ v', (results fn a.tmps).run P Ec.w = .ok v' Ec.w ∧ ∃ Ec' v'' v0 v acc, (Ending.returned v') = .returned v'' ∧ HRel B Ec' ∧ Ec'.w = Ec.w ∧ vrel Ec' v0 v'' ∧ canV Ec'.H v0 [] = some (v, acc) ∧ Q v (acc.map (·.2)) := fun ⟨v0, v, acc, h1, h2, h3⟩ => by
      rw [← hHc] at h1 h2
      obtain ⟨v', k1, k2⟩ := resV_sound hEc hC.tb hT h1
      obtain ⟨Em, Mm, k3⟩ := matR_sound hEc hUc.2 C.tb fn.resultTypes.toList k2
      rw [← Mm.h] at h2
      exact ⟨v', k1, Em, v', _, v, acc, rfl, Mm.rel, Mm.w, k3, h2, h3⟩
    cases e with
    | ext id => exact hq.elim
    | nrm => exact ⟨hdf, fin hq⟩
    | ret => exact ⟨hdf, fin hq⟩
  · refine ⟨⟨E, hE, rfl, ?_, ⟨hF E, fun n hn => absurd hn (hU n)⟩, fun s v hv => ?_⟩, ?_, rfl⟩
    · rw [hH]; rfl
    · simp only [startOf, find_number, Nat.zero_le, if_true, Nat.sub_zero] at hv
      obtain ⟨v', h1, h2⟩ := vrels_get hav s v hv
      have : (av.toArray ++ Array.replicate (fn.ntmps - av.toArray.size) undef).getD s undef = v' := by
        rw [Array.getD_eq_getD_getElem?]
        have hl : s < av.toArray.size := by
          rcases Nat.lt_or_ge s av.length with h3 | h3
          · simpa using h3
          · rw [List.getElem?_eq_none h3] at h1; cases h1
        rw [Array.getElem?_append_left hl]
        simp [h1]
      rw [this]
      exact h2
    · simp only [Array.size_append, Array.size_replicate, List.size_toArray]; omega

def ifB (b : Bool) (p : Prop) : Prop := match b with | true => p | false => False

theorem ifB_iff {b : Bool} {p : Prop} : ifB b p ↔ b = true ∧ p := by cases b <;> simp [ifB]

mutual
/-- a value says no less than another -/
def leV : V → V → Prop
  | .any, .any => True
  | .int k n, .int k' n' => ifB (decide (k = k')) (n = n')
  | .bool b, .bool b' => b = b'
  | .bool b, .kb b' => b = b'
  | .kb b, .bool b' => b = b'
  | .kb b, .kb b' => b = b'
  | .str s, .str s' => s = s'
  | .nilptr, .nilptr => True
  | .nilfn, .nilfn => True
  | .nilmap, .nilmap => True
  | .nilsl, .nilsl => True
  | .esl, .esl => True
  | .nilsl, .fsl _ xs => xs = []
  | .esl, .fsl _ xs => xs = []
  | .fsl t xs, .fsl t' xs' => RowD.mk t xs = RowD.mk t' xs'
  | .osl h ver, .osl h' ver' => h = h' ∧ ver = ver'
  | .agg cs, .agg cs' => leVs cs cs'
  | .tup cs, .tup cs' => leVs cs cs'
  | _, _ => False
def leVs : List V → List V → Prop
  | [], [] => True
  | x :: xs, y :: ys => leV x y ∧ leVs xs ys
  | _, _ => False
end

mutual
theorem leV_sound {E : Env} {m : Nat} : ∀ (x y : V) (u : Value), leV x y → vrel E (x.shift m) u → vrel E (y.shift m) u
  | x, .any, u, h, hv => by simp [V.shift, vrel]
  | x, .int k n, u, h, hv => by
    cases x <;> simp only [leV] at h
    obtain ⟨h1, rfl⟩ := ifB_iff.1 h
    obtain rfl := of_decide_eq_true h1
    exact hv
  | x, .bool b, u, h, hv => by cases x <;> simp only [leV] at h <;> subst h <;> simpa [V.shift, vrel] using hv
  | x, .kb b, u, h, hv => by cases x <;> simp only [leV] at h <;> subst h <;> simpa [V.shift, vrel] using hv
  | x, .str b, u, h, hv => by cases x <;> simp only [leV] at h <;> subst h <;> exact hv
  | x, .nilptr, u, h, hv => by cases x <;> simp only [leV] at h; exact hv
  | x, .nilfn, u, h, hv => by cases x <;> simp only [leV] at h; exact hv
  | x, .nilmap, u, h, hv => by cases x <;> simp only [leV] at h; exact hv
  | x, .nilsl, u, h, hv => by cases x <;> simp only [leV] at h; exact hv
  | x, .esl, u, h, hv => by cases x <;> simp only [leV] at h; exact hv
  | x, .fsl t xs, u, h, hv => by
    cases x <;> simp only [leV] at h
    · subst h; simp only [V.shift, vrel] at hv ⊢; subst hv; exact .nil
    · subst h; simp only [V.shift, vrel] at hv ⊢; obtain ⟨a, rfl⟩ := hv; exact .nil
    · cases h; exact hv
  | x, .osl t xs, u, h, hv => by
    cases x <;> simp only [leV] at h
    obtain ⟨rfl, rfl⟩ := h; exact hv
  | x, .agg cs, u, h, hv => by
    cases x <;> simp only [leV] at h
    simp only [V.shift, vrel] at hv ⊢
    obtain ⟨l, rfl, hl⟩ := hv
    exact ⟨l, rfl, leVs_sound _ _ _ h hl⟩
  | x, .tup cs, u, h, hv => by
    cases x <;> simp only [leV] at h
    simp only [V.shift, vrel] at hv ⊢
    obtain ⟨l, rfl, hl⟩ := hv
    exact ⟨l, rfl, leVs_sound _ _ _ h hl⟩
  | x, .ptr _ _, u, h, hv => by cases x <;> simp only [leV] at h
  | x, .fp _ _ _ _, u, h, hv => by cases x <;> simp only [leV] at h
  | x, .rp _ _ _ _, u, h, hv => by cases x <;> simp only [leV] at h
  | x, .fn _ _, u, h, hv => by cases x <;> simp only [leV] at h
  | x, .hint _ _, u, h, hv => by cases x <;> simp only [leV] at h
  | x, .gsl _ _ _ _ _, u, h, hv => by cases x <;> simp only [leV] at h
  | x, .gp _ _ _, u, h, hv => by cases x <;> simp only [leV] at h
  | x, .mpv _, u, h, hv => by cases x <;> simp only [leV] at h
theorem leVs_sound {E : Env} {m : Nat} : ∀ (xs ys : List V) (us : List Value), leVs xs ys → vrels E (shifts m xs) us → vrels E (shifts m ys) us
  | [], [], us, _, hv => hv
  | [], _ :: _, _, h, _ => by simp [leVs] at h
  | _ :: _, [], _, h, _ => by simp [leVs] at h
  | x :: xs, y :: ys, us, h, hv => by
    cases us with
    | nil => simp [shifts, vrels] at hv
    | cons u us =>
      simp only [leVs] at h
      simp only [shifts, vrels] at hv ⊢
      exact ⟨leV_sound _ _ _ h.1 hv.1, leVs_sound _ _ _ h.2 hv.2⟩
end

mutual
theorem leV_noF : ∀ (x y : V), leV x y → y.noF = true → x.noF = true
  | x, .any, h, _ => by cases x <;> simp only [leV] at h; rfl
  | x, .int k n, h, _ => by cases x <;> simp only [leV] at h; rfl
  | x, .bool b, h, _ => by cases x <;> simp only [leV] at h <;> rfl
  | x, .kb b, h, _ => by cases x <;> simp only [leV] at h <;> rfl
  | x, .str b, h, _ => by cases x <;> simp only [leV] at h; rfl
  | x, .nilptr, h, _ => by cases x <;> simp only [leV] at h; rfl
  | x, .nilfn, h, _ => by cases x <;> simp only [leV] at h; rfl
  | x, .nilmap, h, _ => by cases x <;> simp only [leV] at h; rfl
  | x, .nilsl, h, _ => by cases x <;> simp only [leV] at h; rfl
  | x, .esl, h, _ => by cases x <;> simp only [leV] at h; rfl
  | x, .fsl t xs, h, hf => by simp [V.noF] at hf
  | x, .osl t xs, h, _ => by cases x <;> simp only [leV] at h; rfl
  | x, .agg cs, h, hf => by
    cases x <;> simp only [leV] at h
    simp only [V.noF] at hf ⊢
    exact leVs_noF _ _ h hf
  | x, .tup cs, h, hf => by
    cases x <;> simp only [leV] at h
    simp only [V.noF] at hf ⊢
    exact leVs_noF _ _ h hf
  | x, .ptr _ _, h, _ => by cases x <;> simp only [leV] at h
  | x, .fp _ _ _ _, h, _ => by cases x <;> simp only [leV] at h
  | x, .rp _ _ _ _, h, _ => by cases x <;> simp only [leV] at h
  | x, .fn _ _, h, _ => by cases x <;> simp only [leV] at h
  | x, .hint _ _, h, _ => by cases x <;> simp only [leV] at h
  | x, .gsl _ _ _ _ _, h, _ => by cases x <;> simp only [leV] at h
  | x, .gp _ _ _, h, _ => by cases x <;> simp only [leV] at h
  | x, .mpv _, h, _ => by cases x <;> simp only [leV] at h
theorem leVs_noF : ∀ (xs ys : List V), leVs xs ys → noFs ys = true → noFs xs = true
  | [], [], _, _ => rfl
  | [], _ :: _, h, _ => by simp [leVs] at h
  | _ :: _, [], h, _ => by simp [leVs] at h
  | x :: xs, y :: ys, h, hf => by
    simp only [leVs] at h
    simp only [noFs, Bool.and_eq_true] at hf ⊢
    exact ⟨leV_noF _ _ h.1 hf.1, leVs_noF _ _ h.2 hf.2⟩
end

/-- THE CONTRACT OF A FUNCTION THAT ONLY READS -/
theorem pure_ok {C : Cfg} (hC : CfgOK P C) (hP : P.follows .mixedOrders = true) {f : FuncId} {fn : Func} (hf : P.funcs[f]? = some fn) (hbody : fn.body.isSome = true) (hname : (fn.name == "runtime.NumGoroutine") = false) (hN : C.N = fn.ntmps)
    {ps : Ty} {spec : Den ps → PRes} {Λ : Den ps → Nat → Option LoopSum}
    (hΛ : ∀ x : Den ps, wfD ps x → (∀ p ∈ (spec x).needs, p) → ∀ c, fn.body = some c → ∀ b ∈ loopsIn (Λ x) c, ∀ L, Λ x (rid b) = some L → LoopOK P C.N b L) (hlen : ∀ x : Den ps, (argsV ps x).length ≤ fn.ntmps)
    (h : ∀ x : Den ps, wfD ps x → (∀ p ∈ (spec x).needs, p) → (evFn C (Λ x) fn (argsV ps x)).sat fun v rows => leV v (spec x).v ∧ rows = (spec x).rows) : CtrOK P C.K f (pureCtr C.K ps spec) := by
  refine ⟨⟨fn, hf, hbody, hname⟩, fun B E hE args av hav m hm ps' v dh hct hps => ?_⟩
  unfold pureCtr at hct
  simp only at hct
  split at hct
  case h_2 => cases hct
  rename_i x hx
  cases hle : Nat.ble (spec x).rows.length C.K with
  | false => rw [hle] at hct; cases hct
  | true =>
    rw [hle] at hct
    simp only [cond_true, Option.some.injEq, Prod.mk.injEq] at hct
    obtain ⟨rfl, rfl, rfl⟩ := hct
    obtain ⟨hSE, XS⟩ := sealE_sound hE (hss args)
    let E0 : Env := ⟨fun _ => False, fun _ => none, (sealE E (hss args)).S, E.w, fun _ => none⟩
    have hE0 : HRel (base3 E.w (fun _ => False) (sealE E (hss args)).S) E0 := by
      refine ⟨fun h b hx => ?_, fun b hb => hSE.stab b hb, fun h k b hx => ?_, fun h h' k k' b hx => ?_, fun h k hx => ?_, Keeps.refl _ _, fun h k b hx => ?_, fun _ h => h, fun _ h => .inl h⟩ <;> cases hx
    obtain ⟨hav0, cs, hrd⟩ := packArgs_sound hSE (Ec := E0) rfl rfl (vrels_ext XS _ _ hav) hx
    have hwf : wfD ps x := ⟨_, _, _, hrd⟩
    have hl0 : av.length ≤ fn.ntmps := by rw [← vrels_len hav0]; exact hlen x
    refine Calls.mono (evFn_sound hC hP hf hN (hΛ x hwf hps) (h x hwf hps) hE0 (fun _ => trivial) rfl (fun _ h => h) hav0 hl0) fun e w' hr => ?_
    obtain ⟨Ec, v', v0, v, acc, rfl, hEc, rfl, hv, hcan, hq1, hq2⟩ := hr
    have hcs := canV_sound hEc m v0 [] v acc v' hcan hv
    have hacc := hcs.acc ⟨by simp, fun h r hr => by simp at hr⟩
    have hlenK : acc.length ≤ C.K := by
      have := Nat.le_of_ble_eq_true hle
      rw [← hq2] at this
      simpa using this
    cases hfl : (spec x).flat with
    | true =>
      simp only [PRes.flat, Bool.and_eq_true, List.all_eq_true] at hfl
      obtain ⟨E', G, hren, _⟩ := adopt hE hm (S1 := (sealE E (hss args)).S) (fun b hb => .inl hb) hEc hacc hlenK (.inr fun q hq => hfl.2 _ (by rw [← hq2]; exact List.mem_map_of_mem hq))
      refine ⟨E', v', rfl, ?_, ?_⟩
      · simp only [cond_true, List.append_nil]
        rw [← hq2]; exact G
      · exact leV_sound _ _ _ hq1 (hcs.rel E' G.w (.inr (leV_noF _ _ hq1 hfl.1)) hren)
    | false =>
      have hm' : ∀ n, m ≤ n → n < m + C.K → ¬ (sealE E (hss args)).U n := hm
      obtain ⟨E', G, hren, hs⟩ := adopt hSE hm' (S1 := (sealE E (hss args)).S) (fun b hb => hb) hEc hacc hlenK (.inl fun b hb => hb)
      refine ⟨E', v', rfl, ⟨G.rel, XS.trans G.ext, G.w, ?_, G.u⟩, ?_⟩
      · rw [G.h, hq2]
        simp only [cond_false]
        rw [hset_append]
        congr 1
        funext h
        exact (find_seals E.H (hss args) h).symm
      · exact leV_sound _ _ _ hq1 (hcs.rel E' G.w (.inl (hs fun b hb => hb)) hren)

end Go.Mir

/- The mirror, part 23: tries, and values written out in full (for runs by the kernel). -/
namespace Go.Mir
open Go.RowKit

/-- an end, or where it broke off -/
inductive Rn (γ : Type) where
  | ok (r : γ)
  | no (w : List Nat)

inductive Tri (α : Type) where
  | lf
  | nd (l : Tri α) (v : Option α) (r : Tri α)

def Tri.get {α : Type} (t : Tri α) : Nat → Option α :=
  match t with
  | .lf => fun _ => none
  | .nd l v r => fun k => Nat.casesOn (motive := fun _ => Option α) k v fun k => Bool.casesOn (motive := fun _ => Option α) (Nat.beq (Nat.mod k 2) 0) (r.get (Nat.div k 2)) (l.get (Nat.div k 2))

def Tri.inL {α γ : Type} (κ : Tri α → Rn γ) (w : Option α) (r l : Tri α) : Rn γ := κ (.nd l w r)
def Tri.inR {α γ : Type} (κ : Tri α → Rn γ) (l : Tri α) (w : Option α) (r : Tri α) : Rn γ := κ (.nd l w r)

/-- put, then go on -/
def Tri.setK {α γ : Type} (f : Nat) : Tri α → Nat → α → (Tri α → Rn γ) → Rn γ :=
  match f with
  | 0 => fun _ _ _ _ => .no [1]
  | f + 1 => fun t => Tri.casesOn (motive := fun _ => Nat → α → (Tri α → Rn γ) → Rn γ) t
    (fun k v κ => Nat.casesOn (motive := fun _ => Rn γ) k (κ (.nd .lf (some v) .lf)) fun k => Bool.casesOn (motive := fun _ => Rn γ) (Nat.beq (Nat.mod k 2) 0) (Tri.setK f .lf (Nat.div k 2) v (Tri.inR κ .lf none)) (Tri.setK f .lf (Nat.div k 2) v (Tri.inL κ none .lf)))
    (fun l w r k v κ => Nat.casesOn (motive := fun _ => Rn γ) k (κ (.nd l (some v) r)) fun k => Bool.casesOn (motive := fun _ => Rn γ) (Nat.beq (Nat.mod k 2) 0) (Tri.setK f r (Nat.div k 2) v (Tri.inR κ l w)) (Tri.setK f l (Nat.div k 2) v (Tri.inL κ w r)))

theorem Tri.get_lf {α : Type} (k : Nat) : (Tri.lf : Tri α).get k = none := rfl
theorem Tri.get_zero {α : Type} (l : Tri α) (v : Option α) (r : Tri α) : (Tri.nd l v r).get 0 = v := rfl
theorem Tri.get_succ {α : Type} (l : Tri α) (v : Option α) (r : Tri α) (k : Nat) : (Tri.nd l v r).get (k + 1) = bif Nat.beq (Nat.mod k 2) 0 then l.get (Nat.div k 2) else r.get (Nat.div k 2) := by
  show Bool.casesOn (motive := fun _ => Option α) (Nat.beq (Nat.mod k 2) 0) (r.get (Nat.div k 2)) (l.get (Nat.div k 2)) = _
  cases Nat.beq (Nat.mod k 2) 0 <;> rfl
theorem Tri.setK_lf {α γ : Type} (f k : Nat) (v : α) (κ : Tri α → Rn γ) : Tri.setK (f + 1) .lf k v κ = match k with
    | 0 => κ (.nd .lf (some v) .lf)
    | k + 1 => bif Nat.beq (Nat.mod k 2) 0 then Tri.setK f .lf (Nat.div k 2) v fun l => κ (.nd l none .lf) else Tri.setK f .lf (Nat.div k 2) v fun r => κ (.nd .lf none r) := by
  cases k with
  | zero => rfl
  | succ k =>
    show Bool.casesOn (motive := fun _ => Rn γ) (Nat.beq (Nat.mod k 2) 0) (Tri.setK f .lf (Nat.div k 2) v (Tri.inR κ .lf none)) (Tri.setK f .lf (Nat.div k 2) v (Tri.inL κ none .lf)) = bif Nat.beq (Nat.mod k 2) 0 then Tri.setK f .lf (Nat.div k 2) v fun l => κ (.nd l none .lf) else Tri.setK f .lf (Nat.div k 2) v fun r => κ (.nd .lf none r)
    cases Nat.beq (Nat.mod k 2) 0 <;> rfl
theorem Tri.setK_nd {α γ : Type} (f k : Nat) (v : α) (κ : Tri α → Rn γ) (l : Tri α) (w : Option α) (r : Tri α) : Tri.setK (f + 1) (.nd l w r) k v κ = match k with
    | 0 => κ (.nd l (some v) r)
    | k + 1 => bif Nat.beq (Nat.mod k 2) 0 then Tri.setK f l (Nat.div k 2) v fun l => κ (.nd l w r) else Tri.setK f r (Nat.div k 2) v fun r => κ (.nd l w r) := by
  cases k with
  | zero => rfl
  | succ k =>
    show Bool.casesOn (motive := fun _ => Rn γ) (Nat.beq (Nat.mod k 2) 0) (Tri.setK f r (Nat.div k 2) v (Tri.inR κ l w)) (Tri.setK f l (Nat.div k 2) v (Tri.inL κ w r)) = bif Nat.beq (Nat.mod k 2) 0 then Tri.setK f l (Nat.div k 2) v fun l => κ (.nd l w r) else Tri.setK f r (Nat.div k 2) v fun r => κ (.nd l w r)
    cases Nat.beq (Nat.mod k 2) 0 <;> rfl

theorem half_inj {i j : Nat} (h : i % 2 = j % 2) (h2 : i / 2 = j / 2) : i = j := by omega

theorem Tri.setK_some {α γ : Type} : ∀ {f : Nat} {t : Tri α} {k : Nat} {v : α} {κ : Tri α → Rn γ} {r : γ}, Tri.setK f t k v κ = .ok r → ∃ t', κ t' = .ok r ∧ ∀ j, t'.get j = if j = k then some v else t.get j
  | 0, _, _, _, _, _, h => by cases h
  | f + 1, .lf, k, v, κ, r, h => by
    rw [Tri.setK_lf] at h
    cases k with
    | zero =>
      refine ⟨_, h, fun j => ?_⟩
      cases j with
      | zero => simp [Tri.get_zero, Tri.get_lf]
      | succ j => simp only [Tri.get_succ, Tri.get_lf]; cases Nat.beq (Nat.mod j 2) 0 <;> simp
    | succ k =>
      simp only at h
      cases hb : Nat.beq (Nat.mod k 2) 0 with
      | true =>
        rw [hb] at h
        obtain ⟨l, h1, h2⟩ := Tri.setK_some h
        refine ⟨_, h1, fun j => ?_⟩
        have hk : k % 2 = 0 := Nat.eq_of_beq_eq_true hb
        cases j with
        | zero => simp [Tri.get_zero, Tri.get_lf]
        | succ j =>
          simp only [Tri.get_succ, Tri.get_lf]
          cases hj : Nat.beq (Nat.mod j 2) 0 with
          | true =>
            have hj' : j % 2 = 0 := Nat.eq_of_beq_eq_true hj
            simp only [cond_true, h2]
            by_cases e : j = k
            · subst e; simp
            · have : ¬ Nat.div j 2 = Nat.div k 2 := fun e2 => e (half_inj (by omega) e2)
              simp [this, e, Tri.get_lf]
          | false =>
            have : ¬ j = k := fun e => by subst e; rw [hb] at hj; cases hj
            simp [this, Tri.get_lf]
      | false =>
        rw [hb] at h
        obtain ⟨l, h1, h2⟩ := Tri.setK_some h
        refine ⟨_, h1, fun j => ?_⟩
        have hk : ¬ k % 2 = 0 := fun e => by
          have : Nat.beq (Nat.mod k 2) 0 = true := by rw [Nat.beq_eq]; exact e
          rw [this] at hb; cases hb
        cases j with
        | zero => simp [Tri.get_zero, Tri.get_lf]
        | succ j =>
          simp only [Tri.get_succ, Tri.get_lf]
          cases hj : Nat.beq (Nat.mod j 2) 0 with
          | false =>
            have hj' : ¬ j % 2 = 0 := fun e => by
              have : Nat.beq (Nat.mod j 2) 0 = true := by rw [Nat.beq_eq]; exact e
              rw [this] at hj; cases hj
            simp only [cond_false, h2]
            by_cases e : j = k
            · subst e; simp
            · have : ¬ Nat.div j 2 = Nat.div k 2 := fun e2 => e (half_inj (by omega) e2)
              simp [this, e, Tri.get_lf]
          | true =>
            have : ¬ j = k := fun e => by subst e; rw [hb] at hj; cases hj
            simp [this, Tri.get_lf]
  | f + 1, .nd l0 w r0, k, v, κ, r, h => by
    rw [Tri.setK_nd] at h
    cases k with
    | zero =>
      refine ⟨_, h, fun j => ?_⟩
      cases j with
      | zero => simp [Tri.get_zero, Tri.get_lf]
      | succ j => simp only [Tri.get_succ, Tri.get_lf]; simp
    | succ k =>
      simp only at h
      cases hb : Nat.beq (Nat.mod k 2) 0 with
      | true =>
        rw [hb] at h
        obtain ⟨l, h1, h2⟩ := Tri.setK_some h
        refine ⟨_, h1, fun j => ?_⟩
        have hk : k % 2 = 0 := Nat.eq_of_beq_eq_true hb
        cases j with
        | zero => simp [Tri.get_zero, Tri.get_lf]
        | succ j =>
          simp only [Tri.get_succ, Tri.get_lf]
          cases hj : Nat.beq (Nat.mod j 2) 0 with
          | true =>
            have hj' : j % 2 = 0 := Nat.eq_of_beq_eq_true hj
            simp only [cond_true, h2]
            by_cases e : j = k
            · subst e; simp
            · have : ¬ Nat.div j 2 = Nat.div k 2 := fun e2 => e (half_inj (by omega) e2)
              simp [this, e]
          | false =>
            have : ¬ j = k := fun e => by subst e; rw [hb] at hj; cases hj
            simp [this]
      | false =>
        rw [hb] at h
        obtain ⟨l, h1, h2⟩ := Tri.setK_some h
        refine ⟨_, h1, fun j => ?_⟩
        have hk : ¬ k % 2 = 0 := fun e => by
          have : Nat.beq (Nat.mod k 2) 0 = true := by rw [Nat.beq_eq]; exact e
          rw [this] at hb; cases hb
        cases j with
        | zero => simp [Tri.get_zero, Tri.get_lf]
        | succ j =>
          simp only [Tri.get_succ, Tri.get_lf]
          cases hj : Nat.beq (Nat.mod j 2) 0 with
          | false =>
            have hj' : ¬ j % 2 = 0 := fun e => by
              have : Nat.beq (Nat.mod j 2) 0 = true := by rw [Nat.beq_eq]; exact e
              rw [this] at hj; cases hj
            simp only [cond_false, h2]
            by_cases e : j = k
            · subst e; simp
            · have : ¬ Nat.div j 2 = Nat.div k 2 := fun e2 => e (half_inj (by omega) e2)
              simp [this, e]
          | true =>
            have : ¬ j = k := fun e => by subst e; rw [hb] at hj; cases hj
            simp [this]

/-! ## written out in full -/

def forceN {γ : Type} (n : Nat) (κ : Nat → Rn γ) : Rn γ := Nat.casesOn (motive := fun _ => Rn γ) n (κ 0) fun m => κ (Nat.succ m)
theorem forceN_eq {γ : Type} (n : Nat) (κ : Nat → Rn γ) : forceN n κ = κ n := by cases n <;> rfl

def forceI {γ : Type} (n : Int) (κ : Int → Rn γ) : Rn γ := Int.casesOn (motive := fun _ => Rn γ) n (fun m => forceN m fun m => κ (.ofNat m)) fun m => forceN m fun m => κ (.negSucc m)
theorem forceI_eq {γ : Type} (n : Int) (κ : Int → Rn γ) : forceI n κ = κ n := by cases n <;> simp [forceI, forceN_eq]

def forceB {γ : Type} (b : Bool) (κ : Bool → Rn γ) : Rn γ := Bool.casesOn (motive := fun _ => Rn γ) b (κ false) (κ true)
theorem forceB_eq {γ : Type} (b : Bool) (κ : Bool → Rn γ) : forceB b κ = κ b := by cases b <;> rfl

def forceIK {γ : Type} (k : IntKind) (κ : IntKind → Rn γ) : Rn γ := IntKind.casesOn (motive := fun _ => Rn γ) k (κ .i8) (κ .i16) (κ .i32) (κ .i64) (κ .u8) (κ .u16) (κ .u32) (κ .u64)
theorem forceIK_eq {γ : Type} (k : IntKind) (κ : IntKind → Rn γ) : forceIK k κ = κ k := by cases k <;> rfl

def forceBs {γ : Type} : List UInt8 → (List UInt8 → Rn γ) → Rn γ
  | [], κ => κ []
  | b :: r, κ => forceN b.toNat fun n => forceBs r fun r => κ (UInt8.ofNat n :: r)
theorem forceBs_eq {γ : Type} : ∀ (l : List UInt8) (κ : List UInt8 → Rn γ), forceBs l κ = κ l
  | [], _ => rfl
  | b :: r, κ => by simp [forceBs, forceN_eq, forceBs_eq r]

def forceS {γ : Type} (s : ByteArray) (κ : ByteArray → Rn γ) : Rn γ := forceBs s.data.toList fun l => κ ⟨⟨l⟩⟩
theorem forceS_eq {γ : Type} (s : ByteArray) (κ : ByteArray → Rn γ) : forceS s κ = κ s := by simp [forceS, forceBs_eq]

def fInt {γ : Type} (k : IntKind) (n : Int) (κ : V → Rn γ) : Rn γ := forceI n fun n => κ (.int k n)
def fGsl {γ : Type} (h v e o l : Nat) (κ : V → Rn γ) : Rn γ := forceN h fun h => forceN v fun v => forceN e fun e => forceN o fun o => forceN l fun l => κ (.gsl h v e o l)
def fGp {γ : Type} (h v o : Nat) (κ : V → Rn γ) : Rn γ := forceN h fun h => forceN v fun v => forceN o fun o => κ (.gp h v o)
def fPtr {γ : Type} (h o : Nat) (κ : V → Rn γ) : Rn γ := forceN h fun h => forceN o fun o => κ (.ptr h o)
def fStr {γ : Type} (s : ByteArray) (κ : V → Rn γ) : Rn γ := forceS s fun s => κ (.str s)
def fFsl {γ : Type} (t : Ty) (xs : List (Den t)) (κ : V → Rn γ) : Rn γ := match xs with
  | [] => κ (.fsl t [])
  | _ :: _ => .no [2]

mutual
def forceV {γ : Type} : V → (V → Rn γ) → Rn γ
  | .any, κ => κ .any
  | .int k n, κ => fInt k n κ
  | .bool b, κ => forceB b fun b => κ (.bool b)
  | .kb b, κ => forceB b fun b => κ (.kb b)
  | .hint _ _, _ => .no [2]
  | .str s, κ => fStr s κ
  | .nilptr, κ => κ .nilptr
  | .ptr h o, κ => fPtr h o κ
  | .fp _ _ _ _, _ => .no [2]
  | .rp _ _ _ _, _ => .no [2]
  | .nilsl, κ => κ .nilsl
  | .esl, κ => κ .esl
  | .osl _ _, _ => .no [2]
  | .fsl t xs, κ => fFsl t xs κ
  | .gsl h v e o l, κ => fGsl h v e o l κ
  | .gp h v o, κ => fGp h v o κ
  | .mpv h, κ => forceN h fun h => κ (.mpv h)
  | .nilfn, κ => κ .nilfn
  | .nilmap, κ => κ .nilmap
  | .fn f cs, κ => forceN f fun f => forceVs cs fun cs => κ (.fn f cs)
  | .agg cs, κ => forceVs cs fun cs => κ (.agg cs)
  | .tup cs, κ => forceVs cs fun cs => κ (.tup cs)
def forceVs {γ : Type} : List V → (List V → Rn γ) → Rn γ
  | [], κ => κ []
  | v :: vs, κ => forceV v fun v => forceVs vs fun vs => κ (v :: vs)
end

mutual
theorem forceV_some {γ : Type} : ∀ (v : V) (κ : V → Rn γ) (r : γ), forceV v κ = .ok r → κ v = .ok r
  | .any, κ, r, h => h
  | .int k n, κ, r, h => by simpa only [forceV, fInt, forceI_eq] using h
  | .bool b, κ, r, h => by simpa only [forceV, forceB_eq] using h
  | .kb b, κ, r, h => by simpa only [forceV, forceB_eq] using h
  | .hint _ _, κ, r, h => by simp [forceV] at h
  | .str s, κ, r, h => by simpa only [forceV, fStr, forceS_eq] using h
  | .nilptr, κ, r, h => h
  | .ptr _ _, κ, r, h => by simpa only [forceV, fPtr, fGsl, fGp, forceN_eq] using h
  | .fp _ _ _ _, κ, r, h => by simp [forceV] at h
  | .rp _ _ _ _, κ, r, h => by simp [forceV] at h
  | .nilsl, κ, r, h => h
  | .esl, κ, r, h => h
  | .osl _ _, κ, r, h => by simp [forceV] at h
  | .fsl _ [], κ, r, h => h
  | .fsl _ (_ :: _), κ, r, h => by simp [forceV, fFsl] at h
  | .gsl _ _ _ _ _, κ, r, h => by simpa only [forceV, fPtr, fGsl, fGp, forceN_eq] using h
  | .gp _ _ _, κ, r, h => by simpa only [forceV, fPtr, fGsl, fGp, forceN_eq] using h
  | .mpv _, κ, r, h => by simpa only [forceV, fPtr, fGsl, fGp, forceN_eq] using h
  | .nilfn, κ, r, h => h
  | .nilmap, κ, r, h => h
  | .fn f cs, κ, r, h => by
    simp only [forceV, forceN_eq] at h
    exact forceVs_some cs (fun cs => κ (.fn f cs)) r h
  | .agg cs, κ, r, h => by
    simp only [forceV] at h
    exact forceVs_some cs (fun cs => κ (.agg cs)) r h
  | .tup cs, κ, r, h => by
    simp only [forceV] at h
    exact forceVs_some cs (fun cs => κ (.tup cs)) r h
theorem forceVs_some {γ : Type} : ∀ (vs : List V) (κ : List V → Rn γ) (r : γ), forceVs vs κ = .ok r → κ vs = .ok r
  | [], κ, r, h => h
  | v :: vs, κ, r, h => by
    simp only [forceVs] at h
    exact forceVs_some vs (fun vs => κ (v :: vs)) r (forceV_some v (fun v => forceVs vs fun vs => κ (v :: vs)) r h)
end

def forceEs {γ : Type} : List (V × V) → (List (V × V) → Rn γ) → Rn γ
  | [], κ => κ []
  | (a, b) :: r, κ => forceV a fun a => forceV b fun b => forceEs r fun r => κ ((a, b) :: r)
theorem forceEs_some {γ : Type} : ∀ (es : List (V × V)) (κ : List (V × V) → Rn γ) (r : γ), forceEs es κ = .ok r → κ es = .ok r
  | [], _, _, h => h
  | (a, b) :: es, κ, r, h => by
    simp only [forceEs] at h
    exact forceEs_some es (fun es => κ ((a, b) :: es)) r (forceV_some _ _ _ (forceV_some _ _ _ h))

def forceBlk {γ : Type} : Blk → (Blk → Rn γ) → Rn γ
  | .cells cs, κ => forceVs cs fun cs => κ (.cells cs)
  | .grow v e cs, κ => forceN v fun v => forceN e fun e => forceVs cs fun cs => κ (.grow v e cs)
  | .mp es, κ => forceEs es fun es => κ (.mp es)
  | .row _ _ _ _, _ => .no [2]
theorem forceBlk_some {γ : Type} : ∀ (b : Blk) (κ : Blk → Rn γ) (r : γ), forceBlk b κ = .ok r → κ b = .ok r
  | .cells cs, κ, r, h => forceVs_some cs (fun cs => κ (.cells cs)) r h
  | .grow v e cs, κ, r, h => by
    simp only [forceBlk, forceN_eq] at h
    exact forceVs_some cs (fun cs => κ (.grow v e cs)) r h
  | .mp es, κ, r, h => forceEs_some es (fun es => κ (.mp es)) r h
  | .row _ _ _ _, κ, r, h => by simp [forceBlk] at h

def setsK {γ : Type} : List (Nat × Blk) → Tri Blk → (Tri Blk → Rn γ) → Rn γ
  | [], t, κ => κ t
  | (h, b) :: r, t, κ => setsK r t fun t => forceN h fun h => forceBlk b fun b => Tri.setK 64 t h b κ
theorem setsK_some {γ : Type} : ∀ (l : List (Nat × Blk)) (t : Tri Blk) (κ : Tri Blk → Rn γ) (r : γ), setsK l t κ = .ok r → ∃ t', κ t' = .ok r ∧ t'.get = hset t.get l
  | [], t, κ, r, h => ⟨t, h, rfl⟩
  | (a, b) :: l, t, κ, r, h => by
    simp only [setsK] at h
    obtain ⟨t1, h1, h2⟩ := setsK_some l t _ r h
    rw [forceN_eq] at h1
    have h3 := forceBlk_some b _ r h1
    obtain ⟨t2, h4, h5⟩ := Tri.setK_some h3
    refine ⟨t2, h4, ?_⟩
    funext j
    rw [h5, h2]
    simp only [hset, find]
    cases hb : Nat.beq a j with
    | true => rw [if_pos (Nat.eq_of_beq_eq_true hb).symm]; rfl
    | false =>
      rw [if_neg (fun e => by subst e; rw [Nat.beq_refl] at hb; cases hb)]
      rfl

/-! ## the same -/

def IntKind.eqb (a b : IntKind) : Bool := decide (a = b)

mutual
def V.eqb : V → V → Bool
  | .any, .any => true
  | .int k n, .int k' n' => decide (k = k') && decide (n = n')
  | .bool a, .bool b => decide (a = b)
  | .kb a, .kb b => decide (a = b)
  | .str s, .str t => decide (s.data.toList = t.data.toList)
  | .nilptr, .nilptr => true
  | .ptr h o, .ptr h' o' => Nat.beq h h' && Nat.beq o o'
  | .nilsl, .nilsl => true
  | .esl, .esl => true
  | .gsl h v e o l, .gsl h' v' e' o' l' => Nat.beq h h' && Nat.beq v v' && Nat.beq e e' && Nat.beq o o' && Nat.beq l l'
  | .gp h v o, .gp h' v' o' => Nat.beq h h' && Nat.beq v v' && Nat.beq o o'
  | .mpv h, .mpv h' => Nat.beq h h'
  | .nilfn, .nilfn => true
  | .nilmap, .nilmap => true
  | .fn f cs, .fn f' cs' => Nat.beq f f' && eqbs cs cs'
  | .agg cs, .agg cs' => eqbs cs cs'
  | .tup cs, .tup cs' => eqbs cs cs'
  | _, _ => false
def eqbs : List V → List V → Bool
  | [], [] => true
  | x :: xs, y :: ys => V.eqb x y && eqbs xs ys
  | _, _ => false
end

mutual
theorem V.eqb_eq : ∀ (x y : V), V.eqb x y = true → x = y
  | .any, y, h => by cases y <;> simp_all [V.eqb]
  | .int k n, y, h => by cases y <;> simp_all [V.eqb]
  | .bool _, y, h => by cases y <;> simp_all [V.eqb]
  | .kb _, y, h => by cases y <;> simp_all [V.eqb]
  | .hint _ _, y, h => by cases y <;> simp [V.eqb] at h
  | .str s, y, h => by
    cases y <;> simp only [V.eqb, Bool.false_eq_true, decide_eq_true_eq] at h
    rename_i t
    have : s = t := ByteArray.ext (Array.toList_inj.1 h)
    rw [this]
  | .nilptr, y, h => by cases y <;> simp_all [V.eqb]
  | .ptr _ _, y, h => by cases y <;> simp_all [V.eqb]
  | .fp _ _ _ _, y, h => by cases y <;> simp [V.eqb] at h
  | .rp _ _ _ _, y, h => by cases y <;> simp [V.eqb] at h
  | .nilsl, y, h => by cases y <;> simp_all [V.eqb]
  | .esl, y, h => by cases y <;> simp_all [V.eqb]
  | .osl _ _, y, h => by cases y <;> simp [V.eqb] at h
  | .fsl _ _, y, h => by cases y <;> simp [V.eqb] at h
  | .gsl _ _ _ _ _, y, h => by cases y <;> simp_all [V.eqb]
  | .gp _ _ _, y, h => by cases y <;> simp_all [V.eqb]
  | .mpv _, y, h => by cases y <;> simp_all [V.eqb]
  | .nilfn, y, h => by cases y <;> simp_all [V.eqb]
  | .nilmap, y, h => by cases y <;> simp_all [V.eqb]
  | .fn f cs, y, h => by
    cases y <;> simp only [V.eqb, Bool.false_eq_true, Bool.and_eq_true, Nat.beq_eq] at h
    rw [h.1, eqbs_eq _ _ h.2]
  | .agg cs, y, h => by
    cases y <;> simp only [V.eqb, Bool.false_eq_true] at h
    rw [eqbs_eq _ _ h]
  | .tup cs, y, h => by
    cases y <;> simp only [V.eqb, Bool.false_eq_true] at h
    rw [eqbs_eq _ _ h]
theorem eqbs_eq : ∀ (xs ys : List V), eqbs xs ys = true → xs = ys
  | [], [], _ => rfl
  | [], _ :: _, h => by simp [eqbs] at h
  | _ :: _, [], h => by simp [eqbs] at h
  | x :: xs, y :: ys, h => by
    simp only [eqbs, Bool.and_eq_true] at h
    rw [V.eqb_eq _ _ h.1, eqbs_eq _ _ h.2]
end

def eqbE : List (V × V) → List (V × V) → Bool
  | [], [] => true
  | (a, b) :: xs, (c, d) :: ys => V.eqb a c && V.eqb b d && eqbE xs ys
  | _, _ => false
theorem eqbE_eq : ∀ (xs ys : List (V × V)), eqbE xs ys = true → xs = ys
  | [], [], _ => rfl
  | [], _ :: _, h => by simp [eqbE] at h
  | _ :: _, [], h => by simp [eqbE] at h
  | (a, b) :: xs, (c, d) :: ys, h => by
    simp only [eqbE, Bool.and_eq_true] at h
    rw [V.eqb_eq _ _ h.1.1, V.eqb_eq _ _ h.1.2, eqbE_eq _ _ h.2]

def eqbB : Option Blk → Option Blk → Bool
  | some (.cells a), some (.cells b) => eqbs a b
  | some (.grow v e a), some (.grow v' e' b) => Nat.beq v v' && Nat.beq e e' && eqbs a b
  | some (.mp a), some (.mp b) => eqbE a b
  | _, _ => false
theorem eqbB_eq : ∀ (x y : Option Blk), eqbB x y = true → x = y
  | some (.cells a), some (.cells b), h => by simp only [eqbB] at h; rw [eqbs_eq _ _ h]
  | some (.grow v e a), some (.grow v' e' b), h => by simp only [eqbB, Bool.and_eq_true, Nat.beq_eq] at h; rw [h.1.1, h.1.2, eqbs_eq _ _ h.2]
  | some (.mp a), some (.mp b), h => by simp only [eqbB] at h; rw [eqbE_eq _ _ h]
  | none, y, h => by simp [eqbB] at h
  | some (.row _ _ _ _), y, h => by simp [eqbB] at h
  | some (.cells _), none, h => by simp [eqbB] at h
  | some (.grow _ _ _), none, h => by simp [eqbB] at h
  | some (.mp _), none, h => by simp [eqbB] at h
  | some (.cells _), some (.grow _ _ _), h => by simp [eqbB] at h
  | some (.cells _), some (.mp _), h => by simp [eqbB] at h
  | some (.cells _), some (.row _ _ _ _), h => by simp [eqbB] at h
  | some (.grow _ _ _), some (.cells _), h => by simp [eqbB] at h
  | some (.grow _ _ _), some (.mp _), h => by simp [eqbB] at h
  | some (.grow _ _ _), some (.row _ _ _ _), h => by simp [eqbB] at h
  | some (.mp _), some (.cells _), h => by simp [eqbB] at h
  | some (.mp _), some (.grow _ _ _), h => by simp [eqbB] at h
  | some (.mp _), some (.row _ _ _ _), h => by simp [eqbB] at h

end Go.Mir

/- The mirror, part 24: runs on values that are known, for the kernel. -/
namespace Go.Mir
open Go.RowKit

variable {P : Program}

def Ob.chk : Ob → Bool
  | .rng n len => decide (0 ≤ n) && decide (n < (len : Int))
  | .sub l h len => decide (0 ≤ l) && decide (l ≤ h) && decide (h ≤ (len : Int))
  | .mk n c => decide (0 ≤ n) && decide (c = n) && decide (n ≤ 17179869184)
  | .mkc n c => decide (0 ≤ n) && decide (n ≤ c) && decide (c ≤ 17179869184)
  | .ne0 n => !decide (n = 0)
  | .leN a b => Nat.ble a b
  | .prop _ => false
theorem Ob.chk_holds : ∀ {p : Ob}, p.chk = true → p.holds
  | .rng n len, h => by simpa [Ob.chk, Ob.holds] using h
  | .sub l h len, hh => by simp only [Ob.chk, Bool.and_eq_true, decide_eq_true_eq] at hh; exact ⟨hh.1.1, hh.1.2, hh.2⟩
  | .mk n c, h => by simp only [Ob.chk, Bool.and_eq_true, decide_eq_true_eq] at h; exact ⟨h.1.1, h.1.2, h.2⟩
  | .mkc n c, h => by simp only [Ob.chk, Bool.and_eq_true, decide_eq_true_eq] at h; exact ⟨h.1.1, h.1.2, h.2⟩
  | .ne0 n, h => by simpa [Ob.chk, Ob.holds] using h
  | .leN a b, h => Nat.le_of_ble_eq_true h

def lookT (t : Tri V) (i : Nat) : V := Option.casesOn (motive := fun _ => V) (t.get i) .any fun v => v

def opndT (t : Tri V) : Operand → V
  | .tmp i => lookT t i
  | .const v => cv v
  | .func f => .fn f []
  | .global _ => .any

def guardT (all : List Oper) (t : Tri V) (o : Oper) : Option Bool :=
  match o.guard with
  | none => some true
  | some (j, want) => match all[j]? with
    | some oj => match oj.dst with
      | some dj => match lookT t dj with
        | .kb b => some (b == want)
        | .tup [] => some false
        | _ => none
      | none => none
    | none => none

def toKb : V → V
  | .bool b => .kb b
  | v => v

def putK {γ : Type} (d : Option Nat) (v : V) (t : Tri V) (κ : Tri V → Rn γ) : Rn γ :=
  match d with
  | some d => Tri.setK 64 t d (toKb v) κ
  | none => κ t

/-- the state of a run -/
structure RS where
  tm : Tri V
  hp : Tri Blk
  nx : Nat

/-- callees: function, arguments, heap, first free name -/
abbrev CallR := FuncId → List V → Tri Blk → Nat → Rn (V × Tri Blk × Nat)

/-! ### single operations, each in a small piece -/

def rVal (r : Res) : Option (List Ob × V × List (Nat × Blk)) := match r with
  | .val ps v dh => some (ps, v, dh)
  | _ => none
abbrev R1 := Option (List Ob × V × List (Nat × Blk))
def rStore (tb : Tbl) (H : Heap) (ev : Operand → V) (t : TypeId) (a x : Operand) : R1 := match tb t with
  | some td => match evStoreG td H (ev a) (ev x) with
    | .skip ps dh => some (ps, .tup [], dh)
    | _ => none
  | none => none
def rMove (ev : Operand → V) (x : Operand) : R1 := some ([], ev x, [])
def rPick (ev : Operand → V) (c a b : Operand) : R1 := rVal (evPick (ev c) (ev a) (ev b))
def rAlloc (tb : Tbl) (m : Nat) (t : TypeId) : R1 := match tb t with | some td => some ([], .ptr m 0, [(m, .cells td.zero)]) | none => none
def rBox (m : Nat) (ev : Operand → V) (x : Operand) : R1 := match cellsOf (ev x) with | some cs => some ([], .ptr m 0, [(m, .cells cs)]) | none => none
def rBuild (tb : Tbl) (ev : Operand → V) (t : TypeId) (parts : Array (Nat × Operand)) : R1 := match tb t with | some td => rVal (evBuild tb td (parts.toList.map fun p => (p.1, ev p.2))) | none => none
def rBuildSlice (tb : Tbl) (m : Nat) (H : Heap) (ev : Operand → V) (t : TypeId) (n : Nat) (parts : Array (Nat × Operand)) : R1 := match tb t with | some td => rVal (evBuildSliceG tb td H m n (parts.toList.map fun p => (p.1, ev p.2))) | none => none
def rLoad (tb : Tbl) (H : Heap) (ev : Operand → V) (t : TypeId) (a : Operand) : R1 := match tb t with | some td => rVal (evLoadG td H (ev a)) | none => none
def rNil (ev : Operand → V) (x : Operand) : R1 := rVal (evNil (ev x))
def rBin (tb : Tbl) (ev : Operand → V) (op : BinOp) (t : TypeId) (x y : Operand) : R1 := match tb t with | some td => rVal (evBin td op (ev x) (ev y)) | none => none
def rUn (ev : Operand → V) (op : UnOp) (x : Operand) : R1 := rVal (evUn op (ev x))
def rConv (tb : Tbl) (m : Nat) (ev : Operand → V) (s d : TypeId) (x : Operand) : R1 := match tb s, tb d with | some ts, some td => rVal (evConv2 tb ts td m (ev x)) | _, _ => none
def rFunc (ev : Operand → V) (fn : Fn) (first caps : Array Operand) : R1 := match fn with
  | .func f => if first.size = 0 then some ([], .fn f (caps.toList.map ev), []) else none
  | _ => none
def rMake (tb : Tbl) (m : Nat) (H : Heap) (ev : Operand → V) (t : TypeId) (l c : Operand) : R1 := match tb t with | some td => rVal (evMakeSliceG tb td H m (ev l) (ev c)) | none => none
def rSlice (tb : Tbl) (H : Heap) (ev : Operand → V) (t : TypeId) (x : Operand) (lo hi mx : Option Operand) : R1 := match tb t with | some td => rVal (evSliceG tb td H (ev x) (lo.map ev) (hi.map ev) (mx.map ev)) | none => none
def rField (tb : Tbl) (ev : Operand → V) (t : TypeId) (x : Operand) (f : Nat) : R1 := match tb t with | some td => rVal (evFieldG tb td (ev x) f) | none => none
def rFieldV (tb : Tbl) (ev : Operand → V) (t : TypeId) (x : Operand) (f : Nat) : R1 := match tb t with | some td => rVal (evFieldVal tb td (ev x) f) | none => none
def rIndex (tb : Tbl) (H : Heap) (ev : Operand → V) (t : TypeId) (x i : Operand) : R1 := match tb t with | some td => rVal (evIndexG tb td H (ev x) (ev i)) | none => none
def rIdxV (tb : Tbl) (ev : Operand → V) (t : TypeId) (x i : Operand) : R1 := match tb t with | some td => rVal (evIdxVal tb td (ev x) (ev i)) | none => none
def rExtract (ev : Operand → V) (t : Operand) (i : Nat) : R1 := rVal (evExtract (ev t) i)

/-- one operation, not a call of a function -/
def evAnyR (tb : Tbl) (N m : Nat) (H : Heap) (ev : Operand → V) (op : Op) : R1 := match op with
  | .store t a x => rStore tb H ev t a x
  | .move x => rMove ev x
  | .assign x => rMove ev x
  | .pick c a b => rPick ev c a b
  | .alloc t => rAlloc tb m t
  | .box _ x => rBox m ev x
  | .build t parts => rBuild tb ev t parts
  | .buildSlice t n parts => rBuildSlice tb m H ev t n parts
  | .load t a => rLoad tb H ev t a
  | .nilCheck x => rNil ev x
  | .binOp op t x y _ => rBin tb ev op t x y
  | .unOp op _ x => rUn ev op x
  | .convert s d x => rConv tb m ev s d x
  | .makeFunc fn first caps => rFunc ev fn first caps
  | .makeSlice t l c => rMake tb m H ev t l c
  | .slice t x lo hi mx => rSlice tb H ev t x lo hi mx
  | .fieldAddr t x f => rField tb ev t x f
  | .field t x f => rFieldV tb ev t x f
  | .indexAddr t x i => rIndex tb H ev t x i
  | .index t x i => rIdxV tb ev t x i
  | .extract t i => rExtract ev t i
  | op => evAny ⟨tb, fun _ => none, 1, N⟩ m H ev op

theorem evAnyR_eq (tb : Tbl) (N m : Nat) (H : Heap) (ev : Operand → V) (op : Op) {q : List Ob × V × List (Nat × Blk)} (h : evAnyR tb N m H ev op = some q) : evAny ⟨tb, fun _ => none, 1, N⟩ m H ev op = some q := by
  have key : ∀ {r : Res}, rVal r = some q → (match r with | .val ps v dh => some (ps, v, dh) | _ => none : R1) = some q := fun {r} h => by cases r <;> first | exact h | cases h
  cases op <;> simp only [evAnyR] at h <;> simp only [evAny, evSt, evOp]
  case store t a x => simp only [rStore] at h; cases ht : tb t <;> rw [ht] at h <;> simp only [reduceCtorEq] at h ⊢; cases hs : evStoreG _ H (ev a) (ev x) <;> rw [hs] at h <;> simp only [reduceCtorEq] at h ⊢; exact h
  case move => simpa [rMove] using h
  case assign => simpa [rMove] using h
  case pick => exact key h
  case alloc t => simp only [rAlloc] at h; cases ht : tb t <;> rw [ht] at h <;> simp only [reduceCtorEq] at h ⊢; exact h
  case box t x => simp only [rBox] at h; cases ht : cellsOf (ev x) <;> rw [ht] at h <;> simp only [reduceCtorEq] at h ⊢; exact h
  case build t parts => simp only [rBuild] at h; cases ht : tb t <;> rw [ht] at h <;> simp only [reduceCtorEq] at h ⊢; exact key h
  case buildSlice t n parts => simp only [rBuildSlice] at h; cases ht : tb t <;> rw [ht] at h <;> simp only [reduceCtorEq] at h ⊢; exact key h
  case load t a => simp only [rLoad] at h; cases ht : tb t <;> rw [ht] at h <;> simp only [reduceCtorEq] at h ⊢; exact key h
  case nilCheck => exact key h
  case binOp o t x y t2 => simp only [rBin] at h; cases ht : tb t <;> rw [ht] at h <;> simp only [reduceCtorEq] at h ⊢; exact key h
  case unOp => exact key h
  case convert s d x =>
    simp only [rConv] at h
    cases ht : tb s with
    | none => rw [ht] at h; cases h
    | some ts =>
      rw [ht] at h
      cases ht2 : tb d with
      | none => rw [ht2] at h; cases h
      | some td => rw [ht2] at h; exact key h
  case makeFunc fn first caps =>
    cases fn <;> simp only [rFunc, reduceCtorEq] at h
    split at h
    · rename_i hs
      cases h
      simp only [evOp, hs, if_true]
    · cases h
  case makeSlice t l c => simp only [rMake] at h; cases ht : tb t <;> rw [ht] at h <;> simp only [reduceCtorEq] at h ⊢; exact key h
  case slice t x lo hi mx => simp only [rSlice] at h; cases ht : tb t <;> rw [ht] at h <;> simp only [reduceCtorEq] at h ⊢; exact key h
  case fieldAddr t x f => simp only [rField] at h; cases ht : tb t <;> rw [ht] at h <;> simp only [reduceCtorEq] at h ⊢; exact key h
  case field t x f => simp only [rFieldV] at h; cases ht : tb t <;> rw [ht] at h <;> simp only [reduceCtorEq] at h ⊢; exact key h
  case indexAddr t x i => simp only [rIndex] at h; cases ht : tb t <;> rw [ht] at h <;> simp only [reduceCtorEq] at h ⊢; exact key h
  case index t x i => simp only [rIdxV] at h; cases ht : tb t <;> rw [ht] at h <;> simp only [reduceCtorEq] at h ⊢; exact key h
  case extract => exact key h
  all_goals (simp only [evAny, evSt, evOp] at h; exact h)

/-- what an operation is: a call of a function, or done at once -/
inductive Act1 where
  | plain (r : R1)
  | call (g : FuncId) (args : List V)

def callA (tb : Tbl) (N m : Nat) (H : Heap) (ev : Operand → V) (c : Call) : Act1 := match c.callee with
  | .value f => match ev f with
    | .fn g caps => .call g (c.args.toList.map ev ++ caps)
    | _ => .plain none
  | _ => .plain (evAny ⟨tb, fun _ => none, 1, N⟩ m H ev (.call c))

def evA (tb : Tbl) (N m : Nat) (H : Heap) (ev : Operand → V) (op : Op) : Act1 := match op with
  | .call c => callA tb N m H ev c
  | .store t a x => .plain (rStore tb H ev t a x)
  | .move x => .plain (rMove ev x)
  | .assign x => .plain (rMove ev x)
  | .pick c a b => .plain (rPick ev c a b)
  | .alloc t => .plain (rAlloc tb m t)
  | .box _ x => .plain (rBox m ev x)
  | .build t parts => .plain (rBuild tb ev t parts)
  | .buildSlice t n parts => .plain (rBuildSlice tb m H ev t n parts)
  | .load t a => .plain (rLoad tb H ev t a)
  | .nilCheck x => .plain (rNil ev x)
  | .binOp op t x y _ => .plain (rBin tb ev op t x y)
  | .unOp op _ x => .plain (rUn ev op x)
  | .convert s d x => .plain (rConv tb m ev s d x)
  | .makeFunc fn first caps => .plain (rFunc ev fn first caps)
  | .makeSlice t l c => .plain (rMake tb m H ev t l c)
  | .slice t x lo hi mx => .plain (rSlice tb H ev t x lo hi mx)
  | .fieldAddr t x f => .plain (rField tb ev t x f)
  | .field t x f => .plain (rFieldV tb ev t x f)
  | .indexAddr t x i => .plain (rIndex tb H ev t x i)
  | .index t x i => .plain (rIdxV tb ev t x i)
  | .extract t i => .plain (rExtract ev t i)
  | op => .plain (evAny ⟨tb, fun _ => none, 1, N⟩ m H ev op)

theorem evA_plain (tb : Tbl) (N m : Nat) (H : Heap) (ev : Operand → V) (op : Op) {q : List Ob × V × List (Nat × Blk)} (h : evA tb N m H ev op = .plain (some q)) : evAny ⟨tb, fun _ => none, 1, N⟩ m H ev op = some q := by
  cases op
  case call c =>
    simp only [evA, callA] at h
    split at h
    · split at h <;> simp at h
    · exact Act1.plain.inj h
  all_goals (exact evAnyR_eq tb N m H ev _ (Act1.plain.inj h))

theorem evA_call (tb : Tbl) (N m : Nat) (H : Heap) (ev : Operand → V) (op : Op) {g : FuncId} {args : List V} (h : evA tb N m H ev op = .call g args) : ∃ c f caps, op = .call c ∧ c.callee = .value f ∧ ev f = .fn g caps ∧ args = c.args.toList.map ev ++ caps := by
  cases op
  case call c =>
    simp only [evA, callA] at h
    split at h
    · rename_i f hf
      split at h
      · rename_i caps he
        cases h
        exact ⟨c, f, caps, rfl, hf, he, rfl⟩
      · cases h
    · cases h
  all_goals (cases h)

/-- after an operation -/
def finR (d : Option Nat) (v : V) (dh : List (Nat × Blk)) (tm : Tri V) (hp : Tri Blk) (nx : Nat) (κ : Tri V → Tri Blk → Nat → Rn RS) : Rn RS :=
  List.casesOn (motive := fun _ => Rn RS) dh (forceV v fun v => putK d v tm fun tm => forceN nx fun nx => κ tm hp nx)
    fun _ _ => forceV v fun v => setsK dh hp fun hp => putK d v tm fun tm => forceN nx fun nx => κ tm hp nx

def callRR (r : Rn (V × Tri Blk × Nat)) (g : FuncId) (d : Option Nat) (tm : Tri V) (κ : Tri V → Tri Blk → Nat → Rn RS) : Rn RS := match r with
  | .ok (v, hp, nx) => putK d v tm fun tm => κ tm hp nx
  | .no w => .no (g :: w)

def obsOK (ps : List Ob) : Bool := List.casesOn (motive := fun _ => Bool) ps true fun _ _ => ps.all Ob.chk

def plainR (r : R1) (d : Option Nat) (tm : Tri V) (hp : Tri Blk) (nx : Nat) (κ : Tri V → Tri Blk → Nat → Rn RS) : Rn RS := match r with
  | some (ps, v, dh) => Bool.casesOn (motive := fun _ => Rn RS) (obsOK ps) (.no [100]) (finR d v dh tm hp (Nat.succ nx) κ)
  | none => .no [101]

def doR (call : CallR) (a : Act1) (d : Option Nat) (tm : Tri V) (hp : Tri Blk) (nx : Nat) (κ : Tri V → Tri Blk → Nat → Rn RS) : Rn RS := match a with
  | .call g args => forceN g fun g => forceVs args fun args => callRR (call g args hp nx) g d tm κ
  | .plain r => plainR r d tm hp nx κ

def oneR (tb : Tbl) (N : Nat) (call : CallR) (all : List Oper) (o : Oper) (tm : Tri V) (hp : Tri Blk) (nx : Nat) (κ : Tri V → Tri Blk → Nat → Rn RS) : Rn RS := match o.guard with
  | none => doR call (evA tb N nx hp.get (opndT tm) o.op) o.dst tm hp nx κ
  | some _ => match guardT all tm o with
    | some true => doR call (evA tb N nx hp.get (opndT tm) o.op) o.dst tm hp nx κ
    | some false => putK o.dst (.tup []) tm fun tm => κ tm hp nx
    | none => .no [102]

def opsR (tb : Tbl) (N : Nat) (call : CallR) (all : List Oper) : List Oper → Tri V → Tri Blk → Nat → Rn RS
  | [], tm, hp, nx => .ok ⟨tm, hp, nx⟩
  | o :: rest, tm, hp, nx => oneR tb N call all o tm hp nx (opsR tb N call all rest)

/-- all results have their places -/
def dstsOK (N : Nat) (ops : List Oper) : Bool := ops.all fun o => dstIn N o.dst

/-! ### a region that draws its order -/

def maskR (rs : List Nat) (tm : Tri V) : Operand → V
  | .tmp t => bif memN rs t then lookT tm t else .any
  | .const v => cv v
  | .func f => .fn f []
  | .global _ => .any

/-- a part of a heap -/
def partK {γ : Type} (hp : Tri Blk) : List Nat → Tri Blk → (Tri Blk → Rn γ) → Rn γ
  | [], t, κ => κ t
  | h :: r, t, κ => match hp.get h with
    | some b => Tri.setK 64 t h b fun t => partK hp r t κ
    | none => .no [20]

def pickK {γ : Type} (hp : Tri Blk) (skip : Nat → Bool) : List Nat → (List (Nat × Blk) → Rn γ) → Rn γ
  | [], κ => κ []
  | h :: r, κ => bif skip h then pickK hp skip r κ else match hp.get h with
    | some b => forceN h fun h => pickK hp skip r fun l => κ ((h, b) :: l)
    | none => .no [21]

def forceL {γ : Type} : List Nat → (List Nat → Rn γ) → Rn γ
  | [], κ => κ []
  | n :: r, κ => forceN n fun n => forceL r fun r => κ (n :: r)

/-- a call on a part of the heap -/
def dcall (call : CallR) (g : FuncId) (args : List V) (hp : Tri Blk) (R : List Nat) (m : Nat) : Rn (V × List (Nat × Blk) × Nat) :=
  partK hp R .lf fun hr => match call g args hr m with
    | .ok (v, hp', nx) => forceL (R.filter fun h => !eqbB (hp.get h) (hp'.get h)) fun chg => forceL (reach hp'.get 64 (v.hs ++ chg) []) fun keep =>
        pickK hp' (fun h => memN R h && !memN chg h) keep fun dh =>
          bif R.all (fun h => memN (dh.map (·.1)) h || eqbB (hp.get h) (hp'.get h)) then .ok (v, dh, nx) else .no [22]
    | .no w => .no w

def drawR (tb : Tbl) (N : Nat) (call : CallR) (all : List Oper) : List Oper → Tri V → Tri Blk → Nat → List Rec → Rn RS
  | [], tm, hp, nx, recs => bif edgesOK 0 all && chkAll (masks all []) 0 recs then .ok ⟨tm, hp, nx⟩ else .no [30]
  | o :: rest, tm, hp, nx, recs => bif dstIn N o.dst then
      match guardT all tm o with
      | some false => putK o.dst (.tup []) tm fun tm => forceN (nx + 1) fun nx => drawR tb N call all rest tm hp nx (recs ++ [⟨o.dst, .tup [], [], [], slotsOf all o⟩])
      | some true => forceL (slotsOf all o) fun rs => forceL (reach hp.get 8 (o.op.operands.toList.flatMap fun x => (maskR rs tm x).hs) []) fun R =>
        match evA tb N nx (restr hp.get R) (maskR rs tm) o.op with
        | .call g args => forceN g fun g => forceVs args fun args => match dcall call g args hp R nx with
          | .ok (v, dh, nx2) => bif frameOK hp.get R nx (nx2 + 1 - nx) v dh then
              setsK dh hp fun hp => putK o.dst v tm fun tm => forceN (nx2 + 1) fun nx => drawR tb N call all rest tm hp nx (recs ++ [⟨o.dst, toKb v, dh, R, rs⟩])
            else .no [31, rest.length]
          | .no w => .no (g :: w)
        | .plain none => .no [33, rest.length]
        | .plain (some (ps, v, dh)) => bif ps.all Ob.chk && frameOK hp.get R nx 1 v dh then
              forceV v fun v => setsK dh hp fun hp => putK o.dst v tm fun tm => forceN (nx + 1) fun nx => drawR tb N call all rest tm hp nx (recs ++ [⟨o.dst, toKb v, dh, R, rs⟩])
            else .no [32, rest.length]
      | none => .no [34, rest.length]
    else .no [35, rest.length]

def loopR (f : RS → Rn (Lf × RS)) : Nat → RS → Rn (Lf × RS)
  | 0, _ => .no [3]
  | n + 1, s => match f s with
    | .ok (.nrm, s) => loopR f n s
    | r => r

def runR (tb : Tbl) (N : Nat) (call : CallR) : Code → RS → Rn (Lf × RS)
  | .skip, s => .ok (.nrm, s)
  | .region id ops false, s => Bool.casesOn (motive := fun _ => Rn (Lf × RS)) (dstsOK N ops.toList) (.no [103]) (match opsR tb N call ops.toList ops.toList s.tm s.hp s.nx with
    | .ok s => .ok (.nrm, s)
    | .no w => .no ((1000 + id) :: w))
  | .region id ops true, s => match drawR tb N call ops.toList ops.toList s.tm s.hp s.nx [] with
    | .ok s => .ok (.nrm, s)
    | .no w => .no ((2000 + id) :: w)
  | .seq a b, s => match runR tb N call a s with
    | .ok (.nrm, s) => runR tb N call b s
    | r => r
  | .cond c x y, s => match opndT s.tm c with
    | .kb true => runR tb N call x s
    | .kb false => runR tb N call y s
    | _ => .no [4]
  | .block id b, s => match runR tb N call b s with
    | .ok (.ext i, s) => if i = id then .ok (.nrm, s) else .ok (.ext i, s)
    | r => r
  | .loop b, s => loopR (runR tb N call b) ROUNDS s
  | .exit id, s => .ok (.ext id, s)
  | .ret, s => .ok (.ret, s)
  | _, _ => .no [6]

def resT1 (tb : Tbl) (tm : Tri V) (hp : Tri Blk) : ResultVar → Option V
  | .tmp t => some (lookT tm t)
  | .cell a t => match tb t with
    | some td => match evLoad td hp.get (lookT tm a) with
      | .val _ v _ => some v
      | _ => none
    | none => none
def resTL (tb : Tbl) (tm : Tri V) (hp : Tri Blk) : List ResultVar → Option (List V)
  | [] => some []
  | r :: rs => match resT1 tb tm hp r with
    | some v => match resTL tb tm hp rs with
      | some l => some (v :: l)
      | none => none
    | none => none
def resT (tb : Tbl) (tm : Tri V) (hp : Tri Blk) (rs : List ResultVar) : Option V :=
  match resTL tb tm hp rs with
  | some [v] => some v
  | some l => some (.tup l)
  | none => none

def argsT {γ : Type} : Nat → List V → Tri V → (Tri V → Rn γ) → Rn γ
  | _, [], t, κ => κ t
  | i, v :: vs, t, κ => Tri.setK 64 t i v fun t => argsT (i + 1) vs t κ

/-- a function, carried out -/
def fnR (tb : Tbl) (call : CallR) (fn : Func) (args : List V) (hp : Tri Blk) (nx : Nat) : Rn (V × Tri Blk × Nat) :=
  match fn.body with
  | some c => bif Nat.ble args.length fn.ntmps then argsT 0 args .lf fun tm => match runR tb fn.ntmps call c ⟨tm, hp, nx⟩ with
      | .ok (.ext _, _) => .no [7]
      | .ok (_, ⟨tm, hp, nx⟩) => match resT tb tm hp fn.results.toList with
        | some v => forceV v fun v => .ok (v, hp, nx)
        | none => .no [8]
      | .no w => .no w
    else .no [9]
  | none => .no [10]

def callN (tb : Tbl) (P : FuncId → Option Func) : Nat → CallR
  | 0, _, _, _, _ => .no [11]
  | d + 1, f, args, hp, nx => match P f with
    | some fn => fnR tb (callN tb P d) fn args hp nx
    | none => .no [12]

end Go.Mir

/- The mirror, part 23b: a region that draws its order, each operation with names of its own number. -/
namespace Go.Mir
open Go.RowKit

variable {P : Program}

/-! ## operations that look at the heap at their operands' handles alone -/

def dirOK (ev : Operand → V) : Op → Bool
  | .move _ | .assign _ | .pick _ _ _ | .alloc _ | .box _ _ | .build _ _ | .load _ _ | .nilCheck _ | .binOp _ _ _ _ _ | .unOp _ _ _ | .convert _ _ _ | .makeFunc _ _ _ => true
  | .fieldAddr _ _ _ | .field _ _ _ | .indexAddr _ _ _ | .index _ _ _ | .extract _ _ | .slice _ _ _ _ _ => true
  | .store _ a _ => match ev a with
    | .ptr _ _ => true
    | .gp _ _ _ => true
    | _ => false
  | .call c => match c.callee with
    | .builtin .len => true
    | .builtin .append => true
    | _ => false
  | _ => false

section
variable {H1 H2 : Heap}
theorem evLoadG_cong {td : TD} {v : V} (h : ∀ k ∈ v.hs, H1 k = H2 k) : evLoadG td H1 v = evLoadG td H2 v := by
  cases v with
  | ptr a o => simp only [evLoadG, evLoad, h a (by simp [V.hs])]
  | gp a v o => simp only [evLoadG, h a (by simp [V.hs])]
  | rp a v i o => simp only [evLoadG, evLoad, h a (by simp [V.hs])]
  | _ => rfl
theorem evIndexG_cong {tb : Tbl} {td : TD} {v i : V} (h : ∀ k ∈ v.hs, H1 k = H2 k) : evIndexG tb td H1 v i = evIndexG tb td H2 v i := by
  cases v with
  | gsl a v e o l => simp only [evIndexG, h a (by simp [V.hs])]
  | osl a v => simp only [evIndexG, evIndex, h a (by simp [V.hs])]
  | _ => rfl
theorem evSliceG_cong {tb : Tbl} {td : TD} {v : V} {lo hi mx : Option V} (h : ∀ k ∈ v.hs, H1 k = H2 k) : evSliceG tb td H1 v lo hi mx = evSliceG tb td H2 v lo hi mx := by
  cases v with
  | gsl a v e o l => simp only [evSliceG, h a (by simp [V.hs])]
  | osl a v => simp only [evSliceG, evSlice, isSl, h a (by simp [V.hs])]
  | _ => rfl
theorem evLenG_cong {td : TD} {v : V} (h : ∀ k ∈ v.hs, H1 k = H2 k) : evLenG td H1 v = evLenG td H2 v := by
  obtain ⟨kd, a1, a2, a3, a4⟩ := td
  cases v with
  | gsl a v e o l => cases kd <;> first | rfl | simp only [evLenG, h a (by simp [V.hs])]
  | osl a v => cases kd <;> first | rfl | simp only [evLenG, evLen, h a (by simp [V.hs])]
  | _ => cases kd <;> rfl
theorem gcells_cong {n : Nat} {v : V} (h : ∀ k ∈ v.hs, H1 k = H2 k) : gcells H1 n v = gcells H2 n v := by
  cases v with
  | gsl a v e o l => simp only [gcells, h a (by simp [V.hs])]
  | fsl t xs => cases xs <;> rfl
  | _ => rfl
theorem listOf_cong {t : Ty} {v : V} (h : ∀ k ∈ v.hs, H1 k = H2 k) : listOf H1 t v = listOf H2 t v := by
  cases v with
  | osl a v => simp only [listOf, h a (by simp [V.hs])]
  | _ => rfl
theorem evAppend_cong {tb : Tbl} {td : TD} {m : Nat} {s x : V} (h : ∀ k ∈ s.hs, H1 k = H2 k) (h' : ∀ k ∈ x.hs, H1 k = H2 k) : evAppend tb td H1 m s x = evAppend tb td H2 m s x := by
  unfold evAppend
  simp only [listOf_cong h']
  cases s with
  | osl a v => simp only [h a (by simp [V.hs])]
  | _ => rfl
theorem evAppendG_cong {tb : Tbl} {td : TD} {m : Nat} {s x : V} (h : ∀ k ∈ s.hs, H1 k = H2 k) (h' : ∀ k ∈ x.hs, H1 k = H2 k) : evAppendG tb td H1 m s x = evAppendG tb td H2 m s x := by
  unfold evAppendG
  simp only [gcells_cong h', evAppend_cong h h']
  cases s with
  | gsl a v e o l => simp only [h a (by simp [V.hs])]
  | _ => rfl
end

theorem dir_cong {C : Cfg} {m : Nat} {H1 H2 : Heap} {ev : Operand → V} {op : Op} (hd : dirOK ev op = true) (h : ∀ x ∈ op.operands.toList, ∀ k ∈ (ev x).hs, H1 k = H2 k) : evAny C m H1 ev op = evAny C m H2 ev op := by
  cases op with
  | load t a =>
    have h1 := h a (by simp [Op.operands])
    simp only [evAny, evSt, evOp, evLoadG_cong h1]
  | indexAddr t x i =>
    have h1 := h x (by simp [Op.operands])
    simp only [evAny, evSt, evOp, evIndexG_cong h1]
  | slice t x lo hi mx =>
    have h1 := h x (by simp [Op.operands])
    simp only [evAny, evSt, evOp, evSliceG_cong h1]
  | makeFunc fn first caps => cases fn <;> rfl
  | store t a x =>
    have ha := h a (by simp [Op.operands])
    simp only [dirOK] at hd
    generalize hva : ev a = va at hd ha
    cases va with
    | ptr k o =>
      have e1 := ha k (by simp [V.hs])
      simp only [evAny, evSt, evOp, hva, evStoreG, evStore, e1]
    | gp k v o =>
      have e1 := ha k (by simp [V.hs])
      simp only [evAny, evSt, evOp, hva, evStoreG, e1]
    | _ => simp only [Bool.false_eq_true] at hd
  | call c =>
    simp only [dirOK] at hd
    split at hd
    · rename_i hc
      have key : evOp C.tb C.Γ m H1 ev (.call c) = evOp C.tb C.Γ m H2 ev (.call c) := by
        simp only [evOp, hc]
        generalize hat : c.argTypes.toList = tl
        generalize hx : c.args.toList = xl
        match tl, xl, hx with
        | [t], [x], hx =>
          have h1 := h x (by simp [Op.operands, Call.operands, hx])
          simp only
          cases C.tb t with
          | none => rfl
          | some td => exact evLenG_cong h1
        | [], _, _ => rfl
        | [_], [], _ => rfl
        | [_], _ :: _ :: _, _ => rfl
        | _ :: _ :: _, _, _ => rfl
      simp only [evAny, evSt, key]
    · rename_i hc
      have key : evOp C.tb C.Γ m H1 ev (.call c) = evOp C.tb C.Γ m H2 ev (.call c) := by
        simp only [evOp, hc]
        generalize hat : c.argTypes.toList = tl
        generalize hx : c.args.toList = xl
        match tl, xl, hx with
        | [t, t2], [s, x], hx =>
          have h1 := h s (by simp [Op.operands, Call.operands, hx])
          have h2 := h x (by simp [Op.operands, Call.operands, hx])
          simp only [evAppendG_cong h1 h2]
        | [], _, _ => rfl
        | [_], _, _ => rfl
        | [_, _], [], _ => rfl
        | [_, _], [_], _ => rfl
        | [_, _], _ :: _ :: _ :: _, _ => rfl
        | _ :: _ :: _ :: _, _, _ => rfl
      simp only [evAny, evSt, key]
    · cases hd
  | _ => first | rfl | (simp only [dirOK, Bool.false_eq_true] at hd)

/-- what an operation does in a region that draws its order -/
inductive DoesV (C : Cfg) (alt : Option (Nat × (Blk → Bool))) (all : List Oper) (tm : List (Nat × V)) (H : Heap) (m : Nat) (o : Oper) : Rec → Prop
  | old {r : Rec} : Does C true all tm H m o r → DoesV C alt all tm H m o r
  | dir {ps : List Ob} {v v' : V} {dh : List (Nat × Blk)} {R : List Nat} : dstIn C.N o.dst = true → guardOf all tm o = some true → evAny C m H (maskEv (slotsOf all o) tm) o.op = some (ps, v, dh) →
      (∀ H2 : Heap, (∀ h ∈ R, H2 h = H h) → (∀ h0 okB, alt = some (h0, okB) → H2 h0 = H h0 ∨ ∃ b, H2 h0 = some b ∧ okB b = true) → evAny C m H2 (maskEv (slotsOf all o) tm) o.op = evAny C m H (maskEv (slotsOf all o) tm) o.op) → (∀ p ∈ ps, p.holds) →
      (v' = v ∨ ∃ b, v = .bool b ∧ v' = .kb b) → DoesV C alt all tm H m o ⟨o.dst, v', dh, R, slotsOf all o⟩
theorem DoesV.dstIn {C : Cfg} {alt : Option (Nat × (Blk → Bool))} {all : List Oper} {tm : List (Nat × V)} {H : Heap} {m : Nat} {o : Oper} {r : Rec} (h : DoesV C alt all tm H m o r) : dstIn C.N o.dst = true ∧ r.dst = o.dst ∧ r.rs = slotsOf all o := by
  cases h with
  | old h => exact h.dstIn
  | dir h _ _ _ _ _ => exact ⟨h, rfl, rfl⟩

inductive RunV (Cf : Nat → Cfg) (lo : Nat → Nat) (al : Nat → Option (Nat × (Blk → Bool))) (all : List Oper) (st : St) : Nat → List Oper → Dl → List Rec → Dl → List Rec → Prop
  | nil {i : Nat} {d : Dl} {recs : List Rec} : RunV Cf lo al all st i [] d recs d recs
  | cons {i : Nat} {o : Oper} {rest : List Oper} {d : Dl} {recs : List Rec} {r : Rec} {df : Dl} {rf : List Rec} : DoesV (Cf i) (al i) all (d.tm ++ st.tm) (hset st.H d.hp) (lo i) o r →
      RunV Cf lo al all st (i + 1) rest ⟨dstPut r.dst r.v ++ d.tm, r.dh ++ d.hp⟩ (recs ++ [r]) df rf → RunV Cf lo al all st i (o :: rest) d recs df rf

/-- what a run in the text's order says of each of its operations -/
theorem run_eachV {Cf : Nat → Cfg} {lo : Nat → Nat} {al : Nat → Option (Nat × (Blk → Bool))} {all : List Oper} {st : St} : ∀ (rest : List Oper) (i : Nat) (d : Dl) (recs : List Rec) (df : Dl) (rf : List Rec), RunV Cf lo al all st i rest d recs df rf → recs.length = i →
    find (d.tm ++ st.tm) = (recs.map updT).foldl gset (find st.tm) → hset st.H d.hp = (recs.map Rec.dh).foldl gset st.H →
    (∃ more, rf = recs ++ more ∧ more.length = rest.length) ∧ find (df.tm ++ st.tm) = (rf.map updT).foldl gset (find st.tm) ∧ hset st.H df.hp = (rf.map Rec.dh).foldl gset st.H ∧
    ∀ j o, rest[j]? = some o → ∃ r tm H, rf[i + j]? = some r ∧ DoesV (Cf (i + j)) (al (i + j)) all tm H (lo (i + j)) o r ∧ find tm = ((rf.take (i + j)).map updT).foldl gset (find st.tm) ∧ H = ((rf.take (i + j)).map Rec.dh).foldl gset st.H
  | [], i, d, recs, df, rf, hr, hl, h1, h2 => by
    cases hr
    exact ⟨⟨[], by simp, rfl⟩, h1, h2, fun j o h => by simp at h⟩
  | o :: rest, i, d, recs, df, rf, hr, hl, h1, h2 => by
    cases hr with
    | @cons _ _ _ _ _ r _ _ hdo hrun =>
      obtain ⟨⟨more, e1, e2⟩, g1, g2, g3⟩ := run_eachV rest (i + 1) _ _ _ _ hrun (by simp [hl])
        (by rw [List.append_assoc, find_gset, h1]; simp [updT]) (by rw [hset_append, h2]; simp [hset_gset])
      refine ⟨⟨r :: more, by rw [e1]; simp, by simp [e2]⟩, g1, g2, fun j o' hj => ?_⟩
      cases j with
      | zero =>
        simp only [List.getElem?_cons_zero, Option.some.injEq] at hj
        subst hj
        have et : rf.take i = recs := by rw [e1, List.append_assoc, List.take_append_of_le_length (by omega), List.take_of_length_le (by omega)]
        refine ⟨r, _, _, ?_, hdo, ?_, ?_⟩
        · rw [e1, Nat.add_zero, List.append_assoc, List.getElem?_append_right (by omega)]
          simp [hl]
        · rw [Nat.add_zero, et]; exact h1
        · rw [Nat.add_zero, et]; exact h2
      | succ j =>
        obtain ⟨r', tm, H, k1, k2, k3, k4⟩ := g3 j o' (by simpa using hj)
        rw [show i + 1 + j = i + (j + 1) by omega] at k1 k2 k3 k4
        exact ⟨r', tm, H, k1, k2, k3, k4⟩

structure InvV (Cf : Nat → Cfg) (lo : Nat → Nat) (N : Nat) (B : Base) (E0 : Env) (st : St) (rf : List Rec) (L : Nat → Bool) (a : Act) (w : World) : Prop where
  ex : ∃ E, HRel B E ∧ E.w = w ∧ Ext E0 E ∧ E.H = selF L st.H 0 (rf.map Rec.dh) ∧ (∀ n, E.U n → E0.U n ∨ ∃ i, i < rf.length ∧ L i = true ∧ lo i ≤ n ∧ n < lo i + (Cf i).K) ∧ tmOK E (selF L (find st.tm) 0 (rf.map updT)) a
  size : a.tmps.size = N
  defers : a.defers = []

/-- two choices that part only where the one that has more is harmless -/
theorem selF_alt {L L' : Nat → Bool} {k : Nat} {okB : Blk → Bool} : ∀ (us : List (List (Nat × Blk))) (i : Nat) (f f' : Nat → Option Blk), (f k = f' k ∨ ∃ b, f k = some b ∧ okB b = true) →
    (∀ j u, us[j]? = some u → find u k ≠ none → L (i + j) = L' (i + j) ∨ (L' (i + j) = false ∧ ∀ b, find u k = some b → okB b = true)) → selF L f i us k = selF L' f' i us k ∨ ∃ b, selF L f i us k = some b ∧ okB b = true
  | [], _, _, _, h, _ => h
  | u :: us, i, f, f', h, hu => by
    unfold selF
    refine selF_alt us (i + 1) _ _ ?_ (fun j u' hj hf => by
      have := hu (j + 1) u' (by simpa using hj) hf
      rwa [show i + (j + 1) = i + 1 + j by omega] at this)
    cases hf : find u k with
    | none =>
      have e1 : (if L i = true then gset f u else f) k = f k := by split <;> simp [gset_none hf]
      have e2 : (if L' i = true then gset f' u else f') k = f' k := by split <;> simp [gset_none hf]
      rw [e1, e2]
      exact h
    | some v =>
      rcases hu 0 u (by simp) (by rw [hf]; simp) with h1 | ⟨h1, h2⟩
      · simp only [Nat.add_zero] at h1
        rw [h1]
        split
        · left; rw [gset_some hf, gset_some hf]
        · exact h
      · simp only [Nat.add_zero] at h1
        rw [h1]
        simp only [Bool.false_eq_true, if_false]
        split
        · right; exact ⟨v, gset_some hf, h2 v hf⟩
        · exact h

theorem inv_stepV {Cf : Nat → Cfg} {lo : Nat → Nat} {al : Nat → Option (Nat × (Blk → Bool))} {N : Nat} (hC : ∀ i, CfgOK P (Cf i)) (hN : ∀ i, (Cf i).N = N) {B : Base} {E0 : Env} {all : List Oper} {st : St} {rf : List Rec} (hfr0 : ∀ i, i < rf.length → ∀ n, lo i ≤ n → n < lo i + (Cf i).K → ¬ E0.U n) (hlo : ∀ i j, i < j → j < rf.length → lo i + (Cf i).K ≤ lo j) {L L' : Nat → Bool} {i : Nat} {o : Oper} {r : Rec} (ho : all[i]? = some o) (hr : rf[i]? = some r) (hLi : L i = false) (hL' : ∀ j, L' j = if j = i then true else L j)
    {tm : List (Nat × V)} {H : Heap} (hdo : DoesV (Cf i) (al i) all tm H (lo i) o r) (htm : find tm = selF (fun j => Nat.blt j i) (find st.tm) 0 (rf.map updT)) (hH : H = selF (fun j => Nat.blt j i) st.H 0 (rf.map Rec.dh))
    (hcomm : ∀ j s, rf[j]? = some s → (j < i ∧ L j = false) ∨ (i < j ∧ L j = true) → Comm r s) (halt : ∀ h0 okB, al i = some (h0, okB) → ∀ j s b, rf[j]? = some s → find s.dh h0 = some b → (j < i → L j = true) ∧ (i < j → L j = true → okB b = true)) {Q : Exit → Act → World → Prop} {a : Act} {w : World} (hI : InvV Cf lo N B E0 st rf L a w) {K : Act → World → Prop} (hK : ∀ a w, InvV Cf lo N B E0 st rf L' a w → K a w) :
    wpOp P all.toArray Q i K a w := by
  obtain ⟨⟨E, hE, rfl, hX, hEH, hU, hT⟩, hsz, hdf⟩ := hI
  obtain ⟨hd, he, hrs⟩ := hdo.dstIn
  have hiL : i < rf.length := (List.getElem?_eq_some_iff.1 hr).1
  have hLsel : ∀ {α : Type} (us : List (List (Nat × α))) (f : Nat → Option α) (k : Nat) (g : Rec → List (Nat × α)), us = rf.map g → (∀ j s, rf[j]? = some s → find (g s) k ≠ none → j ≠ i → Comm r s → False) → selF L f 0 us k = selF (fun j => Nat.blt j i) f 0 us k := by
    intro α us f k g hus hno
    refine selF_congr us 0 f f rfl (fun j u hj hu => ?_)
    rw [Nat.zero_add]
    subst hus
    rw [List.getElem?_map] at hj
    cases hs : rf[j]? with
    | none => rw [hs] at hj; simp at hj
    | some s =>
      rw [hs] at hj
      simp only [Option.map_some, Option.some.injEq] at hj
      subst hj
      by_cases hji : j = i
      · subst hji
        rw [hLi]
        cases hb : Nat.blt j j with
        | false => rfl
        | true => rw [Nat.blt_eq] at hb; omega
      · rcases Nat.lt_or_gt_of_ne hji with hlt | hgt
        · have hb : Nat.blt j i = true := by rw [Nat.blt_eq]; exact hlt
          rw [hb]
          cases hLj : L j with
          | true => rfl
          | false => exact (hno j s hs hu hji (hcomm j s hs (.inl ⟨hlt, hLj⟩))).elim
        · have hb : Nat.blt j i = false := by cases hb : Nat.blt j i with | false => rfl | true => rw [Nat.blt_eq] at hb; omega
          rw [hb]
          cases hLj : L j with
          | false => rfl
          | true => exact (hno j s hs hu hji (hcomm j s hs (.inr ⟨hgt, hLj⟩))).elim
  have hslot : ∀ s ∈ slotsOf all o, selF L (find st.tm) 0 (rf.map updT) s = find tm s := fun s hs => by
    rw [htm]
    refine hLsel _ _ s updT rfl (fun j s' hs' hne hji hc => ?_)
    exact hc.sd s (updT_key hne) (by rw [hrs]; exact hs)
  have hlook : ∀ s ∈ slotsOf all o, vrel E (lookV tm s) (a.tmps.getD s undef) := fun s hs => by
    unfold lookV
    cases hf : find tm s with
    | none => simp [vrel]
    | some v => exact hT s v (by rw [hslot s hs]; exact hf)
  have hL0 : ∀ {α : Type} (us : List (List (Nat × α))) (f : Nat → Option α) (g : Rec → List (Nat × α)), us = rf.map g → (∀ j s, i < j → rf[j]? = some s → Comm r s → ∀ k, find (g r) k ≠ none → find (g s) k = none) → selF L' f 0 us = gset (selF L f 0 us) (g r) := by
    intro α us f g hus hno
    subst hus
    refine selF_add (rf.map g) f i (g r) (by rw [List.getElem?_map, hr]; rfl) hL' (fun j u hj hu hLj k hk => ?_)
    rw [List.getElem?_map] at hu
    cases hs : rf[j]? with
    | none => rw [hs] at hu; simp at hu
    | some s =>
      rw [hs] at hu
      simp only [Option.map_some, Option.some.injEq] at hu
      subst hu
      exact hno j s hj hs (hcomm j s hs (.inr ⟨hj, hLj⟩)) k hk
  have none_of : ∀ {α : Type} {l : List (Nat × α)} {k : Nat}, (k ∈ l.map (·.1) → False) → find l k = none := fun {α l k} h => by
    cases hf : find l k with
    | none => rfl
    | some v => exact (h (find_key (by rw [hf]; simp))).elim
  have hT' : selF L' (find st.tm) 0 (rf.map updT) = gset (selF L (find st.tm) 0 (rf.map updT)) (updT r) := hL0 _ _ updT rfl (fun j s _ _ hc k hk => by
    cases hf : find (updT s) k with
    | none => rfl
    | some v => exact (hc.d k (updT_key hk) (updT_key (by rw [hf]; simp))).elim)
  have hH' : selF L' st.H 0 (rf.map Rec.dh) = gset (selF L st.H 0 (rf.map Rec.dh)) r.dh := hL0 _ _ Rec.dh rfl (fun j s _ _ hc k hk => none_of fun hm => hc.k k (find_key hk) hm)
  have after : ∀ (E' : Env) (v' : Value), GoodK B E (lo i) (Cf i).K r.dh E'.w E' → vrel E' r.v v' → InvV Cf lo N B E0 st rf L' (a.put o.dst v') E'.w := fun E' v' G hv => by
    refine ⟨⟨E', G.rel, rfl, hX.trans G.ext, by rw [G.h, hH', hEH, hset_gset], fun n hn => ?_, ?_⟩, by rw [put_size]; exact hsz, by rw [put_defers]; exact hdf⟩
    · rcases G.u n hn with h | h
      · rcases hU n h with h1 | ⟨j, h1, h2, h3⟩
        · exact .inl h1
        · refine .inr ⟨j, h1, ?_, h3⟩
          rw [hL']
          split
          · rfl
          · exact h2
      · exact .inr ⟨i, hiL, by rw [hL', if_pos rfl], h.1, h.2⟩
    · rw [hT']
      exact put_ok G.ext hT hsz (by rw [← hN i]; exact hd) (v := r.v) hv (fun s u hu => by
        unfold gset updT at hu
        rw [he] at hu
        cases hf : find (dstPut o.dst r.v) s with
        | some x => rw [hf] at hu; exact .inl hu
        | none => rw [hf] at hu; exact .inr ⟨rfl, hu⟩)
  unfold wpOp
  simp only [List.getElem?_toArray, ho]
  have hfresh : ∀ n, lo i ≤ n → n < lo i + (Cf i).K → ¬ E.U n := fun n h1 h2 hu => by
    rcases hU n hu with h3 | ⟨j, h3, h4, h5, h6⟩
    · exact hfr0 i hiL n h1 h2 h3
    · have hji : j ≠ i := fun e => by subst e; rw [hLi] at h4; cases h4
      rcases Nat.lt_or_gt_of_ne hji with hlt | hgt
      · have := hlo j i hlt hiL; omega
      · have := hlo i j hgt h3; omega
  cases hdo with
  | @dir ps v v' dh R _ hg hev hcg hps hv =>
    rw [guardOf_masked hlook hg]
    simp only [if_true]
    left
    have hHR : ∀ h ∈ R, E.H h = H h := fun h hh => by
      rw [hEH, hH]
      refine hLsel _ _ h Rec.dh rfl (fun j s hs hne hji hc => ?_)
      exact hc.sk h (find_key hne) hh
    have hev2 := hcg E.H hHR (fun h0 okB hal => by
      have hal := halt h0 okB hal
      rw [hEH, hH]
      refine selF_alt (rf.map Rec.dh) 0 st.H st.H (.inl rfl) (fun j u hj hu => ?_)
      rw [Nat.zero_add]
      rw [List.getElem?_map] at hj
      cases hs : rf[j]? with
      | none => rw [hs] at hj; simp at hj
      | some s =>
        rw [hs] at hj
        simp only [Option.map_some, Option.some.injEq] at hj
        subst hj
        rcases Nat.lt_trichotomy j i with hlt | heq | hgt
        · left
          obtain ⟨b, hb⟩ : ∃ b, find s.dh h0 = some b := by
            cases hf : find s.dh h0 with
            | none => exact absurd hf hu
            | some b => exact ⟨b, rfl⟩
          rw [(hal j s b hs hb).1 hlt]
          exact (by rw [Nat.blt_eq]; exact hlt : Nat.blt j i = true).symm
        · left
          subst heq
          rw [hLi]
          cases hb : Nat.blt j j with
          | false => rfl
          | true => rw [Nat.blt_eq] at hb; omega
        · have hbf : Nat.blt j i = false := by cases hb : Nat.blt j i with | false => rfl | true => rw [Nat.blt_eq] at hb; omega
          cases hLj : L j with
          | false => exact .inl hbf.symm
          | true => exact .inr ⟨hbf, fun b hb => (hal j s b hs hb).2 hgt hLj⟩)
    rw [hev] at hev2
    have hevm : ∀ x, vrel E (maskEv (slotsOf all o) tm x) (a.eval x) := fun x => by
      cases x with
      | tmp t =>
        simp only [maskEv]
        cases hm : memN (slotsOf all o) t with
        | false => simp [vrel]
        | true => exact hlook t (memN_iff.1 hm)
      | const v => exact cv_sound v
      | func f => simp only [maskEv, vrel, Act.eval]; exact ⟨#[], rfl, by simp [vrels]⟩
      | _ => simp [maskEv, vrel]
    exact evAny_sound hE (hC i).tb (hC i).K (hC i).Γ hfresh hevm hev2 hps fun v'' E' G hv' => by
      have hw : E'.w = E'.w := rfl
      exact hK _ _ (after E' _ G (vput hv hv'))
  | old hdo =>
  cases hdo with
  | skip _ hg =>
    rw [guardOf_masked hlook hg]
    simp only [Bool.false_eq_true, if_false]
    exact hK _ _ (after E undef ⟨hE, Ext.refl E, rfl, rfl, fun n h => .inl h⟩ (by simp [vrel, undef, vrels]))
  | @run ps v v' dh R _ hg hst hps hv =>
    rw [guardOf_masked hlook hg]
    simp only [if_true]
    left
    simp only [stepOp] at hst
    split at hst
    case h_2 => cases hst
    rename_i ps' v2 dh' hev
    cases hfr : frameOK H (reach H 8 (o.op.operands.toList.flatMap fun x => (maskEv (slotsOf all o) tm x).hs) []) (lo i) (Cf i).K v2 dh' with
    | false => rw [hfr] at hst; cases hst
    | true =>
      rw [hfr] at hst
      simp only [cond_true, Option.some.injEq, Prod.mk.injEq] at hst
      obtain ⟨rfl, rfl, rfl, hR⟩ := hst
      rw [hR] at hfr hev
      -- the part of the heap that it touches is as it was in the text's order
      have hHR : ∀ h ∈ R, E.H h = H h := fun h hh => by
        rw [hEH, hH]
        refine hLsel _ _ h Rec.dh rfl (fun j s hs hne hji hc => ?_)
        exact hc.sk h (find_key hne) hh
      have hrest : restr H R = restr E.H R := by
        funext h
        unfold restr
        cases hm : memN R h with
        | false => rfl
        | true => simp only [cond_true]; exact (hHR h (memN_iff.1 hm)).symm
      simp only [frameOK, Bool.and_eq_true] at hfr
      obtain ⟨⟨f1, f2⟩, f3⟩ := hfr
      have fR : ∀ h ∈ R, ∃ b, H h = some b ∧ hsOK R (lo i) (Cf i).K b.hs = true := fun h hh => by
        have := List.all_eq_true.1 f1 h hh
        split at this
        · rename_i b hb; exact ⟨b, hb, this⟩
        · cases this
      have hfresh : ∀ n, lo i ≤ n → n < lo i + (Cf i).K → ¬ E.U n := fun n h1 h2 hu => by
        rcases hU n hu with h3 | ⟨j, h3, h4, h5, h6⟩
        · exact hfr0 i hiL n h1 h2 h3
        · have hji : j ≠ i := fun e => by subst e; rw [hLi] at h4; cases h4
          rcases Nat.lt_or_gt_of_ne hji with hlt | hgt
          · have := hlo j i hlt hiL; omega
          · have := hlo i j hgt h3; omega
      have hEs := hE.restr R
      have Xs := Ext.restr E R
      rw [hrest] at hev
      have hevm : ∀ x, vrel { E with H := Mir.restr E.H R } (maskEv (slotsOf all o) tm x) (a.eval x) := fun x => by
        cases x with
        | tmp t =>
          simp only [maskEv]
          cases hm : memN (slotsOf all o) t with
          | false => simp [vrel]
          | true => exact vrel_ext Xs _ _ (hlook t (memN_iff.1 hm))
        | const v => exact cv_sound v
        | func f => simp only [maskEv, vrel, Act.eval]; exact ⟨#[], rfl, by simp [vrels]⟩
        | _ => simp [maskEv, vrel]
      exact evAny_sound (E := { E with H := Mir.restr E.H R }) hEs (hC i).tb (hC i).K (hC i).Γ hfresh hevm hev hps fun v'' Es G hv' => by
        obtain ⟨E', G', tr⟩ := frame hE hfresh G (fun h hh => by obtain ⟨b, hb, _⟩ := fR h hh; exact ⟨b, by rw [hHR h hh]; exact hb⟩)
          (fun h hh k hk x hx => by
            obtain ⟨b, hb, hb2⟩ := fR h hh
            rw [hHR h hh, hb] at hk
            cases hk
            exact hsOK_spec hb2 x hx)
          (fun h k hk => by
            have hq := find_mem hk
            have := List.all_eq_true.1 f2 _ hq
            simp only [Bool.and_eq_true] at this
            exact ⟨hsOK_spec this.1 h (by simp), hsOK_spec this.2⟩)
        have hw : E'.w = Es.w := G'.w
        have hv2 : vrel E' v2 v'' := tr _ _ (hsOK_spec f3) hv'
        have := hK _ _ (after E' _ (by rw [hw]; exact G') (vput hv hv2))
        rw [hw] at this
        exact this

/-! ## the draw -/

/-! ## the draw -/

/-! ## the draw -/

/-! ## the draw -/

/-- what the alternatives ask of the records -/
def AltOK (al : Nat → Option (Nat × (Blk → Bool))) (ms : List Nat) (rf : List Rec) : Prop := ∀ i h0 okB, al i = some (h0, okB) → ∀ j s b, rf[j]? = some s → find s.dh h0 = some b → j ≠ i →
  (j < i → ((ms[i]?).getD 0).testBit j = true) ∧ (i < j → ((ms[j]?).getD 0).testBit i = true ∨ okB b = true)
theorem AltOK.none {ms : List Nat} {rf : List Rec} : AltOK (fun _ => Option.none) ms rf := fun i h0 okB h => by cases h

theorem draw_anyV {Cf : Nat → Cfg} {lo : Nat → Nat} {al : Nat → Option (Nat × (Blk → Bool))} {N : Nat} (hC : ∀ i, CfgOK P (Cf i)) (hN : ∀ i, (Cf i).N = N) {B : Base} {E0 : Env} {all : List Oper} {st : St} {df : Dl} {rf : List Rec} (hrun : RunV Cf lo al all st 0 all ⟨[], []⟩ [] df rf) (hE : edgesOK 0 all = true) (hck : chkAll (masks all []) 0 rf = true) (hal : AltOK al (masks all []) rf) {Q : Exit → Act → World → Prop}
    (hfr0 : ∀ i, i < all.length → ∀ n, lo i ≤ n → n < lo i + (Cf i).K → ¬ E0.U n) (hlo : ∀ i j, i < j → j < all.length → lo i + (Cf i).K ≤ lo j)
    (hQ : ∀ E a, HRel B E → Ext E0 E → E.H = hset st.H df.hp → (∀ n, E.U n → E0.U n ∨ ∃ i, i < all.length ∧ lo i ≤ n ∧ n < lo i + (Cf i).K) → tmOK E (find (df.tm ++ st.tm)) a → a.tmps.size = N → a.defers = [] → Q .normal a E.w) :
    ∀ (fuel : Nat) (listed : Array Bool) (a : Act) (w : World), listed.size = all.length → unl all.length listed = fuel →
      (∀ j oj, all[j]? = some oj → listed.getD j false = true → ∀ e ∈ oj.after, Region.binds .any e = true → listed.getD e.on false = true) →
      InvV Cf lo N B E0 st rf (fun i => listed.getD i false) a w → wpAny P .any all.toArray Q fuel listed a w := by
  obtain ⟨⟨more, e1, e2⟩, g1, g2, g3⟩ := run_eachV all 0 ⟨[], []⟩ [] df rf hrun rfl rfl rfl
  have hlen : rf.length = all.length := by rw [e1]; simpa using e2
  -- nobody is left when nobody is ready
  have full : ∀ (listed : Array Bool), listed.size = all.length → Region.ready .any all.toArray listed = [] → ∀ i, i < all.length → listed.getD i false = true := by
    intro listed hsz hrd i
    induction i using Nat.strongRecOn with
    | _ i ih =>
      intro hi
      cases hb : listed.getD i false with
      | true => rfl
      | false =>
        have hun : listed.getD i true = false := by
          have : i < listed.size := by omega
          simp [this] at hb ⊢
          exact hb
        have hoi : all[i]? = some all[i] := List.getElem?_eq_getElem hi
        have : i ∈ Region.ready .any all.toArray listed := mem_ready.2 ⟨hun, all[i], by simp, fun e he hbd => by
          have := edgesOK_spec all 0 hE i _ hoi e he hbd
          exact ih e.on (by omega) (by omega)⟩
        rw [hrd] at this
        cases this
  have close : ∀ (listed : Array Bool) (a : Act) (w : World), listed.size = all.length → (∀ i, i < all.length → listed.getD i false = true) → InvV Cf lo N B E0 st rf (fun i => listed.getD i false) a w → Q .normal a w := by
    intro listed a w hsz hall hI
    obtain ⟨⟨E, hE', rfl, hX, hEH, hU, hT⟩, hs, hd⟩ := hI
    have hsel : ∀ {α : Type} (us : List (List (Nat × α))) (f : Nat → Option α), us.length = all.length → selF (fun i => listed.getD i false) f 0 us = us.foldl gset f := fun us f hl => by
      have h1 := selF_lt us f 0 us.length
      rw [List.take_of_length_le (Nat.le_refl _)] at h1
      rw [← h1]
      funext k
      refine selF_congr us 0 f f rfl (fun j u hj _ => ?_)
      have hjl : j < us.length := (List.getElem?_eq_some_iff.1 hj).1
      rw [Nat.zero_add, hall j (by omega)]
      exact (by rw [Nat.blt_eq]; omega : Nat.blt j (0 + us.length) = true).symm
    refine hQ E a hE' hX ?_ (fun n hn => ?_) (fun s v hv => ?_) hs hd
    · rw [hEH, hsel _ _ (by simp [hlen]), g2]
    · rcases hU n hn with h | ⟨i, h1, _, h3, h4⟩
      · exact .inl h
      · exact .inr ⟨i, by omega, h3, h4⟩
    · refine hT s v ?_
      rw [hsel _ _ (by simp [hlen]), ← g1]
      exact hv
  intro fuel
  induction fuel with
  | zero =>
    intro listed a w hsz hun _ hI
    have hall : ∀ i, i < all.length → listed.getD i false = true := fun i hi => by
      have h0 : (List.range all.length).filter (fun i => !listed.getD i true) = [] := List.eq_nil_of_length_eq_zero hun
      have := List.filter_eq_nil_iff.1 h0 i (List.mem_range.2 hi)
      have hi' : i < listed.size := by omega
      simp [hi'] at this ⊢
      exact this
    refine ⟨?_, close listed a w hsz hall hI⟩
    cases hr : Region.ready .any all.toArray listed with
    | nil => rfl
    | cons i l =>
      have hm : i ∈ Region.ready .any all.toArray listed := by rw [hr]; exact List.mem_cons_self
      obtain ⟨h1, o, h2, _⟩ := mem_ready.1 hm
      have hi : i < all.length := by
        have := (Array.getElem?_eq_some_iff.1 h2).1
        simpa using this
      have h3 := hall i hi
      have hi' : i < listed.size := by omega
      simp [hi'] at h1 h3
      rw [h1] at h3; cases h3
  | succ fuel ih =>
    intro listed a w hsz hun hclosed hI
    refine ⟨fun hr => close listed a w hsz (full listed hsz hr) hI, fun i hi => ?_⟩
    obtain ⟨h1, o, h2, hdir⟩ := mem_ready.1 hi
    have ho : all[i]? = some o := by simpa using h2
    have hil : i < all.length := (List.getElem?_eq_some_iff.1 ho).1
    have his : i < listed.size := by omega
    have hLi : listed.getD i false = false := by simp [his] at h1 ⊢; exact h1
    obtain ⟨r, tm, H, k1, k2, k3, k4⟩ := g3 i o ho
    simp only [Nat.zero_add] at k1 k2 k3 k4
    have hget : ∀ j, (listed.setIfInBounds i true).getD j false = if j = i then true else listed.getD j false := fun j => by
      by_cases e : j = i
      · subst e; simp [his]
      · simp [e, Array.getElem?_setIfInBounds_ne (Ne.symm e), Array.getD_eq_getD_getElem?]
    have hgetT : ∀ j, j ≠ i → (listed.setIfInBounds i true).getD j true = listed.getD j true := fun j e => by
      simp [Array.getElem?_setIfInBounds_ne (Ne.symm e), Array.getD_eq_getD_getElem?]
    refine inv_stepV hC hN (E0 := E0) (by rw [hlen]; exact hfr0) (by rw [hlen]; exact hlo) (L := fun i => listed.getD i false) (L' := fun j => (listed.setIfInBounds i true).getD j false) ho k1 hLi hget k2 ?_ ?_ (fun j s hs hor => ?_) (fun h0 okB ha j s b hs hb => ⟨fun hlt => ?_, fun hgt hLj => ?_⟩) hI (fun a w hI' => ih _ a w (by simpa using hsz) ?_ ?_ hI')
    · rw [k3]
      have := selF_lt (rf.map updT) (find st.tm) 0 i
      rw [← List.map_take, ] at this
      simpa using this.symm
    · rw [k4]
      have := selF_lt (rf.map Rec.dh) st.H 0 i
      rw [← List.map_take] at this
      simpa using this.symm
    · rcases hor with ⟨hlt, hLj⟩ | ⟨hgt, hLj⟩
      · rcases chkAll_spec rf 0 hck j i s r hlt hs k1 with h | h
        · simp only [Nat.zero_add] at h
          have := ahead_listed hE hclosed i i (Nat.le_refl _) o ho hdir j h
          rw [this] at hLj; cases hLj
        · exact h.symm
      · rcases chkAll_spec rf 0 hck i j r s hgt k1 hs with h | h
        · simp only [Nat.zero_add] at h
          have hjl : j < all.length := by rw [← hlen]; exact (List.getElem?_eq_some_iff.1 hs).1
          have hoj : all[j]? = some all[j] := List.getElem?_eq_getElem hjl
          have := ahead_listed hE hclosed j j (Nat.le_refl _) _ hoj (hclosed j _ hoj hLj) i h
          rw [this] at hLi; cases hLi
        · exact h
    · exact ahead_listed hE hclosed i i (Nat.le_refl _) o ho hdir j ((hal i h0 okB ha j s b hs hb (by omega)).1 hlt)
    · rcases (hal i h0 okB ha j s b hs hb (by omega)).2 hgt with h | h
      · have hjl : j < all.length := by rw [← hlen]; exact (List.getElem?_eq_some_iff.1 hs).1
        have hoj : all[j]? = some all[j] := List.getElem?_eq_getElem hjl
        have := ahead_listed hE hclosed j j (Nat.le_refl _) _ hoj (hclosed j _ hoj hLj) i h
        rw [this] at hLi; cases hLi
      · exact h
    · have := filter_one (p := fun j => !listed.getD j true) (q := fun j => !(listed.setIfInBounds i true).getD j true) (i := i) (by simp [h1]) (by simp [his]) (fun j e => by simp [hgetT j e]) (List.range all.length) List.nodup_range (List.mem_range.2 hil)
      unfold unl at hun ⊢
      omega
    · intro j oj hj hlj e he hb
      rw [hget] at hlj ⊢
      by_cases e1 : e.on = i
      · rw [if_pos e1]
      · rw [if_neg e1]
        by_cases e2 : j = i
        · subst e2
          rw [ho] at hj; cases hj
          exact hdir e he hb
        · rw [if_neg e2] at hlj
          exact hclosed j oj hj hlj e he hb

/-- A region that draws its order, at an environment. -/
theorem draw_envV {Cf : Nat → Cfg} {lo : Nat → Nat} {al : Nat → Option (Nat × (Blk → Bool))} {N : Nat} (hC : ∀ i, CfgOK P (Cf i)) (hN : ∀ i, (Cf i).N = N) (hP : P.follows .mixedOrders = true) {B : Base} {all : List Oper} {st : St} {df : Dl} {rf : List Rec} (hrun : RunV Cf lo al all st 0 all ⟨[], []⟩ [] df rf) (hE : edgesOK 0 all = true) (hck : chkAll (masks all []) 0 rf = true) (hal : AltOK al (masks all []) rf) {Q : Exit → Act → World → Prop}
    {E : Env} (hE' : HRel B E) (hH : E.H = st.H) {a : Act} (hT : tmOK E (find st.tm) a) (hsz : a.tmps.size = N) (hdf : a.defers = [])
    (hfr0 : ∀ i, i < all.length → ∀ n, lo i ≤ n → n < lo i + (Cf i).K → ¬ E.U n) (hlo : ∀ i j, i < j → j < all.length → lo i + (Cf i).K ≤ lo j)
    (hQ : ∀ E' a, HRel B E' → Ext E E' → E'.H = hset st.H df.hp → (∀ n, E'.U n → E.U n ∨ ∃ i, i < all.length ∧ lo i ≤ n ∧ n < lo i + (Cf i).K) → tmOK E' (find (df.tm ++ st.tm)) a → a.tmps.size = N → a.defers = [] → Q .normal a E'.w) (id : Nat) :
    (Code.region id all.toArray true).wp P Q a E.w := by
  refine wp_region_any hP ?_
  obtain ⟨R, X⟩ := step0 hE' { E.w with drawn := E.w.drawn + 1 } rfl rfl rfl rfl
  have hfalse : ∀ i, (Array.replicate all.toArray.size false).getD i false = false := fun i => by
    rcases Nat.lt_or_ge i all.length with h | h
    · simp [h]
    · simp [h]
  have hno : ∀ {α : Type} (us : List (List (Nat × α))) (f : Nat → Option α) (i : Nat), selF (fun i => (Array.replicate all.toArray.size false).getD i false) f i us = f := by
    intro α us
    induction us with
    | nil => intro f i; rfl
    | cons u us ih => intro f i; unfold selF; rw [hfalse]; simp only [Bool.false_eq_true, if_false]; exact ih f _
  refine draw_anyV hC hN (E0 := { E with w := { E.w with drawn := E.w.drawn + 1 } }) hrun hE hck hal hfr0 hlo (fun E1 a1 r1 x1 h1 u1 t1 s1 d1 => hQ E1 a1 r1 (X.trans x1) h1 u1 t1 s1 d1) _ _ a _ (by simp) ?_ (fun j oj hj hl => by rw [hfalse] at hl; cases hl) ⟨⟨_, R, rfl, Ext.refl _, ?_, fun n hn => .inl hn, fun s v hv => ?_⟩, hsz, hdf⟩
  · unfold unl
    have : (List.range all.length).filter (fun i => !(Array.replicate all.toArray.size false).getD i true) = List.range all.length := List.filter_eq_self.2 fun i hi => by
      have := List.mem_range.1 hi
      simp [this]
    rw [this]
    simp
  · rw [hno _ _ _]; exact hH
  · rw [hno] at hv
    exact vrel_ext X _ _ (hT s v hv)


end Go.Mir

/- The mirror, part 25: runs are sound. -/
namespace Go.Mir
open Go.RowKit

variable {P : Program}

theorem lookT_eq (t : Tri V) (i : Nat) : lookT t i = match t.get i with | some v => v | none => .any := by
  unfold lookT
  cases t.get i <;> rfl

theorem lookT_sound {E : Env} {t : Tri V} {a : Act} (h : tmOK E t.get a) (s : Nat) : vrel E (lookT t s) (a.tmps.getD s undef) := by
  rw [lookT_eq]
  cases hf : t.get s with
  | some v => exact h s v hf
  | none => simp [vrel]

theorem opndT_sound {E : Env} {t : Tri V} {a : Act} (h : tmOK E t.get a) (x : Operand) : vrel E (opndT t x) (a.eval x) := by
  cases x with
  | tmp i => exact lookT_sound h i
  | const v => exact cv_sound v
  | func f => simp only [opndT, vrel, Act.eval]; exact ⟨#[], rfl, by simp [vrels]⟩
  | _ => simp [opndT, vrel]

theorem guardT_sound {E : Env} {all : List Oper} {t : Tri V} {a : Act} (hT : tmOK E t.get a) {o : Oper} {b : Bool} (h : guardT all t o = some b) : Region.wanted o (yielded all.toArray a.tmps) = b :=
  guard_sound (E := E) (T := lookT t) (fun s => lookT_sound hT s) h

theorem toKb_sound {E : Env} {v : V} {u : Value} (h : vrel E v u) : vrel E (toKb v) u := by
  cases v <;> first | exact h | simpa [toKb, vrel] using h

theorem putK_some {γ : Type} {d : Option Nat} {v : V} {t : Tri V} {κ : Tri V → Rn γ} {r : γ} (h : putK d v t κ = .ok r) : ∃ t', κ t' = .ok r ∧ ∀ s, t'.get s = match find (dstPut d (toKb v)) s with | some u => some u | none => t.get s := by
  cases d with
  | none => exact ⟨t, h, fun s => rfl⟩
  | some d =>
    obtain ⟨t', h1, h2⟩ := Tri.setK_some h
    refine ⟨t', h1, fun s => ?_⟩
    rw [h2]
    simp only [dstPut, find]
    cases hb : Nat.beq d s with
    | true => rw [if_pos (Nat.eq_of_beq_eq_true hb).symm]; rfl
    | false => rw [if_neg (fun e => by subst e; rw [Nat.beq_refl] at hb; cases hb)]; rfl

theorem forceL_eq {γ : Type} : ∀ (l : List Nat) (κ : List Nat → Rn γ), forceL l κ = κ l
  | [], _ => rfl
  | n :: r, κ => by simp only [forceL, forceN_eq, forceL_eq r]

theorem finR_some {d : Option Nat} {v : V} {dh : List (Nat × Blk)} {tm : Tri V} {hp : Tri Blk} {nx : Nat} {κ : Tri V → Tri Blk → Nat → Rn RS} {r : RS} (h : finR d v dh tm hp nx κ = .ok r) :
    ∃ tm' hp', κ tm' hp' nx = .ok r ∧ hp'.get = hset hp.get dh ∧ ∀ s, tm'.get s = match find (dstPut d (toKb v)) s with | some u => some u | none => tm.get s := by
  cases dh with
  | nil =>
    have h1 := forceV_some v _ r h
    obtain ⟨tm', h2, h3⟩ := putK_some h1
    rw [forceN_eq] at h2
    exact ⟨tm', hp, h2, rfl, h3⟩
  | cons q dh =>
    have h1 := forceV_some v _ r h
    obtain ⟨hp', h4, h5⟩ := setsK_some (q :: dh) hp _ r h1
    obtain ⟨tm', h2, h3⟩ := putK_some h4
    rw [forceN_eq] at h2
    exact ⟨tm', hp', h2, h5, h3⟩

/-- a call in a region -/
theorem call_wp {a : Act} {w : World} {c : Call} {o : Oper} (ho : o.op = .call c) {f : Operand} (hf : c.callee = .value f) {g : FuncId} {l : Array Value} (hfe : a.eval f = .func (.func g) #[] l)
    (hfn : ∃ fn, P.funcs[g]? = some fn ∧ fn.body.isSome = true ∧ (fn.name == "runtime.NumGoroutine") = false) {R : Ending → World → Prop} (hcalls : Calls P g (c.args.toList.map a.eval ++ l.toList).toArray w R)
    {next : Act → World → Prop} {Q : Exit → Act → World → Prop} (hn : ∀ e w', R e w' → ∃ v', e = .returned v' ∧ next (a.put o.dst v') w') : o.wp P a w next Q := by
  obtain ⟨fn, h1, h2, h3⟩ := hfn
  have hb : ¬ fn.body = none := by cases hb : fn.body with | none => rw [hb] at h2; cases h2 | some _ => simp
  have h4 : ¬ fn.name = "runtime.NumGoroutine" := by simpa using h3
  have hrun : (execOp a.eval o).run P w = .ok (.enter g (c.args.toList.map a.eval ++ l.toList).toArray) w := by
    have e : (c.args.toList.map a.eval ++ l.toList).toArray = #[] ++ c.args.map a.eval ++ l := by
      apply Array.ext'
      simp
    rw [e]
    simp [execOp, ho, resolve, hf, Deferred.ofValue, hfe, invoke, callFunc, h1, h4, hb]
  unfold Oper.wp
  rw [hrun]
  simp only [Oper.upon]
  refine hcalls.mono fun e w' hh => ?_
  obtain ⟨v', rfl, h⟩ := hn e w' hh
  exact h

/-- a state of a run, in an environment that has come out of another -/
structure RR (B : Base) (E0 : Env) (n0 N : Nat) (s : RS) (E : Env) (a : Act) : Prop where
  rel : HRel B E
  ext : Ext E0 E
  h : E.H = s.hp.get
  u : ∀ n, E.U n → E0.U n ∨ (n0 ≤ n ∧ n < s.nx)
  le : n0 ≤ s.nx
  tm : tmOK E s.tm.get a
  size : a.tmps.size = N
  defers : a.defers = []

/-- what a callee does to an environment -/
structure Came (B : Base) (E : Env) (hp' : Heap) (nx nx' : Nat) (v : V) (v' : Value) (w' : World) (E' : Env) : Prop where
  rel : HRel B E'
  w : E'.w = w'
  h : E'.H = hp'
  ext : Ext E E'
  u : ∀ n, E'.U n → E.U n ∨ (nx ≤ n ∧ n < nx')
  v : vrel E' v v'

def CallOK (P : Program) (call : CallR) : Prop := ∀ g args hp nx v hp' nx', call g args hp nx = .ok (v, hp', nx') →
  (∃ fn, P.funcs[g]? = some fn ∧ fn.body.isSome = true ∧ (fn.name == "runtime.NumGoroutine") = false) ∧ nx ≤ nx' ∧
    ∀ (B : Base) (E : Env) (av : List Value), HRel B E → E.H = hp.get → vrels E args av → (∀ n, nx ≤ n → n < nx' → ¬ E.U n) →
      Calls P g av.toArray E.w fun e w' => ∃ E' v', e = .returned v' ∧ Came B E hp'.get nx nx' v v' w' E'

variable {tb : Tbl} {N : Nat} {call : CallR} {all : List Oper} {B : Base} {E0 : Env} {n0 : Nat}

theorem RR.put {s : RS} {E : Env} {a : Act} (hR : RR B E0 n0 N s E a) {E' : Env} {hp : Tri Blk} {nx : Nat} (hrel : HRel B E') (hext : Ext E E') (hh : E'.H = hp.get) (hu : ∀ n, E'.U n → E.U n ∨ (s.nx ≤ n ∧ n < nx)) (hle : s.nx ≤ nx)
    {d : Option Nat} (hd : dstIn N d = true) {v : V} {v' : Value} (hv : vrel E' v v') {tm : Tri V} (htm : ∀ k, tm.get k = match find (dstPut d (toKb v)) k with | some u => some u | none => s.tm.get k) : RR B E0 n0 N ⟨tm, hp, nx⟩ E' (a.put d v') := by
  have hle0 := hR.le
  refine ⟨hrel, hR.ext.trans hext, hh, fun n hn => ?_, Nat.le_trans hle0 hle, put_ok hext hR.tm hR.size hd (toKb_sound hv) (fun k u hk => ?_), by rw [put_size]; exact hR.size, by rw [put_defers]; exact hR.defers⟩
  · show E0.U n ∨ (n0 ≤ n ∧ n < nx)
    rcases hu n hn with h | h
    · rcases hR.u n h with h | h
      · exact .inl h
      · exact .inr ⟨h.1, by omega⟩
    · exact .inr ⟨by omega, h.2⟩
  · rw [htm] at hk
    cases hf : find (dstPut d (toKb v)) k with
    | some x => rw [hf] at hk; exact .inl hk
    | none => rw [hf] at hk; exact .inr ⟨rfl, hk⟩

theorem doR_sound (hT : TblOK P tb) (hcall : CallOK P call) {e : Nat} (hfr : ∀ n, n0 ≤ n → n < e → ¬ E0.U n) {o : Oper} (hd : dstIn N o.dst = true) {tm : Tri V} {hp : Tri Blk} {nx : Nat} {κ : Tri V → Tri Blk → Nat → Rn RS} {s' : RS}
    (h : doR call (evA tb N nx hp.get (opndT tm) o.op) o.dst tm hp nx κ = .ok s') {next : Act → World → Prop} {Q : Exit → Act → World → Prop}
    (hmono : ∀ tm' hp' nx', κ tm' hp' nx' = .ok s' → nx' ≤ e) (hκ : ∀ tm' hp' nx', κ tm' hp' nx' = .ok s' → ∀ E a, RR B E0 n0 N ⟨tm', hp', nx'⟩ E a → next a E.w) {E : Env} {a : Act} (hR : RR B E0 n0 N ⟨tm, hp, nx⟩ E a) : o.wp P a E.w next Q := by
  have hle : n0 ≤ nx := hR.le
  have hH : E.H = hp.get := hR.h
  have hfr' : ∀ n, nx ≤ n → n < e → ¬ E.U n := fun n h1 h2 hu => by
    rcases hR.u n hu with h3 | h3
    · exact hfr n (by omega) h2 h3
    · have h4 : n < nx := h3.2
      omega
  have hop := opndT_sound (t := tm) hR.tm
  cases he : evA tb N nx hp.get (opndT tm) o.op with
  | call g args =>
    rw [he] at h
    simp only [doR, forceN_eq] at h
    have h := forceVs_some args _ s' h
    cases hc : call g args hp nx with
    | no w => rw [hc] at h; cases h
    | ok q =>
      obtain ⟨v, hp', nx'⟩ := q
      rw [hc] at h
      simp only [callRR] at h
      obtain ⟨c, f, caps, ho, hf, hg, hargs⟩ := evA_call tb N nx hp.get (opndT tm) o.op he
      obtain ⟨hfn, hle2, hcalls⟩ := hcall g args hp nx v hp' nx' hc
      have hfv := hop f
      rw [hg] at hfv
      simp only [vrel] at hfv
      obtain ⟨l, hfe, hl⟩ := hfv
      have hav : vrels E args (c.args.toList.map a.eval ++ l.toList) := by
        rw [hargs]
        exact vrels_append (vrels_map _ _ hop _) hl
      obtain ⟨tm', h1, h2⟩ := putK_some h
      refine call_wp ho hf hfe hfn (hcalls B E _ hR.rel hH hav (fun n h3 h4 => hfr' n h3 (Nat.lt_of_lt_of_le h4 (hmono _ _ _ h1)))) (fun e w' hh => ?_)
      obtain ⟨E', v', rfl, C⟩ := hh
      refine ⟨v', rfl, ?_⟩
      have := hκ tm' hp' nx' h1 E' (a.put o.dst v') (hR.put C.rel C.ext C.h C.u hle2 hd C.v h2)
      rw [C.w] at this
      exact this
  | plain r =>
    rw [he] at h
    simp only [doR] at h
    cases r with
    | none => cases h
    | some q =>
      obtain ⟨ps, v, dh⟩ := q
      simp only [plainR] at h
      cases ho : obsOK ps with
      | false => rw [ho] at h; cases h
      | true =>
        rw [ho] at h
        obtain ⟨tm', hp', h1, h2, h3⟩ := finR_some h
        have hlt : nx + 1 ≤ e := hmono _ _ _ h1
        have hps : ∀ p ∈ ps, p.holds := fun p hp => by
          cases ps with
          | nil => cases hp
          | cons q qs =>
            have : (q :: qs).all Ob.chk = true := ho
            exact Ob.chk_holds (List.all_eq_true.1 this p hp)
        have hev := evA_plain tb N nx hp.get (opndT tm) o.op he
        rw [← hH] at hev
        refine evAny_sound (C := ⟨tb, fun _ => none, 1, N⟩) hR.rel hT (Nat.le_refl _) (fun _ _ h => by cases h) (fun n h1 h2 => hfr' n h1 (Nat.lt_of_lt_of_le h2 hlt)) hop hev hps (fun v' E' G hv => ?_)
        exact hκ tm' hp' (Nat.succ nx) h1 E' (a.put o.dst v') (hR.put G.rel G.ext (by rw [G.h, h2, hH]) (fun n hn => by rcases G.u n hn with h | h; exact .inl h; exact .inr h) (Nat.le_succ nx) hd hv h3)

theorem opsR_le (hcall : CallOK P call) : ∀ (rest : List Oper) (tm : Tri V) (hp : Tri Blk) (nx : Nat) (s' : RS), opsR tb N call all rest tm hp nx = .ok s' → nx ≤ s'.nx
  | [], tm, hp, nx, s', h => by
    simp only [opsR, Rn.ok.injEq] at h
    subst h
    exact Nat.le_refl _
  | o :: rest, tm, hp, nx, s', h => by
    have ih := fun tm' hp' nx' h' => opsR_le hcall rest tm' hp' nx' s' h'
    have hdo : ∀ {a : Act1}, doR call a o.dst tm hp nx (opsR tb N call all rest) = .ok s' → nx ≤ s'.nx := fun {a} h => by
      cases a with
      | call g args =>
        simp only [doR, forceN_eq] at h
        have h := forceVs_some args _ s' h
        cases hc : call g args hp nx with
        | no w => rw [hc] at h; cases h
        | ok q =>
          obtain ⟨v, hp', nx'⟩ := q
          rw [hc] at h
          simp only [callRR] at h
          obtain ⟨_, hle2, _⟩ := hcall g args hp nx v hp' nx' hc
          obtain ⟨tm', h1, _⟩ := putK_some h
          exact Nat.le_trans hle2 (ih _ _ _ h1)
      | plain r =>
        simp only [doR] at h
        cases r with
        | none => cases h
        | some q =>
          obtain ⟨ps, v, dh⟩ := q
          simp only [plainR] at h
          cases ho : obsOK ps with
          | false => rw [ho] at h; cases h
          | true =>
            rw [ho] at h
            obtain ⟨tm', hp', h1, _⟩ := finR_some h
            have := ih _ _ _ h1
            omega
    simp only [opsR, oneR] at h
    split at h
    · exact hdo h
    · split at h
      · exact hdo h
      · obtain ⟨tm', h1, _⟩ := putK_some h
        exact ih _ _ _ h1
      · cases h

theorem opsR_sound (hT : TblOK P tb) (hcall : CallOK P call) {Q : Exit → Act → World → Prop} : ∀ (rest : List Oper) (tm : Tri V) (hp : Tri Blk) (nx : Nat) (s' : RS), opsR tb N call all rest tm hp nx = .ok s' → (∀ n, n0 ≤ n → n < s'.nx → ¬ E0.U n) →
    (∀ o ∈ rest, dstIn N o.dst = true) → (∀ E a, RR B E0 n0 N s' E a → Q .normal a E.w) → ∀ E a, RR B E0 n0 N ⟨tm, hp, nx⟩ E a → wpList P all.toArray Q rest a E.w
  | [], tm, hp, nx, s', h, _, _, hQ, E, a, hR => by
    simp only [opsR, Rn.ok.injEq] at h
    subst h
    exact wpList_nil (hQ E a hR)
  | o :: rest, tm, hp, nx, s', h, hfr, hd, hQ, E, a, hR => by
    have hd0 := hd o List.mem_cons_self
    have ih := fun tm' hp' nx' h' => opsR_sound hT hcall (Q := Q) rest tm' hp' nx' s' h' hfr (fun o ho => hd o (List.mem_cons_of_mem _ ho)) hQ
    simp only [opsR, oneR] at h
    unfold wpList
    split at h
    · rename_i hg
      have hw : Region.wanted o (yielded all.toArray a.tmps) = true := by unfold Region.wanted; rw [hg]
      rw [hw]
      simp only [if_true]
      exact .inl (doR_sound hT hcall hfr hd0 h (fun _ _ _ h => opsR_le hcall rest _ _ _ _ h) ih hR)
    · split at h
      · rename_i hg
        rw [guardT_sound hR.tm hg]
        simp only [if_true]
        exact .inl (doR_sound hT hcall hfr hd0 h (fun _ _ _ h => opsR_le hcall rest _ _ _ _ h) ih hR)
      · rename_i hg
        rw [guardT_sound hR.tm hg]
        simp only [Bool.false_eq_true, if_false]
        obtain ⟨tm', h1, h2⟩ := putK_some h
        exact ih tm' hp nx h1 E _ (hR.put hR.rel (Ext.refl E) hR.h (fun n hn => .inl hn) (Nat.le_refl _) hd0 (v := .tup []) (v' := undef) (by simp [vrel, undef, vrels]) h2)
      · cases h

end Go.Mir

/- The mirror, part 26: runs of regions that draw their order are sound. -/
namespace Go.Mir
open Go.RowKit

variable {P : Program}

theorem partK_some {γ : Type} {hp : Tri Blk} : ∀ {R : List Nat} {t : Tri Blk} {κ : Tri Blk → Rn γ} {r : γ}, partK hp R t κ = .ok r → ∃ t', κ t' = .ok r ∧ ∀ j, t'.get j = if j ∈ R then hp.get j else t.get j
  | [], t, κ, r, h => ⟨t, h, fun j => by simp⟩
  | x :: R, t, κ, r, h => by
    simp only [partK] at h
    split at h
    case h_2 => cases h
    rename_i b hb
    obtain ⟨t1, h1, h2⟩ := Tri.setK_some h
    obtain ⟨t2, h3, h4⟩ := partK_some h1
    refine ⟨t2, h3, fun j => ?_⟩
    rw [h4, h2]
    by_cases e : j ∈ R
    · simp [e]
    · by_cases e2 : j = x
      · subst e2; simp [hb]
      · simp [e, e2]

theorem pickK_some {γ : Type} {hp : Tri Blk} {skip : Nat → Bool} : ∀ {l : List Nat} {κ : List (Nat × Blk) → Rn γ} {r : γ}, pickK hp skip l κ = .ok r → ∃ dh, κ dh = .ok r ∧ ∀ h b, find dh h = some b → hp.get h = some b
  | [], κ, r, h => ⟨[], h, fun j b hb => by simp [find] at hb⟩
  | x :: l, κ, r, h => by
    simp only [pickK] at h
    cases hs : skip x with
    | true => rw [hs] at h; exact pickK_some h
    | false =>
      rw [hs] at h
      simp only [cond_false] at h
      split at h
      case h_2 => cases h
      rename_i b hb
      rw [forceN_eq] at h
      obtain ⟨dh, h1, h2⟩ := pickK_some h
      refine ⟨(x, b) :: dh, h1, fun j b' hj => ?_⟩
      simp only [find] at hj
      cases hx : Nat.beq x j with
      | true => rw [hx] at hj; simp only [cond_true, Option.some.injEq] at hj; subst hj; rw [← Nat.eq_of_beq_eq_true hx]; exact hb
      | false => rw [hx] at hj; exact h2 j b' hj

theorem find_of_memN {α : Type} {l : List (Nat × α)} {k : Nat} (h : memN (l.map (·.1)) k = true) : find l k ≠ none := by
  induction l with
  | nil => simp [memN] at h
  | cons q l ih =>
    obtain ⟨a, b⟩ := q
    simp only [List.map_cons, memN, Bool.or_eq_true] at h
    simp only [find]
    cases hb : Nat.beq a k with
    | true => simp
    | false =>
      simp only [cond_false]
      refine ih ?_
      rcases h with h | h
      · rw [hb] at h; cases h
      · exact h

theorem dcall_sound {call : CallR} (hcall : CallOK P call) {g : FuncId} {args : List V} {hp : Tri Blk} {R : List Nat} {m : Nat} {v : V} {dh : List (Nat × Blk)} {nx : Nat} (h : dcall call g args hp R m = .ok (v, dh, nx)) :
    (∃ fn, P.funcs[g]? = some fn ∧ fn.body.isSome = true ∧ (fn.name == "runtime.NumGoroutine") = false) ∧ m ≤ nx ∧
      ∀ (B : Base) (E : Env) (av : List Value), HRel B E → E.H = restr hp.get R → vrels E args av → (∀ n, m ≤ n → n < nx → ¬ E.U n) →
        Calls P g av.toArray E.w fun e w' => ∃ E' v', e = .returned v' ∧ GoodK B E m (nx + 1 - m) dh w' E' ∧ vrel E' v v' := by
  unfold dcall at h
  obtain ⟨hr, h1, h2⟩ := partK_some h
  have hget : hr.get = restr hp.get R := by
    funext j
    rw [h2]
    unfold restr
    cases hm : memN R j with
    | true => rw [if_pos (memN_iff.1 hm)]; rfl
    | false => rw [if_neg (fun e => by rw [memN_iff.2 e] at hm; cases hm)]; rfl
  split at h1
  case h_2 => cases h1
  rename_i v0 hp' nx0 hc
  simp only [forceL_eq] at h1
  obtain ⟨dh', h3, h4⟩ := pickK_some h1
  cases hall : R.all (fun h => memN (dh'.map (·.1)) h || eqbB (hp.get h) (hp'.get h)) with
  | false => rw [hall] at h3; cases h3
  | true =>
    rw [hall] at h3
    simp only [cond_true, Rn.ok.injEq, Prod.mk.injEq] at h3
    obtain ⟨rfl, rfl, rfl⟩ := h3
    obtain ⟨hfn, hle, hcalls⟩ := hcall g args hr m v0 hp' nx0 hc
    refine ⟨hfn, hle, fun B E av hE hH hav hfr => ?_⟩
    refine (hcalls B E av hE (by rw [hH, hget]) hav hfr).mono fun e w' hh => ?_
    obtain ⟨E', v', rfl, C⟩ := hh
    obtain ⟨R1, X1⟩ := C.rel.weak (hset E.H dh') (fun j k' hk => by
      refine ⟨k', ?_, .inl rfl⟩
      rw [C.h]
      unfold hset at hk
      cases hf : find dh' j with
      | some b => rw [hf] at hk; simp only [Option.some.injEq] at hk; subst hk; exact h4 j b hf
      | none =>
        rw [hf] at hk
        simp only at hk
        rw [hH] at hk
        unfold restr at hk
        cases hm : memN R j with
        | false => rw [hm] at hk; cases hk
        | true =>
          rw [hm] at hk
          simp only [cond_true] at hk
          have := List.all_eq_true.1 hall j (memN_iff.1 hm)
          simp only [Bool.or_eq_true] at this
          rcases this with h5 | h5
          · exact absurd hf (find_of_memN h5)
          · rw [← eqbB_eq _ _ h5]; exact hk)
    exact ⟨_, v', rfl, ⟨R1, C.ext.trans X1, C.w, rfl, fun n hn => by
      rcases C.u n hn with h | h
      · exact .inl h
      · exact .inr ⟨h.1, by omega⟩⟩, vrel_ext X1 _ _ C.v⟩

def Chain : Nat → List (Nat × Cfg) → Nat → Prop
  | n, [], e => n = e
  | n, q :: r, e => q.1 = n ∧ ∃ n2, n + q.2.K ≤ n2 ∧ Chain n2 r e

theorem Chain.le : ∀ {n : Nat} {l : List (Nat × Cfg)} {e : Nat}, Chain n l e → n ≤ e
  | n, [], e, h => Nat.le_of_eq h
  | n, q :: r, e, ⟨_, n2, h1, h2⟩ => by have := h2.le; omega

theorem Chain.at : ∀ {n : Nat} {l : List (Nat × Cfg)} {e : Nat}, Chain n l e → ∀ (j : Nat) (q : Nat × Cfg), l[j]? = some q → n ≤ q.1 ∧ q.1 + q.2.K ≤ e
  | n, [], e, _, j, q, hq => by simp at hq
  | n, p :: r, e, ⟨h0, n2, h1, h2⟩, j, q, hq => by
    have hle := h2.le
    cases j with
    | zero =>
      simp only [List.getElem?_cons_zero, Option.some.injEq] at hq
      subst hq
      omega
    | succ j =>
      have := h2.at j q (by simpa using hq)
      omega

theorem Chain.lt : ∀ {n : Nat} {l : List (Nat × Cfg)} {e : Nat}, Chain n l e → ∀ (i j : Nat) (p q : Nat × Cfg), i < j → l[i]? = some p → l[j]? = some q → p.1 + p.2.K ≤ q.1
  | n, [], e, _, i, j, p, q, _, hp, _ => by simp at hp
  | n, x :: r, e, ⟨h0, n2, h1, h2⟩, i, j, p, q, hij, hp, hq => by
    cases j with
    | zero => omega
    | succ j =>
      cases i with
      | zero =>
        simp only [List.getElem?_cons_zero, Option.some.injEq] at hp
        subst hp
        have := (h2.at j q (by simpa using hq)).1
        omega
      | succ i => exact h2.lt i j p q (by omega) (by simpa using hp) (by simpa using hq)

theorem guardOf_eq {all : List Oper} {l : List (Nat × V)} {t : Tri V} (h : ∀ s, lookV l s = lookT t s) (o : Oper) : guardOf all l o = guardT all t o := by
  unfold guardOf guardT
  cases o.guard with
  | none => rfl
  | some q =>
    simp only
    cases all[q.1]? with
    | none => rfl
    | some oj =>
      simp only
      cases oj.dst with
      | none => rfl
      | some dj => simp only; rw [h]; rfl

theorem maskR_eq {rs : List Nat} {l : List (Nat × V)} {t : Tri V} (h : ∀ s, lookV l s = lookT t s) : maskEv rs l = maskR rs t := by
  funext x
  cases x <;> simp only [maskEv, maskR]
  rw [h]

variable {tb : Tbl} {N : Nat} {call : CallR} {all : List Oper}

theorem drawR_run (hT : TblOK P tb) (hcall : CallOK P call) {st : St} : ∀ (rest : List Oper) (tm : Tri V) (hp : Tri Blk) (nx : Nat) (recs : List Rec) (d : Dl) (s' : RS), drawR tb N call all rest tm hp nx recs = .ok s' →
    (∀ s, lookV (d.tm ++ st.tm) s = lookT tm s) → find (d.tm ++ st.tm) = tm.get → hset st.H d.hp = hp.get → ∀ i,
    ∃ (ks : List (Nat × Cfg)) (df : Dl) (rf : List Rec), ks.length = rest.length ∧ Chain nx ks s'.nx ∧ (∀ q ∈ ks, CfgOK P q.2 ∧ q.2.N = N) ∧
      (∀ (Cf : Nat → Cfg) (lo : Nat → Nat), (∀ j q, ks[j]? = some q → Cf (i + j) = q.2 ∧ lo (i + j) = q.1) → RunV Cf lo (fun _ => none) all st i rest d recs df rf) ∧
      edgesOK 0 all = true ∧ chkAll (masks all []) 0 rf = true ∧ find (df.tm ++ st.tm) = s'.tm.get ∧ hset st.H df.hp = s'.hp.get
  | [], tm, hp, nx, recs, d, s', h, h1, h2, h3, i => by
    simp only [drawR] at h
    cases hc : edgesOK 0 all && chkAll (masks all []) 0 recs with
    | false => rw [hc] at h; cases h
    | true =>
      rw [hc] at h
      simp only [cond_true, Rn.ok.injEq] at h
      subst h
      simp only [Bool.and_eq_true] at hc
      exact ⟨[], d, recs, rfl, rfl, fun q hq => by simp at hq, fun _ _ _ => .nil, hc.1, hc.2, h2, h3⟩
  | o :: rest, tm, hp, nx, recs, d, s', h, h1, h2, h3, i => by
    simp only [drawR] at h
    cases hd : dstIn N o.dst with
    | false => rw [hd] at h; cases h
    | true =>
      rw [hd] at h
      simp only [cond_true] at h
      -- a step, put together with what follows
      have glue : ∀ (C0 : Cfg) (r : Rec) (tm' : Tri V) (hp' : Tri Blk) (nx' : Nat), CfgOK P C0 → C0.N = N → nx + C0.K ≤ nx' → Does C0 true all (d.tm ++ st.tm) (hset st.H d.hp) nx o r →
          (∀ k, tm'.get k = match find (dstPut r.dst r.v) k with | some u => some u | none => tm.get k) → hp'.get = hset hp.get r.dh → drawR tb N call all rest tm' hp' nx' (recs ++ [r]) = .ok s' →
          ∃ (ks : List (Nat × Cfg)) (df : Dl) (rf : List Rec), ks.length = (o :: rest).length ∧ Chain nx ks s'.nx ∧ (∀ q ∈ ks, CfgOK P q.2 ∧ q.2.N = N) ∧
            (∀ (Cf : Nat → Cfg) (lo : Nat → Nat), (∀ j q, ks[j]? = some q → Cf (i + j) = q.2 ∧ lo (i + j) = q.1) → RunV Cf lo (fun _ => none) all st i (o :: rest) d recs df rf) ∧
            edgesOK 0 all = true ∧ chkAll (masks all []) 0 rf = true ∧ find (df.tm ++ st.tm) = s'.tm.get ∧ hset st.H df.hp = s'.hp.get := fun C0 r tm' hp' nx' hC hCN hle hdo htm hhp hrest => by
        have hf' : find (dstPut r.dst r.v ++ d.tm ++ st.tm) = tm'.get := by
          funext k
          rw [List.append_assoc, find_append, h2, htm]
          cases find (dstPut r.dst r.v) k <;> rfl
        have hl' : ∀ s, lookV (dstPut r.dst r.v ++ d.tm ++ st.tm) s = lookT tm' s := fun s => by
          unfold lookV
          rw [hf', lookT_eq]
          cases tm'.get s <;> rfl
        obtain ⟨ks, df, rf, k1, k2, k3, k4, k5⟩ := drawR_run hT hcall (st := st) rest tm' hp' nx' (recs ++ [r]) ⟨dstPut r.dst r.v ++ d.tm, r.dh ++ d.hp⟩ s' hrest hl' hf' (by rw [hset_append, h3, hhp]) (i + 1)
        refine ⟨(nx, C0) :: ks, df, rf, by simp [k1], ⟨rfl, nx', hle, k2⟩, fun q hq => ?_, fun Cf lo hCf => ?_, k5⟩
        · rcases List.mem_cons.1 hq with rfl | hq
          · exact ⟨hC, hCN⟩
          · exact k3 q hq
        · have h0 := hCf 0 (nx, C0) (by simp)
          refine .cons (r := r) ?_ (k4 Cf lo fun j q hq => ?_)
          · rw [show i = i + 0 from rfl, h0.1, h0.2]; exact .old hdo
          · have := hCf (j + 1) q (by simpa using hq)
            rw [show i + 1 + j = i + (j + 1) by omega]
            exact this
      have hmask : ∀ rs, maskEv rs (d.tm ++ st.tm) = maskR rs tm := fun rs => maskR_eq h1
      split at h
      · -- left out
        rename_i hg
        obtain ⟨tm', k1, k2⟩ := putK_some h
        rw [forceN_eq] at k1
        have hC : CfgOK P ⟨tb, fun _ => none, 1, N⟩ := ⟨hT, Nat.le_refl _, fun _ _ h => by cases h⟩
        exact glue ⟨tb, fun _ => none, 1, N⟩ ⟨o.dst, .tup [], [], [], slotsOf all o⟩ tm' hp (nx + 1) hC rfl (Nat.le_refl _) (.skip hd (by rw [guardOf_eq h1]; exact hg)) k2 rfl k1
      · rename_i hg
        simp only [forceL_eq] at h
        have hreach : reach (hset st.H d.hp) 8 (o.op.operands.toList.flatMap fun x => (maskEv (slotsOf all o) (d.tm ++ st.tm) x).hs) [] = reach hp.get 8 (o.op.operands.toList.flatMap fun x => (maskR (slotsOf all o) tm x).hs) [] := by
          rw [h3, hmask]
        split at h
        · -- a call
          rename_i g args he
          rw [forceN_eq] at h
          have h := forceVs_some args _ s' h
          split at h
          case h_2 => cases h
          rename_i v dh nx2 hdc
          cases hfr : frameOK hp.get (reach hp.get 8 (o.op.operands.toList.flatMap fun x => (maskR (slotsOf all o) tm x).hs) []) nx (nx2 + 1 - nx) v dh with
          | false => rw [hfr] at h; cases h
          | true =>
            rw [hfr] at h
            simp only [cond_true] at h
            obtain ⟨hp', k1, k2⟩ := setsK_some _ _ _ _ h
            obtain ⟨tm', k3, k4⟩ := putK_some k1
            rw [forceN_eq] at k3
            obtain ⟨c, f, caps, ho, hf, hg2, hargs⟩ := evA_call tb N nx _ _ o.op he
            obtain ⟨hfn, hle, hcalls⟩ := dcall_sound hcall hdc
            let ct : Ctr := fun args' H' m' => open Classical in if args' = args ∧ H' = restr hp.get (reach hp.get 8 (o.op.operands.toList.flatMap fun x => (maskR (slotsOf all o) tm x).hs) []) ∧ m' = nx then some ([], v, dh) else none
            let C0 : Cfg := ⟨tb, fun g' => if g' = g then some ct else none, nx2 + 1 - nx, N⟩
            have hK : 1 ≤ nx2 + 1 - nx := by omega
            have hC : CfgOK P C0 := ⟨hT, hK, fun f' c' hf' => by
              have hf2 : (if f' = g then some ct else none) = some c' := hf'
              split at hf2
              case isFalse => cases hf2
              rename_i e
              cases hf2
              subst e
              refine ⟨hfn, fun B E hE args' av hav m hm ps' v' dh' hp2 _ => ?_⟩
              simp only [ct] at hp2
              split at hp2
              case isFalse => cases hp2
              rename_i e
              obtain ⟨rfl, e2, rfl⟩ := e
              cases hp2
              exact hcalls B E av hE e2 hav (fun n h1 h2 => hm n h1 (by show n < m + (nx2 + 1 - m); omega))⟩
            have hev : evAny C0 nx (restr hp.get (reach hp.get 8 (o.op.operands.toList.flatMap fun x => (maskR (slotsOf all o) tm x).hs) [])) (maskR (slotsOf all o) tm) o.op = some ([], v, dh) := by
              simp only [evAny, ho, evSt, evOp, hf, hg2, C0, if_true]
              rw [← hargs]
              simp only [evCall, ct]
              rw [if_pos ⟨rfl, by rw [ho], rfl⟩]
              rfl
            refine glue C0 ⟨o.dst, toKb v, dh, _, slotsOf all o⟩ tm' hp' (nx2 + 1) hC rfl (by show nx + (nx2 + 1 - nx) ≤ nx2 + 1; omega) (.run (v := v) hd (by rw [guardOf_eq h1]; exact hg) (by
              simp only [stepOp]
              rw [hmask, h3]
              rw [hev]
              simp only [C0, hfr, cond_true]
              rfl) (fun p hp => by cases hp) (by cases v <;> simp [toKb])) k4 k2 k3
        · cases h
        · -- an operation
          rename_i ps v dh he
          cases hfr : ps.all Ob.chk && frameOK hp.get (reach hp.get 8 (o.op.operands.toList.flatMap fun x => (maskR (slotsOf all o) tm x).hs) []) nx 1 v dh with
          | false => rw [hfr] at h; cases h
          | true =>
            rw [hfr] at h
            simp only [cond_true] at h
            simp only [Bool.and_eq_true] at hfr
            have h := forceV_some v _ s' h
            obtain ⟨hp', k1, k2⟩ := setsK_some _ _ _ _ h
            obtain ⟨tm', k3, k4⟩ := putK_some k1
            rw [forceN_eq] at k3
            have hC : CfgOK P ⟨tb, fun _ => none, 1, N⟩ := ⟨hT, Nat.le_refl _, fun _ _ h => by cases h⟩
            have hev := evA_plain tb N nx _ _ o.op he
            refine glue ⟨tb, fun _ => none, 1, N⟩ ⟨o.dst, toKb v, dh, _, slotsOf all o⟩ tm' hp' (nx + 1) hC rfl (Nat.le_refl _) (.run (v := v) hd (by rw [guardOf_eq h1]; exact hg) (by
              simp only [stepOp]
              rw [hmask, h3]
              rw [hev]
              simp only [hfr.2, cond_true]) (fun p hp => Ob.chk_holds (List.all_eq_true.1 hfr.1 p hp)) (by cases v <;> simp [toKb])) k4 k2 k3
      · cases h

end Go.Mir
