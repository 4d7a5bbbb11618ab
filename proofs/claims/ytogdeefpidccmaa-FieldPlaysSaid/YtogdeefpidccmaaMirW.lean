/- The mirror, part 23: contracts of functions that only read are sound. -/
import Derived.Test.YtogdeefpidccmaaMirV
namespace Go.Mir
open Go.RowKit

variable {P : Program}

theorem roL_cells {H : Heap} {L : List Nat} {h : Nat} {cs : List V} : roL H L h = some (.cells cs) ↔ H h = some (.cells cs) := by
  unfold roL
  cases hx : H h with
  | none => simp
  | some k => cases k <;> simp

theorem roL_row {H : Heap} {L : List Nat} {h ver : Nat} {rw' : Bool} {t : Ty} {xs : List (Den t)} (hr : roL H L h = some (.row ver rw' t xs)) : ∃ rw, H h = some (.row ver rw t xs) ∧ rw' = (bif memN L h then false else rw) := by
  unfold roL at hr
  cases hx : H h with
  | none => rw [hx] at hr; cases hr
  | some k =>
    rw [hx] at hr
    cases k with
    | cells cs => cases hr
    | row ver rw t xs => simp only [Option.some.injEq] at hr; cases hr; exact ⟨rw, rfl, rfl⟩

theorem roL_some {H : Heap} {L : List Nat} {h : Nat} {k : Blk} (hr : roL H L h = some k) : ∃ k0, H h = some k0 := by
  unfold roL at hr
  cases hx : H h with
  | none => rw [hx] at hr; cases hr
  | some k => exact ⟨k, rfl⟩

/-- the blocks of some rows -/
def rowB (E : Env) (L : List Nat) (b : Nat) : Prop := ∃ h, h ∈ L ∧ (∃ (ver : Nat) (rw : Bool) (t : Ty) (xs : List (Den t)), E.H h = some (.row ver rw t xs)) ∧ E.ρ h = some b

def sealE (E : Env) (L : List Nat) : Env := ⟨E.U, E.ρ, fun b => E.S b ∨ rowB E L b, E.w, roL E.H L⟩

theorem sealE_sound {B : Base} {E : Env} (hE : HRel B E) (L : List Nat) : HRel B (sealE E L) ∧ Ext E (sealE E L) := by
  have X : Ext E (sealE E L) := by
    refine ⟨fun _ h => h, fun _ h => .inl h, fun _ _ => rfl, fun h cs _ hx => ⟨⟨cs, roL_cells.1 hx⟩, rfl⟩, fun h ver rw' t xs _ _ hx => ?_⟩
    obtain ⟨rw, h1, _⟩ := roL_row hx
    exact ⟨rw, xs, h1, rfl, rfl, fun b c T fr _ hw => ⟨c, T, fr, hw, rfl⟩⟩
  refine ⟨⟨fun h b hx => ?_, fun b hs => ?_, fun h k b hx hb => ?_, fun h1 h2 k1 k2 b x1 x2 b1 b2 => ?_, fun h k hx => ?_, hE.keeps, fun h k b hx hb => ?_, fun b hs => .inl (hE.s0 b hs), fun b hs => ?_⟩, X⟩
  · obtain ⟨k0, h1⟩ := roL_some hx; exact hE.used _ _ h1
  · rcases hs with hs | ⟨h, _, ⟨ver, rw, t, xs, hx⟩, hb⟩
    · exact hE.stab b hs
    · exact hE.lt _ _ _ hx hb
  · obtain ⟨k0, h1⟩ := roL_some hx; exact hE.lt _ _ _ h1 hb
  · obtain ⟨_, y1⟩ := roL_some x1
    obtain ⟨_, y2⟩ := roL_some x2
    exact hE.inj _ _ _ _ _ y1 y2 b1 b2
  · have notS : ∀ k0 b, E.H h = some k0 → (∀ (ver : Nat) (rw : Bool) (t : Ty) (xs : List (Den t)), k0 = .row ver rw t xs → h ∉ L) → E.ρ h = some b → ¬ E.S b → ¬ (sealE E L).S b := fun k0 b hk hnot hb hs hs' => by
      rcases hs' with hs' | ⟨h2, hm, ⟨ver, rw, t, xs, hx2⟩, hb2⟩
      · exact hs hs'
      · have := hE.inj _ _ _ _ _ hk hx2 hb hb2
        subst this
        rw [hk] at hx2
        exact hnot _ _ _ _ (Option.some.inj hx2) hm
    cases k with
    | cells cs =>
      have h0 := roL_cells.1 hx
      exact brel_ext X rfl (fun _ _ => rfl) (fun b hb _ hs => notS _ b h0 (fun _ _ _ _ e => by cases e) hb hs) (hE.blk _ _ h0)
    | row ver rw' t xs =>
      obtain ⟨rw, h0, e⟩ := roL_row hx
      obtain ⟨hu, hk⟩ := hE.blk _ _ h0
      refine ⟨hu, ?_⟩
      rcases hk with ⟨k1, k2⟩ | ⟨b, c, T, fr, k1, k2, k3, k4, k5, k6, k7, k8⟩
      · exact .inl ⟨k1, k2⟩
      · refine .inr ⟨b, c, T, fr, k1, k2, k3, fun e' => ?_, fun e' => ?_, k6, k7, fun i hi => (k8 i hi).ext X.s X.keepS⟩
        · cases hm : memN L h with
          | true => rw [hm] at e; simp only [cond_true] at e; rw [e] at e'; cases e'
          | false =>
            rw [hm] at e; simp only [cond_false] at e
            exact notS _ b h0 (fun _ _ _ _ _ hl => by rw [memN_iff.2 hl] at hm; cases hm) k1 (k4 (by rw [← e]; exact e'))
        · cases hm : memN L h with
          | true => exact .inr ⟨h, memN_iff.1 hm, ⟨ver, rw, t, xs, h0⟩, k1⟩
          | false =>
            rw [hm] at e; simp only [cond_false] at e
            exact .inl (k5 (by rw [← e]; exact e'))
  · obtain ⟨k0, h1⟩ := roL_some hx; exact hE.own _ _ _ h1 hb
  · rcases hs with hs | ⟨h, _, ⟨ver, rw, t, xs, hx⟩, hb⟩
    · exact hE.sb b hs
    · exact .inr (hE.own _ _ _ hx hb)

/-- a datum that some world holds -/
def wfD (t : Ty) (x : Den t) : Prop := ∃ (S : Nat → Prop) (w : World) (cs : List Value), Rd S w t x cs

theorem one_cells {v : Value} (h : v.oneCell' = true) : v.cells = #[v] := by cases v <;> first | rfl | (simp [Value.oneCell'] at h)

theorem packArgs_sound {B : Base} {E : Env} (hE : HRel B E) {Ec : Env} (hS : Ec.S = E.S) (hw : Ec.w = E.w) : ∀ {ps : Ty} {args : List V} {av : List Value} {x : Den ps}, vrels E args av → packArgs E.H ps args = some x → vrels Ec (argsV ps x) av ∧ ∃ cs, Rd E.S E.w ps x cs
  | .unit, [], av, x, hv, _ => by
    cases av with
    | nil => exact ⟨trivial, [], .unit⟩
    | cons => simp [vrels] at hv
  | .prod a b, v :: vs, av, x, hv, h => by
    simp only [packArgs] at h
    cases hg : aggT a == isAggV v with
    | false => rw [hg] at h; cases h
    | true =>
      rw [hg] at h
      simp only [cond_true] at h
      split at h
      case h_2 => cases h
      rename_i cs hcs
      split at h
      case h_2 => cases h
      rename_i x1 hx1
      split at h
      case h_2 => cases h
      rename_i y1 hy1
      cases h
      cases av with
      | nil => simp [vrels] at hv
      | cons u us =>
        simp only [vrels] at hv
        obtain ⟨ih, cs2, hrd2⟩ := packArgs_sound hE hS hw hv.2 hy1
        have hrd := pack_sound hE hx1 (cellsOf_sound hv.1 hcs)
        have hrdc : Rd Ec.S Ec.w a x1 u.cells.toList := by rw [hS, hw]; exact hrd
        refine ⟨?_, ?_⟩
        · simp only [argsV, vrels]
          refine ⟨?_, ih⟩
          simp only [beq_iff_eq] at hg
          have one : aggT a = false → u.cells.toList = [u] := fun e => by
            rw [e] at hg
            have h1 : u.oneCell' = true := by
              cases v <;> simp only [isAggV, Bool.false_eq_true] at hg <;> simp only [cellsOf, reduceCtorEq] at hcs <;> exact one_oneCell rfl hv.1
            rw [one_cells h1]
          have agg : aggT a = true → ∃ l, u = .agg l := fun e => by
            rw [e] at hg
            cases v <;> simp only [isAggV, Bool.true_eq_false] at hg
            have := hv.1
            simp only [vrel] at this
            obtain ⟨l, hl, _⟩ := this
            exact ⟨l, hl⟩
          cases a with
          | int k => rw [one rfl] at hrdc; cases hrdc with | int hk => simp only [argV]; exact vint hk
          | bool => rw [one rfl] at hrdc; cases hrdc with | bool => simp only [argV, vrel]
          | str => rw [one rfl] at hrdc; cases hrdc with | str hk => simp only [argV]; exact vstr hk
          | slice t => rw [one rfl] at hrdc; simp only [argV, vrel]; exact hrdc
          | unit =>
            obtain ⟨l, rfl⟩ := agg rfl
            simp only [argV, vrel]
            refine ⟨l, rfl, ?_⟩
            have h0 : l.toList = [] := List.eq_nil_of_length_eq_zero hrdc.len
            rw [h0]; simp [vrels]
          | prod c d =>
            obtain ⟨l, rfl⟩ := agg rfl
            simp only [argV, vrel]
            exact ⟨l, rfl, hrdc.flat FUEL⟩
          | nm n =>
            obtain ⟨l, rfl⟩ := agg rfl
            simp only [argV, vrel]
            exact ⟨l, rfl, hrdc.flat FUEL⟩
        · exact ⟨_, .prod hrd hrd2⟩
  | .int _, _, _, _, _, h => by simp [packArgs] at h
  | .bool, _, _, _, _, h => by simp [packArgs] at h
  | .str, _, _, _, _, h => by simp [packArgs] at h
  | .slice _, _, _, _, _, h => by simp [packArgs] at h
  | .nm _, _, _, _, _, h => by simp [packArgs] at h
  | .unit, _ :: _, _, _, _, h => by simp [packArgs] at h
  | .prod _ _, [], _, _, _, h => by simp [packArgs] at h

end Go.Mir
