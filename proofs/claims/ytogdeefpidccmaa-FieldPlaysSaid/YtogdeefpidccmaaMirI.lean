/- The mirror, part 9: indices, slice expressions, arithmetic. -/
import Derived.Test.YtogdeefpidccmaaMirH
namespace Go.Mir
open Go.RowKit

variable {P : Program}

/-- a part of a struct's value -/
theorem part_sound {E : Env} {t : TypeId} {td : TD} (ht : TDok P t td) {cs : List V} {l : Array Value} (hcs : vrels E cs l.toList) {off : Nat} {ps : List Prop} {v : V} {dh : List (Nat × Blk)} (h : ld td cs off = .val ps v dh) :
    dh = [] ∧ ∃ v', (part t l off).run P E.w = .ok v' E.w ∧ vrel E v v' := by
  unfold ld at h
  split at h
  · rename_i hagg
    split at h
    · cases h
      refine ⟨rfl, .agg (l.extract off (off + td.size)), ?_, ?_⟩
      · simp [part, ht.isAgg, hagg, ht.sizeOf]
      · simp only [vrel]
        refine ⟨_, rfl, ?_⟩
        have := vrels_take (vrels_drop hcs off) td.size
        have e : (l.extract off (off + td.size)).toList = (l.toList.drop off).take td.size := by
          simp [Array.toList_extract, List.extract]
        rw [e]
        exact this
    · cases h
  · rename_i hagg
    split at h
    · rename_i u hu
      cases h
      obtain ⟨v', h1, h2⟩ := vrels_get hcs off v hu
      have hagg' : td.kind.agg = false := by simpa using hagg
      refine ⟨rfl, v', ?_, h2⟩
      have h1' : l[off]? = some v' := by simpa using h1
      simp [part, ht.isAgg, hagg', h1']
    · cases h

theorem evFieldVal_sound {E : Env} {tb : Tbl} (hT : TblOK P tb) {t : TypeId} {td : TD} (ht : TDok P t td) {x : V} {xv : Value} (hx : vrel E x xv) {f : Nat} {ps : List Prop} {v : V} {dh : List (Nat × Blk)}
    (h : evFieldVal tb td x f = .val ps v dh) : dh = [] ∧ ∃ v', (Instr.field t xv f).run P E.w = .ok v' E.w ∧ vrel E v v' := by
  unfold evFieldVal at h
  split at h
  case h_2 => cases h
  rename_i fs hk
  have hkd := ht.kind
  rw [hk] at hkd
  obtain ⟨fields, hu, hfs⟩ := hkd
  split at h
  case h_2 => cases h
  rename_i o ft hf
  obtain ⟨fl, h1, h2, h3⟩ := struct_field hfs hf
  split at h
  case h_2 => cases h
  rename_i tf htf
  split at h
  case h_2 => cases h
  rename_i cs
  simp only [vrel] at hx
  obtain ⟨l, rfl, hl⟩ := hx
  obtain ⟨e, v', hr, hv⟩ := part_sound (hT _ _ htf) hl h
  refine ⟨e, v', ?_, hv⟩
  simp [Instr.field, run_underlying hu, h1, asAgg, h3, h2, hr]

theorem evIndex_sound {B : Base} {E : Env} (hE : HRel B E) {tb : Tbl} (hT : TblOK P tb) {t : TypeId} {td : TD} (ht : TDok P t td) {x i : V} {xv iv : Value} (hx : vrel E x xv) (hi : vrel E i iv) {ps : List Prop} {v : V} {dh : List (Nat × Blk)}
    (h : evIndex tb td E.H x i = .val ps v dh) (hps : ∀ p ∈ ps, p) : dh = [] ∧ ∃ v', (Instr.indexAt t xv iv).run P E.w = .ok v' E.w ∧ vrel E v v' := by
  unfold evIndex at h
  split at h
  case h_2 => cases h
  rename_i k n
  simp only [vrel] at hi
  obtain ⟨rfl, _⟩ := hi
  have hkd := ht.kind
  split at h
  · rename_i e hk
    rw [hk] at hkd
    simp only [kindOK] at hkd
    split at h
    case h_2 => cases h
    rename_i te hte
    have hte' := hT _ _ hte
    split at h
    · rename_i t' xs
      split at h
      case isFalse => cases h
      rename_i hsz
      cases h
      have hp := hps _ (List.mem_singleton.2 rfl)
      refine ⟨rfl, ?_⟩
      simp only [vrel] at hx
      generalize hl : [xv] = l at hx
      cases hx with
      | nil => simp at hp; omega
      | @slice _ _ b o cap c T fr h1 h2 h3 h4 h5 h6 =>
        cases hl
        refine ⟨.pointer (some ⟨b, o + n.toNat * sz t', none⟩), ?_, ?_⟩
        · simp [Instr.indexAt, asIntOf, run_underlying hkd, hte'.sizeOf, hp.1, hp.2, addr_add, hsz]
        · simp only [vrel]
          exact ⟨b, o, c, T, fr, h1, h2, h3, h6, hp.1, by omega, rfl⟩
    · rename_i hh ver
      split at h
      case h_2 => cases h
      rename_i ver' rw' t' xs hH
      split at h
      case isFalse => cases h
      rename_i e1
      subst e1
      split at h
      case isFalse => cases h
      rename_i hsz
      cases h
      have hp := hps _ (List.mem_singleton.2 rfl)
      refine ⟨rfl, ?_⟩
      have hx0 := hx
      simp only [vrel] at hx0
      rcases osl_row hE hH hx with ⟨_, h3, a, rfl⟩ | ⟨b, cap, c, T, fr, h3, rfl, h5, h6, hcap, h7, h8, h9, h10, h11, h12⟩
      · subst h3; simp at hp; omega
      · refine ⟨.pointer (some ⟨b, n.toNat * sz t', none⟩), ?_, ?_⟩
        · simp [Instr.indexAt, asIntOf, run_underlying hkd, hte'.sizeOf, hp.1, hp.2, addr_add, hsz]
        · simp only [vrel]
          refine ⟨hx0.1, hx0.2.1, ⟨_, rfl⟩, fun rw2 t2 xs2 hH2 => ?_⟩
          rw [hH] at hH2
          cases hH2
          exact ⟨b, h3, hp.1, by omega, by simp⟩
    · cases h
  · rename_i len e hk
    rw [hk] at hkd
    simp only [kindOK] at hkd
    split at h
    case h_2 => cases h
    rename_i te hte
    have hte' := hT _ _ hte
    split at h
    case h_2 => cases h
    rename_i hh off
    cases h
    have hp := hps _ (List.mem_singleton.2 rfl)
    refine ⟨rfl, ?_⟩
    simp only [vrel] at hx
    obtain ⟨hU, ⟨a, rfl⟩, hx⟩ := hx
    refine ⟨.pointer (some (a.add (n.toNat * te.size))), ?_, ?_⟩
    · simp [Instr.indexAt, asIntOf, run_underlying hkd, hte'.sizeOf, hp.1, hp.2, Instr.sureAddr]
    · simp only [vrel]
      refine ⟨hU, ⟨_, rfl⟩, fun cs hcs => ?_⟩
      obtain ⟨b, hb, he⟩ := hx cs hcs
      cases he
      exact ⟨b, hb, by rw [addr_add]⟩
  · cases h

/-- an option of an operand -/
def orel (E : Env) : Option V → Option Value → Prop
  | none, none => True
  | some x, some v => vrel E x v
  | _, _ => False

theorem run_bounds {E : Env} {lo hi : Option V} {lov hiv : Option Value} (hlo : orel E lo lov) (hhi : orel E hi hiv) (isS : Bool) (len cap : Nat) (hlc : len ≤ cap) {l h : Int} (el : bnd 0 lo = some l) (eh : bnd len hi = some h)
    (h0 : 0 ≤ l) (h1 : l ≤ h) (h2 : h ≤ (len : Int)) : (Instr.sliceBounds isS len cap lov hiv none).run P E.w = .ok (l.toNat, h.toNat, cap) E.w := by
  have eH : (match hiv with | some v => Instr.sliceBound v cap (if isS then .sliceAcap else .sliceAlen) | none => pure len : Sem Nat).run P E.w = .ok h.toNat E.w := by
    cases hi with
    | none =>
      cases hiv with
      | none => simp only [bnd, Option.some.injEq] at eh; subst eh; simp
      | some v => simp [orel] at hhi
    | some x =>
      cases hiv with
      | none => simp [orel] at hhi
      | some v =>
        cases x <;> simp only [bnd, reduceCtorEq, Option.some.injEq] at eh
        subst eh
        simp only [orel, vrel] at hhi
        obtain ⟨rfl, _⟩ := hhi
        simp [Instr.sliceBound, asIntOf, show (0 : Int) ≤ _ from Int.le_trans h0 h1, show _ ≤ (cap : Int) from Int.le_trans h2 (by omega)]
  have eL : (match lov with | some v => Instr.sliceBound v h.toNat .sliceB | none => pure 0 : Sem Nat).run P E.w = .ok l.toNat E.w := by
    cases lo with
    | none =>
      cases lov with
      | none => simp only [bnd, Option.some.injEq] at el; subst el; simp
      | some v => simp [orel] at hlo
    | some x =>
      cases lov with
      | none => simp [orel] at hlo
      | some v =>
        cases x <;> simp only [bnd, reduceCtorEq, Option.some.injEq] at el
        subst el
        simp only [orel, vrel] at hlo
        obtain ⟨rfl, _⟩ := hlo
        have hh : ((h.toNat : Nat) : Int) = h := Int.toNat_of_nonneg (Int.le_trans h0 h1)
        simp only [Instr.sliceBound, asIntOf, Sem.run_bind, Sem.run_pure, Result.andThen_ok, hh, h0, h1, and_self, if_true]
  unfold Instr.sliceBounds
  cases hiv <;> cases lov <;> simp_all

/-- a row is frozen: it may be read by whoever holds its value, and written no more -/
theorem seal_sound {B : Base} {E : Env} (hE : HRel B E) (m : Nat) {h ver : Nat} {rw : Bool} {t : Ty} {xs : List (Den t)} (hH : E.H h = some (.row ver rw t xs)) :
    ∃ E', Good B E m [(h, .row ver false t xs)] E.w E' ∧ E'.ρ = E.ρ ∧ ∀ b, E.ρ h = some b → E'.S b := by
  obtain ⟨hu, hk⟩ := hE.blk _ _ hH
  let S' : Nat → Prop := fun b => E.S b ∨ E.ρ h = some b
  have hold : ∀ h' k b, h' ≠ h → E.H h' = some k → E.ρ h' = some b → ¬ E.S b → ¬ S' b := fun h' k b hne hh' hb hs hs' => by
    rcases hs' with hs' | hs'
    · exact hs hs'
    · exact hne (hE.inj _ _ _ _ _ hh' hH hb hs')
  have X : Ext E ⟨E.U, E.ρ, S', E.w, upd E.H h (some (.row ver false t xs))⟩ := by
    refine ⟨fun _ h => h, fun _ h => .inl h, fun _ _ => rfl, fun h' cs' _ hx => ?_, fun h' ver' rw' t' xs' _ _ hx => ?_⟩
    · by_cases e : h' = h
      · subst e; simp only [upd_same] at hx; cases hx
      · simp only [upd_ne _ _ e] at hx; exact ⟨⟨cs', hx⟩, rfl⟩
    · by_cases e : h' = h
      · subst e
        simp only [upd_same, Option.some.injEq] at hx
        cases hx
        exact ⟨rw, xs, hH, rfl, rfl, fun b c T fr _ hw => ⟨c, T, fr, hw, rfl⟩⟩
      · simp only [upd_ne _ _ e] at hx
        exact ⟨rw', xs', hx, rfl, rfl, fun b c T fr _ hw => ⟨c, T, fr, hw, rfl⟩⟩
  have R : HRel B ⟨E.U, E.ρ, S', E.w, upd E.H h (some (.row ver false t xs))⟩ := by
    refine ⟨fun h' b hx => ?_, fun b hs => ?_, fun h' k b hx hb => ?_, fun h1 h2 k1 k2 b a1 a2 b1 b2 => ?_, fun h' k hx => ?_, hE.keeps, fun h' k b hx hb => ?_, fun b hs => .inl (hE.s0 b hs), fun b hs => ?_⟩
    · by_cases e : h' = h
      · subst e; exact hE.used _ _ hH
      · simp only [upd_ne _ _ e] at hx; exact hE.used _ _ hx
    · rcases hs with hs | hs
      · exact hE.stab b hs
      · exact hE.lt _ _ _ hH hs
    · by_cases e : h' = h
      · subst e; exact hE.lt _ _ _ hH hb
      · simp only [upd_ne _ _ e] at hx; exact hE.lt _ _ _ hx hb
    · have q : ∀ h' k', upd E.H h (some (.row ver false t xs)) h' = some k' → ∃ k, E.H h' = some k := fun h' k' hx => by
        by_cases e : h' = h
        · subst e; exact ⟨_, hH⟩
        · simp only [upd_ne _ _ e] at hx; exact ⟨_, hx⟩
      obtain ⟨_, q1⟩ := q _ _ a1
      obtain ⟨_, q2⟩ := q _ _ a2
      exact hE.inj _ _ _ _ _ q1 q2 b1 b2
    · by_cases e : h' = h
      · subst e
        simp only [upd_same, Option.some.injEq] at hx
        subst hx
        refine ⟨hu, ?_⟩
        rcases hk with ⟨h1, h2⟩ | ⟨b, c, T, fr, h1, h2, h3, h4, h5, h6, h7, h8⟩
        · exact .inl ⟨h1, h2⟩
        · exact .inr ⟨b, c, T, fr, h1, h2, h3, (fun e => by cases e), fun _ => .inr h1, h6, h7, fun i hi => (h8 i hi).ext X.s X.keepS⟩
      · simp only [upd_ne _ _ e] at hx
        exact brel_ext X rfl (fun _ _ => rfl) (fun b hb _ hs => hold _ _ _ e hx hb hs) (hE.blk _ _ hx)
    · by_cases e : h' = h
      · subst e; exact hE.own _ _ _ hH hb
      · simp only [upd_ne _ _ e] at hx; exact hE.own _ _ _ hx hb
    · rcases hs with hs | hs
      · exact hE.sb b hs
      · exact .inr (hE.own _ _ _ hH hs)
  exact ⟨_, ⟨R, X, rfl, (hset_one _ _ _).symm, fun _ h => .inl h⟩, rfl, fun b hb => .inr hb⟩

/-- a slice of what is read -/
theorem Rd.cut {S : Nat → Prop} {w : World} {t : Ty} {xs : List (Den t)} {b o : Nat} {c : Array Value} {T : TypeId} {fr : Nat × Nat} (h1 : S b) (h2 : w.heap[b]? = some (.cells c T fr)) (h3 : o + xs.length * sz t ≤ c.size) (h5 : xs.length ≤ lenB)
    (h6 : ∀ (i : Nat) (h : i < xs.length), Rd S w t xs[i] (seg c (o + i * sz t) (sz t))) {l h cap : Nat} (hl : l ≤ h) (hh : h ≤ xs.length) (hc : h ≤ cap) (o' : Nat) (ho' : o' = o + l * sz t ∨ (cap = l)) (ho'' : cap = l → o' ≤ c.size) :
    Rd S w (.slice t) ((xs.take h).drop l) [.slice (some ⟨b, o', none⟩) (h - l) (cap - l)] := by
  have hlen : ((xs.take h).drop l).length = h - l := by simp; omega
  rcases ho' with rfl | rfl
  · rw [← hlen]
    have hm : h * sz t ≤ xs.length * sz t := Nat.mul_le_mul_right _ hh
    have hm2 : (h - l) * sz t + l * sz t = h * sz t := by rw [← Nat.add_mul]; congr 1; omega
    refine .slice h1 h2 ?_ (by omega) (by omega) (fun i hi => ?_)
    · rw [hlen]; omega
    · have hi' : l + i < xs.length := by omega
      have := h6 (l + i) hi'
      rw [Nat.add_mul] at this
      have e : ((xs.take h).drop l)[i] = xs[l + i] := by simp
      rw [e, Nat.add_assoc]
      exact this
  · have : (xs.take h).drop cap = [] := List.drop_eq_nil_of_le (by simp; omega)
    rw [this, show h - cap = 0 by omega]
    exact .nil

theorem slice_of_bytes (s : ByteArray) (l h : Nat) (hs : s.size ≤ lenB) : (s.extract l h).size ≤ lenB := by
  rw [ByteArray.size_extract]
  have : min h s.size ≤ s.size := Nat.min_le_right _ _
  omega

theorem elSize_ok {tb : Tbl} (hT : TblOK P tb) {td : TD} {n : Nat} (h : elSize tb td = some n) : ∃ e te, td.kind = .slice e ∧ TDok P e te ∧ te.size = n := by
  unfold elSize at h
  split at h
  · rename_i e hk
    split at h
    · rename_i te hte
      cases h
      exact ⟨e, te, hk, hT _ _ hte, rfl⟩
    · cases h
  · cases h

theorem isNum_ok {E : Env} {x : Option V} {v : Option Value} {n : Int} (h : isNum n x = true) (hv : orel E x v) : ∃ k, v = some (.int k n) := by
  unfold isNum at h
  split at h
  · rename_i k k'
    simp only [beq_iff_eq] at h
    subst h
    cases v with
    | none => simp [orel] at hv
    | some v => simp only [orel, vrel] at hv; exact ⟨k, by rw [hv.1]⟩
  · cases h

theorem evSlice_sound {B : Base} {E : Env} (hE : HRel B E) {tb : Tbl} (hT : TblOK P tb) {t : TypeId} {td : TD} (ht : TDok P t td) (m : Nat) {x : V} {lo hi mx : Option V} {xv : Value} {lov hiv mxv : Option Value} (hx : vrel E x xv) (hlo : orel E lo lov) (hhi : orel E hi hiv) (hmx : orel E mx mxv)
    {ps : List Prop} {v : V} {dh : List (Nat × Blk)}
    (h : evSlice tb td E.H x lo hi mx = .val ps v dh) (hps : ∀ p ∈ ps, p) : ∃ v' E', (Instr.sliceAt t xv lov hiv mxv).run P E.w = .ok v' E.w ∧ Good B E m dh E.w E' ∧ vrel E' v v' := by
  have hkd := ht.kind
  -- the run at a slice
  have runS : ∀ (e : TypeId) (te : TD) (_ : td.kind = .slice e) (_ : TDok P e te) (a : Option Addr) (len cap l h m : Nat), (Instr.sliceBounds true len cap lov hiv mxv).run P E.w = .ok (l, h, m) E.w →
      (Instr.sliceAt t (.slice a len cap) lov hiv mxv).run P E.w = .ok (.slice (if m = l then a else a.map (·.add (l * te.size))) (h - l) (m - l)) E.w := fun e te hk hte a len cap l h m hr => by
    rw [hk] at hkd
    simp only [kindOK] at hkd
    simp [Instr.sliceAt, Instr.slice, run_underlying hkd, hr, hte.sizeOf]
  unfold evSlice at h
  split at h
  · -- s[:0:0]
    rename_i k0 n0
    split at h
    case isFalse => cases h
    rename_i hc
    obtain ⟨rfl, h1, h2, h3, h4⟩ := hc
    cases h
    obtain ⟨n, hn⟩ := Option.isSome_iff_exists.1 h3
    obtain ⟨e, te, hk, hte, _⟩ := elSize_ok hT hn
    obtain ⟨kl, rfl⟩ := isNum_ok h1 hlo
    obtain ⟨kh, rfl⟩ := isNum_ok h2 hhi
    have hmv : ∃ km, mxv = some (.int km 0) := by
      cases mxv with
      | none => simp [orel] at hmx
      | some v => simp only [orel, vrel] at hmx; exact ⟨_, by rw [hmx.1]⟩
    obtain ⟨km, rfl⟩ := hmv
    have hsl : ∃ a len cap, xv = .slice a len cap := by
      cases x <;> simp only [isSl, Bool.false_eq_true] at h4 <;> simp only [vrel] at hx
      · exact ⟨_, _, _, hx⟩
      · obtain ⟨a, hx⟩ := hx; exact ⟨_, _, _, hx⟩
      · exact hx.2.2.1
      · generalize hl : [xv] = l at hx
        cases hx with
        | nil => cases hl; exact ⟨_, _, _, rfl⟩
        | slice => cases hl; exact ⟨_, _, _, rfl⟩
    obtain ⟨a, len, cap, rfl⟩ := hsl
    refine ⟨_, E, runS e te hk hte a len cap 0 0 0 (by simp [Instr.sliceBounds, Instr.sliceBound, asIntOf]), good_same hE m, ?_⟩
    simp [vrel]
  · cases h
  · -- the other two
    have hmv : mxv = none := by
      cases mxv with
      | none => rfl
      | some v => simp [orel] at hmx
    subst hmv
    split at h
    · rename_i s
      split at h
      · rename_i l hh hk el eh
        cases h
        have hp := hps _ (List.mem_singleton.2 rfl)
        simp only [vrel] at hx
        obtain ⟨rfl, hs⟩ := hx
        rw [hk] at hkd
        simp only [kindOK] at hkd
        have hr := run_bounds (P := P) hlo hhi false s.size s.size (Nat.le_refl _) el eh hp.1 hp.2.1 hp.2.2
        refine ⟨.string (s.extract l.toNat hh.toNat), E, ?_, good_same hE m, ?_⟩
        · simp [Instr.sliceAt, Instr.slice, run_underlying hkd, hr]
        · simp only [vrel]; exact ⟨trivial, slice_of_bytes _ _ _ hs⟩
      · cases h
    · rename_i t' xs
      split at h
      · rename_i n l hh hn el eh
        split at h
        case isFalse => cases h
        rename_i hsz
        subst hsz
        cases h
        have hp := hps _ (List.mem_singleton.2 rfl)
        obtain ⟨e, te, hk, hte, hts⟩ := elSize_ok hT hn
        simp only [vrel] at hx
        generalize hl : [xv] = l0 at hx
        cases hx with
        | @nil _ a cap =>
          cases hl
          simp only [List.length_nil] at hp eh
          have e0 : l = 0 := by simp at hp; omega
          have e1 : hh = 0 := by simp at hp; omega
          subst e0; subst e1
          refine ⟨_, E, runS e te hk hte a 0 cap 0 0 cap (run_bounds (P := P) hlo hhi true 0 cap (Nat.zero_le _) el eh (by omega) (by omega) (by omega)), good_same hE m, ?_⟩
          simp only [vrel]
          exact .nil
        | @slice _ _ b o cap c T fr h1 h2 h3 h4 h5 h6 =>
          cases hl
          refine ⟨_, E, runS e te hk hte _ _ cap _ _ cap (run_bounds (P := P) hlo hhi true xs.length cap h4 el eh hp.1 hp.2.1 hp.2.2), good_same hE m, ?_⟩
          simp only [vrel]
          split
          · rename_i hcl
            exact Rd.cut h1 h2 h3 h5 h6 (by omega) (by omega) (by omega) o (.inr hcl) (fun _ => by omega)
          · simp only [Option.map_some, addr_add]
            exact Rd.cut h1 h2 h3 h5 h6 (by omega) (by omega) (by omega) _ (.inl (by rw [hts])) (fun hcl => by contradiction)
      · cases h
    · rename_i h0 ver
      split at h
      case h_2 => cases h
      rename_i ver' rw' t' xs hH
      split at h
      case isFalse => cases h
      rename_i e1
      subst e1
      split at h
      · rename_i n l hh hn el eh
        split at h
        case isFalse => cases h
        rename_i hsz
        subst hsz
        cases h
        have hp := hps _ (List.mem_singleton.2 rfl)
        obtain ⟨e, te, hk, hte, hts⟩ := elSize_ok hT hn
        obtain ⟨E', G, hρ, hS⟩ := seal_sound hE m hH
        rcases osl_row hE hH hx with ⟨_, h3, a, rfl⟩ | ⟨b, cap, c, T, fr, h3, rfl, h5, h6, hcap, h7, h8, h9, h10, h11, h12⟩
        · subst h3
          simp only [List.length_nil] at hp eh
          have e0 : l = 0 := by simp at hp; omega
          have e1 : hh = 0 := by simp at hp; omega
          subst e0; subst e1
          refine ⟨_, E', runS e te hk hte a 0 0 0 0 0 (run_bounds (P := P) hlo hhi true 0 0 (Nat.zero_le _) el eh (by omega) (by omega) (by omega)), G, ?_⟩
          simp only [vrel]
          exact .nil
        · refine ⟨_, E', runS e te hk hte _ _ cap _ _ cap (run_bounds (P := P) hlo hhi true xs.length cap hcap el eh hp.1 hp.2.1 hp.2.2), G, ?_⟩
          have hw : E'.w.heap[b]? = some (.cells c T fr) := by rw [G.w]; exact h5
          have h12' : ∀ (i : Nat) (hi : i < xs.length), Rd E'.S E'.w t' xs[i] (seg c (0 + i * sz t') (sz t')) := fun i hi => by
            rw [Nat.zero_add]; exact (h12 i hi).ext G.ext.s G.ext.keepS
          simp only [vrel]
          split
          · rename_i hcl
            exact Rd.cut (hS b h3) hw (by omega) h11 h12' (by omega) (by omega) (by omega) 0 (.inr hcl) (fun _ => by omega)
          · simp only [Option.map_some, addr_add]
            exact Rd.cut (hS b h3) hw (by omega) h11 h12' (by omega) (by omega) (by omega) _ (.inl (by rw [hts])) (fun hcl => by contradiction)
      · cases h
    · cases h

end Go.Mir
