/- The mirror, part 18: a region that draws its order is sound. -/
import Derived.Test.YtogdeefpidccmaaMirQ
namespace Go.Mir
open Go.RowKit

variable {P : Program}

theorem Ext.restr (E : Env) (R : List Nat) : Ext E { E with H := Mir.restr E.H R } := by
  have get : ∀ h k, Mir.restr E.H R h = some k → E.H h = some k := fun h k hh => by
    unfold Mir.restr at hh
    cases hm : memN R h with
    | false => rw [hm] at hh; cases hh
    | true => rw [hm] at hh; exact hh
  exact ⟨fun _ h => h, fun _ h => h, fun _ _ => rfl, fun h cs _ hx => ⟨⟨cs, get _ _ hx⟩, rfl⟩, fun h ver rw t xs _ _ hx => ⟨rw, xs, get _ _ hx, rfl, rfl, fun b c T fr _ hw => ⟨c, T, fr, hw, rfl⟩⟩⟩

theorem find_key {α : Type} {l : List (Nat × α)} {k : Nat} (h : find l k ≠ none) : k ∈ l.map (·.1) := by
  induction l with
  | nil => simp [find] at h
  | cons x l ih =>
    obtain ⟨a, v⟩ := x
    simp only [find] at h
    cases hb : Nat.beq a k with
    | true => simp [Nat.eq_of_beq_eq_true hb]
    | false => rw [hb] at h; simp only [cond_false] at h; simp only [List.map_cons, List.mem_cons]; exact .inr (ih h)

theorem find_mem {α : Type} {l : List (Nat × α)} {k : Nat} {v : α} (h : find l k = some v) : (k, v) ∈ l := by
  induction l with
  | nil => simp [find] at h
  | cons q l ih =>
    obtain ⟨a, b⟩ := q
    simp only [find] at h
    cases hb : Nat.beq a k with
    | true => rw [hb] at h; simp only [cond_true, Option.some.injEq] at h; simp [Nat.eq_of_beq_eq_true hb, h]
    | false => rw [hb] at h; simp only [cond_false] at h; exact List.mem_cons_of_mem _ (ih h)

theorem updT_key {r : Rec} {k : Nat} (h : find (updT r) k ≠ none) : k ∈ r.dst.toList := by
  unfold updT at h
  cases hd : r.dst with
  | none => rw [hd] at h; simp [dstPut, find] at h
  | some d =>
    rw [hd] at h
    have := find_key h
    simpa [dstPut] using this

theorem hsOK_spec {R : List Nat} {m K : Nat} {l : List Nat} (h : hsOK R m K l = true) : ∀ x ∈ l, x ∈ R ∨ (m ≤ x ∧ x < m + K) := fun x hx => by
  have := List.all_eq_true.1 h x hx
  simp only [Bool.or_eq_true, Bool.and_eq_true, memN_iff, Nat.blt_eq] at this
  exact this.imp id fun h => ⟨Nat.le_of_ble_eq_true h.1, h.2⟩

theorem guardOf_masked {E : Env} {all : List Oper} {tm : List (Nat × V)} {a : Act} {o : Oper} {b : Bool} (hT : ∀ s ∈ slotsOf all o, vrel E (lookV tm s) (a.tmps.getD s undef)) (h : guardOf all tm o = some b) :
    Region.wanted o (yielded all.toArray a.tmps) = b := by
  refine guard_sound (E := E) (T := fun s => bif memN (slotsOf all o) s then lookV tm s else .any) (fun s => ?_) ?_
  · cases hm : memN (slotsOf all o) s with
    | true => simpa using hT s (memN_iff.1 hm)
    | false => simp [vrel]
  · unfold guardOf at h
    cases hg : o.guard with
    | none => rw [hg] at h; exact h
    | some q =>
      obtain ⟨j, want⟩ := q
      rw [hg] at h
      simp only at h ⊢
      cases hj : all[j]? with
      | none => rw [hj] at h; exact h
      | some oj =>
        rw [hj] at h
        simp only at h ⊢
        cases hd : oj.dst with
        | none => rw [hd] at h; exact h
        | some dj =>
          rw [hd] at h
          have hm : memN (slotsOf all o) dj = true := by
            rw [memN_iff]
            unfold slotsOf
            rw [hg]
            simp [hj, hd]
          simp only [hm, cond_true]
          exact h

/-- where a draw stands: what the listed ones have done -/
structure Inv (C : Cfg) (B : Base) (st : St) (rf : List Rec) (L : Nat → Bool) (a : Act) (w : World) : Prop where
  ex : ∃ E, HRel B E ∧ E.w = w ∧ E.H = selF L st.H 0 (rf.map Rec.dh) ∧ (∀ n, E.U n → n < st.nx ∨ ∃ i, i < rf.length ∧ L i = true ∧ st.nx + i * C.K ≤ n ∧ n < st.nx + i * C.K + C.K) ∧ tmOK E (selF L (find st.tm) 0 (rf.map updT)) a
  size : a.tmps.size = C.N
  defers : a.defers = []

theorem inv_step {C : Cfg} (hC : CfgOK P C) {B : Base} {all : List Oper} {st : St} {rf : List Rec} {L L' : Nat → Bool} {i : Nat} {o : Oper} {r : Rec} (ho : all[i]? = some o) (hr : rf[i]? = some r) (hLi : L i = false) (hL' : ∀ j, L' j = if j = i then true else L j)
    {tm : List (Nat × V)} {H : Heap} (hdo : Does C true all tm H (st.nx + i * C.K) o r) (htm : find tm = selF (fun j => Nat.blt j i) (find st.tm) 0 (rf.map updT)) (hH : H = selF (fun j => Nat.blt j i) st.H 0 (rf.map Rec.dh))
    (hcomm : ∀ j s, rf[j]? = some s → (j < i ∧ L j = false) ∨ (i < j ∧ L j = true) → Comm r s) {Q : Exit → Act → World → Prop} {a : Act} {w : World} (hI : Inv C B st rf L a w) {K : Act → World → Prop} (hK : ∀ a w, Inv C B st rf L' a w → K a w) :
    wpOp P all.toArray Q i K a w := by
  obtain ⟨⟨E, hE, rfl, hEH, hU, hT⟩, hsz, hdf⟩ := hI
  obtain ⟨hd, he, hrs⟩ := hdo.dstIn
  have hiL : i < rf.length := (List.getElem?_eq_some_iff.1 hr).1
  have hLsel : ∀ {α : Type} (us : List (List (Nat × α))) (f : Nat → Option α) (k : Nat) (g : Rec → List (Nat × α)), us = rf.map g → (∀ j s, rf[j]? = some s → find (g s) k ≠ none → j ≠ i → Comm r s → False) → selF L f 0 us k = selF (fun j => Nat.blt j i) f 0 us k := by
    intro α us f k g hus hno
    refine selF_congr us 0 f f rfl (fun j u hj hu => ?_)
    rw [Nat.zero_add]
    subst hus
    rw [List.getElem?_map] at hj
    cases hs : rf[j]? with
    | none => rw [hs] at hj; simp at hj
    | some s =>
      rw [hs] at hj
      simp only [Option.map_some, Option.some.injEq] at hj
      subst hj
      by_cases hji : j = i
      · subst hji
        rw [hLi]
        cases hb : Nat.blt j j with
        | false => rfl
        | true => rw [Nat.blt_eq] at hb; omega
      · rcases Nat.lt_or_gt_of_ne hji with hlt | hgt
        · have hb : Nat.blt j i = true := by rw [Nat.blt_eq]; exact hlt
          rw [hb]
          cases hLj : L j with
          | true => rfl
          | false => exact (hno j s hs hu hji (hcomm j s hs (.inl ⟨hlt, hLj⟩))).elim
        · have hb : Nat.blt j i = false := by cases hb : Nat.blt j i with | false => rfl | true => rw [Nat.blt_eq] at hb; omega
          rw [hb]
          cases hLj : L j with
          | false => rfl
          | true => exact (hno j s hs hu hji (hcomm j s hs (.inr ⟨hgt, hLj⟩))).elim
  have hslot : ∀ s ∈ slotsOf all o, selF L (find st.tm) 0 (rf.map updT) s = find tm s := fun s hs => by
    rw [htm]
    refine hLsel _ _ s updT rfl (fun j s' hs' hne hji hc => ?_)
    exact hc.sd s (updT_key hne) (by rw [hrs]; exact hs)
  have hlook : ∀ s ∈ slotsOf all o, vrel E (lookV tm s) (a.tmps.getD s undef) := fun s hs => by
    unfold lookV
    cases hf : find tm s with
    | none => simp [vrel]
    | some v => exact hT s v (by rw [hslot s hs]; exact hf)
  have hL0 : ∀ {α : Type} (us : List (List (Nat × α))) (f : Nat → Option α) (g : Rec → List (Nat × α)), us = rf.map g → (∀ j s, i < j → rf[j]? = some s → Comm r s → ∀ k, find (g r) k ≠ none → find (g s) k = none) → selF L' f 0 us = gset (selF L f 0 us) (g r) := by
    intro α us f g hus hno
    subst hus
    refine selF_add (rf.map g) f i (g r) (by rw [List.getElem?_map, hr]; rfl) hL' (fun j u hj hu hLj k hk => ?_)
    rw [List.getElem?_map] at hu
    cases hs : rf[j]? with
    | none => rw [hs] at hu; simp at hu
    | some s =>
      rw [hs] at hu
      simp only [Option.map_some, Option.some.injEq] at hu
      subst hu
      exact hno j s hj hs (hcomm j s hs (.inr ⟨hj, hLj⟩)) k hk
  have none_of : ∀ {α : Type} {l : List (Nat × α)} {k : Nat}, (k ∈ l.map (·.1) → False) → find l k = none := fun {α l k} h => by
    cases hf : find l k with
    | none => rfl
    | some v => exact (h (find_key (by rw [hf]; simp))).elim
  have hT' : selF L' (find st.tm) 0 (rf.map updT) = gset (selF L (find st.tm) 0 (rf.map updT)) (updT r) := hL0 _ _ updT rfl (fun j s _ _ hc k hk => by
    cases hf : find (updT s) k with
    | none => rfl
    | some v => exact (hc.d k (updT_key hk) (updT_key (by rw [hf]; simp))).elim)
  have hH' : selF L' st.H 0 (rf.map Rec.dh) = gset (selF L st.H 0 (rf.map Rec.dh)) r.dh := hL0 _ _ Rec.dh rfl (fun j s _ _ hc k hk => none_of fun hm => hc.k k (find_key hk) hm)
  have after : ∀ (E' : Env) (v' : Value), GoodK B E (st.nx + i * C.K) C.K r.dh E'.w E' → vrel E' r.v v' → Inv C B st rf L' (a.put o.dst v') E'.w := fun E' v' G hv => by
    refine ⟨⟨E', G.rel, rfl, by rw [G.h, hH', hEH, hset_gset], fun n hn => ?_, ?_⟩, by rw [put_size]; exact hsz, by rw [put_defers]; exact hdf⟩
    · rcases G.u n hn with h | h
      · rcases hU n h with h1 | ⟨j, h1, h2, h3⟩
        · exact .inl h1
        · refine .inr ⟨j, h1, ?_, h3⟩
          rw [hL']
          split
          · rfl
          · exact h2
      · exact .inr ⟨i, hiL, by rw [hL', if_pos rfl], h.1, h.2⟩
    · rw [hT']
      exact put_ok G.ext hT hsz hd (v := r.v) hv (fun s u hu => by
        unfold gset updT at hu
        rw [he] at hu
        cases hf : find (dstPut o.dst r.v) s with
        | some x => rw [hf] at hu; exact .inl hu
        | none => rw [hf] at hu; exact .inr ⟨rfl, hu⟩)
  unfold wpOp
  simp only [List.getElem?_toArray, ho]
  cases hdo with
  | skip _ hg =>
    rw [guardOf_masked hlook hg]
    simp only [Bool.false_eq_true, if_false]
    exact hK _ _ (after E undef ⟨hE, Ext.refl E, rfl, rfl, fun n h => .inl h⟩ (by simp [vrel, undef, vrels]))
  | @run ps v v' dh R _ hg hst hps hv =>
    rw [guardOf_masked hlook hg]
    simp only [if_true]
    left
    simp only [stepOp] at hst
    split at hst
    case h_2 => cases hst
    rename_i ps' v2 dh' hev
    cases hfr : frameOK H (reach H 8 (o.op.operands.toList.flatMap fun x => (maskEv (slotsOf all o) tm x).hs) []) (st.nx + i * C.K) C.K v2 dh' with
    | false => rw [hfr] at hst; cases hst
    | true =>
      rw [hfr] at hst
      simp only [cond_true, Option.some.injEq, Prod.mk.injEq] at hst
      obtain ⟨rfl, rfl, rfl, hR⟩ := hst
      rw [hR] at hfr hev
      -- the part of the heap that it touches is as it was in the text's order
      have hHR : ∀ h ∈ R, E.H h = H h := fun h hh => by
        rw [hEH, hH]
        refine hLsel _ _ h Rec.dh rfl (fun j s hs hne hji hc => ?_)
        exact hc.sk h (find_key hne) hh
      have hrest : restr H R = restr E.H R := by
        funext h
        unfold restr
        cases hm : memN R h with
        | false => rfl
        | true => simp only [cond_true]; exact (hHR h (memN_iff.1 hm)).symm
      simp only [frameOK, Bool.and_eq_true] at hfr
      obtain ⟨⟨f1, f2⟩, f3⟩ := hfr
      have fR : ∀ h ∈ R, ∃ b, H h = some b ∧ hsOK R (st.nx + i * C.K) C.K b.hs = true := fun h hh => by
        have := List.all_eq_true.1 f1 h hh
        split at this
        · rename_i b hb; exact ⟨b, hb, this⟩
        · cases this
      have hfresh : ∀ n, st.nx + i * C.K ≤ n → n < st.nx + i * C.K + C.K → ¬ E.U n := fun n h1 h2 hu => by
        rcases hU n hu with h3 | ⟨j, h3, h4, h5, h6⟩
        · omega
        · have hji : j ≠ i := fun e => by subst e; rw [hLi] at h4; cases h4
          rcases Nat.lt_or_gt_of_ne hji with hlt | hgt
          · have := Nat.mul_le_mul_right C.K (show j + 1 ≤ i from hlt)
            rw [Nat.add_mul] at this
            omega
          · have := Nat.mul_le_mul_right C.K (show i + 1 ≤ j from hgt)
            rw [Nat.add_mul] at this
            omega
      have hEs := hE.restr R
      have Xs := Ext.restr E R
      rw [hrest] at hev
      have hevm : ∀ x, vrel { E with H := Mir.restr E.H R } (maskEv (slotsOf all o) tm x) (a.eval x) := fun x => by
        cases x with
        | tmp t =>
          simp only [maskEv]
          cases hm : memN (slotsOf all o) t with
          | false => simp [vrel]
          | true => exact vrel_ext Xs _ _ (hlook t (memN_iff.1 hm))
        | const v => exact cv_sound v
        | func f => simp only [maskEv, vrel, Act.eval]; exact ⟨#[], rfl, by simp [vrels]⟩
        | _ => simp [maskEv, vrel]
      exact evAny_sound (E := { E with H := Mir.restr E.H R }) hEs hC.tb hC.K hC.Γ hfresh hevm hev hps fun v'' Es G hv' => by
        obtain ⟨E', G', tr⟩ := frame hE hfresh G (fun h hh => by obtain ⟨b, hb, _⟩ := fR h hh; exact ⟨b, by rw [hHR h hh]; exact hb⟩)
          (fun h hh k hk x hx => by
            obtain ⟨b, hb, hb2⟩ := fR h hh
            rw [hHR h hh, hb] at hk
            cases hk
            exact hsOK_spec hb2 x hx)
          (fun h k hk => by
            have hq := find_mem hk
            have := List.all_eq_true.1 f2 _ hq
            simp only [Bool.and_eq_true] at this
            exact ⟨hsOK_spec this.1 h (by simp), hsOK_spec this.2⟩)
        have hw : E'.w = Es.w := G'.w
        have hv2 : vrel E' v2 v'' := tr _ _ (hsOK_spec f3) hv'
        have := hK _ _ (after E' _ (by rw [hw]; exact G') (vput hv hv2))
        rw [hw] at this
        exact this

/-! ## the draw -/

def unl (n : Nat) (listed : Array Bool) : Nat := ((List.range n).filter fun i => !listed.getD i true).length

theorem filter_one {p q : Nat → Bool} {i : Nat} (hp : p i = true) (hq : q i = false) (hs : ∀ j, j ≠ i → q j = p j) : ∀ (l : List Nat), l.Nodup → i ∈ l → (l.filter q).length + 1 = (l.filter p).length
  | [], _, h => by simp at h
  | x :: l, hn, hm => by
    have hn' := List.nodup_cons.1 hn
    by_cases e : x = i
    · subst e
      have : l.filter q = l.filter p := List.filter_congr fun y hy => hs y (fun e => by subst e; exact hn'.1 hy)
      simp [hp, hq, this]
    · have hm' : i ∈ l := by
        rcases List.mem_cons.1 hm with h | h
        · exact absurd h.symm e
        · exact h
      have ih := filter_one hp hq hs l hn'.2 hm'
      simp only [List.filter_cons, hs x e]
      split
      · simp [ih]
      · exact ih

theorem draw_any {C : Cfg} (hC : CfgOK P C) {B : Base} {all : List Oper} {st : St} {df : Dl} {rf : List Rec} (hrun : Run C true all st 0 all ⟨[], []⟩ [] df rf) (hE : edgesOK 0 all = true) (hck : chkAll (masks all []) 0 rf = true) {Q : Exit → Act → World → Prop}
    (hQ : ∀ a w, SRel B C.N (find (df.tm ++ st.tm)) (hset st.H df.hp) (fun n => n < st.nx + all.length * C.K) a w → Q .normal a w) :
    ∀ (fuel : Nat) (listed : Array Bool) (a : Act) (w : World), listed.size = all.length → unl all.length listed = fuel →
      (∀ j oj, all[j]? = some oj → listed.getD j false = true → ∀ e ∈ oj.after, Region.binds .any e = true → listed.getD e.on false = true) →
      Inv C B st rf (fun i => listed.getD i false) a w → wpAny P .any all.toArray Q fuel listed a w := by
  obtain ⟨⟨more, e1, e2⟩, g1, g2, g3⟩ := run_each all 0 ⟨[], []⟩ [] df rf hrun rfl rfl rfl
  have hlen : rf.length = all.length := by rw [e1]; simpa using e2
  -- nobody is left when nobody is ready
  have full : ∀ (listed : Array Bool), listed.size = all.length → Region.ready .any all.toArray listed = [] → ∀ i, i < all.length → listed.getD i false = true := by
    intro listed hsz hrd i
    induction i using Nat.strongRecOn with
    | _ i ih =>
      intro hi
      cases hb : listed.getD i false with
      | true => rfl
      | false =>
        have hun : listed.getD i true = false := by
          have : i < listed.size := by omega
          simp [this] at hb ⊢
          exact hb
        have hoi : all[i]? = some all[i] := List.getElem?_eq_getElem hi
        have : i ∈ Region.ready .any all.toArray listed := mem_ready.2 ⟨hun, all[i], by simp, fun e he hbd => by
          have := edgesOK_spec all 0 hE i _ hoi e he hbd
          exact ih e.on (by omega) (by omega)⟩
        rw [hrd] at this
        cases this
  have close : ∀ (listed : Array Bool) (a : Act) (w : World), listed.size = all.length → (∀ i, i < all.length → listed.getD i false = true) → Inv C B st rf (fun i => listed.getD i false) a w → Q .normal a w := by
    intro listed a w hsz hall hI
    obtain ⟨⟨E, hE', rfl, hEH, hU, hT⟩, hs, hd⟩ := hI
    have hsel : ∀ {α : Type} (us : List (List (Nat × α))) (f : Nat → Option α), us.length = all.length → selF (fun i => listed.getD i false) f 0 us = us.foldl gset f := fun us f hl => by
      have h1 := selF_lt us f 0 us.length
      rw [List.take_of_length_le (Nat.le_refl _)] at h1
      rw [← h1]
      funext k
      refine selF_congr us 0 f f rfl (fun j u hj _ => ?_)
      have hjl : j < us.length := (List.getElem?_eq_some_iff.1 hj).1
      rw [Nat.zero_add, hall j (by omega)]
      exact (by rw [Nat.blt_eq]; omega : Nat.blt j (0 + us.length) = true).symm
    refine hQ a E.w ⟨⟨E, hE', rfl, ?_, fun n hn => ?_, fun s v hv => ?_⟩, hs, hd⟩
    · rw [hEH, hsel _ _ (by simp [hlen]), g2]
    · rcases hU n hn with h | ⟨i, h1, _, _, h4⟩
      · omega
      · have := Nat.mul_le_mul_right C.K (show i + 1 ≤ all.length by omega)
        rw [Nat.add_mul] at this
        omega
    · refine hT s v ?_
      rw [hsel _ _ (by simp [hlen]), ← g1]
      exact hv
  intro fuel
  induction fuel with
  | zero =>
    intro listed a w hsz hun _ hI
    have hall : ∀ i, i < all.length → listed.getD i false = true := fun i hi => by
      have h0 : (List.range all.length).filter (fun i => !listed.getD i true) = [] := List.eq_nil_of_length_eq_zero hun
      have := List.filter_eq_nil_iff.1 h0 i (List.mem_range.2 hi)
      have hi' : i < listed.size := by omega
      simp [hi'] at this ⊢
      exact this
    refine ⟨?_, close listed a w hsz hall hI⟩
    cases hr : Region.ready .any all.toArray listed with
    | nil => rfl
    | cons i l =>
      have hm : i ∈ Region.ready .any all.toArray listed := by rw [hr]; exact List.mem_cons_self
      obtain ⟨h1, o, h2, _⟩ := mem_ready.1 hm
      have hi : i < all.length := by
        have := (Array.getElem?_eq_some_iff.1 h2).1
        simpa using this
      have h3 := hall i hi
      have hi' : i < listed.size := by omega
      simp [hi'] at h1 h3
      rw [h1] at h3; cases h3
  | succ fuel ih =>
    intro listed a w hsz hun hclosed hI
    refine ⟨fun hr => close listed a w hsz (full listed hsz hr) hI, fun i hi => ?_⟩
    obtain ⟨h1, o, h2, hdir⟩ := mem_ready.1 hi
    have ho : all[i]? = some o := by simpa using h2
    have hil : i < all.length := (List.getElem?_eq_some_iff.1 ho).1
    have his : i < listed.size := by omega
    have hLi : listed.getD i false = false := by simp [his] at h1 ⊢; exact h1
    obtain ⟨r, tm, H, k1, k2, k3, k4⟩ := g3 i o ho
    simp only [Nat.zero_add] at k1 k2 k3 k4
    have hget : ∀ j, (listed.setIfInBounds i true).getD j false = if j = i then true else listed.getD j false := fun j => by
      by_cases e : j = i
      · subst e; simp [his]
      · simp [e, Array.getElem?_setIfInBounds_ne (Ne.symm e), Array.getD_eq_getD_getElem?]
    have hgetT : ∀ j, j ≠ i → (listed.setIfInBounds i true).getD j true = listed.getD j true := fun j e => by
      simp [Array.getElem?_setIfInBounds_ne (Ne.symm e), Array.getD_eq_getD_getElem?]
    refine inv_step hC (L := fun i => listed.getD i false) (L' := fun j => (listed.setIfInBounds i true).getD j false) ho k1 hLi hget k2 ?_ ?_ (fun j s hs hor => ?_) hI (fun a w hI' => ih _ a w (by simpa using hsz) ?_ ?_ hI')
    · rw [k3]
      have := selF_lt (rf.map updT) (find st.tm) 0 i
      rw [← List.map_take, ] at this
      simpa using this.symm
    · rw [k4]
      have := selF_lt (rf.map Rec.dh) st.H 0 i
      rw [← List.map_take] at this
      simpa using this.symm
    · rcases hor with ⟨hlt, hLj⟩ | ⟨hgt, hLj⟩
      · rcases chkAll_spec rf 0 hck j i s r hlt hs k1 with h | h
        · simp only [Nat.zero_add] at h
          have := ahead_listed hE hclosed i i (Nat.le_refl _) o ho hdir j h
          rw [this] at hLj; cases hLj
        · exact h.symm
      · rcases chkAll_spec rf 0 hck i j r s hgt k1 hs with h | h
        · simp only [Nat.zero_add] at h
          have hjl : j < all.length := by rw [← hlen]; exact (List.getElem?_eq_some_iff.1 hs).1
          have hoj : all[j]? = some all[j] := List.getElem?_eq_getElem hjl
          have := ahead_listed hE hclosed j j (Nat.le_refl _) _ hoj (hclosed j _ hoj hLj) i h
          rw [this] at hLi; cases hLi
        · exact h
    · have := filter_one (p := fun j => !listed.getD j true) (q := fun j => !(listed.setIfInBounds i true).getD j true) (i := i) (by simp [h1]) (by simp [his]) (fun j e => by simp [hgetT j e]) (List.range all.length) List.nodup_range (List.mem_range.2 hil)
      unfold unl at hun ⊢
      omega
    · intro j oj hj hlj e he hb
      rw [hget] at hlj ⊢
      by_cases e1 : e.on = i
      · rw [if_pos e1]
      · rw [if_neg e1]
        by_cases e2 : j = i
        · subst e2
          rw [ho] at hj; cases hj
          exact hdir e he hb
        · rw [if_neg e2] at hlj
          exact hclosed j oj hj hlj e he hb

/-- A region that draws its order. -/
theorem draw_sound {C : Cfg} (hC : CfgOK P C) (hP : P.follows .mixedOrders = true) {B : Base} {all : List Oper} {st : St} {df : Dl} {rf : List Rec} (hrun : Run C true all st 0 all ⟨[], []⟩ [] df rf) (hE : edgesOK 0 all = true) (hck : chkAll (masks all []) 0 rf = true) {Q : Exit → Act → World → Prop}
    (hQ : ∀ a w, SRel B C.N (find (df.tm ++ st.tm)) (hset st.H df.hp) (fun n => n < st.nx + all.length * C.K) a w → Q .normal a w) {a : Act} {w : World} (hs : SRel B C.N (find st.tm) st.H (fun n => n < st.nx) a w) (id : Nat) :
    (Code.region id all.toArray true).wp P Q a w := by
  refine wp_region_any hP ?_
  obtain ⟨⟨E, hE', rfl, hH, hU, hT⟩, hsz, hdf⟩ := hs
  obtain ⟨R, X⟩ := step0 hE' { E.w with drawn := E.w.drawn + 1 } rfl rfl rfl rfl
  have hfalse : ∀ i, (Array.replicate all.toArray.size false).getD i false = false := fun i => by
    rcases Nat.lt_or_ge i all.length with h | h
    · simp [h]
    · simp [h]
  refine draw_any hC hrun hE hck hQ _ _ a _ (by simp) ?_ (fun j oj hj hl => by rw [hfalse] at hl; cases hl) ⟨⟨_, R, rfl, ?_, fun n hn => .inl (hU n hn), fun s v hv => ?_⟩, hsz, hdf⟩
  · unfold unl
    have : (List.range all.length).filter (fun i => !(Array.replicate all.toArray.size false).getD i true) = List.range all.length := List.filter_eq_self.2 fun i hi => by
      have := List.mem_range.1 hi
      simp [this]
    rw [this]
    simp
  · have : selF (fun i => (Array.replicate all.toArray.size false).getD i false) st.H 0 (rf.map Rec.dh) = st.H := by
      have hno : ∀ {α : Type} (us : List (List (Nat × α))) (f : Nat → Option α) (i : Nat), selF (fun i => (Array.replicate all.toArray.size false).getD i false) f i us = f := by
        intro α us
        induction us with
        | nil => intro f i; rfl
        | cons u us ih => intro f i; unfold selF; rw [hfalse]; simp only [Bool.false_eq_true, if_false]; exact ih f _
      exact hno _ _ _
    rw [this]; exact hH
  · have hno : ∀ {α : Type} (us : List (List (Nat × α))) (f : Nat → Option α) (i : Nat), selF (fun i => (Array.replicate all.toArray.size false).getD i false) f i us = f := by
      intro α us
      induction us with
      | nil => intro f i; rfl
      | cons u us ih => intro f i; unfold selF; rw [hfalse]; simp only [Bool.false_eq_true, if_false]; exact ih f _
    rw [hno] at hv
    exact vrel_ext X _ _ (hT s v hv)

end Go.Mir
