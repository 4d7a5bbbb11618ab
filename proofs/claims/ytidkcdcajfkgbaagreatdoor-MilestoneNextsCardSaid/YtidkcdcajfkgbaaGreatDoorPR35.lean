/- Texts of the mirror and contracts, put together. -/
import Derived.Test.YtidkcdcajfkgbaaGreatDoorPR34
import Derived.LoopN
import Derived.Laws.Externs
import Derived.Lib.Bytealg

/- The machine, part 4: operations done by the machine are sound. -/
namespace Go.Mir
open Go.RowKit

variable {tb : Tbl} {N K : Nat} {e : En}

/-! ## what an operation promises -/

structure ValOK (tb : Tbl) (N : Nat) (ev : Operand → V) (op : Op) (hp : HP) (nx : Nat) (u : U) (hp' : HP) : Prop where
  ex : ∃ ps v dh, evAny ⟨tb, fun _ => none, 1, N⟩ nx (hpH hp) ev op = some (ps, v, dh) ∧ (∀ p ∈ ps, p.holds) ∧ VLe v u.toV ∧ hpH hp' = hset (hpH hp) dh
  wf : u.wf
  hw : hpW hp'
structure CalOK (ev : Operand → V) (op : Op) (g : FuncId) (args : List U) : Prop where
  ex : ∃ c f caps, op = .call c ∧ c.callee = .value f ∧ ev f = .fn g caps ∧ ∀ E l, vrels E (c.args.toList.map ev ++ caps) l → vrels E (args.map U.toV) l
  wf : ∀ u ∈ args, u.wf

def StOK (tb : Tbl) (N K : Nat) (e : En) (op : Op) : Stp → Prop
  | .slow => True
  | .val f => ∀ (a b c d : U) (tm : TM) (hp : HP) (nx : Nat) (G : Rv → Prop) (k : U → Rv) (sl : Rv), (∀ i, (getS K e i a b c d tm).wf) → hpW hp → G sl →
      (∀ u, ValOK tb N (fun x => (rdS K e x a b c d tm).toV) op hp nx u hp → G (k u)) → G (f a b c d tm hp nx k sl)
  | .mem f => ∀ (a b c d : U) (tm : TM) (hp : HP) (nx : Nat) (G : Rv → Prop) (k : U → HP → Rv) (sl : Rv), (∀ i, (getS K e i a b c d tm).wf) → hpW hp → G sl →
      (∀ u hp', ValOK tb N (fun x => (rdS K e x a b c d tm).toV) op hp nx u hp' → G (k u hp')) → G (f a b c d tm hp nx k sl)
  | .cal f => ∀ (a b c d : U) (tm : TM) (G : Rv → Prop) (k : FuncId → List U → Rv) (sl : Rv), (∀ i, (getS K e i a b c d tm).wf) → G sl →
      (∀ g args, CalOK (fun x => (rdS K e x a b c d tm).toV) op g args → G (k g args)) → G (f a b c d tm k sl)

theorem noOb : ∀ p ∈ ([] : List Ob), p.holds := fun p hp => by cases hp
theorem oneOb {p : Ob} (h : p.holds) : ∀ q ∈ [p], q.holds := by intro q hq; rw [List.mem_singleton.1 hq]; exact h

theorem vok {ev : Operand → V} {op : Op} {hp : HP} {nx : Nat} {u : U} {ps : List Ob} {v : V} (W : hpW hp) (h : evAny ⟨tb, fun _ => none, 1, N⟩ nx (hpH hp) ev op = some (ps, v, [])) (hps : ∀ p ∈ ps, p.holds) (hv : VLe v u.toV) (hw : u.wf) : ValOK tb N ev op hp nx u hp :=
  ⟨⟨ps, v, [], h, hps, hv, rfl⟩, hw, W⟩

theorem rd_wf {a b c d : U} {tm : TM} (h : ∀ i, (getS K e i a b c d tm).wf) (x : Operand) : (rdS K e x a b c d tm).wf := by
  cases x with
  | tmp i => exact h i
  | const v => exact uOfV_wf (cv v)
  | _ => trivial

theorem tvp {u : U} {a o : Nat} (h : u = .ptr a o) : u.toV = .ptr a o := by rw [h]; rfl
theorem tvg {u : U} {a v o : Nat} (h : u = .gp a v o) : u.toV = .gp a v o := by rw [h]; rfl
theorem tvs {u : U} {a v e o l : Nat} (h : u = .gsl a v e o l) : u.toV = .gsl a v e o l := by rw [h]; rfl
theorem tvi {u : U} {k : IntKind} {n : Int} (h : u = .int k n) : u.toV = .int k n := by rw [h]; rfl
theorem tvb {u : U} {b : Bool} (h : u = .kb b) : u.toV = .kb b := by rw [h]; rfl
theorem tvo {u : U} {v : V} (h : u = .oth v) : u.toV = v := by rw [h]; rfl
theorem tva {u : U} {t : CT} {n : Nat} {cs : List V} (hc : CsR t n cs) (h : u = .agg t n) : u.toV = .agg cs := by rw [h]; show V.agg (toL t n) = _; rw [hc.toL]
theorem tvt {u : U} {l : List W} (h : u = .tup l) : u.toV = .tup (l.map W.toV) := by rw [h]; rfl

/-! ## operands -/

theorem getKS_ok {S : Stp → Prop} {i : Nat} {k : Gt → Stp} (h : ∀ g, g = getS K e i → S (k g)) : S (getKS K e i k) := by
  unfold getKS
  unfold getS at h
  cases h0 : Nat.beq e.e0 (Nat.succ i)
  case true => exact h _ (by rw [h0])
  rw [h0] at h
  cases h1 : Nat.beq e.e1 (Nat.succ i)
  case true => exact h _ (by rw [h1])
  rw [h1] at h
  cases h2 : Nat.beq e.e2 (Nat.succ i)
  case true => exact h _ (by rw [h2])
  rw [h2] at h
  cases h3 : Nat.beq e.e3 (Nat.succ i)
  case true => exact h _ (by rw [h3])
  rw [h3] at h
  cases h4 : isK K i
  case true => exact h _ (by rw [h4]; rfl)
  exact h _ (by rw [h4])
theorem opdS_ok {S : Stp → Prop} {x : Operand} {k : Gt → Stp} (h : ∀ g, g = rdS K e x → S (k g)) : S (opdS K e x k) := by
  cases x with
  | tmp i => exact getKS_ok (S := S) (fun g hg => h g hg)
  | const v =>
    show S (U.rec (motive := fun _ => Stp) _ _ _ _ _ _ _ _ (uOfV (cv v)))
    have h : ∀ g, g = (fun _ _ _ _ _ => uOfV (cv v)) → S (k g) := h
    cases hu : uOfV (cv v) <;> (rw [hu] at h; exact h _ rfl)
  | global i => exact h _ rfl
  | func f => exact h _ rfl
theorem opdsS_ok {S : Stp → Prop} : ∀ {l : List Operand} {k : List Gt → Stp}, (∀ gs, gs = l.map (rdS K e) → S (k gs)) → S (opdsS K e l k)
  | [], k, h => h _ rfl
  | x :: l, k, h => opdS_ok (S := S) fun g hg => opdsS_ok (S := S) (l := l) fun gs hgs => h _ (by rw [hg, hgs]; rfl)
def pgOK (K : Nat) (e : En) (pi : Nat → PI) : List (Nat × Operand) → List PG → Prop
  | [], [] => True
  | q :: l, .at o s g :: gs => pi q.1 = .at o s ∧ g = rdS K e q.2 ∧ pgOK K e pi l gs
  | _, _ => False
theorem partsS_ok {S : Stp → Prop} (h0 : S .slow) {pi : Nat → PI} : ∀ {l : List (Nat × Operand)} {k : List PG → Stp}, (∀ gs, pgOK K e pi l gs → S (k gs)) → S (partsS K e pi l k)
  | [], k, h => h _ trivial
  | q :: l, k, h => by
    show S (PI.rec (motive := fun _ => Stp) .slow (fun o s => opdS K e q.2 fun g => partsS K e pi l fun gs => k (.at o s g :: gs)) (pi q.1))
    cases hp : pi q.1 with
    | no => exact h0
    | «at» o s => exact opdS_ok (S := S) fun g hg => partsS_ok (S := S) h0 (l := l) fun gs hgs => h _ ⟨hp, hg, hgs⟩

/-! ## loads and stores -/

theorem get_cells {hp : HP} (W : hpW hp) {h : Nat} {t : CT} {n : Nat} (hg : blkAt hp h = .cells t n) : ∃ cs, CsR t n cs ∧ hpH hp h = some (.cells cs) ∧ h < 262144 := by
  have hw := W h
  rw [hg] at hw
  obtain ⟨cs, hc⟩ := hw
  exact ⟨cs, hc, by unfold hpH; rw [hg]; show some (Blk.cells (toL t n)) = _; rw [hc.toL], blk_lt (by rw [hg]; exact fun h => by cases h)⟩
theorem get_grow {hp : HP} (W : hpW hp) {h v ez : Nat} {t : CT} {n : Nat} (hg : blkAt hp h = .grow v ez t n) : ∃ cs, CsR t n cs ∧ hpH hp h = some (.grow v ez cs) ∧ h < 262144 := by
  have hw := W h
  rw [hg] at hw
  obtain ⟨cs, hc⟩ := hw
  exact ⟨cs, hc, by unfold hpH; rw [hg]; show some (Blk.grow v ez (toL t n)) = _; rw [hc.toL], blk_lt (by rw [hg]; exact fun h => by cases h)⟩

theorem tyI_one {t : TypeId} (h : tyI tb t = .one) : ∃ td, tb t = some td ∧ td.kind.agg = false ∧ td.size = 1 := by
  unfold tyI at h
  split at h
  · rename_i td ht
    refine ⟨td, ht, ?_⟩
    split at h
    · cases h
    · rename_i ha
      split at h
      · rename_i hs; exact ⟨by simpa using ha, hs⟩
      · cases h
  · cases h
theorem tyI_agg {t : TypeId} {n : Nat} (h : tyI tb t = .agg n) : ∃ td, tb t = some td ∧ td.kind.agg = true ∧ td.size = n := by
  unfold tyI at h
  split at h
  · rename_i td ht
    refine ⟨td, ht, ?_⟩
    split at h
    · rename_i ha; cases h; exact ⟨ha, rfl⟩
    · split at h <;> cases h
  · cases h

theorem cU_toV (c : C) : (cU c).toV = c.toV := by cases c <;> rfl
theorem cU_wf (c : C) : (cU c).wf := by cases c <;> trivial

def LdOK (tb : Tbl) (t : TypeId) (f : LdF) : Prop := ∃ td, tb t = some td ∧ ∀ (G : Rv → Prop) (ct : CT) (n : Nat) (cs : List V) (o : Nat) (k : U → Rv) (sl : Rv), CsR ct n cs → G sl → (∀ u v, ld td cs o = .val [] v [] → v = u.toV → u.wf → G (k u)) → G (f ct n o k sl)
theorem ldS_ok {S : Stp → Prop} (h0 : S .slow) {t : TypeId} {k : LdF → Stp} (h : ∀ f, LdOK tb t f → S (k f)) : S (ldS (tyI tb t) k) := by
  cases hi : tyI tb t with
  | no => exact h0
  | one =>
    obtain ⟨td, ht, ha, hs⟩ := tyI_one hi
    refine h ldOne ⟨td, ht, fun G ct n cs o k sl hc h0 hk => g_ck h0 fun hb => ?_⟩
    have hlt : o < n := ble_of hb
    refine hk _ (cellAt ct o).toV ?_ (cU_toV _).symm (cU_wf _)
    unfold ld
    rw [ha, hc.get o hlt]
    rfl
  | agg m =>
    obtain ⟨td, ht, ha, hs⟩ := tyI_agg hi
    refine h (ldAgg m) ⟨td, ht, fun G ct n cs o k sl hc h0 hk => g_ck h0 fun hb => ?_⟩
    have hle : o + m ≤ n := ble_of hb
    have hld : ld td cs o = .val [] (.agg ((cs.drop o).take m)) [] := by
      unfold ld
      rw [ha, hs, if_pos rfl, if_pos (by rw [hc.len]; exact hle)]
    cases hm : Nat.beq m n with
    | false =>
      have := hc.sub hle
      exact hk _ _ hld (by show _ = V.agg (toL _ _); rw [this.toL]) ⟨_, this⟩
    | true =>
      have e1 := beq_of hm
      have e0 : o = 0 := by omega
      subst e0
      subst e1
      refine hk _ _ hld ?_ ⟨_, hc⟩
      show _ = V.agg (toL ct m)
      rw [hc.toL, List.drop_zero, List.take_of_length_le (by rw [hc.len]; exact Nat.le_refl _)]

theorem v1cells {v : V} (h : v.one = true) : cellsOf v = some [v] := by cases v <;> first | rfl | cases h

def SfOK (tb : Tbl) (t : TypeId) (f : StF) : Prop := ∃ td, tb t = some td ∧ ∀ (G : Rv → Prop) (x : U) (ct : CT) (n : Nat) (cs : List V) (o : Nat) (k : CT → Rv) (sl : Rv), x.wf → CsR ct n cs → G sl →
  (∀ xs ct', cellsOf x.toV = some xs → xs.length = td.size → xs.all V.one = true → o + td.size ≤ cs.length → CsR ct' n (splice cs o xs) → G (k ct')) → G (f x ct n o k sl)
theorem stS_ok {S : Stp → Prop} (h0 : S .slow) {t : TypeId} {k : StF → Stp} (h : ∀ f, SfOK tb t f → S (k f)) : S (stS (tyI tb t) k) := by
  cases hi : tyI tb t with
  | no => exact h0
  | one =>
    obtain ⟨td, ht, ha, hs⟩ := tyI_one hi
    refine h stOne ⟨td, ht, fun G x ct n cs o k sl hx hc h0 hk => g_ck h0 fun hb => g_uC h0 fun c hcv h1 => ?_⟩
    have hlt : o < n := ble_of hb
    rw [hcv] at h1
    refine hk [x.toV] _ (v1cells h1) (by rw [hs]; rfl) (by simp [h1]) (by rw [hs, hc.len]; exact hlt) ?_
    rw [← set_splice (by rw [hc.len]; exact hlt), ← hcv]
    exact hc.put hlt (by rw [hcv]; exact h1)
  | agg m =>
    obtain ⟨td, ht, ha, hs⟩ := tyI_agg hi
    refine h (stAgg m) ⟨td, ht, fun G x ct n cs o k sl hx hc h0 hk => g_uAgg h0 fun xt m' hxe => g_ck h0 fun hb => g_ck h0 fun hle => ?_⟩
    have e1 : m = m' := beq_of hb
    subst e1
    subst hxe
    obtain ⟨xs, hxs⟩ := hx
    have hle : o + m ≤ n := ble_of hle
    have hall : xs.all V.one = true := List.all_eq_true.2 hxs.one
    have hcl : cellsOf (U.agg xt m).toV = some xs := by show some (toL xt m) = _; rw [hxs.toL]
    cases hm : Nat.beq m n with
    | false => exact hk xs _ hcl (by rw [hs, hxs.len]) hall (by rw [hs, hc.len]; exact hle) (hc.splice hxs hle rfl)
    | true =>
      have e1 := beq_of hm
      subst e1
      have e0 : o = 0 := by omega
      subst e0
      refine hk xs _ hcl (by rw [hs, hxs.len]) hall (by rw [hs, hc.len]; exact hle) ?_
      have : splice cs 0 xs = xs := by
        unfold splice
        rw [List.take_zero, List.nil_append, List.drop_eq_nil_of_le (by rw [hc.len, hxs.len]; omega), List.append_nil]
      rw [this]
      exact hxs

theorem cLoad_ok {t : TypeId} {x : Operand} : StOK tb N K e (.load t x) (cLoad t x K e tb) := by
  refine ldS_ok (S := StOK tb N K e (.load t x)) trivial fun f hf => opdS_ok (S := StOK tb N K e (.load t x)) fun gx hgx => ?_
  subst hgx
  intro a b c d tm hp nx G k sl Wg W h0 h
  obtain ⟨td, ht, hf⟩ := hf
  refine g_uAdr h0 (fun q o hx => g_bkC h0 fun ct n hg => ?_) (fun q v o hx => g_bkG h0 fun v' ez ct n hg => g_ck h0 fun hb => ?_)
  · obtain ⟨cs, hc, hH, _⟩ := get_cells W hg
    refine hf G ct n cs o k sl hc h0 fun u v hl hv hw => h u (vok W (ps := []) (v := v) ?_ noOb (VLe.of_eq hv) hw)
    simp only [evAny, evSt, evOp, ht, tvp hx, evLoadG, evLoad, hH, hl]
  · obtain ⟨cs, hc, hH, _⟩ := get_grow W hg
    have e1 := beq_of hb
    subst e1
    refine hf G ct n cs o k sl hc h0 fun u v' hl hv hw => h u (vok W (ps := []) (v := v') ?_ noOb (VLe.of_eq hv) hw)
    simp only [evAny, evSt, evOp, ht, tvg hx, evLoadG, hH, hl, if_true]

theorem cStore_ok {t : TypeId} {x y : Operand} : StOK tb N K e (.store t x y) (cStore t x y K e tb) := by
  refine stS_ok (S := StOK tb N K e (.store t x y)) trivial fun f hf => opdS_ok (S := StOK tb N K e (.store t x y)) fun gx hgx => opdS_ok (S := StOK tb N K e (.store t x y)) fun gy hgy => ?_
  subst hgx
  subst hgy
  intro a b c d tm hp nx G k sl Wg W h0 h
  obtain ⟨td, ht, hf⟩ := hf
  refine g_uAdr h0 (fun q o hx => g_bkC h0 fun ct n hg => ?_) (fun q v o hx => g_bkG h0 fun v' ez ct n hg => g_ck h0 fun hb => ?_)
  · obtain ⟨cs, hc, hH, hl⟩ := get_cells W hg
    refine hf G _ ct n cs o _ sl (rd_wf Wg y) hc h0 fun xs ct' hcl hlen hall hle hct => h _ _ ⟨⟨[], .tup [], [(q, .cells (splice cs o xs))], ?_, noOb, VLe.refl _, ?_⟩, fun w hw => (by cases hw), hpW_put W hl ⟨_, hct⟩⟩
    · simp only [evAny, evSt, ht, tvp hx, evStoreG, evStore, hcl, hlen, hall, hH, if_true, and_self, hle]
    · rw [hpH_put hl (B := .cells (splice cs o xs))]
      show some (Blk.cells (toL ct' n)) = _
      rw [hct.toL]
  · obtain ⟨cs, hc, hH, hl⟩ := get_grow W hg
    have e1 := beq_of hb
    subst e1
    refine hf G _ ct n cs o _ sl (rd_wf Wg y) hc h0 fun xs ct' hcl hlen hall hle hct => h _ _ ⟨⟨[], .tup [], [(q, .grow v ez (splice cs o xs))], ?_, noOb, VLe.refl _, ?_⟩, fun w hw => (by cases hw), hpW_put W hl ⟨_, hct⟩⟩
    · simp only [evAny, evSt, ht, tvg hx, evStoreG, hcl, hlen, hall, hH, if_true, and_self, hle, true_and]
    · rw [hpH_put hl (B := .grow v ez (splice cs o xs))]
      show some (Blk.grow v ez (toL ct' n)) = _
      rw [hct.toL]

/-! ## the others -/

theorem cMove_ok {x : Operand} : StOK tb N K e (.move x) (cMove x K e tb) ∧ StOK tb N K e (.assign x) (cMove x K e tb) := by
  constructor
  · refine opdS_ok (S := StOK tb N K e (.move x)) fun gx hgx => ?_
    subst hgx
    intro a b c d tm hp nx G k sl Wg W h0 h
    exact h _ (vok W (ps := []) (v := (rdS K e x a b c d tm).toV) (by simp only [evAny, evSt, evOp]) noOb (VLe.refl _) (rd_wf Wg x))
  · refine opdS_ok (S := StOK tb N K e (.assign x)) fun gx hgx => ?_
    subst hgx
    intro a b c d tm hp nx G k sl Wg W h0 h
    exact h _ (vok W (ps := []) (v := (rdS K e x a b c d tm).toV) (by simp only [evAny, evSt, evOp]) noOb (VLe.refl _) (rd_wf Wg x))

theorem cPick_ok {p x y : Operand} : StOK tb N K e (.pick p x y) (cPick p x y K e tb) := by
  refine opdS_ok (S := StOK tb N K e (.pick p x y)) fun gp hgp => opdS_ok (S := StOK tb N K e (.pick p x y)) fun gx hgx => opdS_ok (S := StOK tb N K e (.pick p x y)) fun gy hgy => ?_
  subst hgp; subst hgx; subst hgy
  intro a b c d tm hp nx G k sl Wg W h0 h
  refine g_uKb h0 fun q hq => ?_
  cases q with
  | true => exact h _ (vok W (ps := []) (v := (rdS K e x a b c d tm).toV) (by simp only [evAny, evSt, evOp, tvb hq, evPick]) noOb (VLe.refl _) (rd_wf Wg x))
  | false => exact h _ (vok W (ps := []) (v := (rdS K e y a b c d tm).toV) (by simp only [evAny, evSt, evOp, tvb hq, evPick]) noOb (VLe.refl _) (rd_wf Wg y))

theorem zeroT_at {t : TypeId} {z : CT} {n : Nat} (h : zeroT tb t = .at z n) : ∃ td, tb t = some td ∧ CsR z n td.zero := by
  unfold zeroT at h
  split at h
  · rename_i td ht
    cases ho : okL td.zero with
    | false => rw [ho] at h; cases h
    | true =>
      rw [ho] at h
      cases h
      exact ⟨td, ht, CsR.ofL ho⟩
  · cases h

/-- a new block -/
theorem g_newB {G : Rv → Prop} {m : Nat} {hp : HP} {b : Bk} {u : U} {k : U → HP → Rv} {sl : Rv} (h0 : G sl) (h : m < 262144 → G (k u (blkPut hp m b))) : G (newB m hp b u k sl) := g_ck h0 fun hb => h (ble_of hb)

theorem cAlloc_ok {t : TypeId} : StOK tb N K e (.alloc t) (cAlloc t K e tb) := by
  unfold cAlloc
  cases hz : zeroT tb t with
  | no => trivial
  | «at» z n =>
    obtain ⟨td, ht, hc⟩ := zeroT_at hz
    intro a b c d tm hp nx G k sl Wg W h0 h
    show G (numR nx _)
    rw [numR_eq]
    refine g_newB h0 fun hm => h _ _ ⟨⟨[], .ptr nx 0, [(nx, .cells td.zero)], by simp only [evAny, evSt, evOp, ht], noOb, VLe.refl _, hpH_put hm ?_⟩, trivial, hpW_put W hm ⟨_, hc⟩⟩
    show some (Blk.cells (toL z n)) = _
    rw [hc.toL]

theorem cBox_ok {t : TypeId} {x : Operand} : StOK tb N K e (.box t x) (cBox t x K e tb) := by
  refine opdS_ok (S := StOK tb N K e (.box t x)) fun gx hgx => ?_
  subst hgx
  intro a b c d tm hp nx G k sl Wg W h0 h
  show G (numR nx _)
  rw [numR_eq]
  have hw := rd_wf Wg x
  refine g_uCA h0 (fun c1 hc1 h1 => g_newB h0 fun hm => ?_) fun t' n hx => g_newB h0 fun hm => ?_
  · have hc : CsR (cellPut ct0 0 c1) 1 ([] ++ [c1.toV]) := (CsR.nil ct0).push (by omega) h1
    rw [List.nil_append, hc1] at hc
    rw [hc1] at h1
    refine h _ _ ⟨⟨[], .ptr nx 0, [(nx, .cells [(rdS K e x a b c d tm).toV])], by simp only [evAny, evSt, evOp, v1cells h1], noOb, VLe.refl _, hpH_put hm ?_⟩, trivial, hpW_put W hm ⟨_, hc⟩⟩
    show some (Blk.cells (toL _ 1)) = _
    rw [hc.toL]
  · rw [hx] at hw
    obtain ⟨cs, hc⟩ := hw
    refine h _ _ ⟨⟨[], .ptr nx 0, [(nx, .cells cs)], by simp only [evAny, evSt, evOp, tva hc hx, cellsOf], noOb, VLe.refl _, hpH_put hm ?_⟩, trivial, hpW_put W hm ⟨_, hc⟩⟩
    show some (Blk.cells (toL t' n)) = _
    rw [hc.toL]

theorem fldO_at {t : TypeId} {f d : Nat} (h : fldO tb t f = some d) : ∃ td fs ft tf, tb t = some td ∧ td.kind = .struct fs ∧ fs[f]? = some (d, ft) ∧ tb ft = some tf ∧ ¬ tf.size = 0 := by
  unfold fldO at h
  split at h
  case h_2 => cases h
  rename_i td ht
  split at h
  case h_2 => cases h
  rename_i fs hk
  split at h
  case h_2 => cases h
  rename_i o ft hf
  split at h
  case h_2 => cases h
  rename_i tf htf
  split at h
  · cases h
  · rename_i hs
    cases h
    exact ⟨td, fs, ft, tf, ht, hk, hf, htf, hs⟩

theorem cFA_ok {t : TypeId} {x : Operand} {f : Nat} : StOK tb N K e (.fieldAddr t x f) (cFA t x f K e tb) := by
  unfold cFA
  cases hd : fldO tb t f with
  | none => trivial
  | some o1 =>
    obtain ⟨td, fs, ft, tf, ht, hk, hf, htf, hs⟩ := fldO_at hd
    refine opdS_ok (S := StOK tb N K e (.fieldAddr t x f)) fun gx hgx => ?_
    subst hgx
    intro a b c d tm hp nx G k sl Wg W h0 h
    refine g_uAdr h0 (fun q o hx => ?_) (fun q v o hx => ?_)
    · exact h _ (vok W (ps := []) (v := .ptr q (o + o1)) (by simp only [evAny, evSt, evOp, ht, tvp hx, evFieldG, evField, hk, hf, htf, hs, if_false]) noOb (VLe.refl _) trivial)
    · exact h _ (vok W (ps := []) (v := .gp q v (o + o1)) (by simp only [evAny, evSt, evOp, ht, tvg hx, evFieldG, hk, hf, htf, hs, if_false]) noOb (VLe.refl _) trivial)

theorem cFV_ok {t : TypeId} {x : Operand} {f : Nat} : StOK tb N K e (.field t x f) (cFV t x f K e tb) := by
  unfold cFV
  cases hv : fldV tb t f with
  | no => trivial
  | «at» o i =>
    unfold fldV at hv
    split at hv
    case h_2 => cases hv
    rename_i td ht
    split at hv
    case h_2 => cases hv
    rename_i fs hk
    split at hv
    case h_2 => cases hv
    rename_i o' ft hf
    cases hv
    refine ldS_ok (S := StOK tb N K e (.field t x f)) trivial fun f1 hf1 => opdS_ok (S := StOK tb N K e (.field t x f)) fun gx hgx => ?_
    subst hgx
    intro a b c d tm hp nx G k sl Wg W h0 h
    obtain ⟨tf, htf, hf1⟩ := hf1
    have hw := rd_wf Wg x
    refine g_uAgg h0 fun ct n hx => ?_
    have hx0 := hx
    rw [hx] at hw
    obtain ⟨cs, hc⟩ := hw
    refine hf1 G ct n cs _ k sl hc h0 fun u v hl hv hw => h u (vok W (ps := []) (v := v) ?_ noOb (VLe.of_eq hv) hw)
    simp only [evAny, evSt, evOp, ht, tva hc hx0, evFieldVal, hk, hf, htf, hl]

theorem cIA_ok {t : TypeId} {x i : Operand} : StOK tb N K e (.indexAddr t x i) (cIA t x i K e tb) := by
  unfold cIA
  cases hx : idxI tb t with
  | no => trivial
  | sl esz =>
    unfold idxI at hx
    split at hx
    case h_2 => cases hx
    rename_i td ht
    split at hx
    case h_2 => split at hx <;> cases hx
    case h_3 => cases hx
    rename_i et hk
    split at hx
    case h_2 => cases hx
    rename_i te hte
    cases hx
    refine opdS_ok (S := StOK tb N K e (.indexAddr t x i)) fun gx hgx => opdS_ok (S := StOK tb N K e (.indexAddr t x i)) fun gi hgi => ?_
    subst hgx; subst hgi
    intro a b c d tm hp nx G k sl Wg W h0 h
    refine g_uInt h0 fun ik n hi => g_pos h0 fun m hn => g_uGsl h0 fun q v e' o l hu => g_ck h0 fun hb => g_bkG h0 fun v' e2 ct n2 hg => g_ck h0 fun h1 => g_ck h0 fun h2 => g_ck h0 fun h3 => ?_
    subst hn
    obtain ⟨cs, hc, hH, _⟩ := get_grow W hg
    have hlt : m < l := ble_of hb
    have e1 := beq_of h1
    have e3 := beq_of h2
    have e4 := beq_of h3
    subst e1
    subst e3
    subst e4
    exact h _ (vok W (ps := [.rng (.ofNat m) l]) (v := .gp q v ((o + m) * te.size)) (by simp only [evAny, evSt, evOp, ht, tvs hu, tvi hi, evIndexG, hk, hte, hH, and_self, if_true]; rfl) (oneOb ⟨by show (0 : Int) ≤ (m : Int); omega, by show (m : Int) < l; omega⟩) (VLe.refl _) trivial)
  | ar l esz =>
    unfold idxI at hx
    split at hx
    case h_2 => cases hx
    rename_i td ht
    split at hx
    case h_1 => split at hx <;> cases hx
    case h_3 => cases hx
    rename_i l' et hk
    split at hx
    case h_2 => cases hx
    rename_i te hte
    cases hx
    refine opdS_ok (S := StOK tb N K e (.indexAddr t x i)) fun gx hgx => opdS_ok (S := StOK tb N K e (.indexAddr t x i)) fun gi hgi => ?_
    subst hgx; subst hgi
    intro a b c d tm hp nx G k sl Wg W h0 h
    refine g_uInt h0 fun ik n hi => g_pos h0 fun m hn => g_ck h0 fun hb => g_uAdr h0 (fun q o hu => ?_) (fun q v o hu => ?_)
    · have hlt : m < l := ble_of hb
      subst hn
      exact h _ (vok W (ps := [.rng (.ofNat m) l]) (v := .ptr q (o + m * te.size)) (by simp only [evAny, evSt, evOp, ht, tvp hu, tvi hi, evIndexG, evIndex, hk, hte]; rfl) (oneOb ⟨by show (0 : Int) ≤ (m : Int); omega, by show (m : Int) < l; omega⟩) (VLe.refl _) trivial)
    · have hlt : m < l := ble_of hb
      subst hn
      exact h _ (vok W (ps := [.rng (.ofNat m) l]) (v := .gp q v (o + m * te.size)) (by simp only [evAny, evSt, evOp, ht, tvg hu, tvi hi, evIndexG, hk, hte]; rfl) (oneOb ⟨by show (0 : Int) ≤ (m : Int); omega, by show (m : Int) < l; omega⟩) (VLe.refl _) trivial)

theorem cIdx_ok {t : TypeId} {x i : Operand} : StOK tb N K e (.index t x i) (cIdx t x i K e tb) := by
  unfold cIdx
  cases hx : ixvI tb t with
  | no => trivial
  | «at» l esz ti =>
    unfold ixvI at hx
    split at hx
    case h_2 => cases hx
    rename_i td ht
    split at hx
    case h_2 => cases hx
    rename_i l' et hk
    split at hx
    case h_2 => cases hx
    rename_i te hte
    cases hx
    refine ldS_ok (S := StOK tb N K e (.index t x i)) trivial fun f1 hf1 => opdS_ok (S := StOK tb N K e (.index t x i)) fun gx hgx => opdS_ok (S := StOK tb N K e (.index t x i)) fun gi hgi => ?_
    subst hgx; subst hgi
    intro a b c d tm hp nx G k sl Wg W h0 h
    obtain ⟨tf, htf, hf1⟩ := hf1
    rw [hte] at htf
    cases htf
    have hw := rd_wf Wg x
    refine g_uInt h0 fun ik n hi => g_pos h0 fun m hn => g_ck h0 fun hb => g_uAgg h0 fun ct n1 hx => ?_
    subst hn
    have hx0 := hx
    rw [hx] at hw
    obtain ⟨cs, hc⟩ := hw
    have hlt : m < l := ble_of hb
    refine hf1 G ct n1 cs _ k sl hc h0 fun u v hl hv hw => h u (vok W (ps := [.rng (.ofNat m) l]) (v := v) ?_ (oneOb ⟨by show (0 : Int) ≤ (m : Int); omega, by show (m : Int) < l; omega⟩) (VLe.of_eq hv) hw)
    have hl : ld te cs ((Int.ofNat m).toNat * te.size) = .val [] v [] := hl
    simp only [evAny, evSt, evOp, ht, tva hc hx0, tvi hi, evIdxVal, hk, hte, hl]

theorem cBin_ok {op : BinOp} {t t2 : TypeId} {x y : Operand} : StOK tb N K e (.binOp op t x y t2) (cBin op t x y t2 K e tb) := by
  unfold cBin
  cases hty : tyB tb t with
  | false => trivial
  | true =>
    obtain ⟨td, ht⟩ : ∃ td, tb t = some td := by
      unfold tyB at hty
      split at hty
      · exact ⟨_, by assumption⟩
      · cases hty
    have main : ∀ f : BinV, (∀ (ik : IntKind) (p q : Int) (G : Rv → Prop) (k : U → Rv) (sl : Rv), G sl → (∀ u ps v, evBin td op (.int ik p) (.int ik q) = .val ps v [] → (∀ p ∈ ps, p.holds) → VLe v u.toV → u.wf → G (k u)) → G (f ik p q k sl)) →
        StOK tb N K e (.binOp op t x y t2) (opdS K e x fun gx => opdS K e y fun gy => .val fun a b c d tm _ _ => binG f (gx a b c d tm) (gy a b c d tm)) := fun f hf => by
      refine opdS_ok (S := StOK tb N K e (.binOp op t x y t2)) fun gx hgx => opdS_ok (S := StOK tb N K e (.binOp op t x y t2)) fun gy hgy => ?_
      subst hgx; subst hgy
      intro a b c d tm hp nx G k sl Wg W h0 h
      refine g_uInt h0 fun ik p hx => g_uInt h0 fun ik' q hy => g_ck h0 fun hk => ?_
      have e1 := ikEq_of hk
      subst e1
      refine hf ik p q G k sl h0 fun u ps v hr hps hv hw => h u (vok W (ps := ps) (v := v) ?_ hps hv hw)
      simp only [evAny, evSt, evOp, ht, tvi hx, tvi hy, hr]
    have bo : ∀ (f : BinV) (r s : IntKind → Int → Int → Bool), (∀ ik p q k sl, f ik p q k sl = k (.kb (r ik p q))) → (∀ ik p q, r ik p q = s ik p q) → (∀ ik p q, evBin td op (.int ik p) (.int ik q) = .val [] (.bool (s ik p q)) []) →
        StOK tb N K e (.binOp op t x y t2) (opdS K e x fun gx => opdS K e y fun gy => .val fun a b c d tm _ _ => binG f (gx a b c d tm) (gy a b c d tm)) := fun f r s h1 h2 h3 => main f fun ik p q G k sl h0 h => by
      rw [h1]
      exact h _ [] _ (h3 ik p q) noOb (by rw [h2]; exact kb_le _) trivial
    have nu : ∀ (f : BinV) (r s : IntKind → Int → Int → Int), (∀ ik p q k sl, f ik p q k sl = k (.int ik (r ik p q))) → (∀ ik p q, r ik p q = s ik p q) → (∀ ik p q, evBin td op (.int ik p) (.int ik q) = .val [] (.int ik (s ik p q)) []) →
        StOK tb N K e (.binOp op t x y t2) (opdS K e x fun gx => opdS K e y fun gy => .val fun a b c d tm _ _ => binG f (gx a b c d tm) (gy a b c d tm)) := fun f r s h1 h2 h3 => main f fun ik p q G k sl h0 h => by
      rw [h1]
      exact h _ [] _ (h3 ik p q) noOb (by rw [h2]; exact VLe.refl _) trivial
    cases op with
    | add => exact nu fAdd (fun ik p q => addS ik p q) (fun ik p q => ik.wrap (p + q)) (fun _ _ _ _ _ => rfl) addS_eq (fun ik p q => by simp only [evBin, if_true])
    | sub => exact nu fSub (fun ik p q => subS ik p q) (fun ik p q => ik.wrap (p - q)) (fun _ _ _ _ _ => rfl) subS_eq (fun ik p q => by simp only [evBin, if_true])
    | mul => exact nu fMul (fun ik p q => mulS ik p q) (fun ik p q => ik.wrap (p * q)) (fun _ _ _ _ _ => rfl) mulS_eq (fun ik p q => by simp only [evBin, if_true])
    | quo =>
      refine main fQuo fun ik p q G k sl h0 h => g_nn2 h0 fun m n ha hb => g_ck h0 fun h1 => ?_
      have h1 : 1 ≤ n := ble_of h1
      subst ha; subst hb
      refine h _ [.ne0 (.ofNat n)] (.int ik (ik.wrap ((Int.ofNat m).tdiv (.ofNat n)))) (by simp only [evBin, if_true]) (oneOb (by show ¬ (n : Int) = 0; omega)) ?_ trivial
      have : fitI ik (Nat.div m n) (ik.wrap ((Int.ofNat m).tdiv (.ofNat n))) = ik.wrap ((Int.ofNat m).tdiv (.ofNat n)) := fitI_eq (by rfl)
      show VLe _ (V.int ik (fitI ik (Nat.div m n) _))
      rw [this]
      exact VLe.refl _
    | rem =>
      refine main fRem fun ik p q G k sl h0 h => g_nn2 h0 fun m n ha hb => g_ck h0 fun h1 => ?_
      have h1 : 1 ≤ n := ble_of h1
      subst ha; subst hb
      exact h _ [.ne0 (.ofNat n)] (.int ik ((Int.ofNat m).tmod (.ofNat n))) (by simp only [evBin, if_true]) (oneOb (by show ¬ (n : Int) = 0; omega)) (VLe.refl _) trivial
    | and => trivial
    | or => trivial
    | xor => trivial
    | shl => trivial
    | shr => trivial
    | andNot => trivial
    | eql => exact bo fEq (fun _ p q => eqS p q) (fun _ p q => p == q) (fun _ _ _ _ _ => rfl) (fun _ => eqS_eq) (fun ik p q => by simp only [evBin, if_true])
    | neq => exact bo fNe (fun _ p q => notB (eqS p q)) (fun _ p q => p != q) (fun _ _ _ _ _ => rfl) (fun _ p q => by rw [notB_eq, eqS_eq]; rfl) (fun ik p q => by simp only [evBin, if_true])
    | lss => exact bo fLt (fun _ p q => ltS p q) (fun _ p q => decide (p < q)) (fun _ _ _ _ _ => rfl) (fun _ => ltS_eq) (fun ik p q => by simp only [evBin, if_true])
    | leq => exact bo fLe (fun _ p q => leS p q) (fun _ p q => decide (p ≤ q)) (fun _ _ _ _ _ => rfl) (fun _ => leS_eq) (fun ik p q => by simp only [evBin, if_true])
    | gtr => exact bo fGt (fun _ p q => ltS q p) (fun _ p q => decide (p > q)) (fun _ _ _ _ _ => rfl) (fun _ p q => ltS_eq q p) (fun ik p q => by simp only [evBin, if_true])
    | geq => exact bo fGe (fun _ p q => leS q p) (fun _ p q => decide (p ≥ q)) (fun _ _ _ _ _ => rfl) (fun _ p q => leS_eq q p) (fun ik p q => by simp only [evBin, if_true])

theorem cUn_ok {op : UnOp} {t : TypeId} {x : Operand} : StOK tb N K e (.unOp op t x) (cUn op t x K e tb) := by
  cases op with
  | not =>
    refine opdS_ok (S := StOK tb N K e (.unOp .not t x)) fun gx hgx => ?_
    subst hgx
    intro a b c d tm hp nx G k sl Wg W h0 h
    refine g_uKb h0 fun q hx => h _ (vok W (ps := []) (v := .kb (!q)) (by simp only [evAny, evSt, evOp, evUn, tvb hx]) noOb (by rw [← notB_eq]; exact VLe.refl _) trivial)
  | _ => trivial

theorem cConv_ok {s t : TypeId} {x : Operand} : StOK tb N K e (.convert s t x) (cConv s t x K e tb) := by
  unfold cConv
  cases hk : cvI tb s t with
  | none => trivial
  | some ik =>
    unfold cvI at hk
    split at hk
    case h_2 => cases hk
    rename_i ts td hs hd
    split at hk
    case h_2 => cases hk
    rename_i k1 k2 hks hkd
    cases hk
    refine opdS_ok (S := StOK tb N K e (.convert s t x)) fun gx hgx => ?_
    subst hgx
    intro a b c d tm hp nx G k sl Wg W h0 h
    refine g_uInt h0 fun ik' n hx => h _ (vok W (ps := []) (v := .int ik (ik.wrap n)) (by simp only [evAny, evSt, evOp, hs, hd, evConv2, evConv, hks, hkd, tvi hx]) noOb (by rw [← cvS_eq]; exact VLe.refl _) trivial)

theorem capsL_eq (ev : Operand → U) : ∀ l : List Operand, capsL l ev = l.map fun x => (ev x).toV
  | [] => rfl
  | x :: l => by show (ev x).toV :: capsL l ev = _; rw [capsL_eq ev l]; rfl

theorem cMF_ok {fn : Fn} {first caps : Array Operand} : StOK tb N K e (.makeFunc fn first caps) (cMF fn first caps K e tb) := by
  unfold cMF
  cases fn with
  | func f =>
    show StOK tb N K e _ (Bool.rec (motive := fun _ => Stp) .slow _ (Nat.beq first.size 0))
    cases hb : Nat.beq first.size 0 with
    | false => trivial
    | true =>
      have hs := beq_of hb
      intro a b c d tm hp nx G k sl Wg W h0 h
      exact h _ (vok W (ps := []) (v := .fn f (caps.toList.map fun x => (rdS K e x a b c d tm).toV)) (by simp only [evAny, evSt, evOp, hs, if_true]) noOb (by rw [capsL_eq]; exact VLe.refl _) trivial)
  | _ => trivial

theorem wU_toV (w : W) : (wU w).toV = w.toV := by
  cases w with
  | c x => exact cU_toV x
  | agg t n => rfl
theorem wU_wf {w : W} (h : w.wf) : (wU w).wf := by
  cases w with
  | c x => exact cU_wf x
  | agg t n => exact h

theorem g_nth {G : Rv → Prop} {sl : Rv} (h0 : G sl) {k : U → Rv} : ∀ (i : Nat) (l : List W), (∀ w, l[i]? = some w → G (k (wU w))) → G (nthW i l k sl)
  | 0, [], _ => h0
  | 0, w :: _, h => h w rfl
  | i + 1, [], _ => h0
  | i + 1, w :: l, h => g_nth h0 i l h

theorem cExt_ok {x : Operand} {i : Nat} : StOK tb N K e (.extract x i) (cExt x i K e tb) := by
  refine opdS_ok (S := StOK tb N K e (.extract x i)) fun gx hgx => ?_
  subst hgx
  intro a b c d tm hp nx G k sl Wg W h0 h
  have hw := rd_wf Wg x
  refine g_uTup h0 fun l hx => g_nth h0 i l fun w hl => ?_
  have hx0 := hx
  rw [hx] at hw
  exact h _ (vok W (ps := []) (v := w.toV) (by simp only [evAny, evSt, evOp, evExtract, tvt hx0, List.getElem?_map, hl, Option.map_some]) noOb (VLe.of_eq (wU_toV w).symm) (wU_wf (hw w (List.mem_of_getElem? hl))))

theorem cNil_ok {x : Operand} : StOK tb N K e (.nilCheck x) (cNil x K e tb) := by
  refine opdS_ok (S := StOK tb N K e (.nilCheck x)) fun gx hgx => ?_
  subst hgx
  intro a b c d tm hp nx G k sl Wg W h0 h
  refine g_uAdr h0 (fun q o hx => ?_) (fun q v o hx => ?_)
  · exact h _ (vok W (ps := []) (v := .ptr q o) (by simp only [evAny, evSt, evOp, evNil, tvp hx]) noOb (VLe.refl _) trivial)
  · exact h _ (vok W (ps := []) (v := .gp q v o) (by simp only [evAny, evSt, evOp, evNil, tvg hx]) noOb (VLe.refl _) trivial)

/-! ## parts put into their places -/

theorem g_fill {G : Rv → Prop} {sl : Rv} (h0 : G sl) {a b c d : U} {tm : TM} (Wg : ∀ i, (getS K e i a b c d tm).wf) {pi : Nat → PI} {f : Nat → Option (Nat × Nat)} (hf : ∀ i o s, pi i = .at o s → f i = some (o, s)) {n : Nat} : ∀ {l : List (Nat × Operand)} {gs : List PG}, pgOK K e pi l gs → ∀ {t : CT} {cs : List V} {k : CT → Rv}, CsR t n cs →
    (∀ t' cs', CsR t' n cs' → fillV f cs (l.map fun p => (p.1, (rdS K e p.2 a b c d tm).toV)) = some cs' → G (k t')) → G (fillG a b c d tm n gs t k sl)
  | [], [], _, t, cs, k, hc, h => h t cs hc rfl
  | q :: l, .at o s g :: gs, hp, t, cs, k, hc, h => by
    obtain ⟨hp1, hp2, hp3⟩ := hp
    subst hp2
    have hfi := hf _ _ _ hp1
    have hw := rd_wf Wg q.2
    refine g_ck h0 fun hle => ?_
    have hle : o + s ≤ n := ble_of hle
    refine g_uCA h0 (fun x hx h1 => g_ck h0 fun hs => ?_) fun xt m hx => g_ck h0 fun hs => ?_
    · have e1 : s = 1 := beq_of hs
      subst e1
      rw [hx] at h1
      refine g_fill h0 Wg hf hp3 (hc.put (i := o) (x := x) (by omega) (by rw [hx]; exact h1)) fun t' cs' hc' hfl => h t' cs' hc' ?_
      simp only [List.map_cons, fillV, hfi, v1cells h1, List.length_singleton, if_true, hc.len, hle]
      rw [← set_splice (by rw [hc.len]; omega), ← hx]
      exact hfl
    · have e1 : s = m := beq_of hs
      subst e1
      have hx0 := hx
      rw [hx] at hw
      obtain ⟨xs, hxs⟩ := hw
      refine g_fill h0 Wg hf hp3 (hc.splice hxs hle rfl) fun t' cs' hc' hfl => h t' cs' hc' ?_
      simp only [List.map_cons, fillV, hfi, tva hxs hx0, cellsOf, hxs.len, if_true, hc.len, hle]
      exact hfl
  | [], .at _ _ _ :: _, h, _, _, _, _, _ => h.elim
  | _ :: _, [], h, _, _, _, _, _ => h.elim

theorem cBuild_ok {t : TypeId} {parts : Array (Nat × Operand)} : StOK tb N K e (.build t parts) (cBuild t parts K e tb) := by
  unfold cBuild
  cases hb : buildOK tb t with
  | false => trivial
  | true =>
    cases hz : zeroT tb t with
    | no => trivial
    | «at» z n =>
      obtain ⟨td, ht, hc⟩ := zeroT_at hz
      refine partsS_ok (S := StOK tb N K e (.build t parts)) trivial fun gs hgs => ?_
      intro a b c d tm hp nx G k sl Wg W h0 h
      unfold buildOK at hb
      rw [ht] at hb
      simp only at hb
      split at hb
      · rename_i fs hk
        refine g_fill h0 Wg (f := fun i => (fs[i]?).map fun q => (q.1, ((tb q.2).map TD.size).getD 0)) (fun i o s hi => ?_) hgs hc fun t' cs' hc' hfl => ?_
        · unfold partI at hi
          rw [ht] at hi
          simp only [hk] at hi
          split at hi
          · rename_i o' ft hft
            split at hi
            · rename_i tf htf
              cases hi
              simp [hft, htf]
            · cases hi
          · cases hi
        · exact h _ (vok W (ps := []) (v := .agg cs') (by simp only [evAny, evSt, evOp, ht, evBuild, hk, hb, if_true, hfl]) noOb (by show VLe _ (V.agg (toL t' n)); rw [hc'.toL]; exact VLe.refl _) ⟨_, hc'⟩)
      · rename_i l et hk
        obtain ⟨te, hte⟩ := Option.isSome_iff_exists.1 hb
        refine g_fill h0 Wg (f := fun i => some (i * te.size, te.size)) (fun i o s hi => ?_) hgs hc fun t' cs' hc' hfl => ?_
        · unfold partI at hi
          rw [ht] at hi
          simp only [hk, hte] at hi
          cases hi
          rfl
        · exact h _ (vok W (ps := []) (v := .agg cs') (by simp only [evAny, evSt, evOp, ht, evBuild, hk, hte, hfl]) noOb (by show VLe _ (V.agg (toL t' n)); rw [hc'.toL]; exact VLe.refl _) ⟨_, hc'⟩)
      · cases hb

theorem evBSG {td te : TD} {et : TypeId} (hk : td.kind = .slice et) (hte : tb et = some te) (hty : te.ty = none) (H : Heap) (m n : Nat) (parts : List (Nat × V)) : evBuildSliceG tb td H m n parts = if n ≤ 1000 ∧ te.size ≤ 1000 ∧ te.zero.length = te.size then
          match fillV (fun i => some (i * te.size, te.size)) (reps te.zero n) parts with
          | some cs => .val [] (.gsl m m te.size 0 n) [(m, .grow m te.size cs)]
          | none => .bad
        else .bad := by
  have h1 : ∀ H, evBuildSlice tb td H m n parts = .bad := fun H => by simp only [evBuildSlice, hk, hte, hty]
  have h2 : evBuildSlice2 tb td H m n parts = .bad := by
    unfold evBuildSlice2
    rw [h1]
    simp only
    unfold evBuildSeal
    rw [h1]
    cases elSl tb td <;> rfl
  unfold evBuildSliceG
  rw [h2]
  simp only [hk, hte]
  rfl

theorem cBSl_ok {t : TypeId} {n : Nat} {parts : Array (Nat × Operand)} : StOK tb N K e (.buildSlice t n parts) (cBSl t n parts K e tb) := by
  unfold cBSl
  cases hb : bslI tb t n with
  | no => trivial
  | «at» esz z len =>
    unfold bslI at hb
    split at hb
    case h_2 => cases hb
    rename_i td ht
    split at hb
    case h_2 => cases hb
    rename_i et hk
    split at hb
    case h_2 => cases hb
    rename_i te hte
    split at hb
    case isFalse => cases hb
    rename_i hcond
    obtain ⟨h1, h2, h3, h4, h5⟩ := hcond
    cases hb
    have hty : te.ty = none := by cases hq : te.ty with | none => rfl | some _ => rw [hq] at h1; cases h1
    have hc := CsR.ofL h5
    rw [reps_len, h4] at hc
    refine partsS_ok (S := StOK tb N K e (.buildSlice t n parts)) trivial fun gs hgs => ?_
    intro a b c d tm hp nx G k sl Wg W h0 h
    refine g_fill h0 Wg (f := fun i => some (i * te.size, te.size)) (fun i o s hi => (by cases hi; rfl)) hgs hc fun t' cs' hc' hfl => ?_
    show G (numR nx _)
    rw [numR_eq]
    refine g_newB h0 fun hm => h _ _ ⟨⟨[], .gsl nx nx te.size 0 n, [(nx, .grow nx te.size cs')], by simp only [evAny, evSt, evOp, ht, evBSG hk hte hty, h2, h3, h4, and_self, if_true, hfl], noOb, VLe.refl _, hpH_put hm ?_⟩, trivial, hpW_put W hm ⟨_, hc'⟩⟩
    show some (Blk.grow nx te.size (toL t' _)) = _
    rw [hc'.toL]

/-! ## slices -/

theorem g_bnd {G : Rv → Prop} {sl : Rv} (h0 : G sl) {x : Option Operand} {dn : Nat} {ev : Operand → U} {k : Nat → Rv} (h : ∀ m : Nat, bnd (dn : Int) (x.map fun x => (ev x).toV) = some (m : Int) → G (k m)) : G (bndG x dn ev k sl) := by
  cases x with
  | none => exact h dn rfl
  | some x =>
    refine g_uInt h0 fun ik n hx => g_pos h0 fun m hn => h m ?_
    subst hn
    simp only [Option.map_some, tvi hx, bnd]
    rfl

theorem cSlice_ok {t : TypeId} {x : Operand} {lo hi mx : Option Operand} : StOK tb N K e (.slice t x lo hi mx) (cSlice t x lo hi mx K e tb) := by
  unfold cSlice
  cases mx with
  | some _ => trivial
  | none =>
    cases hs : slcI tb t with
    | none => trivial
    | some esz =>
      unfold slcI at hs
      split at hs
      case h_2 => cases hs
      rename_i td ht
      refine opdS_ok (S := StOK tb N K e (.slice t x lo hi none)) fun gx hgx => ?_
      subst hgx
      intro a b c d tm hp nx G k sl Wg W h0 h
      refine g_uGsl h0 fun q v e' o l hu => g_bkG h0 fun v' e2 ct n2 hg => g_ck h0 fun h1 => g_ck h0 fun h2 => g_ck h0 fun h3 => g_bnd h0 fun i hi => g_bnd h0 fun j hj => g_ck h0 fun h4 => g_ck h0 fun h5 => ?_
      obtain ⟨cs, hc, hH, _⟩ := get_grow W hg
      have e1 := beq_of h1
      have e3 := beq_of h2
      have e4 := beq_of h3
      have h4 : j ≤ l := ble_of h4
      have h5 : i < j := ble_of h5
      subst e1
      subst e3
      subst e4
      have hcond : (Nat.beq i 0 || Nat.blt i j) = true := by
        rw [Bool.or_eq_true]
        exact .inr (by rw [Nat.blt_eq]; exact h5)
      refine h _ (vok W (ps := [.sub i j l]) (v := .gsl q v esz (o + i) (j - i)) ?_ (oneOb ⟨by omega, by omega, by omega⟩) (VLe.refl _) trivial)
      have hi : bnd 0 (lo.map fun x => (rdS K e x a b c d tm).toV) = some (i : Int) := hi
      simp only [evAny, evSt, evOp, ht, tvs hu, evSliceG, Option.map_none, hs, hi, hj, hH, and_self, if_true, Int.toNat_natCast, hcond, cond_true]

theorem oneArg_ok {S : Stp → Prop} (h0 : S .slow) {l : List Operand} {k : Operand → Stp} (h : ∀ x, l = [x] → S (k x)) : S (oneArg l k) := by
  match l with
  | [] => exact h0
  | [x] => exact h x rfl
  | _ :: _ :: _ => exact h0
theorem twoArg_ok {S : Stp → Prop} (h0 : S .slow) {l : List Operand} {k : Operand → Operand → Stp} (h : ∀ x y, l = [x, y] → S (k x y)) : S (twoArg l k) := by
  match l with
  | [] => exact h0
  | [x] => exact h0
  | [x, y] => exact h x y rfl
  | _ :: _ :: _ :: _ => exact h0

theorem cLen_ok {q : Call} (hq : q.callee = .builtin .len) : StOK tb N K e (.call q) (cLen q K e tb) := by
  unfold cLen
  cases hs : isSlT tb q with
  | false => trivial
  | true =>
    unfold isSlT at hs
    split at hs
    case h_2 => cases hs
    rename_i t hat
    split at hs
    case h_2 => cases hs
    rename_i td ht
    obtain ⟨et, hk⟩ : ∃ et, td.kind = .slice et := by
      unfold isSlK at hs
      split at hs
      · exact ⟨_, by assumption⟩
      · cases hs
    refine oneArg_ok (S := StOK tb N K e (.call q)) trivial fun x hx => opdS_ok (S := StOK tb N K e (.call q)) fun gx hgx => ?_
    subst hgx
    intro a b c d tm hp nx G k sl Wg W h0 h
    refine g_uSl h0 (fun hu => ?_) (fun hu => ?_) fun r v e' o l hu => g_bkG h0 fun v' e2 ct n2 hg => g_ck h0 fun h1 => g_ck h0 fun h2 => g_ck h0 fun h3 => ?_
    · exact h _ (vok W (ps := []) (v := .int .i64 0) (by simp only [evAny, evSt, evOp, hq, hat, hx, ht, tvo hu, evLenG, evLen, hk]) noOb (VLe.refl _) trivial)
    · exact h _ (vok W (ps := []) (v := .int .i64 0) (by simp only [evAny, evSt, evOp, hq, hat, hx, ht, tvo hu, evLenG, evLen, hk]) noOb (VLe.refl _) trivial)
    · obtain ⟨cs, hc, hH, _⟩ := get_grow W hg
      have e1 := beq_of h1
      have e3 := beq_of h2
      have h3 : l ≤ lenB := ble_of h3
      subst e1
      subst e3
      exact h _ (vok W (ps := []) (v := .int .i64 l) (by simp only [evAny, evSt, evOp, hq, hat, hx, ht, tvs hu, evLenG, hk, hH, h3, and_self, if_true]) noOb (VLe.refl _) trivial)

theorem g_gc {G : Rv → Prop} {sl : Rv} (h0 : G sl) {hp : HP} (W : hpW hp) {esz : Nat} {u : U} {k : Nat → CT → Nat → Rv} (h : ∀ cnt t xo n cs, CsR t n cs → xo + cnt * esz ≤ n → gcells (hpH hp) esz u.toV = some (cnt, (cs.drop xo).take (cnt * esz)) → G (k cnt t xo)) : G (gcG hp esz u k sl) := by
  refine g_uSl h0 (fun hu => ?_) (fun hu => ?_) fun r v e' o l hu => g_bkG h0 fun v' e2 ct n2 hg => g_ck h0 fun h1 => g_ck h0 fun h2 => g_ck h0 fun h3 => g_ck h0 fun h4 => ?_
  · exact h 0 ct0 0 0 [] (.nil _) (by omega) (by simp [tvo hu, gcells])
  · exact h 0 ct0 0 0 [] (.nil _) (by omega) (by simp [tvo hu, gcells])
  · obtain ⟨cs, hc, hH, _⟩ := get_grow W hg
    have e1 := beq_of h1
    have e3 := beq_of h2
    have e4 := beq_of h3
    have h4 : (o + l) * esz ≤ n2 := ble_of h4
    refine h l ct (o * esz) n2 cs hc (by rw [← Nat.add_mul]; exact h4) ?_
    simp only [tvs hu, gcells, hH, e1, e3, e4, and_self, if_true]

theorem cApp_ok {q : Call} (hq : q.callee = .builtin .append) : StOK tb N K e (.call q) (cApp q K e tb) := by
  unfold cApp
  cases ha : appI tb q with
  | no => trivial
  | «at» esz bytes =>
    unfold appI at ha
    split at ha
    case h_2 => cases ha
    rename_i t t2 hat
    split at ha
    case h_2 => cases ha
    rename_i td td2 ht ht2
    split at ha
    case h_2 => cases ha
    rename_i et hk
    split at ha
    case h_2 => cases ha
    rename_i te hte
    split at ha
    case isFalse => cases ha
    rename_i hcond
    obtain ⟨hel, hty, hb1, hb2, hz⟩ := hcond
    cases ha
    refine twoArg_ok (S := StOK tb N K e (.call q)) trivial fun s x hsx => opdS_ok (S := StOK tb N K e (.call q)) fun gs hgs => opdS_ok (S := StOK tb N K e (.call q)) fun gx hgx => ?_
    subst hgs; subst hgx
    intro a b c d tm hp nx G k sl Wg W h0 h
    refine g_gc h0 W fun cnt xt xo xn xs hxc hxo hgc => ?_
    show G (numR nx _)
    rw [numR_eq]
    have hall : ((xs.drop xo).take (cnt * te.size)).all V.one = true := List.all_eq_true.2 fun v hv => hxc.one v (List.mem_of_mem_drop (List.mem_of_mem_take hv))
    have main : evAny ⟨tb, fun _ => none, 1, N⟩ nx (hpH hp) (fun x => (rdS K e x a b c d tm).toV) (.call q) = match evAppendG tb td (hpH hp) nx (rdS K e s a b c d tm).toV (rdS K e x a b c d tm).toV with | .val ps v dh => some (ps, v, dh) | _ => none := by
      simp only [evAny, evSt, evOp, hq, hat, hsx, ht, ht2, hel, if_true]
      rfl
    have hev : ∀ r, (match cnt with
              | 0 => (match (rdS K e s a b c d tm).toV with
                | .nilsl => .val [] .nilsl []
                | .esl => .val [] .esl []
                | .gsl h ver esz off len => match hpH hp h with
                  | some (.grow ver' esz' _) => if ver = ver' ∧ esz = esz' then .val [] (.gsl h ver esz off len) [] else .bad
                  | _ => .bad
                | _ => .bad)
              | k + 1 => match (rdS K e s a b c d tm).toV with
                | .nilsl => .val [.leN ((k + 1) * te.bytes) 70368744177664] (.gsl nx nx te.size 0 (k + 1)) [(nx, .grow nx te.size ((xs.drop xo).take (cnt * te.size)))]
                | .esl => .val [.leN ((k + 1) * te.bytes) 70368744177664] (.gsl nx nx te.size 0 (k + 1)) [(nx, .grow nx te.size ((xs.drop xo).take (cnt * te.size)))]
                | .gsl h ver esz off len => match hpH hp h with
                  | some (.grow ver' esz' cs) => if ver = ver' ∧ esz = te.size ∧ esz' = te.size ∧ off = 0 ∧ len * te.size = cs.length then
                      .val [.leN ((len + (k + 1)) * te.bytes) 70368744177664] (.gsl h nx te.size 0 (len + (k + 1))) [(h, .grow nx te.size (cs ++ ((xs.drop xo).take (cnt * te.size))))] else .bad
                  | _ => .bad
                | _ => .bad : Res) = r → evAppendG tb td (hpH hp) nx (rdS K e s a b c d tm).toV (rdS K e x a b c d tm).toV = r := fun r hr => by
      have hor : isG (rdS K e s a b c d tm).toV = true ∨ isG (rdS K e x a b c d tm).toV = true ∨ te.ty.isNone = true := .inr (.inr hty)
      simp only [evAppendG, hk, hte]
      rw [if_pos hor, if_pos ⟨hb1, hb2, hz⟩, hgc]
      simp only [hall, if_true]
      exact hr
    cases cnt with
    | zero =>
      have hw := rd_wf Wg s
      refine g_uSl h0 (fun hu => ?_) (fun hu => ?_) fun r v e' o l hu => g_bkG h0 fun v' e2 ct n2 hg => g_ck h0 fun h1 => g_ck h0 fun h2 => ?_
      · exact h _ _ (vok W (ps := []) (v := .nilsl) (by rw [main, hev _ (by simp only [tvo hu]; rfl)]) noOb (by rw [hu]; exact VLe.refl _) hw)
      · exact h _ _ (vok W (ps := []) (v := .esl) (by rw [main, hev _ (by simp only [tvo hu]; rfl)]) noOb (by rw [hu]; exact VLe.refl _) hw)
      · obtain ⟨cs, hc, hH, _⟩ := get_grow W hg
        have e1 := beq_of h1
        have e3 := beq_of h2
        subst e1
        subst e3
        exact h _ _ (vok W (ps := []) (v := .gsl r v e' o l) (by rw [main, hev (.val [] (.gsl r v e' o l) []) (by simp only [tvs hu, hH, and_self, if_true])]) noOb (by rw [hu]; exact VLe.refl _) hw)
    | succ cnt =>
      have hnew : (rdS K e s a b c d tm).toV = .nilsl ∨ (rdS K e s a b c d tm).toV = .esl → G (apNew te.size te.bytes hp nx (Nat.succ cnt) xt xo k sl) := fun hs => by
        refine g_ck h0 fun h1 => g_ck h0 fun h2 => g_newB h0 fun hm => ?_
        have h1 : (cnt + 1) * te.bytes ≤ 70368744177664 := ble_of h1
        have hc := hxc.sub hxo
        refine h _ _ ⟨⟨[.leN ((cnt + 1) * te.bytes) 70368744177664], .gsl nx nx te.size 0 (cnt + 1), [(nx, .grow nx te.size ((xs.drop xo).take ((cnt + 1) * te.size)))], ?_, oneOb h1, VLe.refl _, hpH_put hm ?_⟩, trivial, hpW_put W hm ⟨_, hc⟩⟩
        · rw [main]
          rcases hs with hs | hs
          · rw [hev _ (by simp only [hs]; rfl)]
          · rw [hev _ (by simp only [hs]; rfl)]
        · show some (Blk.grow nx te.size (toL (cpyT ct0 0 xt xo ((cnt + 1) * te.size)) ((cnt + 1) * te.size))) = _
          rw [hc.toL]
      refine g_uSl h0 (fun hu => hnew (.inl (by rw [hu]; rfl))) (fun hu => hnew (.inr (by rw [hu]; rfl))) fun r v e' o l hu => g_bkG h0 fun v' e2 ct n2 hg => g_ck h0 fun h1 => g_ck h0 fun h2 => g_ck h0 fun h3 => g_ck h0 fun h4 => g_ck h0 fun h5 => g_ck h0 fun h6 => g_ck h0 fun h7 => ?_
      obtain ⟨cs, hc, hH, hm⟩ := get_grow W hg
      have e1 := beq_of h1
      have e3 := beq_of h2
      have e4 := beq_of h3
      have e5 := beq_of h4
      have e6 : l * te.size = n2 := beq_of h5
      have h6 : (l + (cnt + 1)) * te.bytes ≤ 70368744177664 := ble_of h6
      have h7 : n2 + (cnt + 1) * te.size ≤ 4096 := ble_of h7
      subst e1
      subst e3
      subst e5
      have e4 : e2 = te.size := e4
      have hl := hc.len
      have hap := hc.app hxc hxo h7
      refine h _ _ ⟨⟨[.leN ((l + (cnt + 1)) * te.bytes) 70368744177664], .gsl r nx te.size 0 (l + (cnt + 1)), [(r, .grow nx te.size (cs ++ (xs.drop xo).take ((cnt + 1) * te.size)))], ?_, oneOb h6, VLe.refl _, hpH_put hm ?_⟩, trivial, hpW_put W hm ⟨_, hap⟩⟩
      · rw [main, hev _ (by simp only [tvs hu, hH, e4, e6, hl, and_self, if_true]; rfl)]
      · show some (Blk.grow nx te.size (toL (cpyT ct n2 xt xo ((cnt + 1) * te.size)) (n2 + (cnt + 1) * te.size))) = _
        rw [hap.toL]

/-! ## calls -/

theorem argsL_eq (a b c d : U) (tm : TM) (cs : List V) : ∀ l : List Operand, argsL (l.map (rdS K e)) a b c d tm cs = (l.map fun x => rdS K e x a b c d tm) ++ cs.map uOfV
  | [] => rfl
  | x :: l => by
    show rdS K e x a b c d tm :: argsL (l.map (rdS K e)) a b c d tm cs = _
    rw [argsL_eq a b c d tm cs l]
    rfl

theorem cCall_ok {q : Call} : StOK tb N K e (.call q) (cCall q K e tb) := by
  unfold cCall
  cases hq : q.callee with
  | value f =>
    refine opdS_ok (S := StOK tb N K e (.call q)) fun gf hgf => opdsS_ok (S := StOK tb N K e (.call q)) fun gs hgs => ?_
    subst hgf; subst hgs
    intro a b c d tm G k sl Wg h0 h
    refine g_uFn h0 fun g cs hf => ?_
    rw [argsL_eq]
    refine h g _ ⟨⟨q, f, cs, rfl, hq, by show (rdS K e f a b c d tm).toV = _; rw [hf]; rfl, fun E l hl => ?_⟩, fun u hu => ?_⟩
    · rw [List.map_append, List.map_map, List.map_map]
      have : ∀ (xs : List V) (l : List Value), vrels E (xs ++ cs) l → vrels E (xs ++ cs.map (U.toV ∘ uOfV)) l := by
        intro xs
        induction xs with
        | nil => intro l hl; exact vrels_le (fun v => v) _ uOfV_le cs l (by simpa using hl)
        | cons x xs ih =>
          intro l hl
          cases l with
          | nil => simp [vrels] at hl
          | cons y l => simp only [List.cons_append, vrels] at hl ⊢; exact ⟨hl.1, ih l hl.2⟩
      exact this _ l hl
    · rcases List.mem_append.1 hu with h1 | h1
      · obtain ⟨x, _, rfl⟩ := List.mem_map.1 h1
        exact rd_wf Wg x
      · obtain ⟨v, _, rfl⟩ := List.mem_map.1 h1
        exact uOfV_wf v
  | builtin b =>
    show StOK tb N K e (.call q) (cBui b q K e tb)
    cases b with
    | append => exact cApp_ok hq
    | len => exact cLen_ok hq
    | _ => exact trivial
  | _ => exact trivial

theorem cmp_ok (op : Op) : StOK tb N K e op (cmp K e tb op) := by
  cases op with
  | move x => exact cMove_ok.1
  | assign x => exact cMove_ok.2
  | pick => exact cPick_ok
  | alloc => exact cAlloc_ok
  | box => exact cBox_ok
  | build => exact cBuild_ok
  | buildSlice => exact cBSl_ok
  | load => exact cLoad_ok
  | store => exact cStore_ok
  | nilCheck => exact cNil_ok
  | binOp => exact cBin_ok
  | unOp => exact cUn_ok
  | convert => exact cConv_ok
  | makeFunc => exact cMF_ok
  | slice => exact cSlice_ok
  | fieldAddr => exact cFA_ok
  | field => exact cFV_ok
  | indexAddr => exact cIA_ok
  | index => exact cIdx_ok
  | extract => exact cExt_ok
  | call => exact cCall_ok
  | _ => exact trivial

end Go.Mir

/- The machine, part 5: regions are sound. -/
namespace Go.Mir
open Go.RowKit

variable {P : Program} {tb : Tbl} {N K : Nat}

/-! ## states -/

structure TmW (K : Nat) (e : En) (a b c d : U) (tm : TM) : Prop where
  win : ∀ i, (getS K e i a b c d tm).wf
  tm : ∀ i, isK K i = true → ((acc3 i).get tm).wf
structure TmR (K : Nat) (e : En) (a b c d : U) (tm : TM) (E : Env) (act : Act) : Prop where
  win : ∀ i, vrel E (getS K e i a b c d tm).toV (act.tmps.getD i undef)
  tm : ∀ i, isK K i = true → vrel E ((acc3 i).get tm).toV (act.tmps.getD i undef)
structure RV (B : Base) (E0 : Env) (n0 N K : Nat) (e : En) (a b c d : U) (tm : TM) (hp : HP) (nx : Nat) (E : Env) (act : Act) : Prop where
  rel : HRel B E
  ext : Ext E0 E
  h : E.H = hpH hp
  u : ∀ n, E.U n → E0.U n ∨ (n0 ≤ n ∧ n < nx)
  le : n0 ≤ nx
  tm : TmR K e a b c d tm E act
  size : act.tmps.size = N
  defers : act.defers = []
abbrev WT (K : Nat) (tm : TM) : Prop := TmW K en0 u0 u0 u0 u0 tm
abbrev RX (B : Base) (E0 : Env) (n0 N K : Nat) (tm : TM) (hp : HP) (nx : Nat) (E : Env) (act : Act) : Prop := RV B E0 n0 N K en0 u0 u0 u0 u0 tm hp nx E act

theorem isK_lt {K i : Nat} (h : isK K i = true) : i < 512 := by
  unfold isK at h
  cases hb : Nat.ble (Nat.succ i) 512 with
  | true => exact ble_of hb
  | false => rw [hb] at h; cases h
theorem getS_en0 (i : Nat) (tm : TM) : getS K en0 i u0 u0 u0 u0 tm = bif isK K i then (acc3 i).get tm else u0 := by
  unfold getS
  have : Nat.beq en0.e0 (Nat.succ i) = false := rfl
  cases hk : isK K i <;> rfl

/-- what is read after a result has come in -/
theorem getS_shift {p : U → Prop} {e : En} {i dd : Nat} {u a b c d : U} {tm tm' : TM} (h0 : p u0) (hu : i = dd → p u) (hw : i ≠ dd → p (getS K e i a b c d tm)) (ht : i ≠ dd → isK K i = true → p ((acc3 i).get tm')) : p (getS K ⟨Nat.succ dd, e.e0, e.e1, e.e2⟩ i u a b c tm') := by
  by_cases e1 : i = dd
  · have : getS K ⟨Nat.succ dd, e.e0, e.e1, e.e2⟩ i u a b c tm' = u := by
      unfold getS
      have : Nat.beq (Nat.succ dd) (Nat.succ i) = true := by rw [e1]; exact Nat.beq_refl _
      simp only [this]
    rw [this]
    exact hu e1
  · have hw := hw e1
    have ht := ht e1
    unfold getS at hw ⊢
    have hb : Nat.beq (Nat.succ dd) (Nat.succ i) = false := by
      cases hb : Nat.beq (Nat.succ dd) (Nat.succ i) with
      | false => rfl
      | true => exact absurd (Nat.succ.inj (beq_of hb)).symm e1
    simp only [hb]
    cases h1 : Nat.beq e.e0 (Nat.succ i)
    case true => rw [h1] at hw; exact hw
    rw [h1] at hw
    cases h2 : Nat.beq e.e1 (Nat.succ i)
    case true => rw [h2] at hw; exact hw
    rw [h2] at hw
    cases h3 : Nat.beq e.e2 (Nat.succ i)
    case true => rw [h3] at hw; exact hw
    cases h4 : isK K i
    case true => exact ht h4
    exact h0

theorem u0_wf : u0.wf := trivial
theorem u0_rel {E : Env} {v : Value} : vrel E u0.toV v := by simp [u0, U.toV, vrel]
theorem acc3_put {K i j : Nat} (hi : isK K i = true) (hj : isK K j = true) (h : i ≠ j) (u : U) (tm : TM) : (acc3 j).get ((acc3 i).put u tm) = (acc3 j).get tm := acc3_ne (isK_lt hi) (isK_lt hj) h u tm

theorem getD_put_same {a : Act} {dd : Nat} (h : dd < a.tmps.size) (v : Value) : (a.put (some dd) v).tmps.getD dd undef = v := by
  simp [Act.put, Array.getD_eq_getD_getElem?, h]
theorem getD_put_ne {a : Act} {dd i : Nat} (h : i ≠ dd) (v : Value) : (a.put (some dd) v).tmps.getD i undef = a.tmps.getD i undef := by
  simp [Act.put, Array.getD_eq_getD_getElem?, Array.getElem?_setIfInBounds_ne (Ne.symm h)]

theorem tmW_drop {e : En} {dd : Nat} {u a b c d : U} {tm : TM} (h : TmW K e a b c d tm) (hu : u.wf) : TmW K ⟨Nat.succ dd, e.e0, e.e1, e.e2⟩ u a b c tm :=
  ⟨fun i => getS_shift (p := U.wf) (d := d) (tm := tm) u0_wf (fun _ => hu) (fun _ => h.win i) (fun _ hk => h.tm i hk), h.tm⟩
theorem tmW_keep {e : En} {dd : Nat} (hd : isK K dd = true) {u a b c d : U} {tm : TM} (h : TmW K e a b c d tm) (hu : u.wf) : TmW K ⟨Nat.succ dd, e.e0, e.e1, e.e2⟩ u a b c ((acc3 dd).put u tm) := by
  refine ⟨fun i => getS_shift (p := U.wf) (d := d) (tm := tm) u0_wf (fun _ => hu) (fun _ => h.win i) (fun hne hk => ?_), fun i hk => ?_⟩
  · rw [acc3_put hd hk (Ne.symm hne)]; exact h.tm i hk
  · by_cases e1 : dd = i
    · subst e1; rw [acc3_same]; exact hu
    · rw [acc3_put hd hk e1]; exact h.tm i hk

theorem tmR_ext {e : En} {a b c d : U} {tm : TM} {E E' : Env} {act : Act} (X : Ext E E') (h : TmR K e a b c d tm E act) : TmR K e a b c d tm E' act :=
  ⟨fun i => vrel_ext X _ _ (h.win i), fun i hk => vrel_ext X _ _ (h.tm i hk)⟩
theorem tmR_none {e : En} {a b c d : U} {tm : TM} {E : Env} {act : Act} {v : Value} (h : TmR K e a b c d tm E act) : TmR K e a b c d tm E (act.put none v) := h
theorem tmR_drop {e : En} {dd : Nat} (hk0 : isK K dd = false) {u a b c d : U} {tm : TM} {E : Env} {act : Act} (hd : dd < act.tmps.size) {v : Value} (h : TmR K e a b c d tm E act) (hu : vrel E u.toV v) : TmR K ⟨Nat.succ dd, e.e0, e.e1, e.e2⟩ u a b c tm E (act.put (some dd) v) := by
  refine ⟨fun i => getS_shift (p := fun u => vrel E u.toV ((act.put (some dd) v).tmps.getD i undef)) (d := d) (tm := tm) u0_rel (fun e1 => ?_) (fun hne => ?_) (fun hne hk => ?_), fun i hk => ?_⟩
  · rw [e1, getD_put_same hd]; exact hu
  · rw [getD_put_ne hne]; exact h.win i
  · rw [getD_put_ne hne]; exact h.tm i hk
  · have hne : i ≠ dd := fun e1 => by rw [e1, hk0] at hk; cases hk
    rw [getD_put_ne hne]; exact h.tm i hk
theorem tmR_keep {e : En} {dd : Nat} (hk0 : isK K dd = true) {u a b c d : U} {tm : TM} {E : Env} {act : Act} (hd : dd < act.tmps.size) {v : Value} (h : TmR K e a b c d tm E act) (hu : vrel E u.toV v) : TmR K ⟨Nat.succ dd, e.e0, e.e1, e.e2⟩ u a b c ((acc3 dd).put u tm) E (act.put (some dd) v) := by
  refine ⟨fun i => getS_shift (p := fun u => vrel E u.toV ((act.put (some dd) v).tmps.getD i undef)) (d := d) (tm := tm) u0_rel (fun e1 => ?_) (fun hne => ?_) (fun hne hk => ?_), fun i hk => ?_⟩
  · rw [e1, getD_put_same hd]; exact hu
  · rw [getD_put_ne hne]; exact h.win i
  · rw [getD_put_ne hne, acc3_put hk0 hk (Ne.symm hne)]; exact h.tm i hk
  · by_cases e1 : dd = i
    · subst e1; rw [acc3_same, getD_put_same hd]; exact hu
    · rw [getD_put_ne (Ne.symm e1), acc3_put hk0 hk e1]; exact h.tm i hk

theorem rd_rel {e : En} {a b c d : U} {tm : TM} {E : Env} {act : Act} (h : TmR K e a b c d tm E act) (x : Operand) : vrel E (rdS K e x a b c d tm).toV (act.eval x) := by
  cases x with
  | tmp i => exact h.win i
  | const v => exact uOfV_le _ _ _ (cv_sound v)
  | func f => simp only [rdS, U.toV, vrel, Act.eval]; exact ⟨#[], rfl, by simp [vrels]⟩
  | global i => exact u0_rel

/-- the window is forgotten -/
theorem TmW.out {e : En} {a b c d : U} {tm : TM} (h : TmW K e a b c d tm) : WT K tm := by
  refine ⟨fun i => ?_, h.tm⟩
  rw [getS_en0]
  cases hk : isK K i with
  | true => exact h.tm i hk
  | false => exact u0_wf
theorem TmR.out {e : En} {a b c d : U} {tm : TM} {E : Env} {act : Act} (h : TmR K e a b c d tm E act) : TmR K en0 u0 u0 u0 u0 tm E act := by
  refine ⟨fun i => ?_, h.tm⟩
  rw [getS_en0]
  cases hk : isK K i with
  | true => exact h.tm i hk
  | false => exact u0_rel
theorem RV.out {B : Base} {E0 : Env} {n0 : Nat} {e : En} {a b c d : U} {tm : TM} {hp : HP} {nx : Nat} {E : Env} {act : Act} (h : RV B E0 n0 N K e a b c d tm hp nx E act) : RX B E0 n0 N K tm hp nx E act :=
  ⟨h.rel, h.ext, h.h, h.u, h.le, h.tm.out, h.size, h.defers⟩

/-! ## calls -/

/-- what a function that is not in the program's text gives -/
def ExtCan (P : Program) (g : FuncId) (args : List U) (u : U) : Prop := ∀ (E : Env) (av : List Value), vrels E (args.map U.toV) av → ∃ v', vrel E u.toV v' ∧
  ∀ (o : Oper) (c : Call) (f : Operand) (l : Array Value) (a : Act) (next : Act → World → Prop) (Q : Exit → Act → World → Prop), o.op = .call c → c.callee = .value f → a.eval f = .func (.func g) #[] l → av = c.args.toList.map a.eval ++ l.toList →
    next (a.put o.dst v') E.w → o.wp P a E.w next Q
structure FnV (P : Program) (g : FuncId) (args : List U) (hp : HP) (nx : Nat) (u : U) (hp' : HP) (nx' : Nat) : Prop where
  fn : ∃ fn, P.funcs[g]? = some fn ∧ fn.body.isSome = true ∧ (fn.name == "runtime.NumGoroutine") = false
  le : nx ≤ nx'
  wf : u.wf
  hw : hpW hp'
  calls : ∀ (B : Base) (E : Env) (av : List Value), HRel B E → E.H = hpH hp → vrels E (args.map U.toV) av → (∀ n, nx ≤ n → n < nx' → ¬ E.U n) →
    Calls P g av.toArray E.w fun e w' => ∃ E' v', e = .returned v' ∧ Came B E (hpH hp') nx nx' u.toV v' w' E'
structure CallVOK (P : Program) (call : CallV) : Prop where
  ok : ∀ g args hp nx u hp' nx', (∀ x ∈ args, x.wf) → hpW hp → call g args hp nx = .ok u hp' nx' → FnV P g args hp nx u hp' nx'
  ex : ∀ g args hp nx u hp' nx', (∀ x ∈ args, x.wf) → call g args hp nx = .ex u hp' nx' → hp' = hp ∧ nx' = nx ∧ u.wf ∧ ExtCan P g args u

/-! ## one operation -/

abbrev Wp := (Exit → Act → World → Prop) → Act → World → Prop

/-- where a piece of a region leads to -/
structure EndsV (N K : Nat) (e : En) (a b c d : U) (tm : TM) (hp : HP) (nx : Nat) (l : Lf) (tm' : TM) (hp' : HP) (nx' : Nat) (W : Wp) : Prop where
  l : l = .nrm
  le : nx ≤ nx'
  wt : WT K tm'
  hw : hpW hp'
  wp : ∀ (B : Base) (E0 : Env) (n0 : Nat) (Q : Exit → Act → World → Prop) (E : Env) (act : Act), (∀ n, n0 ≤ n → n < nx' → ¬ E0.U n) → (∀ E act, RX B E0 n0 N K tm' hp' nx' E act → Q .normal act E.w) → RV B E0 n0 N K e a b c d tm hp nx E act → W Q act E.w

def CdsOK (N K : Nat) (call : CallV) (X : Cds) (e : En) (W : Wp) : Prop := ∀ (a b c d : U) (tm : TM) (hp : HP) (nx : Nat) (l : Lf) (tm' : TM) (hp' : HP) (nx' : Nat), TmW K e a b c d tm → hpW hp → X.run a b c d call tm hp nx = .go l tm' hp' nx' → EndsV N K e a b c d tm hp nx l tm' hp' nx' W

/-- what stands behind a result -/
structure PostV (N K : Nat) (e : En) (a b c d : U) (tm : TM) (dst : Option Nat) (u : U) (hp1 : HP) (nx1 : Nat) (l : Lf) (tm' : TM) (hp' : HP) (nx' : Nat) (W : Wp) : Prop where
  l : l = .nrm
  le : nx1 ≤ nx'
  wt : WT K tm'
  hw : hpW hp'
  wp : ∀ (B : Base) (E0 : Env) (n0 : Nat) (Q : Exit → Act → World → Prop) (E : Env) (act : Act) (hp : HP) (nx : Nat) (E' : Env) (v' : Value), (∀ n, n0 ≤ n → n < nx' → ¬ E0.U n) → (∀ E act, RX B E0 n0 N K tm' hp' nx' E act → Q .normal act E.w) → RV B E0 n0 N K e a b c d tm hp nx E act →
    nx ≤ nx1 → HRel B E' → Ext E E' → E'.H = hpH hp1 → (∀ n, E'.U n → E.U n ∨ (nx ≤ n ∧ n < nx1)) → vrel E' u.toV v' → W Q (act.put dst v') E'.w

theorem post_ok {call : CallV} {nxt : Cds} {e : En} {dst : Option Nat} {W : Wp} (hn : CdsOK N K call nxt (enS e dst) W) (hd : dstIn N dst = true) {a b c d : U} {tm : TM} {u : U} {hp1 : HP} {nx1 : Nat} {l : Lf} {tm' : TM} {hp' : HP} {nx' : Nat} (Wt : TmW K e a b c d tm) (hu : u.wf) (Wh : hpW hp1)
    (h : postS (dkS K dst) nxt u a b c d call tm hp1 nx1 = .go l tm' hp' nx') : PostV N K e a b c d tm dst u hp1 nx1 l tm' hp' nx' W := by
  have mk : ∀ {B : Base} {E0 : Env} {n0 : Nat} {E : Env} {act : Act} {hp : HP} {nx : Nat} {E' : Env} {v' : Value} {e2 : En} {a2 b2 c2 d2 : U} {tm2 : TM}, RV B E0 n0 N K e a b c d tm hp nx E act → nx ≤ nx1 → HRel B E' → Ext E E' → E'.H = hpH hp1 → (∀ n, E'.U n → E.U n ∨ (nx ≤ n ∧ n < nx1)) →
      TmR K e2 a2 b2 c2 d2 tm2 E' (act.put dst v') → RV B E0 n0 N K e2 a2 b2 c2 d2 tm2 hp1 nx1 E' (act.put dst v') := fun {B E0 n0 E act hp nx E' v' e2 a2 b2 c2 d2 tm2} hR hle hE hX hH hU hT => by
    have hle0 := hR.le
    refine ⟨hE, hR.ext.trans hX, hH, fun n hn => ?_, Nat.le_trans hle0 hle, hT, by rw [put_size]; exact hR.size, by rw [put_defers]; exact hR.defers⟩
    rcases hU n hn with h | h
    · rcases hR.u n h with h | h
      · exact .inl h
      · exact .inr ⟨h.1, by have := h.2; omega⟩
    · exact .inr ⟨by omega, h.2⟩
  cases dst with
  | none =>
    have := hn a b c d tm hp1 nx1 l tm' hp' nx' Wt Wh h
    exact ⟨this.l, this.le, this.wt, this.hw, fun B E0 n0 Q E act hp nx E' v' hfr hQ hR hle hE hX hH hU hv => this.wp B E0 n0 Q E' _ hfr hQ (mk hR hle hE hX hH hU (tmR_none (tmR_ext hX hR.tm)))⟩
  | some dd =>
    have hdn : dd < N := by have h : Nat.blt dd N = true := hd; rw [Nat.blt_eq] at h; exact h
    cases hk : isK K dd with
    | false =>
      have h1 : Cds.run nxt u a b c call tm hp1 nx1 = .go l tm' hp' nx' := by
        have : dkS K (some dd) = .drop := by show Bool.rec (motive := fun _ => DK) _ _ (isK K dd) = _; rw [hk]
        rw [this] at h
        exact h
      have := hn u a b c tm hp1 nx1 l tm' hp' nx' (tmW_drop Wt hu) Wh h1
      exact ⟨this.l, this.le, this.wt, this.hw, fun B E0 n0 Q E act hp nx E' v' hfr hQ hR hle hE hX hH hU hv => this.wp B E0 n0 Q E' _ hfr hQ (mk hR hle hE hX hH hU (tmR_drop hk (by rw [hR.size]; exact hdn) (tmR_ext hX hR.tm) hv))⟩
    | true =>
      have h1 : Cds.run nxt u a b c call ((acc3 dd).put u tm) hp1 nx1 = .go l tm' hp' nx' := by
        have : dkS K (some dd) = .keep (acc3 dd).put := by show Bool.rec (motive := fun _ => DK) _ _ (isK K dd) = _; rw [hk]
        rw [this] at h
        exact h
      have := hn u a b c ((acc3 dd).put u tm) hp1 nx1 l tm' hp' nx' (tmW_keep hk Wt hu) Wh h1
      exact ⟨this.l, this.le, this.wt, this.hw, fun B E0 n0 Q E act hp nx E' v' hfr hQ hR hle hE hX hH hU hv => this.wp B E0 n0 Q E' _ hfr hQ (mk hR hle hE hX hH hU (tmR_keep hk (by rw [hR.size]; exact hdn) (tmR_ext hX hR.tm) hv))⟩

theorem setsB_some : ∀ {dh : List (Nat × Blk)} {hp hp' : HP}, hpW hp → setsB dh hp = some hp' → hpH hp' = hset (hpH hp) dh ∧ hpW hp'
  | [], hp, hp', W, h => by cases h; exact ⟨rfl, W⟩
  | (q, b) :: r, hp, hp', W, h => by
    unfold setsB at h
    split at h
    case h_2 => cases h
    rename_i hp1 h1
    obtain ⟨e1, W1⟩ := setsB_some W h1
    cases hq : Nat.ble (Nat.succ q) maxH with
    | false => rw [hq] at h; cases h
    | true =>
      have hq : q < 262144 := ble_of hq
      have key : ∀ (b' : Bk) (b : Blk), b'.toB = some b → b'.wf → hpH (blkPut hp1 q b') = hset (hpH hp) ((q, b) :: r) ∧ hpW (blkPut hp1 q b') := fun b' b hb hw => by
        refine ⟨?_, hpW_put W1 hq hw⟩
        rw [hpH_put hq hb, e1]
        funext k
        simp only [hset, find]
        cases Nat.beq q k <;> rfl
      rw [‹Nat.ble (Nat.succ q) maxH = true›] at h
      simp only [cond_true] at h
      split at h
      · rename_i cs
        cases ho : okL cs with
        | false => rw [ho] at h; cases h
        | true =>
          rw [ho] at h
          cases h
          have hc := CsR.ofL ho
          exact key _ _ (by show some (Blk.cells (toL _ _)) = _; rw [hc.toL]) ⟨_, hc⟩
      · rename_i v e cs
        cases ho : okL cs with
        | false => rw [ho] at h; cases h
        | true =>
          rw [ho] at h
          cases h
          have hc := CsR.ofL ho
          exact key _ _ (by show some (Blk.grow _ _ (toL _ _)) = _; rw [hc.toL]) ⟨_, hc⟩
      · cases h
        exact key _ _ rfl trivial
      · cases h

section
variable {call : CallV} {all : List Oper}

/-- an operation's wp -/
abbrev opW (P : Program) (o : Oper) (W : Wp) : Wp := fun Q act w => o.wp P act w (fun act w => W Q act w) Q

/-- after a value -/
theorem val_ends (hT : TblOK P tb) {o : Oper} {e : En} {a b c d : U} {tm : TM} {hp : HP} {nx : Nat} {u : U} {hp1 : HP} {l : Lf} {tm' : TM} {hp' : HP} {nx' : Nat} {W : Wp} (hv : ValOK tb N (fun x => (rdS K e x a b c d tm).toV) o.op hp nx u hp1)
    (hq : PostV N K e a b c d tm o.dst u hp1 (Nat.succ nx) l tm' hp' nx' W) : EndsV N K e a b c d tm hp nx l tm' hp' nx' (opW P o W) := by
  obtain ⟨ps, v, dh, h1, h2, h3, h4⟩ := hv.ex
  have hle := hq.le
  refine ⟨hq.l, by omega, hq.wt, hq.hw, fun B E0 n0 Q E act hfr hQ hR => ?_⟩
  have hle0 := hR.le
  have hH := hR.h
  rw [← hH] at h1
  refine evAny_sound (C := ⟨tb, fun _ => none, 1, N⟩) hR.rel hT (Nat.le_refl _) (fun _ _ h => by cases h) (fun n k1 k2 hu => ?_) (rd_rel hR.tm) h1 h2 (fun v' E' G hv' => ?_)
  · have k2 : n < nx + 1 := k2
    rcases hR.u n hu with h | h
    · exact hfr n (by omega) (by omega) h
    · have := h.2; omega
  · exact hq.wp B E0 n0 Q E act _ nx E' v' hfr hQ hR (Nat.le_succ nx) G.rel G.ext (by rw [G.h, hH, h4]) (fun n hn => by
      rcases G.u n hn with h | h
      · exact .inl h
      · exact .inr h) (h3 E' v' hv')

theorem slow_ends (hT : TblOK P tb) {o : Oper} {e : En} {nxt : Cds} {W : Wp} (hn : CdsOK N K call nxt (enS e o.dst) W) (hd : dstIn N o.dst = true) : CdsOK N K call ⟨slowC tb N K e o.op (dkS K o.dst) nxt⟩ e (opW P o W) := by
  intro a b c d tm hp nx l tm' hp' nx' Wt Wh h
  have h : numR nx (fun nx => match evAnyR tb N nx (hpH hp) (fun x => (rdS K e x a b c d tm).toV) o.op with
  | some (ps, v, dh) => match obsOK ps with
    | true => match setsB dh hp with
      | some hp => postS (dkS K o.dst) nxt (uOfV v) a b c d call tm hp (Nat.succ nx)
      | none => .no [104]
    | false => .no [100]
  | none => .no [101]) = .go l tm' hp' nx' := by
    simp only [slowC, slowG, numR_eq] at h ⊢
    exact h
  rw [numR_eq] at h
  split at h
  case h_2 => cases h
  rename_i ps v dh hev
  split at h
  case h_2 => cases h
  rename_i hobs
  split at h
  case h_2 => cases h
  rename_i hp1 hs
  obtain ⟨e1, W1⟩ := setsB_some Wh hs
  have hps : ∀ p ∈ ps, p.holds := fun p hp => by
    cases ps with
    | nil => cases hp
    | cons q qs =>
      have : (q :: qs).all Ob.chk = true := hobs
      exact Ob.chk_holds (List.all_eq_true.1 this p hp)
  exact val_ends hT ⟨⟨ps, v, dh, evAnyR_eq _ _ _ _ _ _ hev, hps, uOfV_le v, e1⟩, uOfV_wf v, W1⟩ (post_ok hn hd Wt (uOfV_wf v) W1 h)

theorem stp_ends (hT : TblOK P tb) (hcall : CallVOK P call) {o : Oper} {e : En} {nxt : Cds} {W : Wp} (hn : CdsOK N K call nxt (enS e o.dst) W) (hd : dstIn N o.dst = true) : CdsOK N K call (stpC tb N K e o.op (dkS K o.dst) nxt (cmp K e tb o.op)) e (opW P o W) := by
  have hst := cmp_ok (tb := tb) (N := N) (K := K) (e := e) o.op
  have hsl := slow_ends (P := P) (call := call) (e := e) hT hn hd
  generalize cmp K e tb o.op = s at hst
  cases s with
  | slow => exact hsl
  | val f =>
    intro a b c d tm hp nx l tm' hp' nx' Wt Wh h
    have h : f a b c d tm hp nx (fun u => postS (dkS K o.dst) nxt u a b c d call tm hp (Nat.succ nx)) (slowC tb N K e o.op (dkS K o.dst) nxt a b c d call tm hp nx) = .go l tm' hp' nx' := by
      unfold stpC at h
      cases hdk : dkS K o.dst <;> (rw [hdk] at h; exact h)
    revert h
    refine hst a b c d tm hp nx (fun r => r = .go l tm' hp' nx' → EndsV N K e a b c d tm hp nx l tm' hp' nx' (opW P o W)) _ _ Wt.win Wh (hsl a b c d tm hp nx l tm' hp' nx' Wt Wh) (fun u hv h => ?_)
    exact val_ends hT hv (post_ok hn hd Wt hv.wf hv.hw h)
  | mem f =>
    intro a b c d tm hp nx l tm' hp' nx' Wt Wh h
    revert h
    refine hst a b c d tm hp nx (fun r => r = .go l tm' hp' nx' → EndsV N K e a b c d tm hp nx l tm' hp' nx' (opW P o W)) _ _ Wt.win Wh (hsl a b c d tm hp nx l tm' hp' nx' Wt Wh) (fun u hp1 hv h => ?_)
    exact val_ends hT hv (post_ok hn hd Wt hv.wf hv.hw h)
  | cal f =>
    intro a b c d tm hp nx l tm' hp' nx' Wt Wh h
    revert h
    refine hst a b c d tm (fun r => r = .go l tm' hp' nx' → EndsV N K e a b c d tm hp nx l tm' hp' nx' (opW P o W)) _ _ Wt.win (hsl a b c d tm hp nx l tm' hp' nx' Wt Wh) (fun g args hv h => ?_)
    obtain ⟨q, f, caps, ho, hf, hg, hargs⟩ := hv.ex
    have av : ∀ {E : Env} {act : Act}, TmR K e a b c d tm E act → ∃ l : Array Value, act.eval f = .func (.func g) #[] l ∧ vrels E (args.map U.toV) (q.args.toList.map act.eval ++ l.toList) := fun {E act} hR => by
      have hfv := rd_rel hR f
      rw [hg] at hfv
      simp only [vrel] at hfv
      obtain ⟨l, hfe, hl⟩ := hfv
      exact ⟨l, hfe, hargs E _ (vrels_append (vrels_map _ _ (rd_rel hR) _) hl)⟩
    cases hc : call g args hp nx with
    | no w => rw [hc] at h; cases h
    | ok u hp1 nx1 =>
      rw [hc] at h
      have F := hcall.ok g args hp nx u hp1 nx1 hv.wf Wh hc
      have hp2 := post_ok hn hd Wt F.wf F.hw (show postS (dkS K o.dst) nxt u a b c d call tm hp1 nx1 = .go l tm' hp' nx' from h)
      have hle1 := F.le
      have hle2 := hp2.le
      refine ⟨hp2.l, by omega, hp2.wt, hp2.hw, fun B E0 n0 Q E act hfr hQ hR => ?_⟩
      obtain ⟨l, hfe, hav⟩ := av hR.tm
      have hle0 := hR.le
      refine call_wp ho hf hfe F.fn (F.calls B E _ hR.rel hR.h hav (fun n h3 h4 hu => ?_)) (fun e w' hh => ?_)
      · rcases hR.u n hu with h | h
        · exact hfr n (by omega) (by omega) h
        · have := h.2; omega
      · obtain ⟨E', v', rfl, C⟩ := hh
        refine ⟨v', rfl, ?_⟩
        have := hp2.wp B E0 n0 Q E act hp nx E' v' hfr hQ hR (by omega) C.rel C.ext C.h (fun n hn => by
          rcases C.u n hn with h | h
          · exact .inl h
          · exact .inr ⟨h.1, by have := h.2; omega⟩) C.v
        rw [C.w] at this
        exact this
    | ex u hp1 nx1 =>
      rw [hc] at h
      obtain ⟨rfl, rfl, hu, hx⟩ := hcall.ex g args hp nx u hp1 nx1 hv.wf hc
      have hp2 := post_ok hn hd Wt hu Wh (show postS (dkS K o.dst) nxt u a b c d call tm hp1 nx1 = .go l tm' hp' nx' from h)
      have hle2 := hp2.le
      refine ⟨hp2.l, by omega, hp2.wt, hp2.hw, fun B E0 n0 Q E act hfr hQ hR => ?_⟩
      obtain ⟨l, hfe, hav⟩ := av hR.tm
      obtain ⟨v', hv', hcan⟩ := hx E _ hav
      exact hcan o q f l act _ Q ho hf hfe rfl (hp2.wp B E0 n0 Q E act hp1 nx1 E v' hfr hQ hR (Nat.le_refl _) hR.rel (Ext.refl E) hR.h (fun n hn => .inl hn) hv')

/-! ## the operations of a region, in the text's order -/

theorem getKC_eq {e : En} {i : Nat} {k : Gt → Cds} : getKC K e i k = k (getS K e i) := by
  unfold getKC getS
  cases Nat.beq e.e0 (Nat.succ i)
  case true => rfl
  cases Nat.beq e.e1 (Nat.succ i)
  case true => rfl
  cases Nat.beq e.e2 (Nat.succ i)
  case true => rfl
  cases Nat.beq e.e3 (Nat.succ i)
  case true => rfl
  cases isK K i
  case true => rfl
  rfl

theorem gd_of {e : En} {a b c d : U} {tm : TM} {E : Env} {act : Act} (hR : TmR K e a b c d tm E act) {o : Oper} {q : Nat × Bool} (hg : o.guard = some q) {dj : Nat} (hj : gDst all q.1 = some dj) {r : Bool} (h : (match (getS K e dj a b c d tm).toV with | .kb b => some (b == q.2) | .tup [] => some false | _ => none : Option Bool) = some r) : Region.wanted o (yielded all.toArray act.tmps) = r := by
  refine guard_sound (E := E) (T := fun s => (getS K e s a b c d tm).toV) hR.win ?_
  unfold gDst at hj
  obtain ⟨j, want⟩ := q
  rw [hg]
  simp only at hj ⊢
  cases hx : all[j]? with
  | none => rw [hx] at hj; cases hj
  | some oj =>
    rw [hx] at hj
    simp only at hj ⊢
    rw [hj]
    exact h

theorem one_ends (hT : TblOK P tb) (hcall : CallVOK P call) {o : Oper} {rest : List Oper} {e : En} {nxt : Cds} (hn : CdsOK N K call nxt (enS e o.dst) (fun Q act w => wpList P all.toArray Q rest act w)) (hd : dstIn N o.dst = true) : CdsOK N K call (oneC tb N K all e o (dkS K o.dst) nxt) e (fun Q act w => wpList P all.toArray Q (o :: rest) act w) := by
  have hst := stp_ends (P := P) (e := e) hT hcall hn hd
  unfold oneC
  cases hg : o.guard with
  | none =>
    intro a b c d tm hp nx l tm' hp' nx' Wt Wh h
    have := hst a b c d tm hp nx l tm' hp' nx' Wt Wh h
    refine ⟨this.l, this.le, this.wt, this.hw, fun B E0 n0 Q E act hfr hQ hR => ?_⟩
    unfold wpList
    have hw : Region.wanted o (yielded all.toArray act.tmps) = true := by unfold Region.wanted; rw [hg]
    rw [hw]
    simp only [if_true]
    exact .inl (this.wp B E0 n0 Q E act hfr hQ hR)
  | some q =>
    intro a b c d tm hp nx l tm' hp' nx' Wt Wh h
    have h : Cds.run (Option.rec (motive := fun _ => Cds) badC (fun dj => gdC K e dj q.2 (dkS K o.dst) nxt (stpC tb N K e o.op (dkS K o.dst) nxt (cmp K e tb o.op))) (gDst all q.1)) a b c d call tm hp nx = .go l tm' hp' nx' := h
    cases hj : gDst all q.1 with
    | none =>
      rw [hj] at h
      cases h
    | some dj =>
      rw [hj] at h
      have run : (∀ {E : Env} {act : Act}, TmR K e a b c d tm E act → Region.wanted o (yielded all.toArray act.tmps) = true) → Cds.run (stpC tb N K e o.op (dkS K o.dst) nxt (cmp K e tb o.op)) a b c d call tm hp nx = .go l tm' hp' nx' → EndsV N K e a b c d tm hp nx l tm' hp' nx' (fun Q act w => wpList P all.toArray Q (o :: rest) act w) := fun hw h => by
        have := hst a b c d tm hp nx l tm' hp' nx' Wt Wh h
        refine ⟨this.l, this.le, this.wt, this.hw, fun B E0 n0 Q E act hfr hQ hR => ?_⟩
        unfold wpList
        rw [hw hR.tm]
        simp only [if_true]
        exact .inl (this.wp B E0 n0 Q E act hfr hQ hR)
      have skip : (∀ {E : Env} {act : Act}, TmR K e a b c d tm E act → Region.wanted o (yielded all.toArray act.tmps) = false) → postS (dkS K o.dst) nxt (.tup []) a b c d call tm hp nx = .go l tm' hp' nx' → EndsV N K e a b c d tm hp nx l tm' hp' nx' (fun Q act w => wpList P all.toArray Q (o :: rest) act w) := fun hw h => by
        have := post_ok hn hd Wt (show (U.tup []).wf from fun w hw => by cases hw) Wh h
        refine ⟨this.l, this.le, this.wt, this.hw, fun B E0 n0 Q E act hfr hQ hR => ?_⟩
        unfold wpList
        rw [hw hR.tm]
        simp only [Bool.false_eq_true, if_false]
        exact this.wp B E0 n0 Q E act hp nx E undef hfr hQ hR (Nat.le_refl _) hR.rel (Ext.refl E) hR.h (fun n hn => .inl hn) (by simp [U.toV, vrel, undef, vrels])
      have h : Cds.run (gdC K e dj q.2 (dkS K o.dst) nxt (stpC tb N K e o.op (dkS K o.dst) nxt (cmp K e tb o.op))) a b c d call tm hp nx = .go l tm' hp' nx' := h
      unfold gdC at h
      rw [getKC_eq] at h
      have gw : ∀ r : Bool, (match (getS K e dj a b c d tm).toV with | .kb b => some (b == q.2) | .tup [] => some false | _ => none : Option Bool) = some r → ∀ {E : Env} {act : Act}, TmR K e a b c d tm E act → Region.wanted o (yielded all.toArray act.tmps) = r := fun r h {E act} hR => gd_of hR hg hj h
      cases hq : q.2 with
      | true =>
        rw [hq] at h gw
        have h : uGdT (getS K e dj a b c d tm) (Cds.run (stpC tb N K e o.op (dkS K o.dst) nxt (cmp K e tb o.op)) a b c d call tm hp nx) (postS (dkS K o.dst) nxt (.tup []) a b c d call tm hp nx) (.no [105]) = .go l tm' hp' nx' := h
        cases hu : getS K e dj a b c d tm with
        | kb p =>
          rw [hu] at h gw
          cases p with
          | true => exact run (gw true rfl) h
          | false => exact skip (gw false rfl) h
        | tup ws =>
          rw [hu] at h gw
          cases ws with
          | nil => exact skip (gw false rfl) h
          | cons _ _ => cases h
        | _ => rw [hu] at h; cases h
      | false =>
        rw [hq] at h gw
        have h : uGdF (getS K e dj a b c d tm) (Cds.run (stpC tb N K e o.op (dkS K o.dst) nxt (cmp K e tb o.op)) a b c d call tm hp nx) (postS (dkS K o.dst) nxt (.tup []) a b c d call tm hp nx) (.no [105]) = .go l tm' hp' nx' := h
        cases hu : getS K e dj a b c d tm with
        | kb p =>
          rw [hu] at h gw
          cases p with
          | true => exact skip (gw false rfl) h
          | false => exact run (gw true rfl) h
        | tup ws =>
          rw [hu] at h gw
          cases ws with
          | nil => exact skip (gw false rfl) h
          | cons _ _ => cases h
        | _ => rw [hu] at h; cases h

theorem ops_ends (hT : TblOK P tb) (hcall : CallVOK P call) : ∀ (rest : List Oper) (e : En), (∀ o ∈ rest, dstIn N o.dst = true) → CdsOK N K call (opsC tb N K all rest e) e (fun Q act w => wpList P all.toArray Q rest act w)
  | [], e, _ => by
    intro a b c d tm hp nx l tm' hp' nx' Wt Wh h
    have h : Rv.go .nrm tm hp nx = .go l tm' hp' nx' := h
    cases h
    exact ⟨rfl, Nat.le_refl _, Wt.out, Wh, fun B E0 n0 Q E act hfr hQ hR => wpList_nil (hQ E act hR.out)⟩
  | o :: rest, e, hd => one_ends hT hcall (ops_ends hT hcall rest (enS e o.dst) (fun o ho => hd o (List.mem_cons_of_mem _ ho))) (hd o List.mem_cons_self)
end

end Go.Mir

/- The machine, part 6: regions that draw their order are sound. -/
namespace Go.Mir
open Go.RowKit

variable {P : Program} {tb : Tbl} {N K : Nat}

theorem forceLR_eq : ∀ (l : List Nat) (k : List Nat → Rv), forceLR l k = k l
  | [], _ => rfl
  | n :: r, k => by simp only [forceLR, numR_eq, forceLR_eq r]

/-! ## the kept ones as a list -/

noncomputable def tmL (K : Nat) (tm : TM) : Nat → List (Nat × V)
  | 0 => []
  | n + 1 => bif isK K n then (n, ((acc3 n).get tm).toV) :: tmL K tm n else tmL K tm n
theorem find_tmL (tm : TM) (s : Nat) : ∀ n, find (tmL K tm n) s = if s < n ∧ isK K s = true then some ((acc3 s).get tm).toV else none
  | 0 => by rw [if_neg (by omega)]; rfl
  | n + 1 => by
    simp only [tmL]
    cases hk : isK K n with
    | false =>
      rw [cond_false, find_tmL tm s n]
      by_cases h : s < n ∧ isK K s = true
      · rw [if_pos h, if_pos ⟨by omega, h.2⟩]
      · rw [if_neg h, if_neg (fun e => by
          by_cases e1 : s = n
          · rw [e1, hk] at e; cases e.2
          · exact h ⟨by omega, e.2⟩)]
    | true =>
      simp only [cond_true, find]
      cases hb : Nat.beq n s with
      | true =>
        have e1 := beq_of hb
        subst e1
        rw [cond_true, if_pos ⟨by omega, hk⟩]
      | false =>
        have hne : n ≠ s := fun e => by subst e; rw [Nat.beq_refl] at hb; cases hb
        rw [cond_false, find_tmL tm s n]
        by_cases h : s < n ∧ isK K s = true
        · rw [if_pos h, if_pos ⟨by omega, h.2⟩]
        · rw [if_neg h, if_neg (fun e => h ⟨by omega, e.2⟩)]

/-- the list says what the kept ones are -/
def FL (K : Nat) (tm : TM) (L : List (Nat × V)) : Prop := ∀ s, find L s = if isK K s = true then some ((acc3 s).get tm).toV else none
theorem FL_tmL (tm : TM) : FL K tm (tmL K tm 512) := fun s => by
  rw [find_tmL]
  by_cases h : isK K s = true
  · rw [if_pos ⟨isK_lt h, h⟩, if_pos h]
  · rw [if_neg (fun e => h e.2), if_neg h]
theorem FL.look {tm : TM} {L : List (Nat × V)} (h : FL K tm L) (s : Nat) : lookV L s = lookD K tm s := by
  unfold lookV lookD
  rw [h s, getS_en0]
  by_cases hk : isK K s = true
  · rw [if_pos hk, hk]; rfl
  · have : isK K s = false := by simpa using hk
    rw [if_neg hk, this]
    rfl
theorem tmPut_def (tm : TM) (i : Nat) (u : U) : tmPut tm i u = (acc3 i).put u tm := rfl
theorem FL.put {tm : TM} {L : List (Nat × V)} (h : FL K tm L) {d : Option Nat} (hd : dstK N K d = true) {u : U} {v : V} (hv : u.toV = v) : FL K (putDr d u tm) (dstPut d v ++ L) := by
  cases d with
  | none => exact h
  | some dd =>
    have hk : isK K dd = true := by
      unfold dstK at hd
      rw [Bool.and_eq_true] at hd
      exact hd.2
    intro s
    simp only [dstPut, List.singleton_append, find, putDr, tmPut_def]
    cases hb : Nat.beq dd s with
    | true =>
      have e1 := beq_of hb
      subst e1
      rw [cond_true, if_pos hk, acc3_same, hv]
    | false =>
      have hne : dd ≠ s := fun e => by subst e; rw [Nat.beq_refl] at hb; cases hb
      rw [cond_false, h s]
      by_cases hs : isK K s = true
      · rw [if_pos hs, if_pos hs, acc3_put hk hs hne]
      · rw [if_neg hs, if_neg hs]
def KW (K : Nat) (tm : TM) : Prop := ∀ i, isK K i = true → ((acc3 i).get tm).wf
theorem KW.put {tm : TM} (h : KW K tm) {d : Option Nat} (hd : dstK N K d = true) {u : U} (hu : u.wf) : KW K (putDr d u tm) := by
  cases d with
  | none => exact h
  | some dd =>
    have hk : isK K dd = true := by
      unfold dstK at hd
      rw [Bool.and_eq_true] at hd
      exact hd.2
    intro i hi
    show ((acc3 i).get (tmPut tm dd u)).wf
    rw [tmPut_def]
    by_cases e1 : dd = i
    · subst e1; rw [acc3_same]; exact hu
    · rw [acc3_put hk hi e1]; exact h i hi
theorem KW.wt {tm : TM} (h : KW K tm) : WT K tm := by
  refine ⟨fun i => ?_, h⟩
  rw [getS_en0]
  cases hk : isK K i with
  | true => exact h i hk
  | false => exact u0_wf
theorem dstK_in {d : Option Nat} (h : dstK N K d = true) : dstIn N d = true := by
  cases d with
  | none => rfl
  | some dd =>
    unfold dstK at h
    rw [Bool.and_eq_true] at h
    exact h.1

theorem guardD_eq {all : List Oper} {L : List (Nat × V)} {tm : TM} (h : ∀ s, lookV L s = lookD K tm s) (o : Oper) : guardOf all L o = guardD K all tm o := by
  unfold guardOf guardD
  cases o.guard with
  | none => rfl
  | some q =>
    simp only
    cases all[q.1]? with
    | none => rfl
    | some oj =>
      simp only
      cases oj.dst with
      | none => rfl
      | some dj => simp only; rw [h]; rfl
theorem maskD_eq {rs : List Nat} {L : List (Nat × V)} {tm : TM} (h : ∀ s, lookV L s = lookD K tm s) : maskEv rs L = maskD K rs tm := by
  funext x
  cases x <;> simp only [maskEv, maskD]
  rw [h]

theorem wEx_some {v : V} {w : W} (h : wEx v = some w) : w.toV = v ∧ w.wf := by
  cases v with
  | agg cs =>
    have h : (Bool.rec (motive := fun _ => Option W) none (some (.agg (ofL cs) cs.length)) (okL cs) : Option W) = some w := h
    cases ho : okL cs with
    | false => rw [ho] at h; cases h
    | true =>
      rw [ho] at h
      cases h
      have hc := CsR.ofL ho
      exact ⟨by show V.agg (toL _ _) = _; rw [hc.toL], ⟨_, hc⟩⟩
  | tup vs => cases h
  | _ => cases h; exact ⟨rfl, trivial⟩
theorem wExs_some : ∀ {vs : List V} {l : List W}, wExs vs = some l → l.map W.toV = vs ∧ ∀ w ∈ l, w.wf
  | [], l, h => by cases h; exact ⟨rfl, fun w hw => by cases hw⟩
  | v :: vs, l, h => by
    simp only [wExs] at h
    split at h
    case h_2 => cases h
    rename_i w hw
    split at h
    case h_2 => cases h
    rename_i l' hl
    cases h
    obtain ⟨h1, h2⟩ := wEx_some hw
    obtain ⟨h3, h4⟩ := wExs_some hl
    refine ⟨by rw [List.map_cons, h1, h3], fun x hx => ?_⟩
    rcases List.mem_cons.1 hx with rfl | hx
    · exact h2
    · exact h4 x hx
theorem uEx_some {v : V} {u : U} (h : uEx v = some u) : u.toV = toKb v ∧ u.wf := by
  cases v with
  | agg cs =>
    have h : (Bool.rec (motive := fun _ => Option U) none (some (.agg (ofL cs) cs.length)) (okL cs) : Option U) = some u := h
    cases ho : okL cs with
    | false => rw [ho] at h; cases h
    | true =>
      rw [ho] at h
      cases h
      have hc := CsR.ofL ho
      exact ⟨by show V.agg (toL _ _) = _; rw [hc.toL]; rfl, ⟨_, hc⟩⟩
  | tup vs =>
    have h : (match wExs vs with | some l => some (U.tup l) | none => none : Option U) = some u := h
    split at h
    case h_2 => cases h
    rename_i l hl
    cases h
    obtain ⟨h1, h2⟩ := wExs_some hl
    exact ⟨by show V.tup (l.map W.toV) = _; rw [h1]; rfl, h2⟩
  | _ => cases h; exact ⟨rfl, trivial⟩

/-! ## a call on a part of the heap -/

theorem blkPut_ge {hp : HP} {h : Nat} (hl : ¬ h < 262144) (b : Bk) : blkPut hp h b = hp := by rw [blkPut_def, accH_ge hl]
theorem partV_at {hp : HP} (j : Nat) : ∀ (R : List Nat) (t : HP), blkAt (partV hp R t) j = if j ∈ R then blkAt hp j else blkAt t j
  | [], t => by simp [partV]
  | h :: R, t => by
    simp only [partV]
    rw [partV_at j R]
    by_cases e : j ∈ R
    · simp [e]
    · rw [if_neg e]
      by_cases e2 : j = h
      · subst e2
        rw [if_pos List.mem_cons_self]
        by_cases hl : j < 262144
        · rw [blk_same hl]
        · rw [blk_ge hl, blk_ge hl]
      · rw [if_neg (by simp [e, e2])]
        by_cases hl : h < 262144
        · rw [blk_ne hl (Ne.symm e2)]
        · rw [blkPut_ge hl]
theorem partV_H {hp : HP} (R : List Nat) : hpH (partV hp R hp0) = restr (hpH hp) R := by
  funext j
  unfold hpH restr
  rw [partV_at, hp0_at]
  cases hm : memN R j with
  | true => rw [if_pos (memN_iff.1 hm)]; rfl
  | false => rw [if_neg (fun e => by rw [memN_iff.2 e] at hm; cases hm)]; rfl
theorem partV_W {hp : HP} (W : hpW hp) (R : List Nat) : hpW (partV hp R hp0) := fun j => by
  rw [partV_at, hp0_at]
  split
  · exact W j
  · trivial

theorem mrgV_some {hp' : HP} (W' : hpW hp') : ∀ {keys : List Nat} {hp hp2 : HP} {dh : List (Nat × Blk)}, hpW hp → mrgV hp' keys hp = some (hp2, dh) → hpH hp2 = hset (hpH hp) dh ∧ hpW hp2 ∧ ∀ h b, find dh h = some b → hpH hp' h = some b
  | [], hp, hp2, dh, W, h => by cases h; exact ⟨rfl, W, fun h b hb => by cases hb⟩
  | q :: r, hp, hp2, dh, W, h => by
    unfold mrgV at h
    split at h
    case h_2 => cases h
    rename_i b hb
    split at h
    case h_2 => cases h
    rename_i hp1 dh1 h1
    cases h
    obtain ⟨e1, W1, e2⟩ := mrgV_some W' W h1
    have hq : q < 262144 := blk_lt (fun e => by rw [e] at hb; cases hb)
    refine ⟨?_, hpW_put W1 hq (W' q), fun j b' hj => ?_⟩
    · rw [hpH_put hq hb, e1]
      funext k
      simp only [hset, find]
      cases Nat.beq q k <;> rfl
    · simp only [find] at hj
      cases hx : Nat.beq q j with
      | true =>
        rw [hx, cond_true] at hj
        cases hj
        rw [← beq_of hx]
        exact hb
      | false => rw [hx] at hj; exact e2 j b' hj
theorem mrgV_keys {hp' : HP} : ∀ {keys : List Nat} {hp hp2 : HP} {dh : List (Nat × Blk)}, mrgV hp' keys hp = some (hp2, dh) → dh.map (·.1) = keys
  | [], hp, hp2, dh, h => by cases h; rfl
  | q :: r, hp, hp2, dh, h => by
    unfold mrgV at h
    split at h
    case h_2 => cases h
    split at h
    case h_2 => cases h
    rename_i h1
    cases h
    rw [List.map_cons, mrgV_keys h1]

theorem hsC_eq (c : C) (r : List Nat) : hsC c r = c.toV.hs ++ r := by cases c <;> rfl
theorem hsT_eq (t : CT) : ∀ n i, hsT t n i = hss (toLF t n i)
  | 0, _ => rfl
  | n + 1, i => by
    show hsC (cellAt t i) (hsT t n (i + 1)) = _
    rw [hsC_eq, hsT_eq t n (i + 1)]
    rfl
theorem hsBk_eq {b : Bk} {B : Blk} (h : b.toB = some B) : hsBk b = B.hs := by
  cases b with
  | none => cases h
  | cells t n => cases h; exact hsT_eq t n 0
  | grow v e t n => cases h; exact hsT_eq t n 0
  | mp es => cases h; rfl
theorem hsBk_none {b : Bk} (h : b.toB = none) : hsBk b = [] := by cases b <;> first | rfl | cases h
theorem reachV_eq (hp : HP) : ∀ n new acc, reachV hp n new acc = reach (hpH hp) n new acc
  | 0, _, _ => rfl
  | n + 1, new, acc => by
    simp only [reachV, reach]
    have : (fun h => hsBk (blkAt hp h)) = fun h => (match hpH hp h with | some b => b.hs | none => [] : List Nat) := by
      funext h
      unfold hpH
      cases hb : (blkAt hp h).toB with
      | none => exact hsBk_none hb
      | some B => exact hsBk_eq hb
    rw [this]
    generalize new.filter (fun h => !memN acc h) = add
    cases add with
    | nil => rfl
    | cons a l => exact reachV_eq hp n _ _
theorem frameV_eq (hp : HP) (R : List Nat) (m K : Nat) (v : V) (dh : List (Nat × Blk)) : frameV hp R m K v dh = frameOK (hpH hp) R m K v dh := by
  unfold frameV frameOK
  have : (fun h => bif isBk (blkAt hp h) then hsOK R m K (hsBk (blkAt hp h)) else false) = fun h => (match hpH hp h with | some b => hsOK R m K b.hs | none => false : Bool) := by
    funext h
    unfold hpH
    cases hb : blkAt hp h with
    | none => rfl
    | cells t n => show hsOK R m K (hsBk (.cells t n)) = _; rw [hsBk_eq (B := .cells (toL t n)) rfl]; rfl
    | grow v e t n => show hsOK R m K (hsBk (.grow v e t n)) = _; rw [hsBk_eq (B := .grow v e (toL t n)) rfl]; rfl
    | mp es => show hsOK R m K (hsBk (.mp es)) = _; rw [hsBk_eq (B := .mp es) rfl]; rfl
  rw [this]
  rfl
theorem eqS_of {a b : Int} (h : eqS a b = true) : a = b := by
  rw [eqS_eq] at h
  simpa using h
theorem bc_of {p q : Bool} (h : (Bool.rec (motive := fun _ => Bool) false q p : Bool) = true) : p = true ∧ q = true := by
  cases p <;> cases q <;> first | exact ⟨rfl, rfl⟩ | cases h
theorem eqC_of {c d : C} (h : eqC c d = true) : c.toV = d.toV := by
  cases c <;> cases d <;> first | cases h | skip
  · obtain ⟨h1, h2⟩ := bc_of h
    rw [ikEq_of h1, eqS_of h2]
  · rename_i b b'
    cases b <;> cases b' <;> first | rfl | cases h
  · obtain ⟨h1, h2⟩ := bc_of h
    rw [beq_of h1, beq_of h2]
  · obtain ⟨h1, h2⟩ := bc_of h
    obtain ⟨h2, h3⟩ := bc_of h2
    rw [beq_of h1, beq_of h2, beq_of h3]
  · obtain ⟨h1, h2⟩ := bc_of h
    obtain ⟨h2, h3⟩ := bc_of h2
    obtain ⟨h3, h4⟩ := bc_of h3
    obtain ⟨h4, h5⟩ := bc_of h4
    rw [beq_of h1, beq_of h2, beq_of h3, beq_of h4, beq_of h5]
  · exact V.eqb_eq _ _ h
theorem eqT_of {t t' : CT} : ∀ n i, eqT t t' n i = true → toLF t n i = toLF t' n i
  | 0, _, _ => rfl
  | n + 1, i, h => by
    obtain ⟨hc, h⟩ := bc_of (show (Bool.rec (motive := fun _ => Bool) false (eqT t t' n (i + 1)) (eqC (cellAt t i) (cellAt t' i)) : Bool) = true from h)
    simp only [toLF]
    rw [eqC_of hc, eqT_of n (i + 1) h]
theorem eqBk_of {b d : Bk} (h : eqBk b d = true) : b.toB = d.toB := by
  cases b <;> cases d <;> first | cases h | skip
  · rfl
  · obtain ⟨h1, h2⟩ := bc_of h
    have e := beq_of h1
    subst e
    show some (Blk.cells (toL _ _)) = some (Blk.cells (toL _ _))
    unfold toL
    rw [eqT_of _ _ h2]
  · obtain ⟨h1, k1⟩ := bc_of h
    obtain ⟨h2, k2⟩ := bc_of k1
    obtain ⟨h3, h4⟩ := bc_of k2
    have e1 := beq_of h1
    have e2 := beq_of h2
    have e3 := beq_of h3
    subst e1
    subst e2
    subst e3
    show some (Blk.grow _ _ (toL _ _)) = some (Blk.grow _ _ (toL _ _))
    unfold toL
    rw [eqT_of _ _ h4]
  · show some (Blk.mp _) = some (Blk.mp _)
    rw [eqbE_eq _ _ h]

theorem dcallV_sound {call : CallV} (hcall : CallVOK P call) {g : FuncId} {args : List U} {hp : HP} (W : hpW hp) (Wa : ∀ x ∈ args, x.wf) {R : List Nat} {m : Nat} {k : U → HP → List (Nat × Blk) → Nat → Rv} {l : Lf} {tm' : TM} {hp' : HP} {nx' : Nat} (h : dcallV call g args hp R m k = .go l tm' hp' nx') :
    ∃ u hp2 dh nx, k u hp2 dh nx = .go l tm' hp' nx' ∧ u.wf ∧ hpW hp2 ∧ hpH hp2 = hset (hpH hp) dh ∧ (∃ fn, P.funcs[g]? = some fn ∧ fn.body.isSome = true ∧ (fn.name == "runtime.NumGoroutine") = false) ∧ m ≤ nx ∧
      ∀ (B : Base) (E : Env) (av : List Value), HRel B E → E.H = restr (hpH hp) R → vrels E (args.map U.toV) av → (∀ n, m ≤ n → n < nx → ¬ E.U n) →
        Calls P g av.toArray E.w fun e w' => ∃ E' v', e = .returned v' ∧ GoodK B E m (nx + 1 - m) dh w' E' ∧ vrel E' u.toV v' := by
  unfold dcallV at h
  split at h
  case h_2 => cases h
  case h_3 => cases h
  rename_i u hp1 nx1 hc
  simp only [forceLR_eq] at h
  generalize hkeys : (reachV hp1 64 (u.toV.hs ++ R.filter fun h => !eqBk (blkAt hp h) (blkAt hp1 h)) []).filter (fun h => !(memN R h && !memN (R.filter fun h => !eqBk (blkAt hp h) (blkAt hp1 h)) h)) = keys at h
  cases hall : (R.filter fun h => !eqBk (blkAt hp h) (blkAt hp1 h)).all (fun h => memN keys h) with
  | false => rw [hall] at h; cases h
  | true =>
    rw [hall] at h
    simp only [cond_true] at h
    split at h
    case h_2 => cases h
    rename_i hp2 dh hm
    have F := hcall.ok g args _ m u hp1 nx1 Wa (partV_W W R) hc
    obtain ⟨e1, W2, e2⟩ := mrgV_some F.hw W hm
    refine ⟨u, hp2, dh, nx1, h, F.wf, W2, e1, F.fn, F.le, fun B E av hE hH hav hfr => ?_⟩
    refine (F.calls B E av hE (by rw [hH, partV_H]) hav hfr).mono fun e w' hh => ?_
    obtain ⟨E', v', rfl, C⟩ := hh
    obtain ⟨R1, X1⟩ := C.rel.weak (hset E.H dh) (fun j k' hk => by
      refine ⟨k', ?_, .inl rfl⟩
      rw [C.h]
      unfold hset at hk
      cases hf : find dh j with
      | some b => rw [hf] at hk; simp only [Option.some.injEq] at hk; subst hk; exact e2 j b hf
      | none =>
        rw [hf] at hk
        simp only at hk
        rw [hH] at hk
        unfold restr at hk
        cases hm1 : memN R j with
        | false => rw [hm1] at hk; cases hk
        | true =>
          rw [hm1] at hk
          simp only [cond_true] at hk
          cases he : eqBk (blkAt hp j) (blkAt hp1 j) with
          | false =>
            have h5 := List.all_eq_true.1 hall j (List.mem_filter.2 ⟨memN_iff.1 hm1, by rw [he]; rfl⟩)
            rw [← mrgV_keys hm] at h5
            exact absurd hf (find_of_memN h5)
          | true =>
            have h5 : hpH hp j = hpH hp1 j := eqBk_of he
            rw [← h5]; exact hk)
    exact ⟨_, v', rfl, ⟨R1, C.ext.trans X1, C.w, rfl, fun n hn => by
      rcases C.u n hn with h | h
      · exact .inl h
      · exact .inr ⟨h.1, by have := h.2; omega⟩⟩, vrel_ext X1 _ _ C.v⟩

/-! ## what the records say of one another -/

theorem dynR_spec {ms : List Nat} {i : Nat} {r : Rec} : ∀ {ss : List Rec} {j : Nat}, dynR ms i r j ss = true → ∀ k s, ss[k]? = some s → ordB ms i (j + k) = true ∨ dynP r s = true
  | [], j, _, k, s, h => by simp at h
  | s0 :: ss, j, h, k, s, hs => by
    simp only [dynR, Bool.and_eq_true, Bool.or_eq_true] at h
    cases k with
    | zero => simp only [List.getElem?_cons_zero, Option.some.injEq] at hs; subst hs; exact h.1
    | succ k =>
      have := dynR_spec h.2 k s (by simpa using hs)
      rwa [show j + 1 + k = j + (k + 1) by omega] at this
theorem dynD_spec {ms : List Nat} {recs : List Rec} : ∀ {rs : List Rec} {i : Nat}, dynD ms recs i rs = true → ∀ k r, rs[k]? = some r → r.dh = [] ∨ dynR ms (i + k) r 0 recs = true
  | [], i, _, k, r, h => by simp at h
  | r0 :: rs, i, h, k, r, hr => by
    simp only [dynD, Bool.and_eq_true] at h
    cases k with
    | zero =>
      simp only [List.getElem?_cons_zero, Option.some.injEq] at hr
      subst hr
      cases hd : r0.dh with
      | nil => exact .inl rfl
      | cons q l => have h1 := h.1; rw [hd] at h1; exact .inr h1
    | succ k =>
      have := dynD_spec h.2 k r (by simpa using hr)
      rwa [show i + 1 + k = i + (k + 1) by omega] at this
theorem statR_spec {ms : List Nat} {all : List Oper} {i : Nat} {o : Oper} : ∀ {os : List Oper} {j : Nat}, statR ms all i o j os = true → ∀ k o', os[k]? = some o' → ((ms[j + k]?).getD 0).testBit i = true ∨ statP all o o' = true
  | [], j, _, k, s, h => by simp at h
  | s0 :: ss, j, h, k, s, hs => by
    simp only [statR, Bool.and_eq_true, Bool.or_eq_true] at h
    cases k with
    | zero => simp only [List.getElem?_cons_zero, Option.some.injEq] at hs; subst hs; exact h.1
    | succ k =>
      have := statR_spec h.2 k s (by simpa using hs)
      rwa [show j + 1 + k = j + (k + 1) by omega] at this
theorem statA_spec {ms : List Nat} {all : List Oper} : ∀ {os : List Oper} {i : Nat}, statA ms all i os = true → ∀ k l o o', os[k]? = some o → os[k + 1 + l]? = some o' → ((ms[i + (k + 1 + l)]?).getD 0).testBit (i + k) = true ∨ statP all o o' = true
  | [], i, _, k, l, o, o', h, _ => by simp at h
  | o0 :: os, i, h, k, l, o, o', ho, ho' => by
    simp only [statA, Bool.and_eq_true] at h
    cases k with
    | zero =>
      simp only [List.getElem?_cons_zero, Option.some.injEq] at ho
      subst ho
      have := statR_spec h.1 l o' (by rw [show 0 + 1 + l = l + 1 by omega] at ho'; simpa using ho')
      rwa [show i + 1 + l = i + (0 + 1 + l) by omega] at this
    | succ k =>
      have := statA_spec h.2 k l o o' (by simpa using ho) (by rw [show k + 1 + 1 + l = (k + 1 + l) + 1 by omega] at ho'; simpa using ho')
      rwa [show i + 1 + (k + 1 + l) = i + (k + 1 + 1 + l) by omega, show i + 1 + k = i + (k + 1) by omega] at this

theorem pairOK_of {ms : List Nat} {i : Nat} {r : Rec} : ∀ {ss : List Rec} {j : Nat}, (∀ k s, ss[k]? = some s → ((ms[j + k]?).getD 0).testBit i = true ∨ comm r s = true) → pairOK ms i r j ss = true
  | [], j, _ => rfl
  | s0 :: ss, j, h => by
    simp only [pairOK, Bool.and_eq_true, Bool.or_eq_true]
    refine ⟨h 0 s0 (by simp), pairOK_of fun k s hs => ?_⟩
    have := h (k + 1) s (by simpa using hs)
    rwa [show j + (k + 1) = j + 1 + k by omega] at this
theorem chkAll_of {ms : List Nat} : ∀ {rs : List Rec} {i : Nat}, (∀ k l r s, rs[k]? = some r → rs[k + 1 + l]? = some s → ((ms[i + (k + 1 + l)]?).getD 0).testBit (i + k) = true ∨ comm r s = true) → chkAll ms i rs = true
  | [], i, _ => rfl
  | r0 :: rs, i, h => by
    simp only [chkAll, Bool.and_eq_true]
    refine ⟨pairOK_of fun k s hs => ?_, chkAll_of fun k l r s hr hs => ?_⟩
    · have := h 0 k r0 s (by simp) (by rw [show 0 + 1 + k = k + 1 by omega]; simpa using hs)
      rwa [show i + (0 + 1 + k) = i + 1 + k by omega] at this
    · have := h (k + 1) l r s (by simpa using hr) (by rw [show k + 1 + 1 + l = (k + 1 + l) + 1 by omega]; simpa using hs)
      rwa [show i + (k + 1 + 1 + l) = i + 1 + (k + 1 + l) by omega, show i + (k + 1) = i + 1 + k by omega] at this

theorem disj_nil (l : List Nat) : disj [] l = true := rfl
theorem disj_symm {l r : List Nat} (h : disj l r = true) : disj r l = true := by
  unfold disj at h ⊢
  rw [List.all_eq_true] at h ⊢
  intro x hx
  cases hm : memN l x with
  | false => rfl
  | true =>
    have := h x (memN_iff.1 hm)
    rw [memN_iff.2 hx] at this
    cases this
theorem chk_of {all : List Oper} {recs : List Rec} (hlen : recs.length = all.length) (hrec : ∀ (i : Nat) (o : Oper) (r : Rec), all[i]? = some o → recs[i]? = some r → r.dst = o.dst ∧ r.rs = slotsOf all o) (hs : statD all = true) (hd : dynD (masks all []) recs 0 recs = true) : edgesOK 0 all = true ∧ chkAll (masks all []) 0 recs = true := by
  unfold statD at hs
  rw [Bool.and_eq_true] at hs
  refine ⟨hs.1, chkAll_of fun k l r s hr hs' => ?_⟩
  have hkl : k + 1 + l < recs.length := (List.getElem?_eq_some_iff.1 hs').1
  obtain ⟨o, ho⟩ : ∃ o, all[k]? = some o := ⟨all[k]'(by omega), List.getElem?_eq_getElem (by omega)⟩
  obtain ⟨o', ho'⟩ : ∃ o', all[k + 1 + l]? = some o' := ⟨all[k + 1 + l]'(by omega), List.getElem?_eq_getElem (by omega)⟩
  have e1 := hrec _ _ _ ho hr
  have e2 := hrec _ _ _ ho' hs'
  rcases statA_spec hs.2 k l o o' ho ho' with h | h
  · exact .inl h
  rw [Nat.zero_add, Nat.zero_add]
  have hne : Nat.beq k (k + 1 + l) = false := by
    cases hb : Nat.beq k (k + 1 + l) with
    | false => rfl
    | true => have := beq_of hb; omega
  have hne' : Nat.beq (k + 1 + l) k = false := by
    cases hb : Nat.beq (k + 1 + l) k with
    | false => rfl
    | true => have := beq_of hb; omega
  have hlt : Nat.blt k (k + 1 + l) = true := by rw [Nat.blt_eq]; omega
  have hlt' : Nat.blt (k + 1 + l) k = false := by
    cases hb : Nat.blt (k + 1 + l) k with
    | false => rfl
    | true => rw [Nat.blt_eq] at hb; omega
  have o1 : ordB (masks all []) k (k + 1 + l) = (((masks all [])[k + 1 + l]?).getD 0).testBit k := by
    unfold ordB; rw [hne, hlt]; rfl
  have o2 : ordB (masks all []) (k + 1 + l) k = (((masks all [])[k + 1 + l]?).getD 0).testBit k := by
    unfold ordB; rw [hne', hlt']; rfl
  cases hbit : (((masks all [])[k + 1 + l]?).getD 0).testBit k with
  | true => exact .inl rfl
  | false =>
    refine .inr ?_
    have d1 : r.dh = [] ∨ dynP r s = true := by
      rcases dynD_spec hd k r hr with h1 | h1
      · exact .inl h1
      · rcases dynR_spec h1 (k + 1 + l) s hs' with h2 | h2
        · rw [Nat.zero_add, Nat.zero_add, o1, hbit] at h2; cases h2
        · exact .inr h2
    have d2 : s.dh = [] ∨ dynP s r = true := by
      rcases dynD_spec hd (k + 1 + l) s hs' with h1 | h1
      · exact .inl h1
      · rcases dynR_spec h1 k r hr with h2 | h2
        · rw [Nat.zero_add, Nat.zero_add, o2, hbit] at h2; cases h2
        · exact .inr h2
    unfold statP at h
    unfold comm
    rw [e1.1, e1.2, e2.1, e2.2]
    simp only [Bool.and_eq_true] at h ⊢
    refine ⟨h, ?_⟩
    unfold dynP at d1 d2
    simp only [Bool.and_eq_true] at d1 d2
    refine ⟨⟨?_, ?_⟩, ?_⟩
    · rcases d1 with h1 | h1
      · rw [h1]; rfl
      · exact h1.1
    · rcases d1 with h1 | h1
      · rw [h1]; rfl
      · exact h1.2
    · rcases d2 with h1 | h1
      · rw [h1]; rfl
      · exact h1.2

theorem altR_spec {ms : List Nat} {i h0 : Nat} {okB : Blk → Bool} : ∀ {ss : List Rec} {j : Nat}, altR ms i h0 okB j ss = true → ∀ k s b, ss[k]? = some s → find s.dh h0 = some b → j + k ≠ i →
    (j + k < i → ((ms[i]?).getD 0).testBit (j + k) = true) ∧ (i < j + k → ((ms[j + k]?).getD 0).testBit i = true ∨ okB b = true)
  | [], j, _, k, s, b, h, _, _ => by simp at h
  | s0 :: ss, j, h, k, s, b, hs, hb, hne => by
    simp only [altR, Bool.and_eq_true] at h
    cases k with
    | zero =>
      simp only [List.getElem?_cons_zero, Option.some.injEq] at hs
      subst hs
      have h1 := h.1
      rw [hb] at h1
      simp only [Bool.or_eq_true, Nat.add_zero] at h1 hne ⊢
      rcases h1 with h1 | h1
      · exact absurd (beq_of h1).symm hne
      · refine ⟨fun hlt => ?_, fun hgt => ?_⟩
        · rw [show Nat.blt j i = true by rw [Nat.blt_eq]; exact hlt] at h1
          exact h1
        · rw [show Nat.blt j i = false by cases hx : Nat.blt j i with | false => rfl | true => rw [Nat.blt_eq] at hx; omega] at h1
          simpa using h1
    | succ k =>
      have := altR_spec h.2 k s b (by simpa using hs) hb (by omega)
      rwa [show j + 1 + k = j + (k + 1) by omega] at this
theorem altD_spec {ms : List Nat} {recs : List Rec} : ∀ {as : List Alt} {i : Nat}, altD ms recs i as = true → ∀ k h0 okB, as[k]? = some (some (h0, okB)) → altR ms (i + k) h0 okB 0 recs = true
  | [], i, _, k, h0, okB, h => by simp at h
  | a0 :: as, i, h, k, h0, okB, ha => by
    cases k with
    | zero =>
      simp only [List.getElem?_cons_zero, Option.some.injEq] at ha
      subst ha
      simp only [altD, Bool.and_eq_true] at h
      exact h.1
    | succ k =>
      have h2 : altD ms recs (i + 1) as = true := by
        cases a0 with
        | none => exact h
        | some q => obtain ⟨a, b⟩ := q; simp only [altD, Bool.and_eq_true] at h; exact h.2
      have := altD_spec h2 k h0 okB (by simpa using ha)
      rwa [show i + 1 + k = i + (k + 1) by omega] at this
theorem alt_of {ms : List Nat} {recs : List Rec} {as : List Alt} (h : altD ms recs 0 as = true) : AltOK (fun n => (as[n]?).getD none) ms recs := fun i h0 okB ha j s b hs hb hne => by
  have ha : as[i]? = some (some (h0, okB)) := by
    have ha : (as[i]?).getD none = some (h0, okB) := ha
    cases hx : as[i]? with
    | none => rw [hx] at ha; cases ha
    | some a => rw [hx] at ha; simp only [Option.getD_some] at ha; rw [ha]
  have := altR_spec (altD_spec h i h0 okB ha) j s b hs hb (by omega)
  simpa using this

theorem lkD_some {tb : Tbl} {ev : Operand → V} {op : Op} {h0 : Nat} {tk te : TD} {k : V} {ok : Bool} (h : lkD tb ev op = some (h0, tk, te, k, ok)) : ∃ t x ky q, op = .lookup t x ky ok ∧ mapTys tb t = some q ∧ ev x = .mpv h0 ∧ q.1 = tk ∧ q.2 = te ∧ ev ky = k := by
  unfold lkD at h
  split at h
  case h_2 => cases h
  rename_i t x ky ok'
  split at h
  case h_2 => cases h
  rename_i q hq
  split at h
  case h_2 => cases h
  rename_i h' hx
  cases h
  exact ⟨t, x, ky, q, rfl, hq, hx, rfl, rfl, rfl⟩
theorem evLookup_pure {tk te : TD} {H : Heap} {x k : V} {ok : Bool} {ps : List Ob} {v : V} {dh : List (Nat × Blk)} (h : evLookup tk te H x k ok = .val ps v dh) : ps = [] ∧ dh = [] := by
  unfold evLookup at h
  split at h
  case h_2 => cases h
  split at h
  · cases h; exact ⟨rfl, rfl⟩
  · split at h
    · cases h; exact ⟨rfl, rfl⟩
    · cases h
  · cases h
theorem evLookup_at {tk te : TD} {H : Heap} {h0 : Nat} {k : V} {ok : Bool} {b : Blk} (h : H h0 = some b) : evLookup tk te H (.mpv h0) k ok = evLookup tk te (fun _ => some b) (.mpv h0) k ok := by
  simp only [evLookup, mpEs, h]

/-! ## the run -/

section
variable {call : CallV} {all : List Oper}

theorem drawV_run (hT : TblOK P tb) (hcall : CallVOK P call) {st : St} : ∀ (rest : List Oper) (tm : TM) (hp : HP) (nx : Nat) (rr : List (Rec × Alt)) (ra : List (Rec × Alt)) (recs : List Rec) (d : Dl) (l : Lf) (tm' : TM) (hp' : HP) (nx' : Nat), drawV tb N K call all rest tm hp nx rr = .go l tm' hp' nx' → rr.reverse = ra → ra.map (·.1) = recs →
    KW K tm → hpW hp → FL K tm (d.tm ++ st.tm) → hset st.H d.hp = hpH hp → ∀ i, recs.length + rest.length = all.length → (∀ (j : Nat) (o : Oper), rest[j]? = some o → all[recs.length + j]? = some o) → (∀ (j : Nat) (o : Oper) (r : Rec), all[j]? = some o → recs[j]? = some r → r.dst = o.dst ∧ r.rs = slotsOf all o) →
    l = .nrm ∧ KW K tm' ∧ hpW hp' ∧ ∃ (ks : List (Nat × Cfg)) (als : List Alt) (df : Dl) (rf : List Rec), ks.length = rest.length ∧ Chain nx ks nx' ∧ (∀ q ∈ ks, CfgOK P q.2 ∧ q.2.N = N) ∧
      (∀ (Cf : Nat → Cfg) (lo : Nat → Nat) (al : Nat → Alt), (∀ j q, ks[j]? = some q → Cf (i + j) = q.2 ∧ lo (i + j) = q.1) → (∀ j x, als[j]? = some x → al (i + j) = x) → RunV Cf lo al all st i rest d recs df rf) ∧
      edgesOK 0 all = true ∧ chkAll (masks all []) 0 rf = true ∧ AltOK (fun n => ((ra.map (·.2) ++ als)[n]?).getD none) (masks all []) rf ∧ FL K tm' (df.tm ++ st.tm) ∧ hset st.H df.hp = hpH hp'
  | [], tm, hp, nx, rr, ra, recs, d, l, tm', hp', nx', h, hrr, hra, Wt, Wh, h2, h3, i, hln, _, hrc => by
    simp only [drawV, hrr, hra] at h
    cases hc : statD all && (dynD (masks all []) recs 0 recs && altD (masks all []) recs 0 (ra.map (·.2))) with
    | false => rw [hc] at h; cases h
    | true =>
      rw [hc] at h
      simp only [cond_true, Rv.go.injEq] at h
      obtain ⟨rfl, rfl, rfl, rfl⟩ := h
      simp only [Bool.and_eq_true] at hc
      have hal := alt_of hc.2.2
      have hc := chk_of (by simpa using hln) hrc hc.1 hc.2.1
      exact ⟨rfl, Wt, Wh, [], [], d, recs, rfl, rfl, fun q hq => by simp at hq, fun _ _ _ _ _ => .nil, hc.1, hc.2, by simpa using hal, h2, h3⟩
  | o :: rest, tm, hp, nx, rr, ra, recs, d, l, tm', hp', nx', h, hrr, hra, Wt, Wh, h2, h3, i, hln, hall, hrc => by
    simp only [drawV] at h
    cases hd0 : dstK N K o.dst with
    | false => rw [hd0] at h; cases h
    | true =>
      rw [hd0] at h
      simp only [cond_true] at h
      have hd := dstK_in hd0
      have h1 := h2.look
      -- a step, put together with what follows
      have glue : ∀ (C0 : Cfg) (alt : Alt) (r : Rec) (u : U) (hp1 : HP) (nx1 : Nat), CfgOK P C0 → C0.N = N → nx + C0.K ≤ nx1 → DoesV C0 alt all (d.tm ++ st.tm) (hset st.H d.hp) nx o r →
          u.toV = r.v → r.dst = o.dst → u.wf → hpW hp1 → hpH hp1 = hset (hpH hp) r.dh → drawV tb N K call all rest (putDr o.dst u tm) hp1 nx1 ((r, alt) :: rr) = .go l tm' hp' nx' →
          l = .nrm ∧ KW K tm' ∧ hpW hp' ∧ ∃ (ks : List (Nat × Cfg)) (als : List Alt) (df : Dl) (rf : List Rec), ks.length = (o :: rest).length ∧ Chain nx ks nx' ∧ (∀ q ∈ ks, CfgOK P q.2 ∧ q.2.N = N) ∧
            (∀ (Cf : Nat → Cfg) (lo : Nat → Nat) (al : Nat → Alt), (∀ j q, ks[j]? = some q → Cf (i + j) = q.2 ∧ lo (i + j) = q.1) → (∀ j x, als[j]? = some x → al (i + j) = x) → RunV Cf lo al all st i (o :: rest) d recs df rf) ∧
            edgesOK 0 all = true ∧ chkAll (masks all []) 0 rf = true ∧ AltOK (fun n => ((ra.map (·.2) ++ als)[n]?).getD none) (masks all []) rf ∧ FL K tm' (df.tm ++ st.tm) ∧ hset st.H df.hp = hpH hp' := fun C0 alt r u hp1 nx1 hC hCN hle hdo hu hrd huw W1 hhp hrest => by
        have hf' : FL K (putDr o.dst u tm) (dstPut r.dst r.v ++ d.tm ++ st.tm) := by
          rw [List.append_assoc, hrd]
          exact h2.put hd0 hu
        obtain ⟨q1, q2, q3, ks, als, df, rf, k1, k2, k3, k4, k5a, k5b, k5c, k5⟩ := drawV_run hT hcall (st := st) rest (putDr o.dst u tm) hp1 nx1 ((r, alt) :: rr) (ra ++ [(r, alt)]) (recs ++ [r]) ⟨dstPut r.dst r.v ++ d.tm, r.dh ++ d.hp⟩ l tm' hp' nx' hrest (by rw [List.reverse_cons, hrr]) (by rw [List.map_append, hra]; rfl) (Wt.put hd0 huw) W1 hf' (by rw [hset_append, h3, hhp]) (i + 1) (by simp at hln ⊢; omega) (fun j o' hj => by
          have := hall (j + 1) o' (by simpa using hj)
          rw [List.length_append, List.length_singleton, show recs.length + 1 + j = recs.length + (j + 1) by omega]
          exact this) (fun j o' r' ho' hr' => by
          rcases Nat.lt_or_ge j recs.length with hj | hj
          · rw [List.getElem?_append_left hj] at hr'
            exact hrc j o' r' ho' hr'
          · rw [List.getElem?_append_right hj] at hr'
            have hj0 : j - recs.length = 0 := by
              cases hx : j - recs.length with
              | zero => rfl
              | succ n => rw [hx] at hr'; simp at hr'
            rw [hj0] at hr'
            simp only [List.getElem?_cons_zero, Option.some.injEq] at hr'
            subst hr'
            have := hall 0 o (by simp)
            rw [Nat.add_zero, show recs.length = j by omega] at this
            rw [this] at ho'
            cases ho'
            obtain ⟨_, q1, q2⟩ := hdo.dstIn
            exact ⟨q1, q2⟩)
        refine ⟨q1, q2, q3, (nx, C0) :: ks, alt :: als, df, rf, by simp [k1], ⟨rfl, nx1, hle, k2⟩, fun q hq => ?_, fun Cf lo al hCf hal => ?_, k5a, k5b, by simpa using k5c, k5⟩
        · rcases List.mem_cons.1 hq with rfl | hq
          · exact ⟨hC, hCN⟩
          · exact k3 q hq
        · have h0 := hCf 0 (nx, C0) (by simp)
          have h0a := hal 0 alt (by simp)
          refine .cons (r := r) ?_ (k4 Cf lo al (fun j q hq => ?_) fun j x hx => ?_)
          · rw [show i = i + 0 from rfl, h0.1, h0.2, h0a]; exact hdo
          · have := hCf (j + 1) q (by simpa using hq)
            rw [show i + 1 + j = i + (j + 1) by omega]
            exact this
          · have := hal (j + 1) x (by simpa using hx)
            rw [show i + 1 + j = i + (j + 1) by omega]
            exact this
      have hmask : ∀ rs, maskEv rs (d.tm ++ st.tm) = maskD K rs tm := fun rs => maskD_eq h1
      have hC1 : CfgOK P ⟨tb, fun _ => none, 1, N⟩ := ⟨hT, Nat.le_refl _, fun _ _ h => by cases h⟩
      split at h
      · -- left out
        rename_i hg
        rw [numR_eq] at h
        exact glue ⟨tb, fun _ => none, 1, N⟩ none ⟨o.dst, .tup [], [], [], slotsOf all o⟩ (.tup []) hp (nx + 1) hC1 rfl (Nat.le_refl _) (.old (.skip hd (by rw [guardD_eq h1]; exact hg))) rfl rfl (fun w hw => by cases hw) Wh rfl h
      · rename_i hg
        simp only [forceLR_eq, reachV_eq, frameV_eq] at h
        split at h
        · -- a lookup
          rename_i h0 tk te ky ok hlk
          obtain ⟨t, x, kx, q, ho, hq, hx, rfl, rfl, rfl⟩ := lkD_some hlk
          split at h
          case h_2 => cases h
          rename_i ps v dh he
          split at h
          case h_2 => cases h
          rename_i u hu
          rw [numR_eq] at h
          obtain ⟨rfl, rfl⟩ := evLookup_pure he
          obtain ⟨hu1, hu2⟩ := uEx_some hu
          have ev1 : ∀ H2 : Heap, evAny ⟨tb, fun _ => none, 1, N⟩ nx H2 (maskD K (slotsOf all o) tm) o.op = match evLookup q.1 q.2 H2 (.mpv h0) (maskD K (slotsOf all o) tm kx) ok with | .val ps v dh => some (ps, v, dh) | _ => none := fun H2 => by
            simp only [evAny, ho, evSt, evOp, hq, hx]
            rfl
          refine glue ⟨tb, fun _ => none, 1, N⟩ (some (h0, okLk q.1 q.2 h0 (maskD K (slotsOf all o) tm kx) ok v)) ⟨o.dst, toKb v, [], [], slotsOf all o⟩ u hp (nx + 1) hC1 rfl (Nat.le_refl _) (.dir (v := v) (ps := []) hd (by rw [guardD_eq h1]; exact hg) (by rw [hmask, h3, ev1, he]) (fun H2 _ hag => ?_) (fun p hp => by cases hp) (by cases v <;> simp [toKb])) hu1 rfl hu2 Wh rfl h
          rw [hmask, h3, ev1, ev1, he]
          rcases hag h0 _ rfl with e | ⟨b, e1, e2⟩
          · rw [h3] at e
            have : evLookup q.1 q.2 H2 (.mpv h0) (maskD K (slotsOf all o) tm kx) ok = evLookup q.1 q.2 (hpH hp) (.mpv h0) (maskD K (slotsOf all o) tm kx) ok := by simp only [evLookup, mpEs, e]
            rw [this, he]
          · rw [evLookup_at e1]
            unfold okLk at e2
            split at e2
            · rename_i ps' v' dh' he'
              obtain ⟨rfl, rfl⟩ := evLookup_pure he'
              rw [he', V.eqb_eq _ _ e2]
            · cases e2
        rename_i hlk
        cases hdir : dirOK (maskD K (slotsOf all o) tm) o.op
        case true =>
          rw [hdir] at h
          simp only [cond_true] at h
          split at h
          case h_1 => cases h
          rename_i ps v dh he
          cases hps : ps.all Ob.chk with
          | false => rw [hps] at h; cases h
          | true =>
            rw [hps] at h
            simp only [cond_true] at h
            split at h
            case h_2 => cases h
            rename_i u hp2 hu hs
            rw [numR_eq] at h
            obtain ⟨hu1, hu2⟩ := uEx_some hu
            obtain ⟨hs1, hs2⟩ := setsB_some Wh hs
            have hev := evAnyR_eq tb N nx _ _ o.op he
            refine glue ⟨tb, fun _ => none, 1, N⟩ none ⟨o.dst, toKb v, dh, _, slotsOf all o⟩ u hp2 (nx + 1) hC1 rfl (Nat.le_refl _) (.dir (v := v) (ps := ps) hd (by rw [guardD_eq h1]; exact hg) (by rw [hmask, h3]; exact hev) (fun H2 hag => ?_) (fun p hp => Ob.chk_holds (List.all_eq_true.1 hps p hp)) (by cases v <;> simp [toKb])) hu1 rfl hu2 hs2 hs1 h
            rw [hmask]
            rw [h3] at hag ⊢
            exact fun _ => dir_cong hdir (fun x hx k hk => hag k (List.mem_flatMap.2 ⟨x, hx, hk⟩))
        rw [hdir] at h
        simp only [cond_false] at h
        split at h
        · -- a call
          rename_i g args he
          have hwa : ∀ x ∈ args.map uOfV, x.wf := fun x hx => by
            obtain ⟨v, _, rfl⟩ := List.mem_map.1 hx
            exact uOfV_wf v
          obtain ⟨u, hp2, dh, nx2, h, huw, W2, hhp, hfn, hle, hcalls⟩ := dcallV_sound hcall Wh hwa h
          cases hfr : frameOK (hpH hp) (reach (hpH hp) 8 (o.op.operands.toList.flatMap fun x => (maskD K (slotsOf all o) tm x).hs) []) nx (nx2 + 1 - nx) u.toV dh with
          | false => rw [hfr] at h; cases h
          | true =>
            rw [hfr] at h
            simp only [cond_true, numR_eq] at h
            obtain ⟨c, f, caps, ho, hf, hg2, hargs⟩ := evA_call tb N nx _ _ o.op he
            let ct : Ctr := fun args' H' m' => open Classical in if args' = args ∧ H' = restr (hpH hp) (reach (hpH hp) 8 (o.op.operands.toList.flatMap fun x => (maskD K (slotsOf all o) tm x).hs) []) ∧ m' = nx then some ([], u.toV, dh) else none
            let C0 : Cfg := ⟨tb, fun g' => if g' = g then some ct else none, nx2 + 1 - nx, N⟩
            have hK : 1 ≤ nx2 + 1 - nx := by omega
            have hC : CfgOK P C0 := ⟨hT, hK, fun f' c' hf' => by
              have hf2 : (if f' = g then some ct else none) = some c' := hf'
              split at hf2
              case isFalse => cases hf2
              rename_i e
              cases hf2
              subst e
              refine ⟨hfn, fun B E hE args' av hav m hm ps' v' dh' hp2 _ => ?_⟩
              simp only [ct] at hp2
              split at hp2
              case isFalse => cases hp2
              rename_i e
              obtain ⟨rfl, e2, rfl⟩ := e
              cases hp2
              refine hcalls B E av hE e2 ?_ (fun n h1 h2 => hm n h1 (by show n < m + (nx2 + 1 - m); omega))
              rw [List.map_map]
              exact vrels_le (fun v => v) _ uOfV_le args' av (by simpa using hav)⟩
            have hev : evAny C0 nx (restr (hpH hp) (reach (hpH hp) 8 (o.op.operands.toList.flatMap fun x => (maskD K (slotsOf all o) tm x).hs) [])) (maskD K (slotsOf all o) tm) o.op = some ([], u.toV, dh) := by
              simp only [evAny, ho, evSt, evOp, hf, hg2, C0, if_true]
              rw [← hargs]
              simp only [evCall, ct]
              rw [if_pos ⟨rfl, by rw [ho], rfl⟩]
              rfl
            refine glue C0 none ⟨o.dst, u.toV, dh, _, slotsOf all o⟩ u hp2 (nx2 + 1) hC rfl (by show nx + (nx2 + 1 - nx) ≤ nx2 + 1; omega) (.old <| .run (v := u.toV) hd (by rw [guardD_eq h1]; exact hg) (by
              simp only [stepOp]
              rw [hmask, h3]
              rw [hev]
              simp only [C0, hfr, cond_true]
              rfl) (fun p hp => by cases hp) (.inl rfl)) rfl rfl huw W2 hhp h
        · cases h
        · -- an operation
          rename_i ps v dh he
          cases hfr : ps.all Ob.chk && frameOK (hpH hp) (reach (hpH hp) 8 (o.op.operands.toList.flatMap fun x => (maskD K (slotsOf all o) tm x).hs) []) nx 1 v dh with
          | false => rw [hfr] at h; cases h
          | true =>
            rw [hfr] at h
            simp only [cond_true] at h
            simp only [Bool.and_eq_true] at hfr
            split at h
            case h_2 => cases h
            rename_i u hp2 hu hs
            rw [numR_eq] at h
            obtain ⟨hu1, hu2⟩ := uEx_some hu
            obtain ⟨hs1, hs2⟩ := setsB_some Wh hs
            have hev := evA_plain tb N nx _ _ o.op he
            refine glue ⟨tb, fun _ => none, 1, N⟩ none ⟨o.dst, toKb v, dh, _, slotsOf all o⟩ u hp2 (nx + 1) hC1 rfl (Nat.le_refl _) (.old <| .run (v := v) hd (by rw [guardD_eq h1]; exact hg) (by
              simp only [stepOp]
              rw [hmask, h3]
              rw [hev]
              simp only [hfr.2, cond_true]) (fun p hp => Ob.chk_holds (List.all_eq_true.1 hfr.1 p hp)) (by cases v <;> simp [toKb])) hu1 rfl hu2 hs2 hs1 h
      · cases h

theorem drawV_ends (hT : TblOK P tb) (hP : P.follows .mixedOrders = true) (hcall : CallVOK P call) {tm : TM} {hp : HP} {nx : Nat} {l : Lf} {tm' : TM} {hp' : HP} {nx' : Nat} (Wt : WT K tm) (Wh : hpW hp) (h : drawV tb N K call all all tm hp nx [] = .go l tm' hp' nx') (id : Nat) :
    EndsV N K en0 u0 u0 u0 u0 tm hp nx l tm' hp' nx' (fun Q act w => (Code.region id all.toArray true).wp P Q act w) := by
  obtain ⟨q1, q2, q3, ks, als, df, rf, k1, k2, k3, k4, k5, k6, k6a, k7, k8⟩ := drawV_run hT hcall (st := ⟨tmL K tm 512, [], hpH hp, nx⟩) all tm hp nx [] [] [] ⟨[], []⟩ l tm' hp' nx' h rfl rfl Wt.tm Wh (FL_tmL tm) rfl 0 (by simp) (fun j o h => by simpa using h) (fun j o r _ h => by simp at h)
  refine ⟨q1, k2.le, q2.wt, q3, fun B E0 n0 Q E act hfr hQ hR => ?_⟩
  have hC0 : CfgOK P ⟨tb, fun _ => none, 1, N⟩ := ⟨hT, Nat.le_refl _, fun _ _ h => by cases h⟩
  let Cf : Nat → Cfg := fun j => match ks[j]? with | some q => q.2 | none => ⟨tb, fun _ => none, 1, N⟩
  let lo : Nat → Nat := fun j => match ks[j]? with | some q => q.1 | none => 0
  have hCf : ∀ j q, ks[j]? = some q → Cf j = q.2 ∧ lo j = q.1 := fun j q hq => by simp only [Cf, lo, hq]; exact ⟨trivial, trivial⟩
  have hget : ∀ j, j < all.length → ∃ q, ks[j]? = some q := fun j hj => ⟨ks[j]'(by omega), List.getElem?_eq_getElem (by omega)⟩
  have hle : n0 ≤ nx := hR.le
  have tmok : ∀ {tm : TM} {L : List (Nat × V)} {E : Env} {act : Act}, FL K tm L → (∀ i, isK K i = true → vrel E ((acc3 i).get tm).toV (act.tmps.getD i undef)) → tmOK E (find L) act := fun {tm L E act} hL ht s v hv => by
    rw [hL s] at hv
    by_cases hk : isK K s = true
    · rw [if_pos hk] at hv
      cases hv
      exact ht s hk
    · rw [if_neg hk] at hv
      cases hv
  refine draw_envV (Cf := Cf) (lo := lo) (al := fun n => (als[n]?).getD none) (N := N) (fun j => ?_) (fun j => ?_) hP (k4 Cf lo _ (fun j q hq => by rw [Nat.zero_add]; exact hCf j q hq) (fun j x hx => by rw [Nat.zero_add, hx]; rfl)) k5 k6 (by simpa using k6a) hR.rel hR.h (tmok (FL_tmL tm) hR.tm.tm) hR.size hR.defers (fun j hj n h1 h2 hu => ?_) (fun i j hij hj => ?_) (fun E' a' r1 x1 h1 u1 t1 s1 d1 => ?_) id
  · show CfgOK P (match ks[j]? with | some q => q.2 | none => ⟨tb, fun _ => none, 1, N⟩)
    cases hq : ks[j]? with
    | none => exact hC0
    | some q => exact (k3 q (List.mem_of_getElem? hq)).1
  · show (match ks[j]? with | some q => q.2 | none => (⟨tb, fun _ => none, 1, N⟩ : Cfg)).N = N
    cases hq : ks[j]? with
    | none => rfl
    | some q => exact (k3 q (List.mem_of_getElem? hq)).2
  · obtain ⟨q, hq⟩ := hget j hj
    obtain ⟨e1, e2⟩ := hCf j q hq
    rw [e1, e2] at h2
    rw [e2] at h1
    have := k2.at j q hq
    rcases hR.u n hu with h3 | h3
    · exact hfr n (by omega) (by omega) h3
    · have := h3.2; omega
  · obtain ⟨p, hp⟩ := hget i (by omega)
    obtain ⟨q, hq⟩ := hget j hj
    rw [(hCf i p hp).1, (hCf i p hp).2, (hCf j q hq).2]
    exact k2.lt i j p q hij hp hq
  · have t2 : TmR K en0 u0 u0 u0 u0 tm' E' a' := by
      have h2 : ∀ i, isK K i = true → vrel E' ((acc3 i).get tm').toV (a'.tmps.getD i undef) := fun i hi => t1 i _ (by rw [k7 i, if_pos hi])
      refine ⟨fun i => ?_, h2⟩
      rw [getS_en0]
      cases hk : isK K i with
      | true => exact h2 i hk
      | false => exact u0_rel
    refine hQ E' a' ⟨r1, hR.ext.trans x1, by rw [h1]; exact k8, fun n hn => ?_, Nat.le_trans hle k2.le, t2, s1, d1⟩
    rcases u1 n hn with h | ⟨j, hj, h2, h3⟩
    · rcases hR.u n h with h | h
      · exact .inl h
      · have := k2.le; exact .inr ⟨h.1, by have := h.2; omega⟩
    · obtain ⟨q, hq⟩ := hget j hj
      obtain ⟨e1, e2⟩ := hCf j q hq
      rw [e1, e2] at h3
      rw [e2] at h2
      have := k2.at j q hq
      exact .inr ⟨by omega, by omega⟩
end

end Go.Mir

/- The machine, part 7: code and functions are sound; the contract of a closed call. -/
namespace Go.Mir
open Go.RowKit

variable {P : Program} {tb : Tbl} {N K : Nat} {call : CallV}

/-- where a piece of code leads to -/
structure EndsC (N K : Nat) (tm : TM) (hp : HP) (nx : Nat) (l : Lf) (tm' : TM) (hp' : HP) (nx' : Nat) (W : Wp) : Prop where
  le : nx ≤ nx'
  wt : WT K tm'
  hw : hpW hp'
  wp : ∀ (B : Base) (E0 : Env) (n0 : Nat) (Q : Exit → Act → World → Prop) (E : Env) (act : Act), (∀ n, n0 ≤ n → n < nx' → ¬ E0.U n) → (∀ E act, RX B E0 n0 N K tm' hp' nx' E act → Q (exitOf l) act E.w) → RX B E0 n0 N K tm hp nx E act → W Q act E.w
def RunsTo (N K : Nat) (f : KR) (W : Wp) : Prop := ∀ (tm : TM) (hp : HP) (nx : Nat) (l : Lf) (tm' : TM) (hp' : HP) (nx' : Nat), WT K tm → hpW hp → f tm hp nx = .go l tm' hp' nx' → EndsC N K tm hp nx l tm' hp' nx' W

theorem loop_ends {b : Code} {f : KR} (hf : RunsTo N K f (fun Q act w => b.wp P Q act w)) : ∀ n, RunsTo N K (loopV f n) (fun Q act w => Code.rounds P b Q n act w)
  | 0 => fun tm hp nx l tm' hp' nx' Wt Wh h => by cases h
  | n + 1 => fun tm hp nx l tm' hp' nx' Wt Wh h => by
    have h : numR nx (fun nx => seqK (f tm hp nx) (loopV f n)) = .go l tm' hp' nx' := h
    rw [numR_eq] at h
    cases hr : f tm hp nx with
    | no w => rw [hr] at h; cases h
    | go e1 tm1 hp1 nx1 =>
      rw [hr] at h
      have h1 := hf tm hp nx e1 tm1 hp1 nx1 Wt Wh hr
      have hl1 := h1.le
      cases e1 with
      | nrm =>
        have h2 := loop_ends hf n tm1 hp1 nx1 l tm' hp' nx' h1.wt h1.hw h
        have hl2 := h2.le
        refine ⟨by omega, h2.wt, h2.hw, fun B E0 n0 Q E act hfr hQ hR => ?_⟩
        show Code.rounds P b Q (n + 1) act E.w
        rw [rounds_succ]
        exact h1.wp B E0 n0 _ E act (fun k h3 h4 => hfr k h3 (by omega)) (fun E act hR1 => h2.wp B E0 n0 Q E act hfr hQ hR1) hR
      | ext id =>
        cases h
        refine ⟨hl1, h1.wt, h1.hw, fun B E0 n0 Q E act hfr hQ hR => ?_⟩
        show Code.rounds P b Q (n + 1) act E.w
        rw [rounds_succ]
        exact h1.wp B E0 n0 _ E act hfr (fun E act hR1 => hQ E act hR1) hR
      | ret =>
        cases h
        refine ⟨hl1, h1.wt, h1.hw, fun B E0 n0 Q E act hfr hQ hR => ?_⟩
        show Code.rounds P b Q (n + 1) act E.w
        rw [rounds_succ]
        exact h1.wp B E0 n0 _ E act hfr (fun E act hR1 => hQ E act hR1) hR

theorem getKD_eq {e : En} {i : Nat} {k : Gt → Cd} : getKD K e i k = k (getS K e i) := by
  unfold getKD getS
  cases Nat.beq e.e0 (Nat.succ i)
  case true => rfl
  cases Nat.beq e.e1 (Nat.succ i)
  case true => rfl
  cases Nat.beq e.e2 (Nat.succ i)
  case true => rfl
  cases Nat.beq e.e3 (Nat.succ i)
  case true => rfl
  cases isK K i
  case true => rfl
  rfl

attribute [local irreducible] ROUNDS in
theorem code_ends (hT : TblOK P tb) (hP : P.follows .mixedOrders = true) (hcall : CallVOK P call) : ∀ (c : Code), RunsTo N K ((codeC tb N K c).run call) (fun Q act w => c.wp P Q act w)
  | .skip => fun tm hp nx l tm' hp' nx' Wt Wh h => by
    cases h
    exact ⟨Nat.le_refl _, Wt, Wh, fun B E0 n0 Q E act hfr hQ hR => wp_skip (hQ E act hR)⟩
  | .ret => fun tm hp nx l tm' hp' nx' Wt Wh h => by
    cases h
    exact ⟨Nat.le_refl _, Wt, Wh, fun B E0 n0 Q E act hfr hQ hR => wp_ret (hQ E act hR)⟩
  | .exit id => fun tm hp nx l tm' hp' nx' Wt Wh h => by
    cases h
    exact ⟨Nat.le_refl _, Wt, Wh, fun B E0 n0 Q E act hfr hQ hR => wp_exit (hQ E act hR)⟩
  | .region id ops false => fun tm hp nx l tm' hp' nx' Wt Wh h => by
    have h : Cd.run (regC tb N K ops.toList) call tm hp nx = .go l tm' hp' nx' := h
    unfold regC at h
    cases hd : dstsOK N ops.toList with
    | false => rw [hd] at h; cases h
    | true =>
      rw [hd] at h
      have h1 := ops_ends (P := P) (N := N) (K := K) (all := ops.toList) hT hcall ops.toList en0 (fun o ho => List.all_eq_true.1 hd o ho) u0 u0 u0 u0 tm hp nx l tm' hp' nx' Wt Wh h
      obtain rfl := h1.l
      refine ⟨h1.le, h1.wt, h1.hw, fun B E0 n0 Q E act hfr hQ hR => wp_region_list ?_⟩
      have := h1.wp B E0 n0 Q E act hfr hQ hR
      simpa using this
  | .region id ops true => fun tm hp nx l tm' hp' nx' Wt Wh h => by
    have h : drawV tb N K call ops.toList ops.toList tm hp nx [] = .go l tm' hp' nx' := h
    have h1 := drawV_ends (P := P) hT hP hcall Wt Wh h id
    obtain rfl := h1.l
    refine ⟨h1.le, h1.wt, h1.hw, fun B E0 n0 Q E act hfr hQ hR => ?_⟩
    have := h1.wp B E0 n0 Q E act hfr hQ hR
    simpa using this
  | .seq x y => fun tm hp nx l tm' hp' nx' Wt Wh h => by
    have h : seqK (Cd.run (codeC tb N K x) call tm hp nx) (Cd.run (codeC tb N K y) call) = .go l tm' hp' nx' := h
    cases hr : Cd.run (codeC tb N K x) call tm hp nx with
    | no w => rw [hr] at h; cases h
    | go e1 tm1 hp1 nx1 =>
      rw [hr] at h
      have h1 := code_ends hT hP hcall x tm hp nx e1 tm1 hp1 nx1 Wt Wh hr
      have hl1 := h1.le
      cases e1 with
      | nrm =>
        have h2 := code_ends hT hP hcall y tm1 hp1 nx1 l tm' hp' nx' h1.wt h1.hw h
        have hl2 := h2.le
        exact ⟨by omega, h2.wt, h2.hw, fun B E0 n0 Q E act hfr hQ hR => wp_seq (h1.wp B E0 n0 _ E act (fun k h3 h4 => hfr k h3 (by omega)) (fun E act hR1 => h2.wp B E0 n0 Q E act hfr hQ hR1) hR)⟩
      | ext id =>
        cases h
        exact ⟨hl1, h1.wt, h1.hw, fun B E0 n0 Q E act hfr hQ hR => wp_seq (h1.wp B E0 n0 _ E act hfr (fun E act hR1 => hQ E act hR1) hR)⟩
      | ret =>
        cases h
        exact ⟨hl1, h1.wt, h1.hw, fun B E0 n0 Q E act hfr hQ hR => wp_seq (h1.wp B E0 n0 _ E act hfr (fun E act hR1 => hQ E act hR1) hR)⟩
  | .cond c x y => fun tm hp nx l tm' hp' nx' Wt Wh h => by
    have key : ∀ (u : U), (∀ E act, TmR K en0 u0 u0 u0 u0 tm E act → vrel E u.toV (act.eval c)) → uKb u (fun b => Bool.rec (motive := fun _ => Rv) (Cd.run (codeC tb N K y) call tm hp nx) (Cd.run (codeC tb N K x) call tm hp nx) b) (.no [4]) = .go l tm' hp' nx' → EndsC N K tm hp nx l tm' hp' nx' (fun Q act w => (Code.cond c x y).wp P Q act w) := fun u hu h => by
      cases u with
      | kb b =>
        cases b with
        | true =>
          have h1 := code_ends hT hP hcall x tm hp nx l tm' hp' nx' Wt Wh h
          exact ⟨h1.le, h1.wt, h1.hw, fun B E0 n0 Q E act hfr hQ hR => wp_cond_true (by have := hu E act hR.tm; simpa [U.toV, vrel] using this) (h1.wp B E0 n0 Q E act hfr hQ hR)⟩
        | false =>
          have h1 := code_ends hT hP hcall y tm hp nx l tm' hp' nx' Wt Wh h
          exact ⟨h1.le, h1.wt, h1.hw, fun B E0 n0 Q E act hfr hQ hR => wp_cond_false (by have := hu E act hR.tm; simpa [U.toV, vrel] using this) (h1.wp B E0 n0 Q E act hfr hQ hR)⟩
      | _ => cases h
    cases c with
    | tmp i =>
      have h : Cd.run (getKD K en0 i fun g => ⟨fun call tm hp nx => uKb (g u0 u0 u0 u0 tm) (fun b => Bool.rec (motive := fun _ => Rv) (Cd.run (codeC tb N K y) call tm hp nx) (Cd.run (codeC tb N K x) call tm hp nx) b) (.no [4])⟩) call tm hp nx = .go l tm' hp' nx' := h
      rw [getKD_eq] at h
      exact key (getS K en0 i u0 u0 u0 u0 tm) (fun E act hR => hR.win i) h
    | const v => exact key (uOfV (cv v)) (fun E act hR => uOfV_le _ _ _ (cv_sound v)) h
    | global i => cases h
    | func f => cases h
  | .block id b => fun tm hp nx l tm' hp' nx' Wt Wh h => by
    have h : blockK id (Cd.run (codeC tb N K b) call tm hp nx) = .go l tm' hp' nx' := h
    cases hr : Cd.run (codeC tb N K b) call tm hp nx with
    | no w => rw [hr] at h; cases h
    | go e1 tm1 hp1 nx1 =>
      rw [hr] at h
      have h1 := code_ends hT hP hcall b tm hp nx e1 tm1 hp1 nx1 Wt Wh hr
      cases e1 with
      | nrm =>
        cases h
        exact ⟨h1.le, h1.wt, h1.hw, fun B E0 n0 Q E act hfr hQ hR => wp_block (h1.wp B E0 n0 _ E act hfr (fun E act hR1 => hQ E act hR1) hR)⟩
      | ret =>
        cases h
        exact ⟨h1.le, h1.wt, h1.hw, fun B E0 n0 Q E act hfr hQ hR => wp_block (h1.wp B E0 n0 _ E act hfr (fun E act hR1 => hQ E act hR1) hR)⟩
      | ext i =>
        have h : (Bool.rec (motive := fun _ => Rv) (.go (.ext i) tm1 hp1 nx1) (.go .nrm tm1 hp1 nx1) (Nat.beq i id) : Rv) = .go l tm' hp' nx' := h
        cases hb : Nat.beq i id with
        | true =>
          rw [hb] at h
          cases h
          refine ⟨h1.le, h1.wt, h1.hw, fun B E0 n0 Q E act hfr hQ hR => wp_block (h1.wp B E0 n0 _ E act hfr (fun E act hR1 => ?_) hR)⟩
          simp only [exitOf, Exit.inBlock]
          rw [if_pos (beq_of hb)]
          exact hQ E act hR1
        | false =>
          rw [hb] at h
          cases h
          refine ⟨h1.le, h1.wt, h1.hw, fun B E0 n0 Q E act hfr hQ hR => wp_block (h1.wp B E0 n0 _ E act hfr (fun E act hR1 => ?_) hR)⟩
          simp only [exitOf, Exit.inBlock]
          rw [if_neg (fun e => by subst e; rw [Nat.beq_refl] at hb; cases hb)]
          exact hQ E act hR1
  | .loop b => fun tm hp nx l tm' hp' nx' Wt Wh h => by
    have h1 := loop_ends (code_ends hT hP hcall b) ROUNDS tm hp nx l tm' hp' nx' Wt Wh h
    exact ⟨h1.le, h1.wt, h1.hw, fun B E0 n0 Q E act hfr hQ hR => wp_loop_rounds ROUNDS (h1.wp B E0 n0 Q E act hfr hQ hR)⟩
  | .rangeFunc _ _ _ _ => fun tm hp nx l tm' hp' nx' Wt Wh h => by cases h
  | .scope _ => fun tm hp nx l tm' hp' nx' Wt Wh h => by cases h
  | .label _ => fun tm hp nx l tm' hp' nx' Wt Wh h => by cases h
  | .goto _ => fun tm hp nx l tm' hp' nx' Wt Wh h => by cases h
  | .refuse _ => fun tm hp nx l tm' hp' nx' Wt Wh h => by cases h

/-! ## functions -/

theorem argsU_get : ∀ {l : List U} {i : Nat} {tm : TM} {s : Nat}, i + l.length ≤ 512 → s < 512 → (acc3 s).get (argsU l i tm) = if i ≤ s ∧ s < i + l.length then (l[s - i]?).getD u0 else (acc3 s).get tm
  | [], i, tm, s, _, _ => by rw [if_neg (by simp)]; rfl
  | u :: l, i, tm, s, h, hs => by
    simp only [List.length_cons] at h
    show (acc3 s).get (argsU l (i + 1) (tmPut tm i u)) = _
    rw [argsU_get (by omega) hs]
    by_cases e : s = i
    · subst e
      rw [if_neg (by omega), if_pos (by simp), tmPut_def, acc3_same]
      simp
    · by_cases e2 : i + 1 ≤ s ∧ s < i + 1 + l.length
      · rw [if_pos e2, if_pos (by simp; omega)]
        obtain ⟨d, rfl⟩ : ∃ d, s = i + 1 + d := ⟨s - (i + 1), by omega⟩
        rw [show i + 1 + d - (i + 1) = d by omega, show i + 1 + d - i = d + 1 by omega]
        simp
      · rw [if_neg e2, if_neg (by simp; omega), tmPut_def, acc3_ne (by omega) hs (Ne.symm e)]

theorem tm0_get (s : Nat) : (acc3 s).get tm0 = u0 := acc3_rep _ _

/-! ### results -/

theorem res1_ok {G : Rv → Prop} {sl : Rv} (h0 : G sl) {tm : TM} (Wt : WT K tm) {hp : HP} (Wh : hpW hp) {r : ResultVar} {k : U → Rv} (h : ∀ u v, res1 tb (tmL K tm 512) (hpH hp) r = some v → v = u.toV → u.wf → G (k u)) : G (resU1 tb K r tm hp k sl) := by
  have hl : ∀ s, lookV (tmL K tm 512) s = (getS K en0 s u0 u0 u0 u0 tm).toV := (FL_tmL tm).look
  cases r with
  | tmp t => exact h _ _ (by simp only [res1, hl]) rfl (Wt.win t)
  | cell a t =>
    show G (TI.rec (motive := fun _ => TM → HP → (U → Rv) → Rv → Rv) (fun _ _ _ sl => sl) (fun tm hp => ldP ldOne (getS K en0 a u0 u0 u0 u0 tm) hp) (fun n tm hp => ldP (ldAgg n) (getS K en0 a u0 u0 u0 u0 tm) hp) (tyI tb t) tm hp k sl)
    have main : ∀ f : LdF, LdOK tb t f → G (ldP f (getS K en0 a u0 u0 u0 u0 tm) hp k sl) := fun f hf => by
      obtain ⟨td, ht, hf⟩ := hf
      refine g_uAdr h0 (fun q o hx => g_bkC h0 fun ct n hg => ?_) (fun q v o hx => h0)
      obtain ⟨cs, hc, hH, _⟩ := get_cells Wh hg
      refine hf G ct n cs o k sl hc h0 fun u v hl1 hv hw => h u v ?_ hv hw
      simp only [res1, ht, hl, tvp hx, evLoad, hH, hl1]
    cases hi : tyI tb t with
    | no => exact h0
    | one =>
      refine main ldOne ?_
      obtain ⟨td, ht, ha, hs⟩ := tyI_one hi
      refine ⟨td, ht, fun G ct n cs o k sl hc h0 hk => g_ck h0 fun hb => ?_⟩
      have hlt : o < n := ble_of hb
      refine hk _ (cellAt ct o).toV ?_ (cU_toV _).symm (cU_wf _)
      unfold ld
      rw [ha, hc.get o hlt]
      rfl
    | agg m =>
      refine main (ldAgg m) ?_
      obtain ⟨td, ht, ha, hs⟩ := tyI_agg hi
      refine ⟨td, ht, fun G ct n cs o k sl hc h0 hk => g_ck h0 fun hb => ?_⟩
      have hle : o + m ≤ n := ble_of hb
      have hld : ld td cs o = .val [] (.agg ((cs.drop o).take m)) [] := by
        unfold ld
        rw [ha, hs, if_pos rfl, if_pos (by rw [hc.len]; exact hle)]
      cases hm : Nat.beq m n with
      | false =>
        have := hc.sub hle
        exact hk _ _ hld (by show _ = V.agg (toL _ _); rw [this.toL]) ⟨_, this⟩
      | true =>
        have e1 := beq_of hm
        have e0 : o = 0 := by omega
        subst e0
        subst e1
        refine hk _ _ hld ?_ ⟨_, hc⟩
        show _ = V.agg (toL ct m)
        rw [hc.toL, List.drop_zero, List.take_of_length_le (by rw [hc.len]; exact Nat.le_refl _)]

theorem wOf_ok {G : Rv → Prop} {sl : Rv} (h0 : G sl) {u : U} (hu : u.wf) {k : W → Rv} (h : ∀ w, w.toV = u.toV → w.wf → G (k w)) : G (wOf u k sl) := by
  refine g_uCA h0 (fun c hc _ => h (.c c) hc trivial) (fun t n e => ?_)
  subst e
  exact h (.agg t n) rfl hu

theorem resL_ok {G : Rv → Prop} {sl : Rv} (h0 : G sl) {tm : TM} (Wt : WT K tm) {hp : HP} (Wh : hpW hp) : ∀ {rs : List ResultVar} {k : List W → Rv}, (∀ ws, resL tb (tmL K tm 512) (hpH hp) rs = some (ws.map W.toV) → (∀ w ∈ ws, w.wf) → G (k ws)) → G (resUL tb K rs tm hp k sl)
  | [], k, h => h [] rfl (fun w hw => by cases hw)
  | r :: rs, k, h => by
    show G (resU1 tb K r tm hp (fun u => wOf u (fun w => resUL tb K rs tm hp (fun l => k (w :: l)) sl) sl) sl)
    refine res1_ok h0 Wt Wh fun u v hr hv hu => wOf_ok h0 hu fun w hw hww => resL_ok h0 Wt Wh fun ws hws hwf => h (w :: ws) ?_ (fun x hx => ?_)
    · simp only [resL, hr, hws, List.map_cons, hw, hv]
    · rcases List.mem_cons.1 hx with rfl | hx
      · exact hww
      · exact hwf x hx

theorem resU_ok {G : Rv → Prop} {sl : Rv} (h0 : G sl) {tm : TM} (Wt : WT K tm) {hp : HP} (Wh : hpW hp) {rs : List ResultVar} {k : U → Rv} (h : ∀ u, resV tb (tmL K tm 512) (hpH hp) rs = some u.toV → u.wf → G (k u)) : G (resU tb K rs tm hp k sl) := by
  match rs with
  | [] => exact h (.tup []) rfl (fun w hw => by cases hw)
  | [r] => exact res1_ok h0 Wt Wh fun u v hr hv hu => h u (by simp only [resV, resL, hr, hv]) hu
  | r :: r2 :: rs =>
    refine resL_ok (rs := r :: r2 :: rs) h0 Wt Wh fun ws hws hwf => h (.tup ws) ?_ hwf
    have h2 : 2 ≤ ws.length := by
      have key : ∀ (rs : List ResultVar) (l : List V), resL tb (tmL K tm 512) (hpH hp) rs = some l → l.length = rs.length := by
        intro rs
        induction rs with
        | nil => intro l h; simp only [resL, Option.some.injEq] at h; rw [← h]; rfl
        | cons r rs ih =>
          intro l h
          simp only [resL] at h
          split at h
          · split at h
            · rename_i l' hl'
              cases h
              simp [ih _ hl']
            · cases h
          · cases h
      have := key _ _ hws
      simp at this
      omega
    unfold resV
    rw [hws]
    match ws, h2 with
    | a :: b :: ws, _ => rfl

theorem fun_ends (hT : TblOK P tb) (hP : P.follows .mixedOrders = true) (hname : ∀ (f : FuncId) (fn : Func), P.funcs[f]? = some fn → (fn.name == "runtime.NumGoroutine") = false) (hcall : CallVOK P call) {f : FuncId} {fn : Func} (hf : P.funcs[f]? = some fn) {args : List U} {hp : HP} {nx : Nat} (Wa : ∀ x ∈ args, x.wf) (Wh : hpW hp) {u : U} {hp' : HP} {nx' : Nat}
    (h : (funC tb K fn).run call args hp nx = .ok u hp' nx') : FnV P f args hp nx u hp' nx' := by
  unfold funC at h
  cases hc : fn.body with
  | none => rw [hc] at h; cases h
  | some c =>
    rw [hc] at h
    cases hn : Nat.ble fn.ntmps 512 with
    | false => rw [hn] at h; cases h
    | true =>
      rw [hn] at h
      cases hl : Nat.ble args.length fn.ntmps with
      | false =>
        have h : (Bool.rec (motive := fun _ => Rf) (.no [9]) (endK tb K fn.results.toList (numR nx fun nx => Cd.run (codeC tb fn.ntmps K c) call (argsU args 0 tm0) hp nx)) (Nat.ble args.length fn.ntmps) : Rf) = .ok u hp' nx' := h
        rw [hl] at h; cases h
      | true =>
        have h : (Bool.rec (motive := fun _ => Rf) (.no [9]) (endK tb K fn.results.toList (numR nx fun nx => Cd.run (codeC tb fn.ntmps K c) call (argsU args 0 tm0) hp nx)) (Nat.ble args.length fn.ntmps) : Rf) = .ok u hp' nx' := h
        rw [hl] at h
        have h : endK tb K fn.results.toList (numR nx fun nx => Cd.run (codeC tb fn.ntmps K c) call (argsU args 0 tm0) hp nx) = .ok u hp' nx' := h
        rw [numR_eq] at h
        have hn := ble_of hn
        have hl := ble_of hl
        have hget : ∀ s, s < 512 → (acc3 s).get (argsU args 0 tm0) = (args[s]?).getD u0 := fun s hs => by
          rw [argsU_get (by omega) hs]
          by_cases e : 0 ≤ s ∧ s < 0 + args.length
          · rw [if_pos e, Nat.sub_zero]
          · rw [if_neg e, tm0_get, List.getElem?_eq_none (by omega)]
            rfl
        have hwf : ∀ s : Nat, ((args[s]?).getD u0).wf := fun s => by
          cases hx : args[s]? with
          | none => exact u0_wf
          | some x => exact Wa x (List.mem_of_getElem? hx)
        have Wt : WT K (argsU args 0 tm0) := by
          have h2 : ∀ i, isK K i = true → ((acc3 i).get (argsU args 0 tm0)).wf := fun i hi => by rw [hget i (isK_lt hi)]; exact hwf i
          refine ⟨fun i => ?_, h2⟩
          rw [getS_en0]
          cases hk : isK K i with
          | true => exact h2 i hk
          | false => exact u0_wf
        cases hr : Cd.run (codeC tb fn.ntmps K c) call (argsU args 0 tm0) hp nx with
        | no w => rw [hr] at h; cases h
        | go e1 tm1 hp1 nx1 =>
          rw [hr] at h
          have h1 := code_ends (N := fn.ntmps) (K := K) hT hP hcall c _ hp nx e1 tm1 hp1 nx1 Wt Wh hr
          have hret : (∀ id, e1 ≠ .ext id) ∧ retF (retR tb K fn.results.toList tm1 hp1 nx1) = .ok u hp' nx' := by
            cases e1 with
            | nrm => exact ⟨fun id h => (by cases h), h⟩
            | ret => exact ⟨fun id h => (by cases h), h⟩
            | ext id => cases h
          obtain ⟨hne, h⟩ := hret
          have h2 : resV tb (tmL K tm1 512) (hpH hp1) fn.results.toList = some u.toV ∧ u.wf ∧ hp' = hp1 ∧ nx' = nx1 := by
            revert h
            unfold retR
            refine resU_ok (G := fun r => retF r = .ok u hp' nx' → _) (fun h => by cases h) h1.wt h1.hw fun u1 hu1 hw1 h => ?_
            have h : Rf.ok ((acc3 0).get (tmPut tm0 0 u1)) hp1 nx1 = .ok u hp' nx' := h
            rw [tmPut_def, acc3_same] at h
            cases h
            exact ⟨hu1, hw1, rfl, rfl⟩
          obtain ⟨hres, huw, rfl, rfl⟩ := h2
          refine ⟨⟨fn, hf, by rw [hc]; rfl, hname f fn hf⟩, h1.le, huw, h1.hw, fun B E av hE hH hav hfr => calls_of_wp hf hc ?_⟩
          have hav_len := vrels_len hav
          rw [List.length_map] at hav_len
          refine h1.wp B E nx _ E _ hfr (fun E' a hR => ?_) ?_
          · have hEH : E'.H = hpH hp' := hR.h
            rw [← hEH] at hres
            have htm : tmOK E' (find (tmL K tm1 512)) a := fun s v hv => by
              rw [FL_tmL tm1 s] at hv
              by_cases hk : isK K s = true
              · rw [if_pos hk] at hv; cases hv; exact hR.tm.tm s hk
              · rw [if_neg hk] at hv; cases hv
            obtain ⟨v', k1, k2⟩ := resV_sound hR.rel hT htm hres
            have fin : ∃ v', (results fn a.tmps).run P E'.w = .ok v' E'.w ∧ ∃ E2 v2, (Ending.returned v') = .returned v2 ∧ Came B E (hpH hp') nx nx' u.toV v2 E'.w E2 :=
              ⟨v', k1, E', v', rfl, ⟨hR.rel, rfl, hEH, hR.ext, hR.u, k2⟩⟩
            cases e1 with
            | ext id => exact (hne id rfl).elim
            | nrm => exact ⟨hR.defers, fin⟩
            | ret => exact ⟨hR.defers, fin⟩
          · have hrel : ∀ i, isK K i = true → vrel E ((acc3 i).get (argsU args 0 tm0)).toV ((av.toArray ++ Array.replicate (fn.ntmps - av.toArray.size) undef).getD i undef) := fun i hi => by
              rw [hget i (isK_lt hi)]
              cases hx : args[i]? with
              | none => exact u0_rel
              | some x =>
                obtain ⟨v', q1, q2⟩ := vrels_get hav i x.toV (by rw [List.getElem?_map, hx]; rfl)
                have : (av.toArray ++ Array.replicate (fn.ntmps - av.toArray.size) undef).getD i undef = v' := by
                  rw [Array.getD_eq_getD_getElem?]
                  have hl : i < av.toArray.size := by
                    rcases Nat.lt_or_ge i av.length with h3 | h3
                    · simpa using h3
                    · rw [List.getElem?_eq_none h3] at q1; cases q1
                  rw [Array.getElem?_append_left hl]
                  simp [q1]
                rw [this]
                exact q2
            refine ⟨hE, Ext.refl E, hH, fun n hn => .inl hn, Nat.le_refl _, ⟨fun i => ?_, hrel⟩, ?_, rfl⟩
            · rw [getS_en0]
              cases hk : isK K i with
              | true => exact hrel i hk
              | false => exact u0_rel
            · simp only [Array.size_append, Array.size_replicate, List.size_toArray]; omega

/-- functions that are not in the program's text -/
def XOK (P : Program) (X : ExtV) : Prop := ∀ g x, X g = some x → ∀ args u, (∀ a ∈ args, U.wf a) → x args = some u → u.wf ∧ ExtCan P g args u

theorem funC_ex {fn : Func} {args : List U} {hp : HP} {nx : Nat} {u : U} {hp' : HP} {nx' : Nat} (h : (funC tb K fn).run call args hp nx = .ex u hp' nx') : False := by
  have key : ∀ r : Rv, retF r = .ex u hp' nx' → False := fun r h => by cases r <;> cases h
  unfold funC at h
  cases hc : fn.body with
  | none => rw [hc] at h; cases h
  | some c =>
    rw [hc] at h
    cases hn : Nat.ble fn.ntmps 512 with
    | false => rw [hn] at h; cases h
    | true =>
      rw [hn] at h
      have h : (Bool.rec (motive := fun _ => Rf) (.no [9]) (endK tb K fn.results.toList (numR nx fun nx => Cd.run (codeC tb fn.ntmps K c) call (argsU args 0 tm0) hp nx)) (Nat.ble args.length fn.ntmps) : Rf) = .ex u hp' nx' := h
      cases hl : Nat.ble args.length fn.ntmps with
      | false => rw [hl] at h; cases h
      | true =>
        rw [hl] at h
        have h : endK tb K fn.results.toList (numR nx fun nx => Cd.run (codeC tb fn.ntmps K c) call (argsU args 0 tm0) hp nx) = .ex u hp' nx' := h
        generalize (numR nx fun nx => Cd.run (codeC tb fn.ntmps K c) call (argsU args 0 tm0) hp nx) = r at h
        cases r with
        | no w => cases h
        | go e tm hp1 nx1 =>
          cases e with
          | ext id => cases h
          | nrm => exact key _ h
          | ret => exact key _ h

theorem callV_ok (hT : TblOK P tb) (hP : P.follows .mixedOrders = true) (hname : ∀ (f : FuncId) (fn : Func), P.funcs[f]? = some fn → (fn.name == "runtime.NumGoroutine") = false) {Pf : FuncId → Option Func} (hPf : ∀ (f : FuncId) (fn : Func), Pf f = some fn → P.funcs[f]? = some fn) {X : ExtV} (hX : XOK P X) (KK : FuncId → Nat) : ∀ d, CallVOK P (callV tb Pf X KK d)
  | 0 => ⟨fun g args hp nx u hp' nx' _ _ h => (by cases h), fun g args hp nx u hp' nx' _ h => (by cases h)⟩
  | d + 1 => by
    have ih := callV_ok hT hP hname hPf hX KK d
    refine ⟨fun g args hp nx u hp' nx' Wa Wh h => ?_, fun g args hp nx u hp' nx' Wa h => ?_⟩
    · have h : Fc.run (fidC tb Pf X KK g) (callV tb Pf X KK d) args hp nx = .ok u hp' nx' := h
      unfold fidC at h
      cases hx : X g with
      | some x =>
        rw [hx] at h
        have h : extK (x args) hp nx = .ok u hp' nx' := h
        cases hxa : x args with
        | none => rw [hxa] at h; cases h
        | some u1 => rw [hxa] at h; cases h
      | none =>
        rw [hx] at h
        have h : Fc.run (Option.rec (motive := fun _ => Fc) ⟨fun _ _ _ _ => .no [12]⟩ (funC tb (KK g)) (Pf g)) (callV tb Pf X KK d) args hp nx = .ok u hp' nx' := h
        cases hp1 : Pf g with
        | none => rw [hp1] at h; cases h
        | some fn =>
          rw [hp1] at h
          exact fun_ends hT hP hname ih (hPf _ _ hp1) Wa Wh h
    · have h : Fc.run (fidC tb Pf X KK g) (callV tb Pf X KK d) args hp nx = .ex u hp' nx' := h
      unfold fidC at h
      cases hx : X g with
      | some x =>
        rw [hx] at h
        have h : extK (x args) hp nx = .ex u hp' nx' := h
        cases hxa : x args with
        | none => rw [hxa] at h; cases h
        | some u1 =>
          rw [hxa] at h
          cases h
          obtain ⟨h1, h2⟩ := hX g x hx args u Wa hxa
          exact ⟨rfl, rfl, h1, h2⟩
      | none =>
        rw [hx] at h
        have h : Fc.run (Option.rec (motive := fun _ => Fc) ⟨fun _ _ _ _ => .no [12]⟩ (funC tb (KK g)) (Pf g)) (callV tb Pf X KK d) args hp nx = .ex u hp' nx' := h
        cases hp1 : Pf g with
        | none => rw [hp1] at h; cases h
        | some fn => rw [hp1] at h; exact (funC_ex h).elim

/-! ## closed calls -/

noncomputable section
/-- the value of a run -/
def valRf (r : Rf) : V := Rf.rec (motive := fun _ => V) (fun u _ _ => u.toV) (fun _ _ _ => .any) (fun _ => .any) r
def isBf (b : Bool) (r : Rf) : Bool := Rf.rec (motive := fun _ => Bool) (fun u _ _ => U.rec (motive := fun _ => Bool) (fun _ _ => false) (fun c => Bool.rec (motive := fun _ => Bool) (notB c) c b) (fun _ _ => false) (fun _ _ _ => false) (fun _ _ _ _ _ => false) (fun _ => false) (fun _ _ => false) (fun _ => false) u) (fun _ _ _ => false) (fun _ => false) r

end

/-- THE CONTRACT OF A CLOSED CALL THAT GIVES A BOOL -/
theorem closedV_ok (hcall : CallVOK P call) {f : FuncId} {Kc : Nat} {b : Bool} (h : isBf b (call f [] hp0 0) = true) : CtrOK P Kc f (pureCtr Kc .unit fun _ => ⟨[], .bool b, []⟩) := by
  cases hr : call f [] hp0 0 with
  | no w => rw [hr] at h; cases h
  | ex u hp' nx' => rw [hr] at h; cases h
  | ok u hp' nx' =>
    rw [hr] at h
    have hu : u = .kb b := by
      cases u with
      | kb c => cases b <;> cases c <;> first | rfl | cases h
      | _ => cases h
    subst hu
    have F := hcall.ok f [] hp0 0 _ hp' nx' (fun x hx => by cases hx) hp0_wf hr
    refine ⟨F.fn, fun B E hE args av hav m hm ps' v0 dh hct hps => ?_⟩
    unfold pureCtr at hct
    simp only at hct
    cases args with
    | cons x xs => simp [packArgs] at hct
    | nil =>
      have h0 : Nat.ble 0 Kc = true := by cases Kc <;> rfl
      simp only [packArgs, List.length_nil, h0, cond_true, Option.some.injEq, Prod.mk.injEq] at hct
      obtain ⟨rfl, rfl, rfl⟩ := hct
      cases av with
      | cons x xs => simp [vrels] at hav
      | nil =>
        let E1 : Env := ⟨fun _ => False, fun _ => none, E.S, E.w, fun _ => none⟩
        have hE1 : HRel (base3 E.w (fun _ => False) E.S) E1 := by
          refine ⟨fun h b hx => ?_, fun b hb => hE.stab b hb, fun h k b hx => ?_, fun h h' k k' b hx => ?_, fun h k hx => ?_, Keeps.refl _ _, fun h k b hx => ?_, fun _ h => h, fun _ h => .inl h⟩ <;> cases hx
        refine (F.calls _ E1 [] hE1 (by rw [hp0_H]) (by simp [vrels]) (fun n _ _ h => h)).mono fun e w' hh => ?_
        obtain ⟨E', v', rfl, C⟩ := hh
        have hw := C.w
        subst hw
        obtain ⟨E2, G, _, _⟩ := adopt hE hm (S1 := E.S) (fun b hb => hb) C.rel (acc := []) ⟨by simp, fun h r hr => by simp at hr⟩ (Nat.zero_le _) (.inl fun b hb => hb)
        refine ⟨E2, v', rfl, by simpa [rowsHp, PRes.flat, V.noF] using G, ?_⟩
        have hv := C.v
        simp only [V.shift, vrel]
        simpa [U.toV, vrel] using hv

end Go.Mir

/- The machine, part 8: functions of the library that have no body in the program's text. -/
namespace Go.Mir
open Go.RowKit

variable {P : Program}

theorem ext_can {g : FuncId} {fn : Func} {e : Array Value → Sem Value} (hf : P.funcs[g]? = some fn) (hname : (fn.name == "runtime.NumGoroutine") = false) (hb : fn.body.isNone = true) (hn : Extern.findNext fn = none) (he : Extern.find fn = some e) {args : List U} {u : U}
    (h : ∀ (E : Env) (av : List Value), vrels E (args.map U.toV) av → ∃ v', vrel E u.toV v' ∧ (e av.toArray).run P E.w = .ok v' E.w) : ExtCan P g args u := fun E av hav => by
  obtain ⟨v', hv, hr⟩ := h E av hav
  refine ⟨v', hv, fun o c f l a next Q ho hcf hfe hav2 hnx => ?_⟩
  have hrun : (execOp a.eval o).run P E.w = .ok (.value v') E.w := by
    have e1 : (c.args.toList.map a.eval ++ l.toList).toArray = #[] ++ c.args.map a.eval ++ l := by
      apply Array.ext'
      simp
    have : (execOp a.eval o).run P E.w = (callFunc g (#[] ++ c.args.map a.eval ++ l)).run P E.w := by
      simp [execOp, ho, resolve, hcf, Deferred.ofValue, hfe, invoke]
    rw [this, run_callFunc_extern hf hname hb hn he, ← e1, ← hav2, hr]
    rfl
  unfold Oper.wp
  rw [hrun]
  simp only [Oper.upon]
  exact hnx

theorem ixLe : ∀ (l : List UInt8) (c : UInt8), Lib.indexByte l c ≤ l.length
  | [], c => by unfold Lib.indexByte; simp
  | b :: l, c => by
    have := ixLe l c
    unfold Lib.indexByte
    simp only [List.length_cons]
    split
    · omega
    · split <;> omega

theorem ixBL_eq : ∀ (l : List UInt8) (c i : Nat), c < 256 → ixBL l c i = if Lib.indexByte l c.toUInt8 = -1 then -1 else Lib.indexByte l c.toUInt8 + (i : Int)
  | [], c, i, _ => rfl
  | b :: l, c, i, hc => by
    show Bool.rec (motive := fun _ => Int) (ixBL l c (i + 1)) (.ofNat i) (Nat.beq b.toNat c) = _
    rw [ixBL_eq l c (i + 1) hc]
    have hge := Lib.indexByte_ge l c.toUInt8
    have hcn : c.toUInt8.toNat = c := by simp [Nat.toUInt8]; omega
    have step : Lib.indexByte (b :: l) c.toUInt8 = if b == c.toUInt8 then 0 else if Lib.indexByte l c.toUInt8 == -1 then -1 else Lib.indexByte l c.toUInt8 + 1 := rfl
    rw [step]
    cases hb : Nat.beq b.toNat c with
    | true =>
      have e : b = c.toUInt8 := UInt8.toNat.inj (by rw [hcn]; exact beq_of hb)
      have e2 : (b == c.toUInt8) = true := by rw [e]; simp
      rw [e2]
      simp
    | false =>
      have e : ¬ (b == c.toUInt8) = true := fun h => by
        have : b = c.toUInt8 := by simpa using h
        rw [this, hcn, Nat.beq_refl] at hb
        cases hb
      have e2 : (b == c.toUInt8) = false := by simpa using e
      rw [e2]
      simp only [Bool.false_eq_true, if_false]
      by_cases h1 : Lib.indexByte l c.toUInt8 = -1
      · rw [if_pos h1, h1]; rfl
      · rw [if_neg h1]
        have h2 : ¬ (Lib.indexByte l c.toUInt8 == -1) = true := by simpa using h1
        rw [if_neg h2, if_neg (by omega)]
        push_cast
        omega

theorem ixB_ok {g : FuncId} {fn : Func} (hf : P.funcs[g]? = some fn) (hname : (fn.name == "runtime.NumGoroutine") = false) (hb : fn.body.isNone = true) (hn : Extern.findNext fn = none) (he : Extern.find fn = some Extern.BytealgIndexByte.indexByte) {args : List U} {u : U} (h : ixB args = some u) : u.wf ∧ ExtCan P g args u := by
  unfold ixB at h
  split at h
  case h_2 => cases h
  rename_i s c
  cases h
  refine ⟨trivial, ext_can hf hname hb hn he fun E av hav => ?_⟩
  obtain ⟨a, r, rfl, h1, h2⟩ := vrels_cons hav
  obtain ⟨b, r2, rfl, h3, h4⟩ := vrels_cons h2
  have h5 : r2 = [] := by cases r2 with | nil => rfl | cons => simp [vrels] at h4
  subst h5
  simp only [U.toV, vrel] at h1 h3
  obtain ⟨rfl, hs⟩ := h1
  obtain ⟨rfl, hc⟩ := h3
  have hc2 : c < 256 := by
    have := hc.2
    simp [IntKind.max, IntKind.bits, IntKind.signed] at this
    omega
  refine ⟨_, ?_, Lib.run_indexByteString s (Int.ofNat c) E.w⟩
  have e : ixBL s.data.toList c 0 = Lib.indexByte s.data.toList c.toUInt8 := by
    rw [ixBL_eq _ _ _ hc2]
    split
    · rename_i h; rw [h]
    · simp
  show vrel E (.int .i64 (ixBL s.data.toList c 0)) _
  rw [e]
  refine vint ?_
  have hge := Lib.indexByte_ge s.data.toList c.toUInt8
  have hle := ixLe s.data.toList c.toUInt8
  have hl : s.data.toList.length ≤ lenB := by simpa using hs
  unfold lenB at hl
  have e1 : IntKind.i64.min = -9223372036854775808 := by decide
  have e2 : IntKind.i64.max = 9223372036854775807 := by decide
  unfold ok
  rw [e1, e2]
  omega

end Go.Mir
