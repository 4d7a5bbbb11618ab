/- The mirror, part 29: a law's contract, and its row. -/
import Derived.Test.YtogdeefpidccmaaMirOpen
namespace Go.Mir
open Go.RowKit Go.ChangeShapes Go.WideShapes
open Go.Proofs.Ytogdeefpidccmaa.Rows (uptoBulk uptoBulkAll)

section
variable {H : Type} {enc : TypeId × Value → H} {P : Program} {w : World}

def shpAll (P : Program) : List TypeId → Ty → Bool
  | [], .unit => true
  | T :: Ts, .prod a b => shp P 32 T a && shpAll P Ts b
  | _, _ => false

theorem shp_form {f : Nat} {T : TypeId} {t : Ty} (hs : shp P f T t = true) {r : Reach} {b : Nat} {v : Value} (hv : Value.okWide P w r b T v) : (aggT t = true ∧ ∃ l, v = .agg l) ∨ (aggT t = false ∧ v.cells.toList = [v]) := by
  cases f with
  | zero => simp [shp] at hs
  | succ f =>
    unfold shp at hs
    split at hs
    · rename_i k k' hT
      obtain ⟨n, rfl⟩ := okWide_int hT hv
      exact .inr ⟨rfl, rfl⟩
    · rename_i hT
      obtain ⟨n, rfl⟩ := okWide_bool hT hv
      exact .inr ⟨rfl, rfl⟩
    · rename_i hT
      obtain ⟨n, rfl⟩ := okWide_string hT hv
      exact .inr ⟨rfl, rfl⟩
    · rename_i hT
      obtain ⟨a, l, c, rfl⟩ := okWide_slice hT hv
      exact .inr ⟨rfl, rfl⟩
    · rename_i fs n hT
      obtain ⟨cs, rfl, _⟩ := okWide_struct hT hv
      exact .inl ⟨rfl, cs, rfl⟩
    · rename_i fs a b hT
      obtain ⟨cs, rfl, _⟩ := okWide_struct hT hv
      exact .inl ⟨rfl, cs, rfl⟩
    · rename_i n e a b hT
      simp only [Value.okWide, hT] at hv
      obtain ⟨cs, rfl, _⟩ := hv
      exact .inl ⟨rfl, cs, rfl⟩
    · cases hs

/-- the world of a law's call: all blocks frozen -/
def env0 (w : World) : Env := ⟨fun _ => False, fun _ => none, blocks w, w, fun _ => none⟩
def base0 (w : World) : Base := ⟨w, fun _ => False, blocks w⟩

theorem env0_rel (w : World) : HRel (base0 w) (env0 w) := by
  refine ⟨fun h b hx => ?_, fun b hb => hb, fun h k b hx => ?_, fun h h' k k' b hx => ?_, fun h k hx => ?_, Keeps.refl _ _, fun h k b hx => ?_, fun _ h => h, fun _ h => .inl h⟩ <;> cases hx

theorem argV_rel {E : Env} {t : Ty} {x : Den t} {v : Value} (h : Rd E.S E.w t x v.cells.toList) (hf : (aggT t = true ∧ ∃ l, v = .agg l) ∨ (aggT t = false ∧ v.cells.toList = [v])) : vrel E (argV t x) v := by
  rcases hf with ⟨h1, l, rfl⟩ | ⟨h1, h2⟩
  · cases t <;> simp only [aggT, Bool.false_eq_true] at h1
    · simp only [argV, vrel]
      refine ⟨l, rfl, ?_⟩
      have h0 : l.toList = [] := List.eq_nil_of_length_eq_zero h.len
      rw [h0]; simp [vrels]
    · simp only [argV, vrel]; exact ⟨l, rfl, h.flat FUEL⟩
    · simp only [argV, vrel]; exact ⟨l, rfl, h.flat FUEL⟩
  · rw [h2] at h
    cases t <;> simp only [aggT, reduceCtorEq] at h1
    · cases h with | int hk => exact vint hk
    · cases h with | bool => simp only [argV, vrel]
    · cases h with | str hk => exact vstr hk
    · simp only [argV, vrel]; exact h

theorem args_open : ∀ {Ts : List TypeId} {vs : List Value} {ds : List (DataW H)} {p : List MemPlace} {ps : Ty}, DataW.TrodAll enc P w 0 (fun _ => true) true Ts vs ds p → shpAll P Ts ps = true →
    (∀ (j : Nat) (t : TypeId) (v : Value), Ts[j]? = some t → vs[j]? = some v → ∃ r b, Value.okWide P w r b t v) → (∀ m ∈ DataW.weightsEach P Ts ds, m ≤ lenB) →
    ∃ x : Den ps, vrels (env0 w) (argsV ps x) vs ∧ (∃ cs, Rd (blocks w) w ps x cs) ∧ (∀ g, bulkD g ps x ≤ uptoBulkAll ds) ∧ vs.length = Ts.length ∧ ds.length = Ts.length
  | [], vs, ds, p, ps, ht, hs, _, _ => by
    cases ps <;> simp only [shpAll, Bool.false_eq_true] at hs
    cases vs with
    | cons => cases ds <;> simp [DataW.TrodAll] at ht
    | nil =>
      cases ds with
      | cons => simp [DataW.TrodAll] at ht
      | nil => exact ⟨(), trivial, ⟨[], .unit⟩, fun g => by cases g <;> simp [bulkD], rfl, rfl⟩
  | T :: Ts, vs, ds, p, ps, ht, hs, hv, hw => by
    cases ps <;> simp only [shpAll, Bool.false_eq_true] at hs
    rename_i a b
    simp only [Bool.and_eq_true] at hs
    cases vs with
    | nil => cases ds <;> simp [DataW.TrodAll] at ht
    | cons v vs =>
      cases ds with
      | nil => simp [DataW.TrodAll] at ht
      | cons d ds =>
        simp only [DataW.TrodAll] at ht
        obtain ⟨p1, q, ⟨fuel, h1⟩, h2, _⟩ := ht
        simp only [DataW.weightsEach, List.mem_append] at hw
        obtain ⟨x, hx, bx⟩ := open_at 32 T a fuel _ _ hs.1 h1 (fun m hm => hw m (.inl hm))
        obtain ⟨y, k1, ⟨cs, k2⟩, k3, k4, k5⟩ := args_open h2 hs.2 (fun j t v h3 h4 => hv (j + 1) t v (by simpa using h3) (by simpa using h4)) (fun m hm => hw m (.inr hm))
        obtain ⟨r, b0, hok⟩ := hv 0 T v rfl rfl
        refine ⟨(x, y), ?_, ⟨_, .prod hx k2⟩, fun g => ?_, by simp [k4], by simp [k5]⟩
        · simp only [argsV, vrels]
          exact ⟨argV_rel (E := env0 w) hx (shp_form hs.1 hok), k1⟩
        · cases g with
          | zero => simp [bulkD]
          | succ g =>
            simp only [bulkD, uptoBulkAll]
            have h1 : bulkD g a x ≤ uptoBulk d := bx g
            have := k3 g
            omega

def isTrue : V → Prop
  | .bool b => b = true
  | .kb b => b = true
  | _ => False

theorem isTrue_rel {E : Env} {v : V} {u : Value} (h : isTrue v) (hv : vrel E v u) : u = .bool true := by
  cases v <;> simp only [isTrue] at h <;> subst h <;> simpa [vrel] using hv

/-- a law's call -/
theorem law_calls {C : Cfg} (hC : CfgOK P C) (hP : P.follows .mixedOrders = true) {f : FuncId} {fn : Func} (hf : P.funcs[f]? = some fn) (hN : C.N = fn.ntmps) {ps : Ty} (hps : shpAll P fn.params.toList ps = true) (hle : fn.params.size ≤ fn.ntmps)
    {Λ : Den ps → Nat → Option LoopSum} {bound : Nat}
    (hΛ : ∀ x : Den ps, wfD ps x → bulkD FUEL ps x ≤ bound → ∀ c, fn.body = some c → ∀ b ∈ loopsOf c, ∀ L, Λ x (rid b) = some L → LoopOK P C.N b L)
    (h : ∀ x : Den ps, wfD ps x → bulkD FUEL ps x ≤ bound → (evFn C (Λ x) fn (argsV ps x)).sat fun v _ => isTrue v)
    {args : Array Value} {ds : List (DataW H)} {p : List MemPlace} (hA : DataW.TrodAll enc P w 0 (fun _ => true) true fn.params.toList args.toList ds p) (hval : ∀ (j : Nat) t v, fn.params[j]? = some t → args[j]? = some v → ∃ r b, Value.okWide P w r b t v)
    (hw : ∀ m ∈ DataW.weightsEach P fn.params.toList ds, m ≤ lenB) (hb : uptoBulkAll ds ≤ bound) :
    Calls P f args w fun e w' => e = .returned (.bool true) ∧ Keeps w (fun _ => False) w' := by
  obtain ⟨x, k1, ⟨cs, k2⟩, k3, k4, k5⟩ := args_open hA hps (fun j t v h1 h2 => hval j t v (by simpa using h1) (by simpa using h2)) hw
  have hwf : wfD ps x := ⟨_, _, _, k2⟩
  have hbd := Nat.le_trans (k3 FUEL) hb
  have hc := evFn_sound hC hP hf hN (hΛ x hwf hbd) (h x hwf hbd) (env0_rel w) rfl (fun _ h => h) k1 (by rw [k4]; simpa using hle)
  have e : args.toList.toArray = args := by simp
  rw [e] at hc
  refine Calls.mono hc fun e w' hr => ?_
  obtain ⟨Ec, v', v0, v, acc, rfl, hEc, rfl, hv, hcan, hq⟩ := hr
  have hcs := canV_sound hEc 0 v0 [] v acc v' hcan hv
  refine ⟨?_, hEc.keeps⟩
  have hnf : v.noF = true := by cases v <;> simp only [isTrue] at hq <;> rfl
  have hrel := hcs.rel { Ec with U := fun _ => True, ρ := fun i => (acc[i]?).bind fun q => Ec.ρ q.1, H := fun i => (acc[i]?).map fun q => .row i true q.2.t q.2.xs } rfl (.inr hnf) (fun i h r hi => by simp [hi])
  have this : v' = .bool true := by
    have e : v.shift 0 = v := by cases v <;> simp only [isTrue] at hq <;> rfl
    rw [e] at hrel
    exact isTrue_rel hq hrel
  rw [this]

theorem keptBut_of {w' : World} (h : Keeps w (fun _ => False) w') (may : MemPlace → Prop) : w.keptBut w' may := by
  refine ⟨h.os, h.output, fun i hi => ?_⟩
  rw [h.block i hi (fun h => h)]
  split
  · rename_i a b c d e f h1 h2
    rw [h1] at h2; cases h2
    exact ⟨rfl, rfl, rfl, fun _ _ => rfl⟩
  · rename_i h1 h2
    rw [h1] at h2; cases h2
    exact .inr ⟨rfl, rfl⟩
  · rfl

theorem trodAll_stays (hl : laidOutB P = true) {w' : World} (hk : Keeps w (fun _ => False) w') {sp : Nat → Bool} : ∀ {Ts : List TypeId} {vs : List Value} {ds : List (DataW H)} {p : List MemPlace}, DataW.TrodAll enc P w 0 (fun _ => true) true Ts vs ds p →
    (∀ t ∈ Ts, P.readableRec t = true ∧ t < P.types.size) → (∀ x ∈ p, x.block < w.heap.size) → (∀ x ∈ p, sp x.block = true) → DataW.TrodAll enc P w' 0 sp true Ts vs ds p
  | [], vs, ds, p, h, _, _, _ => by cases vs <;> cases ds <;> simp_all [DataW.TrodAll]
  | T :: Ts, vs, ds, p, h, hr, hp, hs => by
    cases vs with
    | nil => cases ds <;> simp [DataW.TrodAll] at h
    | cons v vs =>
      cases ds with
      | nil => simp [DataW.TrodAll] at h
      | cons d ds =>
        simp only [DataW.TrodAll] at h ⊢
        obtain ⟨p1, q, h1, h2, rfl⟩ := h
        have hb : Below w.heap.size w w' := ⟨hk.os, hk.tape, hk.output, hk.size, fun k hk' => hk.block k hk' (fun h => h)⟩
        refine ⟨p1, q, ?_, trodAll_stays hl hk h2 (fun t ht => hr t (by simp [ht])) (fun x hx => hp x (by simp [hx])) (fun x hx => hs x (by simp [hx])), rfl⟩
        exact WideElems.Trod_stays hl (hr T (by simp)).1 (hr T (by simp)).2 h1 (fun x hx => hb.same (hp x (by simp [hx]))) (fun x hx => hs x (by simp [hx]))

/-- a law's row: what it leaves behind -/
theorem law_post (hl : laidOutB P = true) {fn : Func} {s : ChangeSpec} {TB : TypeId} (hres : fn.resultTypes = #[TB]) (hTB : P.underlying TB = some .bool) (hread : ∀ t ∈ fn.params.toList, P.readableRec t = true ∧ t < P.types.size)
    (hsv : s.vars = []) {args : Array Value} {ds gs : List (DataW H)} {before : List MemPlace} (hW : DataW.Whole enc P fn.params.toList s.vars false w args.toList ds gs before)
    (hs : (s.fn H (ds ++ gs)).results = [.lit (.bool true)] ∧ (s.fn H (ds ++ gs)).args = ds ∧ (s.fn H (ds ++ gs)).vars = []) {w' : World} (hk : Keeps w (fun _ => False) w') :
    s.post enc P fn false true false false w args (.bool true) w' := by
  have hlt := hW.lt
  have hW' := hW
  obtain ⟨p, q, hA, hV, rfl, hfz, hnd⟩ := hW
  rw [hsv] at hV
  obtain ⟨rfl, rfl⟩ := trodVars_none hV
  simp only [List.append_nil] at hlt hW' hs ⊢
  refine ⟨ds, [], p, [], p, [], by simpa using hW', ?_, ?_, ?_, keptBut_of hk _, fun h => by cases h⟩
  · rw [List.append_nil, hs.1, hres]
    exact trodAll_mk1 (shut_bool hTB true)
  · rw [List.append_nil, hs.2.1]
    exact trodAll_stays hl hk hA hread hlt (fun x hx => by simpa using hlt x hx)
  · rw [List.append_nil, hs.2.2, hsv]
    rfl
end

end Go.Mir
