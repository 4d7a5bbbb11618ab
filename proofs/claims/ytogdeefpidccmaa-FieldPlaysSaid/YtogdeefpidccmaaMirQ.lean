/- The mirror, part 17: a region that draws its order: whatever the order, one end. -/
import Derived.Test.YtogdeefpidccmaaMirP
namespace Go.Mir
open Go.RowKit

variable {P : Program}

def gset {α : Type} (f : Nat → Option α) (l : List (Nat × α)) : Nat → Option α := fun k => match find l k with | some v => some v | none => f k

/-- what the chosen ones of a list of updates leave, in the list's order -/
def selF {α : Type} (L : Nat → Bool) : (Nat → Option α) → Nat → List (List (Nat × α)) → (Nat → Option α)
  | f, _, [] => f
  | f, i, u :: us => selF L (if L i = true then gset f u else f) (i + 1) us

theorem gset_none {α : Type} {f : Nat → Option α} {u : List (Nat × α)} {k : Nat} (h : find u k = none) : gset f u k = f k := by simp [gset, h]
theorem gset_some {α : Type} {f : Nat → Option α} {u : List (Nat × α)} {k : Nat} {v : α} (h : find u k = some v) : gset f u k = some v := by simp [gset, h]

theorem selF_congr {α : Type} {L L' : Nat → Bool} {k : Nat} : ∀ (us : List (List (Nat × α))) (i : Nat) (f f' : Nat → Option α), f k = f' k → (∀ j u, us[j]? = some u → find u k ≠ none → L (i + j) = L' (i + j)) → selF L f i us k = selF L' f' i us k
  | [], _, _, _, h, _ => h
  | u :: us, i, f, f', h, hu => by
    unfold selF
    refine selF_congr us (i + 1) _ _ ?_ (fun j u' hj hf => by
      have := hu (j + 1) u' (by simpa using hj) hf
      rwa [show i + (j + 1) = i + 1 + j by omega] at this)
    cases hf : find u k with
    | none =>
      have e1 : (if L i = true then gset f u else f) k = f k := by split <;> simp [gset_none hf]
      have e2 : (if L' i = true then gset f' u else f') k = f' k := by split <;> simp [gset_none hf]
      rw [e1, e2, h]
    | some v =>
      have := hu 0 u (by simp) (by rw [hf]; simp)
      simp only [Nat.add_zero] at this
      rw [this]
      split
      · rw [gset_some hf, gset_some hf]
      · exact h

theorem selF_last {α : Type} {L : Nat → Bool} {k : Nat} {v : α} : ∀ (us : List (List (Nat × α))) (i : Nat) (f : Nat → Option α) (j0 : Nat) (u0 : List (Nat × α)), us[j0]? = some u0 → L (i + j0) = true → find u0 k = some v →
    (∀ j u, j0 < j → us[j]? = some u → L (i + j) = true → find u k = none) → selF L f i us k = some v
  | [], _, _, j0, u0, h, _, _, _ => by simp at h
  | u :: us, i, f, 0, u0, h, hL, hf, hl => by
    simp only [List.getElem?_cons_zero, Option.some.injEq] at h
    subst h
    unfold selF
    simp only [Nat.add_zero] at hL
    rw [if_pos hL]
    have key : ∀ (us : List (List (Nat × α))) (i : Nat) (g : Nat → Option α), g k = some v → (∀ j u, us[j]? = some u → L (i + j) = true → find u k = none) → selF L g i us k = some v := by
      intro us
      induction us with
      | nil => intro i g hg _; exact hg
      | cons u us ih =>
        intro i g hg hh
        unfold selF
        refine ih _ _ ?_ (fun j u' hj hLj => hh (j + 1) u' (by simpa using hj) (by rwa [show i + (j + 1) = i + 1 + j by omega]))
        split
        · rename_i hL0
          rw [gset_none (hh 0 u (by simp) (by simpa using hL0))]; exact hg
        · exact hg
    refine key us (i + 1) _ (gset_some hf) (fun j u' hj hLj => hl (j + 1) u' (by omega) (by simpa using hj) (by rwa [show i + (j + 1) = i + 1 + j by omega]))
  | u :: us, i, f, j0 + 1, u0, h, hL, hf, hl => by
    unfold selF
    exact selF_last us (i + 1) _ j0 u0 (by simpa using h) (by rwa [show i + 1 + j0 = i + (j0 + 1) by omega]) hf
      (fun j u' hj hu' hLj => hl (j + 1) u' (by omega) (by simpa using hu') (by rwa [show i + (j + 1) = i + 1 + j by omega]))

/-- one more is chosen -/
theorem selF_add {α : Type} {L L' : Nat → Bool} (us : List (List (Nat × α))) (f : Nat → Option α) (i : Nat) (u0 : List (Nat × α)) (hi : us[i]? = some u0) (hL' : ∀ j, L' j = if j = i then true else L j)
    (hd : ∀ j u, i < j → us[j]? = some u → L j = true → ∀ k, find u0 k ≠ none → find u k = none) : selF L' f 0 us = gset (selF L f 0 us) u0 := by
  funext k
  cases hf : find u0 k with
  | none =>
    rw [gset_none hf]
    refine selF_congr us 0 f f rfl (fun j u hj hu => ?_)
    rw [Nat.zero_add, hL' j]
    by_cases e : j = i
    · subst e; rw [hi] at hj; cases hj; exact absurd hf hu
    · rw [if_neg e]
  | some v =>
    rw [gset_some hf]
    refine selF_last us 0 f i u0 hi (by rw [Nat.zero_add, hL', if_pos rfl]) hf (fun j u hj hu hLj => ?_)
    rw [Nat.zero_add, hL', if_neg (by omega)] at hLj
    exact hd j u hj hu hLj k (by rw [hf]; simp)

theorem selF_lt {α : Type} : ∀ (us : List (List (Nat × α))) (f : Nat → Option α) (i n : Nat), selF (fun j => Nat.blt j (i + n)) f i us = (us.take n).foldl gset f
  | [], f, i, n => by simp [selF]
  | u :: us, f, i, 0 => by
    have hall : ∀ (us : List (List (Nat × α))) (f : Nat → Option α) (k : Nat), i ≤ k → selF (fun j => Nat.blt j (i + 0)) f k us = f := by
      intro us
      induction us with
      | nil => intro f k _; rfl
      | cons u us ih =>
        intro f k hk
        unfold selF
        have : Nat.blt k (i + 0) = false := by cases hb : Nat.blt k (i + 0) with | false => rfl | true => rw [Nat.blt_eq] at hb; omega
        rw [this]
        simp only [Bool.false_eq_true, if_false]
        exact ih _ _ (by omega)
    rw [hall _ _ _ (Nat.le_refl i)]
    rfl
  | u :: us, f, i, n + 1 => by
    unfold selF
    have : Nat.blt i (i + (n + 1)) = true := by rw [Nat.blt_eq]; omega
    rw [this]
    simp only [if_true, List.take_succ_cons, List.foldl_cons]
    have := selF_lt us (gset f u) (i + 1) n
    rw [show i + 1 + n = i + (n + 1) by omega] at this
    exact this

theorem hset_gset (H : Heap) (l : List (Nat × Blk)) : hset H l = gset H l := by
  funext h
  unfold hset gset
  cases find l h <;> rfl

theorem find_gset (tm r : List (Nat × V)) : find (r ++ tm) = gset (find tm) r := by
  funext k
  rw [find_append]
  rfl

def updT (r : Rec) : List (Nat × V) := dstPut r.dst r.v

/-- what a run in the text's order says of each of its operations -/
theorem run_each {C : Cfg} {dr : Bool} {all : List Oper} {st : St} : ∀ (rest : List Oper) (i : Nat) (d : Dl) (recs : List Rec) (df : Dl) (rf : List Rec), Run C dr all st i rest d recs df rf → recs.length = i →
    find (d.tm ++ st.tm) = (recs.map updT).foldl gset (find st.tm) → hset st.H d.hp = (recs.map Rec.dh).foldl gset st.H →
    (∃ more, rf = recs ++ more ∧ more.length = rest.length) ∧ find (df.tm ++ st.tm) = (rf.map updT).foldl gset (find st.tm) ∧ hset st.H df.hp = (rf.map Rec.dh).foldl gset st.H ∧
    ∀ j o, rest[j]? = some o → ∃ r tm H, rf[i + j]? = some r ∧ Does C dr all tm H (st.nx + (i + j) * C.K) o r ∧ find tm = ((rf.take (i + j)).map updT).foldl gset (find st.tm) ∧ H = ((rf.take (i + j)).map Rec.dh).foldl gset st.H
  | [], i, d, recs, df, rf, hr, hl, h1, h2 => by
    cases hr
    exact ⟨⟨[], by simp, rfl⟩, h1, h2, fun j o h => by simp at h⟩
  | o :: rest, i, d, recs, df, rf, hr, hl, h1, h2 => by
    cases hr with
    | @cons _ _ _ _ _ r _ _ hdo hrun =>
      obtain ⟨⟨more, e1, e2⟩, g1, g2, g3⟩ := run_each rest (i + 1) _ _ _ _ hrun (by simp [hl])
        (by rw [List.append_assoc, find_gset, h1]; simp [updT]) (by rw [hset_append, h2]; simp [hset_gset])
      refine ⟨⟨r :: more, by rw [e1]; simp, by simp [e2]⟩, g1, g2, fun j o' hj => ?_⟩
      cases j with
      | zero =>
        simp only [List.getElem?_cons_zero, Option.some.injEq] at hj
        subst hj
        have et : rf.take i = recs := by rw [e1, List.append_assoc, List.take_append_of_le_length (by omega), List.take_of_length_le (by omega)]
        refine ⟨r, _, _, ?_, hdo, ?_, ?_⟩
        · rw [e1, Nat.add_zero, List.append_assoc, List.getElem?_append_right (by omega)]
          simp [hl]
        · rw [Nat.add_zero, et]; exact h1
        · rw [Nat.add_zero, et]; exact h2
      | succ j =>
        obtain ⟨r', tm, H, k1, k2, k3, k4⟩ := g3 j o' (by simpa using hj)
        rw [show i + 1 + j = i + (j + 1) by omega] at k1 k2 k3 k4
        exact ⟨r', tm, H, k1, k2, k3, k4⟩

/-! ## the edges -/

theorem mask1_bit (acc : List Nat) (j : Nat) : ∀ (es : List Edge), (mask1 acc es).testBit j = true → ∃ e ∈ es, Region.binds .any e = true ∧ (j = e.on ∨ ((acc[e.on]?).getD 0).testBit j = true)
  | [], h => by simp [mask1] at h
  | e :: es, h => by
    unfold mask1 at h
    split at h
    · rename_i hb
      simp only [Nat.testBit_or, Bool.or_eq_true] at h
      rcases h with (h | h) | h
      · obtain ⟨e', h1, h2⟩ := mask1_bit acc j es h
        exact ⟨e', List.mem_cons_of_mem _ h1, h2⟩
      · have : j = e.on := by
          rw [Nat.testBit_two_pow] at h
          simpa using (of_decide_eq_true h).symm
        exact ⟨e, List.mem_cons_self, hb, .inl this⟩
      · exact ⟨e, List.mem_cons_self, hb, .inr h⟩
    · obtain ⟨e', h1, h2⟩ := mask1_bit acc j es h
      exact ⟨e', List.mem_cons_of_mem _ h1, h2⟩

/-- the masks of a list of operations, known one by one -/
theorem masks_spec : ∀ (os : List Oper) (acc : List Nat), (∃ more, masks os acc = acc ++ more ∧ more.length = os.length) ∧
    ∀ j o, os[j]? = some o → (masks os acc)[acc.length + j]? = some (mask1 ((masks os acc).take (acc.length + j)) o.after.toList)
  | [], acc => ⟨⟨[], by simp [masks], rfl⟩, fun j o h => by simp at h⟩
  | o :: os, acc => by
    obtain ⟨⟨more, e1, e2⟩, h⟩ := masks_spec os (acc ++ [mask1 acc o.after.toList])
    unfold masks
    refine ⟨⟨mask1 acc o.after.toList :: more, by rw [e1]; simp, by simp [e2]⟩, fun j o' hj => ?_⟩
    cases j with
    | zero =>
      simp only [List.getElem?_cons_zero, Option.some.injEq] at hj
      subst hj
      rw [e1, Nat.add_zero, List.append_assoc, List.getElem?_append_right (Nat.le_refl _), List.take_append_of_le_length (Nat.le_refl _), List.take_of_length_le (Nat.le_refl _)]
      simp
    | succ j =>
      have := h j o' (by simpa using hj)
      rw [List.length_append, List.length_singleton, show acc.length + 1 + j = acc.length + (j + 1) by omega] at this
      exact this

theorem edgesOK_spec : ∀ (os : List Oper) (i : Nat), edgesOK i os = true → ∀ j o, os[j]? = some o → ∀ e ∈ o.after, Region.binds .any e = true → e.on < i + j
  | [], _, _, j, o, h, _, _, _ => by simp at h
  | o :: os, i, h, j, o', hj, e, he, hb => by
    simp only [edgesOK, Bool.and_eq_true] at h
    cases j with
    | zero =>
      simp only [List.getElem?_cons_zero, Option.some.injEq] at hj
      subst hj
      have := List.all_eq_true.1 h.1 e (by simpa using he)
      rw [hb] at this
      simp only [Bool.not_true, Bool.false_or, Nat.blt_eq] at this
      omega
    | succ j =>
      have := edgesOK_spec os (i + 1) h.2 j o' (by simpa using hj) e he hb
      omega

/-- whatever stands ahead of an operation by the edges is listed when its direct ones are -/
theorem ahead_listed {all : List Oper} (hE : edgesOK 0 all = true) {listed : Array Bool} (hclosed : ∀ j oj, all[j]? = some oj → listed.getD j false = true → ∀ e ∈ oj.after, Region.binds .any e = true → listed.getD e.on false = true) :
    ∀ (n i : Nat), i ≤ n → ∀ oi, all[i]? = some oi → (∀ e ∈ oi.after, Region.binds .any e = true → listed.getD e.on false = true) → ∀ j, (((masks all [])[i]?).getD 0).testBit j = true → listed.getD j false = true
  | 0, i, hn, oi, hoi, hdir, j, hj => by
    have hm := (masks_spec all []).2 i oi hoi
    simp only [List.length_nil, Nat.zero_add] at hm
    rw [hm] at hj
    obtain ⟨e, he, hb, h1⟩ := mask1_bit _ j _ hj
    have := edgesOK_spec all 0 hE i oi hoi e (by simpa using he) hb
    omega
  | n + 1, i, hn, oi, hoi, hdir, j, hj => by
    have hm := (masks_spec all []).2 i oi hoi
    simp only [List.length_nil, Nat.zero_add] at hm
    rw [hm] at hj
    obtain ⟨e, he, hb, h1⟩ := mask1_bit _ j _ hj
    have he' : e ∈ oi.after := by simpa using he
    have hlt := edgesOK_spec all 0 hE i oi hoi e he' hb
    have hl := hdir e he' hb
    rcases h1 with rfl | h1
    · exact hl
    · have hilt : i < all.length := (List.getElem?_eq_some_iff.1 hoi).1
      have helt : e.on < all.length := by omega
      have hoe : all[e.on]? = some all[e.on] := List.getElem?_eq_getElem helt
      rw [List.getElem?_take_of_lt (by omega)] at h1
      exact ahead_listed hE hclosed n e.on (by omega) _ hoe (hclosed _ _ hoe hl) j h1

structure Comm (r s : Rec) : Prop where
  d : ∀ x, x ∈ r.dst.toList → x ∈ s.dst.toList → False
  ds : ∀ x, x ∈ r.dst.toList → x ∈ s.rs → False
  sd : ∀ x, x ∈ s.dst.toList → x ∈ r.rs → False
  k : ∀ x, x ∈ r.dh.map (·.1) → x ∈ s.dh.map (·.1) → False
  kR : ∀ x, x ∈ r.dh.map (·.1) → x ∈ s.R → False
  sk : ∀ x, x ∈ s.dh.map (·.1) → x ∈ r.R → False

theorem Comm.symm {r s : Rec} (h : Comm r s) : Comm s r := ⟨fun x a b => h.d x b a, h.sd, h.ds, fun x a b => h.k x b a, h.sk, h.kR⟩

theorem disj_spec {l r : List Nat} (h : disj l r = true) : ∀ x, x ∈ l → x ∈ r → False := fun x hl hr => by
  have := List.all_eq_true.1 h x hl
  rw [memN_iff.2 hr] at this
  cases this

theorem comm_spec {r s : Rec} (h : comm r s = true) : Comm r s := by
  simp only [comm, Bool.and_eq_true] at h
  exact ⟨disj_spec h.1.1.1, disj_spec h.1.1.2, disj_spec h.1.2, disj_spec h.2.1.1, disj_spec h.2.1.2, disj_spec h.2.2⟩

theorem pairOK_spec {ms : List Nat} {i : Nat} {r : Rec} : ∀ (rs : List Rec) (j : Nat), pairOK ms i r j rs = true → ∀ k s, rs[k]? = some s → (((ms[j + k]?).getD 0).testBit i = true ∨ Comm r s)
  | [], _, _, k, s, h => by simp at h
  | s :: ss, j, h, k, s', hk => by
    simp only [pairOK, Bool.and_eq_true, Bool.or_eq_true] at h
    cases k with
    | zero =>
      simp only [List.getElem?_cons_zero, Option.some.injEq] at hk
      subst hk
      exact h.1.imp id comm_spec
    | succ k =>
      have := pairOK_spec ss (j + 1) h.2 k s' (by simpa using hk)
      rwa [show j + 1 + k = j + (k + 1) by omega] at this

theorem chkAll_spec {ms : List Nat} : ∀ (rs : List Rec) (i : Nat), chkAll ms i rs = true → ∀ a b r s, a < b → rs[a]? = some r → rs[b]? = some s → (((ms[i + b]?).getD 0).testBit (i + a) = true ∨ Comm r s)
  | [], _, _, a, b, r, s, _, h, _ => by simp at h
  | r0 :: rs, i, h, a, b, r, s, hab, ha, hb => by
    simp only [chkAll, Bool.and_eq_true] at h
    cases b with
    | zero => omega
    | succ b =>
      cases a with
      | zero =>
        simp only [List.getElem?_cons_zero, Option.some.injEq] at ha
        subst ha
        have := pairOK_spec rs (i + 1) h.1 b s (by simpa using hb)
        rwa [show i + 1 + b = i + (b + 1) by omega] at this
      | succ a =>
        have := chkAll_spec rs (i + 1) h.2 a b r s (by omega) (by simpa using ha) (by simpa using hb)
        rwa [show i + 1 + b = i + (b + 1) by omega, show i + 1 + a = i + (a + 1) by omega] at this

end Go.Mir
