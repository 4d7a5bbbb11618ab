/- Contracts of small functions: slices.Index, slices.Contains. -/
import Derived.Test.YtogdeefpidccmaaMirStep
namespace Go.Proofs.Ytogdeefpidccmaa
open Go Go.Mir

abbrev KK : Nat := 4
def cfg (l : Ctrs) (n : Nat) : Cfg := ⟨tbl, find l, KK, n⟩
def cfgF (l : Ctrs) (fn : Func) : Cfg := cfg l fn.ntmps
theorem mixed : Try.prog.follows .mixedOrders = true := by kernel_rfl
theorem cfgOK {l : Ctrs} (h : CtrsOK Try.prog KK l) (n : Nat) : CfgOK Try.prog (cfg l n) := ⟨tbl_ok, by show 1 ≤ KK; decide, h⟩

theorem wrap64 {n : Int} (h1 : -9223372036854775808 ≤ n) (h2 : n ≤ 9223372036854775807) : IntKind.i64.wrap n = n := by
  simp only [IntKind.wrap, IntKind.bits, IntKind.signed]
  simp
  omega

/-- the number of a member, counted from i; -1 for none -/
def idx : List Int → Int → Int → Int
  | [], _, _ => -1
  | x :: xs, v, i => bif v == x then i else idx xs v (i + 1)

theorem idx_none : ∀ (xs : List Int) (v i : Int), v ∉ xs → idx xs v i = -1
  | [], _, _, _ => rfl
  | x :: xs, v, i, h => by
    simp only [List.mem_cons, not_or] at h
    have : (v == x) = false := by simpa using h.1
    simp only [idx, this, cond_false]
    exact idx_none xs v (i + 1) h.2

theorem idx_at : ∀ (xs : List Int) (v i : Int) (k : Nat), xs[k]? = some v → v ∉ xs.take k → idx xs v i = i + k
  | [], _, _, _, h, _ => by simp at h
  | x :: xs, v, i, 0, h, _ => by
    simp only [List.getElem?_cons_zero, Option.some.injEq] at h
    subst h
    simp [idx]
  | x :: xs, v, i, k + 1, h, hn => by
    simp only [List.getElem?_cons_succ] at h
    simp only [List.take_succ_cons, List.mem_cons, not_or] at hn
    have : (v == x) = false := by simpa using hn.1
    simp only [idx, this, cond_false]
    rw [idx_at xs v (i + 1) k h hn.2]
    omega

def J63 (xs : List Int) (v : Int) (i : Nat) : St := ⟨[(0, .fsl (.int .u8) xs), (1, .int .u8 v), (7, .int .i64 xs.length), (8, .int .i64 i)], [], fun _ => none, 0⟩
def T63 (xs : List Int) (v : Int) : Tr := .br (xs.contains v) (.leaf .ret ⟨[(4, .int .i64 (idx xs v 0))], []⟩ 0) (.leaf (.ext 0) ⟨[], []⟩ 0)
def ps63 : Ty := .prod (.slice (.int .u8)) (.prod (.int .u8) .unit)
def Λ63 (x : Den ps63) : Nat → Option LoopSum := find [(2, loopSum ⟨[], [], 0⟩ (J63 x.1 x.2.1 0) (T63 x.1 x.2.1))]
def spec63 : Den ps63 → PRes := fun x => ⟨[], .int .i64 (idx x.1 x.2.1 0), []⟩
def inv63 (xs : List Int) (v : Int) (i : Nat) : Prop := i ≤ xs.length ∧ v ∉ xs.take i
def L63 (i : Nat) : List (Lspec Nat) := [.out [true] [] [], .next (i + 1) [] [], .out [false] [] []]

theorem step63 (xs : List Int) (v : Int) (hx : xs.length ≤ lenB) (i : Nat) (hi : inv63 xs v i) :
    (stepObl (J63 xs v) (inv63 xs v) (fun i => xs.length - i) i (T63 xs v) (evCode (cfg [] 19) (fun _ => none) (loopN Try.f63 0) (J63 xs v i)) (L63 i)).1 := by
  have h : ((decide ((i : Int) < (xs.length : Int)) = true →
    (0 ≤ (i : Int) ∧ (i : Int) < (xs.length : Int)) ∧
      ((v == (xs.getD (i : Int).toNat 0)) = true → xs.contains v = true ∧ ((i : Int) = idx xs v 0 ∧ True) ∧ True) ∧
        ((v == (xs.getD (i : Int).toNat 0)) = false →
          inv63 xs v (i + 1) ∧
            xs.length - (i + 1) < xs.length - i ∧
              (RowD.mk (.int .u8) xs = RowD.mk (.int .u8) xs ∧
                  v = v ∧ (xs.length : Int) = (xs.length : Int) ∧ IntKind.i64.wrap ((i : Int) + 1) = ((i + 1 : Nat) : Int) ∧ True) ∧
                True)) ∧
    (decide ((i : Int) < (xs.length : Int)) = false → xs.contains v = false ∧ True ∧ True)) := by
    have e : (i : Int).toNat = i := by simp
    rw [e]
    refine ⟨fun h1 => ?_, fun h1 => ?_⟩
    · have h1 : i < xs.length := by simpa using h1
      refine ⟨⟨by omega, by omega⟩, fun h2 => ?_, fun h2 => ?_⟩
      · have h2 : v = xs.getD i 0 := by simpa using h2
        have h3 : xs[i]? = some v := by rw [h2, List.getD_eq_getElem?_getD, List.getElem?_eq_getElem h1]; rfl
        refine ⟨by simpa using List.mem_of_getElem? h3, ⟨?_, trivial⟩, trivial⟩
        rw [idx_at xs v 0 i h3 hi.2]; omega
      · have h2 : ¬ v = xs.getD i 0 := by simpa using h2
        have h3 : xs.getD i 0 = xs[i] := by rw [List.getD_eq_getElem?_getD, List.getElem?_eq_getElem h1]; rfl
        refine ⟨⟨by omega, ?_⟩, by omega, ⟨rfl, rfl, rfl, ?_, trivial⟩, trivial⟩
        · rw [List.take_succ_eq_append_getElem h1, List.mem_append, List.mem_singleton, not_or]
          exact ⟨hi.2, by rw [← h3]; exact h2⟩
        · have : xs.length ≤ 140737488355328 := hx
          rw [wrap64 (by omega) (by omega)]; omega
    · have h1 : ¬ i < xs.length := by simpa using h1
      refine ⟨?_, trivial, trivial⟩
      have := hi.2
      rw [List.take_of_length_le (by omega)] at this
      simpa using this
  exact cast (by kernel_rfl) h

theorem den_slice {S : Nat → Prop} {w : World} {t : Ty} {xs : List (Den t)} {cs : List Value} (h : Rd S w (.slice t) xs cs) : xs.length ≤ lenB := by
  cases h with
  | nil => exact Nat.zero_le _
  | slice _ _ _ _ h _ => exact h

theorem wf_slice {t : Ty} {xs : List (Den t)} (h : wfD (.slice t) xs) : xs.length ≤ lenB := by
  obtain ⟨S, w, cs, h⟩ := h
  exact den_slice h
theorem wf_fst {a b : Ty} {x : Den a} {y : Den b} (h : wfD (.prod a b) (x, y)) : wfD a x := by
  obtain ⟨S, w, cs, h⟩ := h
  cases h with | prod h _ => exact ⟨_, _, _, h⟩
theorem wf_snd {a b : Ty} {x : Den a} {y : Den b} (h : wfD (.prod a b) (x, y)) : wfD b y := by
  obtain ⟨S, w, cs, h⟩ := h
  cases h with | prod _ h => exact ⟨_, _, _, h⟩

theorem loops63 (xs : List Int) (v : Int) (hx : xs.length ≤ lenB) : LoopsOK Try.prog 19 [loopN Try.f63 0] (Λ63 (xs, v, ())) := by
  refine .cons (L := loopSum ⟨[], [], 0⟩ (J63 xs v 0) (T63 xs v)) (by kernel_rfl) ?_ .nil
  exact loop_by (cfgOK CtrsOK.nil 19) mixed (J63 xs v) (fun _ => rfl) (inv63 xs v) (fun i => xs.length - i) (fun _ _ => none) (fun _ _ _ _ _ h => by cases h) (T63 xs v) [] [] 0 ⟨Nat.zero_le _, by simp⟩ L63 (fun i hi => step63 xs v hx i hi)

theorem run63 (xs : List Int) (v : Int) : (evFn (cfg [] 19) (Λ63 (xs, v, ())) Try.f63 (argsV ps63 (xs, v, ()))).sat fun v' rows => leV v' (spec63 (xs, v, ())).v ∧ rows = (spec63 (xs, v, ())).rows := by
  have h : ((noH0 fun _ => none) ∧
      (RowD.mk (.int .u8) xs = RowD.mk (.int .u8) xs ∧ v = v ∧ (xs.length : Int) = (xs.length : Int) ∧ (0 : Int) = ((0 : Nat) : Int) ∧ True) ∧ True) ∧
    (xs.contains v = true → idx xs v 0 = idx xs v 0 ∧ ([] : List RowD) = []) ∧ (xs.contains v = false → -1 = idx xs v 0 ∧ ([] : List RowD) = []) := by
    refine ⟨⟨rfl, ⟨rfl, rfl, rfl, rfl, trivial⟩, trivial⟩, fun _ => ⟨rfl, rfl⟩, fun h => ⟨?_, rfl⟩⟩
    rw [idx_none]
    simpa using h
  exact cast (by kernel_rfl) h

theorem ok63 : CtrOK Try.prog KK 63 (pureCtr KK ps63 spec63) := by
  refine pure_ok (C := cfg [] 19) (cfgOK CtrsOK.nil 19) mixed (fn := Try.f63) Try.func63 (by kernel_rfl) (by kernel_rfl) (by kernel_rfl) (Λ := Λ63) ?_ ?_ ?_
  · rintro ⟨xs, v, ⟨⟩⟩ hw _
    exact LoopsOK.at (by kernel_rfl) (loops63 xs v (wf_slice (wf_fst hw)))
  · rintro ⟨xs, v, ⟨⟩⟩
    exact (by decide : 2 ≤ 19)
  · rintro ⟨xs, v, ⟨⟩⟩ _ _
    exact run63 xs v

end Go.Proofs.Ytogdeefpidccmaa
