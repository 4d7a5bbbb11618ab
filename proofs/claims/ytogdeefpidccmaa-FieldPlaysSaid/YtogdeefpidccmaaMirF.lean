/- The mirror, part 6: reading and packing data; loads and stores are sound. -/
import Derived.Test.YtogdeefpidccmaaMirE
namespace Go.Mir
open Go.RowKit

/-- a row's slice value and its block -/
theorem osl_row {B : Base} {E : Env} (hE : HRel B E) {h ver : Nat} {rw : Bool} {t : Ty} {xs : List (Den t)} (hH : E.H h = some (.row ver rw t xs)) {v : Value} (hv : vrel E (.osl h ver) v) :
    (E.ρ h = none ∧ xs = [] ∧ ∃ a, v = .slice a 0 0) ∨
    ∃ b cap c T fr, E.ρ h = some b ∧ v = .slice (some ⟨b, 0, none⟩) xs.length cap ∧ E.w.heap[b]? = some (.cells c T fr) ∧ c.size = cap * sz t ∧ xs.length ≤ cap ∧ nofrz fr c.size ∧ (rw = true → ¬ E.S b) ∧ (rw = false → E.S b) ∧
      xs.length * sz t ≤ c.size ∧ xs.length ≤ lenB ∧ ∀ (i : Nat) (hi : i < xs.length), Rd E.S E.w t xs[i] (seg c (i * sz t) (sz t)) := by
  simp only [vrel] at hv
  have hb := hE.blk h _ hH
  obtain ⟨_, hb⟩ := hb
  rcases hv.2.2.2 _ _ _ hH with ⟨h1, h2⟩ | ⟨b, cap, c, T, fr, h1, h2, h3, h4, hcap⟩
  · rcases hb with ⟨k1, k2⟩ | ⟨b, c, T, fr, k1, _⟩
    · exact .inl ⟨h1, k2, h2⟩
    · rw [h1] at k1; cases k1
  · rcases hb with ⟨k1, k2⟩ | ⟨b', c', T', fr', k1, k2, k3, k4, k5, k6, k7, k8⟩
    · rw [h1] at k1; cases k1
    · rw [h1] at k1; cases k1
      rw [h3] at k2; cases k2
      exact .inr ⟨b, cap, c, T, fr, h1, h2, h3, h4, hcap, k3, k4, k5, k6, k7, k8⟩

theorem cast_den {t t' : Ty} (h : t' = t) (xs : List (Den t')) {p : (t : Ty) → List (Den t) → Prop} (hp : p t' xs) : p t (h ▸ xs) := by subst h; exact hp

theorem vrels_cons {E : Env} {x : V} {xs : List V} {cs : List Value} (h : vrels E (x :: xs) cs) : ∃ c r, cs = c :: r ∧ vrel E x c ∧ vrels E xs r := by
  cases cs with
  | nil => simp [vrels] at h
  | cons c r => exact ⟨c, r, rfl, h.1, h.2⟩

theorem vrels_cons2 {E : Env} {x : V} {xs : List V} {cs : List Value} (h : vrels E (x :: xs) cs) : ∃ c r, cs = [c] ++ r ∧ vrel E x c ∧ vrels E xs r := vrels_cons h

theorem packL_sound {B : Base} {E : Env} (hE : HRel B E) {t : Ty} {vs : List V} {xs : List (Den t)} {rest : List V} {cs : List Value} (h : packL E.H t vs = some (xs, rest)) (hv : vrels E vs cs) :
    ∃ c1 c2, cs = c1 ++ c2 ∧ Rd E.S E.w (.slice t) xs c1 ∧ vrels E rest c2 := by
  unfold packL at h
  split at h
  · rename_i t' ys r
    split at h
    · rename_i e
      subst e
      cases h
      obtain ⟨c, r', rfl, h1, h2⟩ := vrels_cons2 hv
      exact ⟨_, _, rfl, h1, h2⟩
    · cases h
  · cases h
    obtain ⟨c, r', rfl, h1, h2⟩ := vrels_cons2 hv
    simp only [vrel] at h1
    subst h1
    exact ⟨_, _, rfl, .nil, h2⟩
  · cases h
    obtain ⟨c, r', rfl, h1, h2⟩ := vrels_cons2 hv
    simp only [vrel] at h1
    obtain ⟨a, rfl⟩ := h1
    exact ⟨_, _, rfl, .nil, h2⟩
  · rename_i hh ver r
    split at h
    · rename_i ver' t' ys hH
      split at h
      · rename_i e
        subst e
        split at h
        · rename_i e2
          subst e2
          cases h
          obtain ⟨c, r', rfl, h1, h2⟩ := vrels_cons2 hv
          refine ⟨_, _, rfl, ?_, h2⟩
          rcases osl_row hE hH h1 with ⟨_, h3, a, rfl⟩ | ⟨b, cap, c, T, fr, h3, rfl, h5, h6, hcap, h7, h8, h9, h10, h11, h12⟩
          · dsimp only; subst h3; exact .nil
          · show Rd E.S E.w (.slice t') ys _
            exact .slice (h9 rfl) h5 (by omega) hcap h11 (fun i hi => by simpa using h12 i hi)
        · cases h
      · cases h
    · cases h
  · cases h

theorem packF_sound {B : Base} {E : Env} (hE : HRel B E) : ∀ (f : Nat) {t : Ty} {vs : List V} {x : Den t} {rest : List V} {cs : List Value}, packF E.H f t vs = some (x, rest) → vrels E vs cs →
    ∃ c1 c2, cs = c1 ++ c2 ∧ Rd E.S E.w t x c1 ∧ vrels E rest c2
  | 0, t, vs, x, rest, cs, h, _ => by simp [packF] at h
  | f + 1, .int k, vs, x, rest, cs, h, hv => by
    simp only [packF] at h
    unfold packI at h
    split at h
    · split at h
      · rename_i e
        subst e
        cases h
        obtain ⟨c, r', rfl, h1, h2⟩ := vrels_cons2 hv
        simp only [vrel] at h1
        obtain ⟨rfl, h1⟩ := h1
        exact ⟨_, _, rfl, .int h1, h2⟩
      · cases h
    · cases h
  | f + 1, .bool, vs, x, rest, cs, h, hv => by
    simp only [packF] at h
    unfold packB at h
    split at h
    · cases h
      obtain ⟨c, r', rfl, h1, h2⟩ := vrels_cons2 hv
      simp only [vrel] at h1
      subst h1
      exact ⟨_, _, rfl, .bool, h2⟩
    · cases h
      obtain ⟨c, r', rfl, h1, h2⟩ := vrels_cons2 hv
      simp only [vrel] at h1
      subst h1
      exact ⟨_, _, rfl, .bool, h2⟩
    · cases h
  | f + 1, .str, vs, x, rest, cs, h, hv => by
    simp only [packF] at h
    unfold packS at h
    split at h
    · cases h
      obtain ⟨c, r', rfl, h1, h2⟩ := vrels_cons2 hv
      simp only [vrel] at h1
      obtain ⟨rfl, h1⟩ := h1
      exact ⟨_, _, rfl, .str h1, h2⟩
    · cases h
  | f + 1, .unit, vs, x, rest, cs, h, hv => by
    simp only [packF] at h
    cases h
    exact ⟨[], cs, rfl, .unit, hv⟩
  | f + 1, .prod a b, vs, x, rest, cs, h, hv => by
    simp only [packF] at h
    split at h
    · rename_i x1 r1 h1
      split at h
      · rename_i y1 r2 h2
        cases h
        obtain ⟨c1, c2, rfl, k1, k2⟩ := packF_sound hE f h1 hv
        obtain ⟨d1, d2, rfl, k3, k4⟩ := packF_sound hE f h2 k2
        exact ⟨c1 ++ d1, d2, by simp, .prod k1 k3, k4⟩
      · cases h
    · cases h
  | f + 1, .slice t, vs, x, rest, cs, h, hv => packL_sound hE h hv
  | f + 1, .nm n, vs, x, rest, cs, h, hv => by
    simp only [packF] at h
    split at h
    · rename_i x1 r1 h1
      cases h
      obtain ⟨c1, c2, rfl, k1, k2⟩ := packF_sound hE f h1 hv
      exact ⟨c1, c2, rfl, .nm (by rw [n.to_of]; exact k1), k2⟩
    · cases h

theorem pack_sound {B : Base} {E : Env} (hE : HRel B E) {t : Ty} {vs : List V} {x : Den t} {cs : List Value} (h : pack E.H t vs = some x) (hv : vrels E vs cs) : Rd E.S E.w t x cs := by
  unfold pack at h
  split at h
  · rename_i x1 h1
    cases h
    obtain ⟨c1, c2, rfl, k1, k2⟩ := packF_sound hE _ h1 hv
    cases c2 with
    | nil => simpa using k1
    | cons => simp [vrels] at k2
  · cases h

end Go.Mir
