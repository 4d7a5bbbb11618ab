/- The mirror, part 8: the pure operations are sound. -/
import Derived.Test.YtogdeefpidccmaaMirG
namespace Go.Mir
open Go.RowKit

theorem wrap_ok (k : IntKind) (n : Int) : ok k (k.wrap n) := by
  unfold ok IntKind.wrap IntKind.min IntKind.max
  cases k <;> simp only [IntKind.bits, IntKind.signed] <;> simp <;> (try split) <;> omega

theorem ok_zero (k : IntKind) : k.min ≤ 0 ∧ 0 ≤ k.max := by
  unfold IntKind.min IntKind.max
  cases k <;> simp [IntKind.bits, IntKind.signed]

theorem tmod_le {a b : Int} (h0 : 0 ≤ a) : a.tmod b ≤ a := by
  have h1 := Int.tmod_nonneg b h0
  have h2 := Int.natAbs_tmod a b
  have h3 := Nat.mod_le a.natAbs b.natAbs
  omega

theorem tmod_ok {k : IntKind} {a b : Int} (h : ok k a) : ok k (a.tmod b) := by
  have hz := ok_zero k
  unfold ok at *
  rcases Int.le_total 0 a with h0 | h0
  · have h1 := Int.tmod_nonneg b h0
    have h2 := tmod_le (b := b) h0
    omega
  · have e : a.tmod b = -((-a).tmod b) := by rw [Int.neg_tmod]; omega
    have h0' : 0 ≤ -a := by omega
    have h1 := Int.tmod_nonneg b h0'
    have h2 := tmod_le (b := b) h0'
    omega

theorem ok_len {n : Nat} (h : n ≤ lenB) : ok .i64 (n : Int) := by
  unfold ok IntKind.min IntKind.max lenB at *
  simp [IntKind.bits, IntKind.signed]
  omega

variable {P : Program}

theorem struct_field {fields : Array Field} {fs : List (Nat × TypeId)} (h : fields.toList.map (fun f => (f.offset, f.type)) = fs) {i o ft : Nat} (hf : fs[i]? = some (o, ft)) :
    ∃ fl, fields[i]? = some fl ∧ fl.offset = o ∧ fl.type = ft := by
  subst h
  rw [List.getElem?_map] at hf
  cases hx : fields.toList[i]? with
  | none => rw [hx] at hf; simp at hf
  | some fl =>
    rw [hx] at hf
    simp at hf
    exact ⟨fl, by simpa using hx, hf.1, hf.2⟩

theorem evField_sound {E : Env} {tb : Tbl} (hT : TblOK P tb) {t : TypeId} {td : TD} (ht : TDok P t td) {x : V} {xv : Value} (hx : vrel E x xv) {f : Nat} {ps : List Prop} {v : V} {dh : List (Nat × Blk)}
    (h : evField tb td x f = .val ps v dh) :
    dh = [] ∧ ∃ v', (Instr.fieldAt t xv f).run P E.w = .ok v' E.w ∧ vrel E v v' := by
  unfold evField at h
  split at h
  case h_2 => cases h
  rename_i fs hk
  have hkd := ht.kind
  rw [hk] at hkd
  obtain ⟨fields, hu, hfs⟩ := hkd
  split at h
  case h_2 => cases h
  rename_i o ft hf
  obtain ⟨fl, h1, h2, h3⟩ := struct_field hfs hf
  split at h
  case h_2 => cases h
  rename_i tf htf
  have htf' := hT _ _ htf
  split at h
  case isTrue => cases h
  rename_i hsz
  have run : ∀ (b off : Nat), (Instr.fieldAt t (.pointer (some ⟨b, off, none⟩)) f).run P E.w = .ok (.pointer (some ⟨b, off + o, none⟩)) E.w := fun b off => by
    simp [Instr.fieldAt, run_underlying hu, h1, Instr.sureAddr, fieldPlace, h3, htf'.sizeOf, hsz, addr_add, h2]
  have run' : ∀ (a : Addr), (Instr.fieldAt t (.pointer (some a)) f).run P E.w = .ok (.pointer (some (a.add o))) E.w := fun a => by
    simp [Instr.fieldAt, run_underlying hu, h1, Instr.sureAddr, fieldPlace, h3, htf'.sizeOf, hsz, h2]
  split at h
  · rename_i hh off
    cases h
    refine ⟨rfl, ?_⟩
    simp only [vrel] at hx ⊢
    obtain ⟨a, rfl⟩ := hx.2.1
    refine ⟨_, run' a, ?_⟩
    refine ⟨hx.1, ⟨_, rfl⟩, fun cs hcs => ?_⟩
    obtain ⟨b, hb, he⟩ := hx.2.2 cs hcs
    cases he
    exact ⟨b, hb, by rw [addr_add]⟩
  · rename_i t' xs i off
    cases h
    refine ⟨rfl, ?_⟩
    simp only [vrel] at hx ⊢
    obtain ⟨b, o', c, T, fr, h1, h2, h3, h4, h5, h6, rfl⟩ := hx
    exact ⟨_, run _ _, b, o', c, T, fr, h1, h2, h3, h4, h5, h6, by rw [Nat.add_assoc]⟩
  · rename_i hh ver i off
    cases h
    refine ⟨rfl, ?_⟩
    simp only [vrel] at hx ⊢
    obtain ⟨a, rfl⟩ := hx.2.2.1
    refine ⟨_, run' a, ?_⟩
    refine ⟨hx.1, hx.2.1, ⟨_, rfl⟩, fun rw t' xs hcs => ?_⟩
    obtain ⟨b, hb, hi, hl, he⟩ := hx.2.2.2 _ _ _ hcs
    cases he
    exact ⟨b, hb, hi, hl, by rw [addr_add]; simp [Nat.add_assoc]⟩
  · cases h

end Go.Mir
