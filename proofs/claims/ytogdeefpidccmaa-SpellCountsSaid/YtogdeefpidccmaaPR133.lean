/- Texts of the mirror and contracts, put together. -/
import Derived.Test.YtogdeefpidccmaaPR130
import Derived.Test.YtogdeefpidccmaaChecked
import Derived.Test.YtogdeefpidccmaaPR132
import Derived.Test.YtogdeefpidccmaaRows
import Derived.ProofKit
import Derived.OpenShut

/- The seat's type table for the mirror. Written by a tool of mine (gen_types.py). -/
namespace Go.Mir

def tblL : List (Option TD) := [
  none,
  none,
  some { kind := .int .i64, size := 1, bytes := 8, zero := [.int .i64 0], ty := some (.int .i64) },
  some { kind := .int .i64, size := 1, bytes := 8, zero := [.int .i64 0], ty := some (.int .i64) },
  some { kind := .bool, size := 1, bytes := 1, zero := [.kb false], ty := some (.bool) },
  some { kind := .int .u8, size := 1, bytes := 1, zero := [.int .u8 0], ty := some (.int .u8) },
  none,
  none,
  none,
  some { kind := .str, size := 1, bytes := 16, zero := [.str ByteArray.empty], ty := some (.str) },
  none,
  none,
  some { kind := .int .u64, size := 1, bytes := 8, zero := [.int .u64 0], ty := some (.int .u64) },
  none,
  none,
  none,
  none,
  none,
  none,
  none,
  none,
  some { kind := .int .i32, size := 1, bytes := 4, zero := [.int .i32 0], ty := some (.int .i32) },
  some { kind := .int .u8, size := 1, bytes := 1, zero := [.int .u8 0], ty := some (.int .u8) },
  some { kind := .int .u8, size := 1, bytes := 1, zero := [.int .u8 0], ty := some (.int .u8) },
  some { kind := .int .u8, size := 1, bytes := 1, zero := [.int .u8 0], ty := some (.int .u8) },
  some { kind := .struct [(0, 22), (1, 23), (2, 3), (3, 3), (4, 3), (5, 4), (6, 24), (7, 3), (8, 3), (9, 3), (10, 4), (11, 3)], size := 12, bytes := 80, zero := [.int .u8 0, .int .u8 0, .int .i64 0, .int .i64 0, .int .i64 0, .kb false, .int .u8 0, .int .i64 0, .int .i64 0, .int .i64 0, .kb false, .int .i64 0], ty := some (.prod (.int .u8) (.prod (.int .u8) (.prod (.int .i64) (.prod (.int .i64) (.prod (.int .i64) (.prod (.bool) (.prod (.int .u8) (.prod (.int .i64) (.prod (.int .i64) (.prod (.int .i64) (.prod (.bool) (.prod (.int .i64) (.unit))))))))))))) },
  some { kind := .struct [(0, 22), (1, 23), (2, 3), (3, 3), (4, 3), (5, 4), (6, 24), (7, 3), (8, 3), (9, 3), (10, 4), (11, 3)], size := 12, bytes := 80, zero := [.int .u8 0, .int .u8 0, .int .i64 0, .int .i64 0, .int .i64 0, .kb false, .int .u8 0, .int .i64 0, .int .i64 0, .int .i64 0, .kb false, .int .i64 0], ty := some (.nm .Delivery) },
  none,
  some { kind := .int .i64, size := 1, bytes := 8, zero := [.int .i64 0], ty := some (.int .i64) },
  none,
  none,
  none,
  none,
  some { kind := .slice 24, size := 1, bytes := 24, zero := [.nilsl], ty := some (.slice (.int .u8)) },
  none,
  none,
  none,
  none,
  some { kind := .int .i64, size := 1, bytes := 8, zero := [.int .i64 0], ty := some (.int .i64) },
  none,
  none,
  none,
  none,
  none,
  none,
  none,
  none,
  some { kind := .struct [(0, 3), (1, 3), (2, 3), (3, 3), (4, 3)], size := 5, bytes := 40, zero := [.int .i64 0, .int .i64 0, .int .i64 0, .int .i64 0, .int .i64 0], ty := some (.prod (.int .i64) (.prod (.int .i64) (.prod (.int .i64) (.prod (.int .i64) (.prod (.int .i64) (.unit)))))) },
  some { kind := .struct [(0, 3), (1, 3), (2, 3), (3, 3), (4, 3)], size := 5, bytes := 40, zero := [.int .i64 0, .int .i64 0, .int .i64 0, .int .i64 0, .int .i64 0], ty := some (.nm .Extras) },
  some { kind := .slice 104, size := 1, bytes := 24, zero := [.nilsl], ty := some (.slice (.int .u8)) },
  some { kind := .slice 3, size := 1, bytes := 24, zero := [.nilsl], ty := some (.slice (.int .i64)) },
  some { kind := .slice 4, size := 1, bytes := 24, zero := [.nilsl], ty := some (.slice (.bool)) },
  some { kind := .arr 2 3, size := 2, bytes := 16, zero := [.int .i64 0, .int .i64 0], ty := some (.prod (.int .i64) (.prod (.int .i64) (.unit))) },
  some { kind := .int .u8, size := 1, bytes := 1, zero := [.int .u8 0], ty := some (.int .u8) },
  some { kind := .struct [(0, 3), (1, 3), (2, 3), (3, 3), (4, 3), (5, 48), (10, 3), (11, 3), (12, 3), (13, 3), (14, 49), (15, 3), (16, 50), (17, 50), (18, 4), (19, 50), (20, 4), (21, 3), (22, 3), (23, 3), (24, 51), (25, 52), (27, 53)], size := 28, bytes := 304, zero := [.int .i64 0, .int .i64 0, .int .i64 0, .int .i64 0, .int .i64 0, .int .i64 0, .int .i64 0, .int .i64 0, .int .i64 0, .int .i64 0, .int .i64 0, .int .i64 0, .int .i64 0, .int .i64 0, .nilsl, .int .i64 0, .nilsl, .nilsl, .kb false, .nilsl, .kb false, .int .i64 0, .int .i64 0, .int .i64 0, .nilsl, .int .i64 0, .int .i64 0, .int .u8 0], ty := some (.prod (.int .i64) (.prod (.int .i64) (.prod (.int .i64) (.prod (.int .i64) (.prod (.int .i64) (.prod (.nm .Extras) (.prod (.int .i64) (.prod (.int .i64) (.prod (.int .i64) (.prod (.int .i64) (.prod (.slice (.int .u8)) (.prod (.int .i64) (.prod (.slice (.int .i64)) (.prod (.slice (.int .i64)) (.prod (.bool) (.prod (.slice (.int .i64)) (.prod (.bool) (.prod (.int .i64) (.prod (.int .i64) (.prod (.int .i64) (.prod (.slice (.bool)) (.prod (.prod (.int .i64) (.prod (.int .i64) (.unit))) (.prod (.int .u8) (.unit)))))))))))))))))))))))) },
  some { kind := .struct [(0, 3), (1, 3), (2, 3), (3, 3), (4, 3), (5, 48), (10, 3), (11, 3), (12, 3), (13, 3), (14, 49), (15, 3), (16, 50), (17, 50), (18, 4), (19, 50), (20, 4), (21, 3), (22, 3), (23, 3), (24, 51), (25, 52), (27, 53)], size := 28, bytes := 304, zero := [.int .i64 0, .int .i64 0, .int .i64 0, .int .i64 0, .int .i64 0, .int .i64 0, .int .i64 0, .int .i64 0, .int .i64 0, .int .i64 0, .int .i64 0, .int .i64 0, .int .i64 0, .int .i64 0, .nilsl, .int .i64 0, .nilsl, .nilsl, .kb false, .nilsl, .kb false, .int .i64 0, .int .i64 0, .int .i64 0, .nilsl, .int .i64 0, .int .i64 0, .int .u8 0], ty := some (.nm .Innings) },
  some { kind := .slice 61, size := 1, bytes := 24, zero := [.nilsl], ty := some (.slice (.nm .law11_Act)) },
  none,
  none,
  none,
  some { kind := .struct [(0, 5), (1, 3), (2, 4)], size := 3, bytes := 24, zero := [.int .u8 0, .int .i64 0, .kb false], ty := some (.prod (.int .u8) (.prod (.int .i64) (.prod (.bool) (.unit)))) },
  some { kind := .struct [(0, 5), (1, 3), (2, 4)], size := 3, bytes := 24, zero := [.int .u8 0, .int .i64 0, .kb false], ty := some (.nm .law11_Act) },
  none,
  none,
  none,
  none,
  some { kind := .slice 113, size := 1, bytes := 24, zero := [.nilsl], ty := some (.slice (.nm .Phase)) },
  some { kind := .struct [(0, 9), (1, 3), (2, 3), (3, 3), (4, 3), (5, 3), (6, 3), (7, 3), (8, 4), (9, 3), (10, 3), (11, 3), (12, 3), (13, 66)], size := 14, bytes := 136, zero := [.str ByteArray.empty, .int .i64 0, .int .i64 0, .int .i64 0, .int .i64 0, .int .i64 0, .int .i64 0, .int .i64 0, .kb false, .int .i64 0, .int .i64 0, .int .i64 0, .int .i64 0, .nilsl], ty := some (.prod (.str) (.prod (.int .i64) (.prod (.int .i64) (.prod (.int .i64) (.prod (.int .i64) (.prod (.int .i64) (.prod (.int .i64) (.prod (.int .i64) (.prod (.bool) (.prod (.int .i64) (.prod (.int .i64) (.prod (.int .i64) (.prod (.int .i64) (.prod (.slice (.nm .Phase)) (.unit))))))))))))))) },
  some { kind := .struct [(0, 9), (1, 3), (2, 3), (3, 3), (4, 3), (5, 3), (6, 3), (7, 3), (8, 4), (9, 3), (10, 3), (11, 3), (12, 3), (13, 66)], size := 14, bytes := 136, zero := [.str ByteArray.empty, .int .i64 0, .int .i64 0, .int .i64 0, .int .i64 0, .int .i64 0, .int .i64 0, .int .i64 0, .kb false, .int .i64 0, .int .i64 0, .int .i64 0, .int .i64 0, .nilsl], ty := some (.nm .Rules) },
  none,
  none,
  none,
  none,
  none,
  none,
  none,
  none,
  some { kind := .slice 82, size := 1, bytes := 24, zero := [.nilsl], ty := some (.slice (.nm .law13_Act)) },
  none,
  some { kind := .slice 50, size := 1, bytes := 24, zero := [.nilsl], ty := some (.slice (.slice (.int .i64))) },
  none,
  some { kind := .struct [(0, 3), (1, 5), (2, 4)], size := 3, bytes := 16, zero := [.int .i64 0, .int .u8 0, .kb false], ty := some (.prod (.int .i64) (.prod (.int .u8) (.prod (.bool) (.unit)))) },
  some { kind := .struct [(0, 3), (1, 5), (2, 4)], size := 3, bytes := 16, zero := [.int .i64 0, .int .u8 0, .kb false], ty := some (.nm .law13_Act) },
  none,
  none,
  none,
  none,
  none,
  none,
  some { kind := .slice 55, size := 1, bytes := 24, zero := [.nilsl], ty := some (.slice (.nm .Innings)) },
  none,
  some { kind := .struct [(0, 24), (1, 9), (2, 4), (3, 4), (4, 4), (5, 4), (6, 4)], size := 7, bytes := 32, zero := [.int .u8 0, .str ByteArray.empty, .kb false, .kb false, .kb false, .kb false, .kb false], ty := some (.prod (.int .u8) (.prod (.str) (.prod (.bool) (.prod (.bool) (.prod (.bool) (.prod (.bool) (.prod (.bool) (.unit)))))))) },
  some { kind := .struct [(0, 24), (1, 9), (2, 4), (3, 4), (4, 4), (5, 4), (6, 4)], size := 7, bytes := 32, zero := [.int .u8 0, .str ByteArray.empty, .kb false, .kb false, .kb false, .kb false, .kb false], ty := some (.nm .dismissal_way) },
  none,
  none,
  none,
  some { kind := .slice 92, size := 1, bytes := 24, zero := [.nilsl], ty := some (.slice (.nm .dismissal_way)) },
  none,
  none,
  none,
  some { kind := .slice 9, size := 1, bytes := 24, zero := [.nilsl], ty := some (.slice (.str)) },
  none,
  none,
  none,
  some { kind := .int .u8, size := 1, bytes := 1, zero := [.int .u8 0], ty := some (.int .u8) },
  none,
  none,
  none,
  none,
  none,
  none,
  none,
  some { kind := .struct [(0, 3), (1, 3), (2, 3)], size := 3, bytes := 24, zero := [.int .i64 0, .int .i64 0, .int .i64 0], ty := some (.prod (.int .i64) (.prod (.int .i64) (.prod (.int .i64) (.unit)))) },
  some { kind := .struct [(0, 3), (1, 3), (2, 3)], size := 3, bytes := 24, zero := [.int .i64 0, .int .i64 0, .int .i64 0], ty := some (.nm .Phase) },
  none,
  none,
  none,
  none,
  none,
  some { kind := .slice 5, size := 1, bytes := 24, zero := [.nilsl], ty := some (.slice (.int .u8)) },
  none,
  none,
  none,
  none,
  none,
  none,
  none,
  some { kind := .int .u32, size := 1, bytes := 4, zero := [.int .u32 0], ty := some (.int .u32) },
  none,
  none,
  none,
  some { kind := .ptr 5, size := 1, bytes := 8, zero := [.nilptr], ty := none },
  none,
  none,
  none,
  none,
  none]

def tbl (t : TypeId) : Option TD := (tblL[t]?).getD none

theorem tbl_ok : TblOK Go.Proofs.Try.prog tbl := tblOK_of_check tblL (by kernel_rfl)

end Go.Mir

/- The mirror, part 28: what a call is handed, read; and the law's contract. -/
namespace Go.Mir
open Go.RowKit Go.ChangeShapes Go.WideShapes

/-- does a type of the program have the shape of a type of the mirror -/
def shpFs (sh : TypeId → Ty → Bool) (P : Program) : List Field → Nat → Ty → Bool
  | [], _, .unit => true
  | fd :: r, o, .prod a b => Nat.beq fd.offset o && (Nat.beq (P.cellsOf fd.type) (sz a) && (sh fd.type a && shpFs sh P r (o + sz a) b))
  | _, _, _ => false
def shpArr (sh : TypeId → Ty → Bool) (P : Program) (e : TypeId) : Nat → Ty → Bool
  | 0, .unit => true
  | n + 1, .prod a b => Nat.beq (P.cellsOf e) (sz a) && (sh e a && shpArr sh P e n b)
  | _, _ => false
def shp (P : Program) : Nat → TypeId → Ty → Bool
  | 0, _, _ => false
  | f + 1, T, t => match P.underlying T, t with
    | some (.int k), .int k' => decide (k = k')
    | some .bool, .bool => true
    | some .string, .str => true
    | some (.slice e), .slice t => shp P f e t && (Nat.beq (P.cellsOf e) (sz t) && (Nat.blt 0 (sz t) && Nat.blt 0 (P.bytesOf e)))
    | some (.struct fs), .nm n => shpFs (shp P f) P fs.toList 0 n.flds && Nat.beq (P.cellsOf T) n.size
    | some (.struct fs), .prod a b => shpFs (shp P f) P fs.toList 0 (.prod a b) && Nat.beq (P.cellsOf T) (sz (.prod a b))
    | some (.array n e), .prod a b => shpArr (shp P f) P e n (.prod a b) && Nat.beq (P.cellsOf T) (sz (.prod a b))
    | _, _ => false

/-- how much a datum holds -/
def bulkD : Nat → (t : Ty) → Den t → Nat
  | 0, _, _ => 0
  | _ + 1, .int _, _ => 1
  | _ + 1, .bool, _ => 1
  | _ + 1, .str, s => s.size + 1
  | _ + 1, .unit, _ => 0
  | f + 1, .prod a b, x => bulkD f a x.1 + bulkD f b x.2
  | f + 1, .slice t, xs => (xs.map (bulkD f t)).sum + 1
  | f + 1, .nm n, x => bulkD f n.flds (n.to x)

open Go.Proofs.Ytogdeefpidccmaa.Rows (uptoBulk uptoBulkAll)

section
variable {H : Type} {enc : TypeId × Value → H} {P : Program} {w : World}

def blocks (w : World) : Nat → Prop := fun b => b < w.heap.size

/-- what is asked of a reading: its weights are small -/
def light (P : Program) (T : TypeId) (d : DataW H) : Prop := ∀ n ∈ d.weights P T, n ≤ lenB

/-- what comes of a reading -/
def Opens (w : World) (t : Ty) (cs : List Value) (d : DataW H) : Prop := ∃ x : Den t, Rd (blocks w) w t x cs ∧ ∀ g, bulkD g t x ≤ uptoBulk d

def OpenAt (enc : TypeId × Value → H) (P : Program) (w : World) (f : Nat) : Prop := ∀ (T : TypeId) (t : Ty) (fuel : Nat) (cs : List Value) (z : DataW H × List MemPlace), shp P f T t = true → DataW.trod enc P w 0 (fun _ => true) true fuel T cs = some z → light P T z.1 → Opens w t cs z.1

theorem take_add_drop (cs : List Value) (o a b : Nat) : (cs.drop o).take (a + b) = (cs.drop o).take a ++ (cs.drop (o + a)).take b := by
  rw [List.take_add, List.drop_drop]

theorem bulkAll_append (l r : List (DataW H)) : uptoBulkAll (l ++ r) = uptoBulkAll l + uptoBulkAll r := by
  induction l with
  | nil => simp [uptoBulkAll]
  | cons x l ih => simp only [List.cons_append, uptoBulkAll, ih]; omega

theorem open_fs {f n : Nat} (ih : OpenAt enc P w f) {cs : List Value} : ∀ (l : List Field) (ys : List (DataW H × List MemPlace)) (o : Nat) (t : Ty), shpFs (shp P f) P l o t = true → ys.length = l.length →
    (∀ (i : Nat) (fd : Field), l[i]? = some fd → DataW.trod enc P w 0 (fun _ => true) true n fd.type ((cs.drop fd.offset).take (P.cellsOf fd.type)) = ys[i]?) →
    (∀ m ∈ DataW.weightsEach P (l.map (·.type)) (ys.map (·.1)), m ≤ lenB) → ∃ x : Den t, Rd (blocks w) w t x ((cs.drop o).take (sz t)) ∧ ∀ g, bulkD g t x ≤ uptoBulkAll (ys.map (·.1))
  | [], ys, o, t, hs, hl, _, _ => by
    cases t <;> simp only [shpFs, Bool.false_eq_true] at hs
    refine ⟨(), by simpa [sz] using Rd.unit, fun g => ?_⟩
    cases g <;> simp [bulkD]
  | fd :: l, ys, o, t, hs, hl, hy, hw => by
    cases t <;> simp only [shpFs, Bool.false_eq_true] at hs
    rename_i a b
    simp only [Bool.and_eq_true, Nat.beq_eq] at hs
    obtain ⟨rfl, h2, h3, h4⟩ := hs
    cases ys with
    | nil => simp at hl
    | cons y ys =>
      have h0 := hy 0 fd rfl
      simp only [List.getElem?_cons_zero] at h0
      simp only [List.map_cons, DataW.weightsEach, List.mem_append] at hw
      obtain ⟨x, hx, bx⟩ := ih fd.type a _ _ y h3 h0 (fun m hm => hw m (.inl hm))
      obtain ⟨z, hz, bz⟩ := open_fs ih l ys (fd.offset + sz a) b h4 (by simpa using hl) (fun i f' hf => by simpa using hy (i + 1) f' (by simpa using hf)) (fun m hm => hw m (.inr hm))
      refine ⟨(x, z), ?_, fun g => ?_⟩
      · show Rd _ _ (.prod a b) (x, z) ((cs.drop fd.offset).take (sz a + sz b))
        rw [take_add_drop]
        rw [h2] at hx
        exact .prod hx hz
      · cases g with
        | zero => simp [bulkD]
        | succ g => simp only [bulkD, List.map_cons, uptoBulkAll]; have := bx g; have := bz g; omega

theorem open_arr {f n : Nat} (ih : OpenAt enc P w f) {cs : List Value} {e : TypeId} : ∀ (k j : Nat) (ys : List (DataW H × List MemPlace)) (t : Ty), shpArr (shp P f) P e k t = true → ys.length = k →
    (∀ i : Nat, i < k → DataW.trod enc P w 0 (fun _ => true) true n e ((cs.drop ((j + i) * P.cellsOf e)).take (P.cellsOf e)) = ys[i]?) →
    (∀ m ∈ DataW.weightsAll P e (ys.map (·.1)), m ≤ lenB) → ∃ x : Den t, Rd (blocks w) w t x ((cs.drop (j * P.cellsOf e)).take (sz t)) ∧ ∀ g, bulkD g t x ≤ uptoBulkAll (ys.map (·.1))
  | 0, j, ys, t, hs, hl, _, _ => by
    cases t <;> simp only [shpArr, Bool.false_eq_true] at hs
    refine ⟨(), by simpa [sz] using Rd.unit, fun g => ?_⟩
    cases g <;> simp [bulkD]
  | k + 1, j, ys, t, hs, hl, hy, hw => by
    cases t <;> simp only [shpArr, Bool.false_eq_true] at hs
    rename_i a b
    simp only [Bool.and_eq_true, Nat.beq_eq] at hs
    obtain ⟨h2, h3, h4⟩ := hs
    cases ys with
    | nil => simp at hl
    | cons y ys =>
      have h0 := hy 0 (by omega)
      simp only [List.getElem?_cons_zero, Nat.add_zero] at h0
      simp only [List.map_cons, DataW.weightsAll, List.mem_append] at hw
      obtain ⟨x, hx, bx⟩ := ih e a _ _ y h3 h0 (fun m hm => hw m (.inl hm))
      obtain ⟨z, hz, bz⟩ := open_arr ih k (j + 1) ys b h4 (by simpa using hl) (fun i hi => by
        have := hy (i + 1) (by omega)
        simpa [Nat.add_assoc, Nat.add_comm 1 i] using this) (fun m hm => hw m (.inr hm))
      refine ⟨(x, z), ?_, fun g => ?_⟩
      · show Rd _ _ (.prod a b) (x, z) ((cs.drop (j * P.cellsOf e)).take (sz a + sz b))
        rw [take_add_drop]
        rw [h2] at hx hz ⊢
        rw [Nat.add_mul, Nat.one_mul] at hz
        exact .prod hx hz
      · cases g with
        | zero => simp [bulkD]
        | succ g => simp only [bulkD, List.map_cons, uptoBulkAll]; have := bx g; have := bz g; omega

theorem mapM_cells {α : Type} (f : Nat → Option α) : ∀ (l : List Nat) (r : List α), l.mapM f = some r → r.length = l.length ∧ ∀ (i j : Nat), l[i]? = some j → r[i]? = f j
  | [], r, h => by simp at h; subst h; simp
  | x :: l, r, h => by
    rw [List.mapM_cons] at h
    cases hx : f x with
    | none => rw [hx] at h; cases h
    | some v =>
      rw [hx] at h
      cases hl : l.mapM f with
      | none => simp [hl] at h
      | some r' =>
        simp [hl] at h
        subst h
        obtain ⟨h1, h2⟩ := mapM_cells f l r' hl
        refine ⟨by simp [h1], fun i j hi => ?_⟩
        cases i with
        | zero => simp at hi; subst hi; simp [hx]
        | succ i => simpa using h2 i j (by simpa using hi)

/-- cells of a row, read -/
theorem cells_seg {a : Addr} {n : Nat} {r : List Value} (h : w.cells? 0 a n = some r) (hn : 0 < n) : a.spot = none ∧ ∃ c T fr, w.heap[a.block]? = some (.cells c T fr) ∧ a.off + n ≤ c.size ∧ r = seg c a.off n := by
  unfold World.cells? at h
  rw [if_pos (Nat.zero_le _)] at h
  obtain ⟨h1, h2⟩ := mapM_cells _ _ _ h
  simp only [List.length_range] at h1
  have h0 := h2 0 0 (by simp [hn])
  have hr0 : r[0]? = some (r[0]'(by omega)) := List.getElem?_eq_getElem _
  rw [hr0] at h0
  simp only [Addr.add, if_true] at h0
  unfold World.cell? at h0
  split at h0
  case h_2 => cases h0
  rename_i c T fr hb
  split at h0
  case isTrue => cases h0
  rename_i hsp
  have hsp : a.spot = none := by simpa using hsp
  have get : ∀ i, i < n → ∃ v, r[i]? = some v ∧ c.toList[a.off + i]? = some v := fun i hi => by
    have h3 := h2 i i (by simp [hi])
    have hri : r[i]? = some (r[i]'(by omega)) := List.getElem?_eq_getElem _
    have e : a.add i = ⟨a.block, a.off + i, none⟩ := by
      unfold Addr.add
      split
      · rename_i e; subst e; cases a; simp_all
      · rfl
    rw [e, hri] at h3
    unfold World.cell? at h3
    simp only [hb, Option.isSome_none, Bool.false_eq_true, if_false] at h3
    exact ⟨_, hri, by rw [Array.getElem?_toList]; exact h3.symm⟩
  have hsz : a.off + n ≤ c.size := by
    obtain ⟨v, _, hv⟩ := get (n - 1) (by omega)
    have : a.off + (n - 1) < c.toList.length := by
      rcases Nat.lt_or_ge (a.off + (n - 1)) c.toList.length with h4 | h4
      · exact h4
      · rw [List.getElem?_eq_none h4] at hv; cases hv
    simp at this; omega
  refine ⟨hsp, c, T, fr, hb, hsz, ?_⟩
  apply List.ext_getElem?
  intro i
  by_cases hi : i < n
  · obtain ⟨v, h3, h4⟩ := get i hi
    rw [h3]
    simp only [seg, List.getElem?_take, if_pos hi, List.getElem?_drop, h4]
  · rw [List.getElem?_eq_none (by omega), List.getElem?_eq_none]
    simp [seg]; omega

theorem open_list {f n : Nat} (ih : OpenAt enc P w f) {e : TypeId} {t : Ty} (hs : shp P f e t = true) (hc : P.cellsOf e = sz t) (hpos : 0 < sz t) {a : Addr} : ∀ (k j : Nat) (ys : List (DataW H × List MemPlace)), ys.length = k →
    (∀ i, i < k → (w.cells? 0 (a.add ((j + i) * sz t)) (sz t)).bind (DataW.trod enc P w 0 (fun _ => true) true n e) = ys[i]?) →
    (∀ m ∈ DataW.weightsAll P e (ys.map (·.1)), m ≤ lenB) →
    ∃ xs : List (Den t), xs.length = k ∧ (∀ (i : Nat) (hi : i < xs.length), ∃ r, w.cells? 0 (a.add ((j + i) * sz t)) (sz t) = some r ∧ Rd (blocks w) w t xs[i] r) ∧ ∀ g, (xs.map (bulkD g t)).sum ≤ uptoBulkAll (ys.map (·.1))
  | 0, j, ys, hl, _, _ => ⟨[], rfl, fun i hi => by simp at hi, fun g => by simp⟩
  | k + 1, j, ys, hl, hy, hw => by
    cases ys with
    | nil => simp at hl
    | cons y ys =>
      have h0 := hy 0 (by omega)
      simp only [List.getElem?_cons_zero, Nat.add_zero] at h0
      simp only [List.map_cons, DataW.weightsAll, List.mem_append] at hw
      cases hr : w.cells? 0 (a.add (j * sz t)) (sz t) with
      | none => rw [hr] at h0; cases h0
      | some r =>
        rw [hr] at h0
        simp only [Option.bind_some] at h0
        obtain ⟨x, hx, bx⟩ := ih e t _ _ y hs h0 (fun m hm => hw m (.inl hm))
        obtain ⟨xs, h1, h2, h3⟩ := open_list ih hs hc hpos k (j + 1) ys (by simpa using hl) (fun i hi => by
          have := hy (i + 1) (by omega)
          simpa [Nat.add_assoc, Nat.add_comm 1 i] using this) (fun m hm => hw m (.inr hm))
        refine ⟨x :: xs, by simp [h1], fun i hi => ?_, fun g => ?_⟩
        · cases i with
          | zero => exact ⟨r, by simpa using hr, hx⟩
          | succ i =>
            obtain ⟨r', h4, h5⟩ := h2 i (by simpa using hi)
            exact ⟨r', by rw [← h4]; simp [Nat.add_assoc, Nat.add_comm 1 i], by simpa using h5⟩
        · simp only [List.map_cons, List.sum_cons, uptoBulkAll]; have := bx g; have := h3 g; omega

theorem weightsAll_append (e : TypeId) : ∀ (l r : List (DataW H)), DataW.weightsAll P e (l ++ r) = DataW.weightsAll P e l ++ DataW.weightsAll P e r
  | [], r => by simp [DataW.weightsAll]
  | x :: l, r => by simp [DataW.weightsAll, weightsAll_append e l r]

theorem open_at : ∀ f, OpenAt enc P w f
  | 0 => fun T t fuel cs z hs _ _ => by simp [shp] at hs
  | f + 1 => fun T t fuel cs z hs h hw => by
    have ih := open_at f
    unfold shp at hs
    split at hs
    · rename_i k k' hT
      obtain ⟨n, rfl, rfl, hwf⟩ := DataW.trod_int hT h
      have e : k = k' := by simpa using hs
      subst e
      refine ⟨n, .int ?_, fun g => ?_⟩
      · simpa [Lit.wf, ok] using hwf
      · cases g <;> simp [bulkD, uptoBulk]
    · rename_i hT
      obtain ⟨b, rfl, rfl⟩ := DataW.trod_bool hT h
      refine ⟨b, .bool, fun g => ?_⟩
      cases g <;> simp [bulkD, uptoBulk]
    · rename_i hT
      obtain ⟨s, rfl, rfl, hwf⟩ := DataW.trod_string hT h
      have hl : s.size ≤ lenB := hw _ (by show s.size ∈ [s.data.toList.length]; rw [Array.length_toList]; exact List.mem_singleton.2 rfl)
      refine ⟨s, .str hl, fun g => ?_⟩
      cases g with
      | zero => exact Nat.zero_le _
      | succ g =>
        show s.size + 1 ≤ s.data.toList.length + 1
        rw [Array.length_toList]
        exact Nat.le_refl _
    · rename_i e t' hT
      simp only [Bool.and_eq_true, Nat.beq_eq, Nat.blt_eq] at hs
      obtain ⟨h1, h2, h3, h4⟩ := hs
      rcases DataW.trod_slice hT h with ⟨rfl, rfl⟩ | ⟨a, len, cap, elems, rest, n, rfl, rfl, rfl, hb, hl, hm, hlen, hel, hsp, _⟩
      · refine ⟨[], .nil, fun g => ?_⟩
        cases g <;> simp [bulkD, uptoBulk]
      · simp only [light, DataW.weights, hT] at hw
        rw [h2] at hel
        obtain ⟨xs, k1, k2, k3⟩ := open_list ih h1 h2 h3 len 0 elems hlen (fun i hi => by simpa using hel i hi) (fun m hm => hw m (List.mem_cons_of_mem _ (List.mem_append_left _ hm)))
        have hlb : xs.length ≤ lenB := by
          have hw0 := hw _ List.mem_cons_self
          rw [List.length_map, List.length_map] at hw0
          have h5 : (elems.length + rest.length) * 1 ≤ (elems.length + rest.length) * P.bytesOf e := Nat.mul_le_mul_left _ h4
          omega
        refine ⟨xs, ?_, fun g => ?_⟩
        · cases hx : len with
          | zero =>
            have : xs = [] := List.eq_nil_of_length_eq_zero (by omega)
            subst this
            exact .nil
          | succ len' =>
            obtain ⟨r0, q1, q2⟩ := k2 0 (by omega)
            simp only [Nat.zero_add, Nat.zero_mul] at q1
            have ha0 : a.add 0 = a := rfl
            rw [ha0] at q1
            obtain ⟨hspot, c, T0, fr, hblk, hsz0, _⟩ := cells_seg q1 h3
            have hat : ∀ i, a.add (i * sz t') = ⟨a.block, a.off + i * sz t', none⟩ := fun i => by
              unfold Addr.add
              split
              · rename_i e0; cases a; simp_all
              · rfl
            have hread : ∀ (i : Nat) (hi : i < xs.length), a.off + i * sz t' + sz t' ≤ c.size ∧ Rd (blocks w) w t' xs[i] (seg c (a.off + i * sz t') (sz t')) := fun i hi => by
              obtain ⟨r, q3, q4⟩ := k2 i hi
              rw [Nat.zero_add, hat] at q3
              obtain ⟨_, c', T', fr', hblk', hsz', rfl⟩ := cells_seg q3 h3
              simp only at hblk' hsz' q4
              rw [hblk] at hblk'
              cases hblk'
              exact ⟨hsz', q4⟩
            have ea : a = ⟨a.block, a.off, none⟩ := by cases a; simp_all
            rw [ea, ← hx, ← k1]
            have hlast := (hread (xs.length - 1) (by omega)).1
            have hmul : (xs.length - 1) * sz t' + sz t' = xs.length * sz t' := by
              rw [← Nat.succ_mul]; congr 1; omega
            refine .slice ?_ hblk (by omega) (by omega) hlb (fun i hi => (hread i hi).2)
            show a.block < w.heap.size
            rcases Nat.lt_or_ge a.block w.heap.size with h6 | h6
            · exact h6
            · rw [Array.getElem?_eq_none h6] at hblk; cases hblk
        · cases g with
          | zero => simp [bulkD]
          | succ g => simp only [bulkD, uptoBulk]; have := k3 g; omega
    · rename_i fs n hT
      simp only [Bool.and_eq_true, Nat.beq_eq] at hs
      obtain ⟨xs, m, rfl, rfl, hlen, hl, hx⟩ := DataW.trod_struct hT h
      simp only [light, DataW.weights, hT] at hw
      obtain ⟨x, h1, h2⟩ := open_fs ih (cs := cs) fs.toList xs 0 n.flds hs.1 (by simpa using hl) (fun i fd hf => hx i fd (by simpa using hf)) hw
      have hsz : sz n.flds = n.size := n.size_flds
      rw [hsz, List.drop_zero, List.take_of_length_le (by omega)] at h1
      refine ⟨n.of x, .nm (by rw [n.to_of]; exact h1), fun g => ?_⟩
      cases g with
      | zero => simp [bulkD]
      | succ g => simp only [bulkD, uptoBulk, n.to_of]; have := h2 g; omega
    · rename_i fs a b hT
      simp only [Bool.and_eq_true, Nat.beq_eq] at hs
      obtain ⟨xs, m, rfl, rfl, hlen, hl, hx⟩ := DataW.trod_struct hT h
      simp only [light, DataW.weights, hT] at hw
      obtain ⟨x, h1, h2⟩ := open_fs ih (cs := cs) fs.toList xs 0 (.prod a b) hs.1 (by simpa using hl) (fun i fd hf => hx i fd (by simpa using hf)) hw
      rw [List.drop_zero, List.take_of_length_le (by omega)] at h1
      refine ⟨x, h1, fun g => ?_⟩
      have := h2 g; simp only [uptoBulk]; omega
    · rename_i n e a b hT
      simp only [Bool.and_eq_true, Nat.beq_eq] at hs
      obtain ⟨xs, m, rfl, rfl, hlen, hl, hx⟩ := DataW.trod_array hT h
      simp only [light, DataW.weights, hT] at hw
      obtain ⟨x, h1, h2⟩ := open_arr ih (cs := cs) n 0 xs (.prod a b) hs.1 hl (fun i hi => by simpa using hx i hi) hw
      rw [Nat.zero_mul, List.drop_zero, List.take_of_length_le (by omega)] at h1
      refine ⟨x, h1, fun g => ?_⟩
      have := h2 g; simp only [uptoBulk]; omega
    · cases hs
end

end Go.Mir

/- The mirror, part 29: a law's contract, and its row. -/
namespace Go.Mir
open Go.RowKit Go.ChangeShapes Go.WideShapes
open Go.Proofs.Ytogdeefpidccmaa.Rows (uptoBulk uptoBulkAll)

section
variable {H : Type} {enc : TypeId × Value → H} {P : Program} {w : World}

def shpAll (P : Program) : List TypeId → Ty → Bool
  | [], .unit => true
  | T :: Ts, .prod a b => shp P 32 T a && shpAll P Ts b
  | _, _ => false

theorem shp_form {f : Nat} {T : TypeId} {t : Ty} (hs : shp P f T t = true) {r : Reach} {b : Nat} {v : Value} (hv : Value.okWide P w r b T v) : (aggT t = true ∧ ∃ l, v = .agg l) ∨ (aggT t = false ∧ v.cells.toList = [v]) := by
  cases f with
  | zero => simp [shp] at hs
  | succ f =>
    unfold shp at hs
    split at hs
    · rename_i k k' hT
      obtain ⟨n, rfl⟩ := okWide_int hT hv
      exact .inr ⟨rfl, rfl⟩
    · rename_i hT
      obtain ⟨n, rfl⟩ := okWide_bool hT hv
      exact .inr ⟨rfl, rfl⟩
    · rename_i hT
      obtain ⟨n, rfl⟩ := okWide_string hT hv
      exact .inr ⟨rfl, rfl⟩
    · rename_i hT
      obtain ⟨a, l, c, rfl⟩ := okWide_slice hT hv
      exact .inr ⟨rfl, rfl⟩
    · rename_i fs n hT
      obtain ⟨cs, rfl, _⟩ := okWide_struct hT hv
      exact .inl ⟨rfl, cs, rfl⟩
    · rename_i fs a b hT
      obtain ⟨cs, rfl, _⟩ := okWide_struct hT hv
      exact .inl ⟨rfl, cs, rfl⟩
    · rename_i n e a b hT
      simp only [Value.okWide, hT] at hv
      obtain ⟨cs, rfl, _⟩ := hv
      exact .inl ⟨rfl, cs, rfl⟩
    · cases hs

/-- the world of a law's call: all blocks frozen -/
def env0 (w : World) : Env := ⟨fun _ => False, fun _ => none, blocks w, w, fun _ => none⟩
def base0 (w : World) : Base := base3 w (fun _ => False) (blocks w)

theorem env0_rel (w : World) : HRel (base0 w) (env0 w) := by
  refine ⟨fun h b hx => ?_, fun b hb => hb, fun h k b hx => ?_, fun h h' k k' b hx => ?_, fun h k hx => ?_, Keeps.refl _ _, fun h k b hx => ?_, fun _ h => h, fun _ h => .inl h⟩ <;> cases hx

theorem argV_rel {E : Env} {t : Ty} {x : Den t} {v : Value} (h : Rd E.S E.w t x v.cells.toList) (hf : (aggT t = true ∧ ∃ l, v = .agg l) ∨ (aggT t = false ∧ v.cells.toList = [v])) : vrel E (argV t x) v := by
  rcases hf with ⟨h1, l, rfl⟩ | ⟨h1, h2⟩
  · cases t <;> simp only [aggT, Bool.false_eq_true] at h1
    · simp only [argV, vrel]
      refine ⟨l, rfl, ?_⟩
      have h0 : l.toList = [] := List.eq_nil_of_length_eq_zero h.len
      rw [h0]; simp [vrels]
    · simp only [argV, vrel]; exact ⟨l, rfl, h.flat FUEL⟩
    · simp only [argV, vrel]; exact ⟨l, rfl, h.flat FUEL⟩
  · rw [h2] at h
    cases t <;> simp only [aggT, reduceCtorEq] at h1
    · cases h with | int hk => exact vint hk
    · cases h with | bool => simp only [argV, vrel]
    · cases h with | str hk => exact vstr hk
    · simp only [argV, vrel]; exact h

theorem args_open : ∀ {Ts : List TypeId} {vs : List Value} {ds : List (DataW H)} {p : List MemPlace} {ps : Ty}, DataW.TrodAll enc P w 0 (fun _ => true) true Ts vs ds p → shpAll P Ts ps = true →
    (∀ (j : Nat) (t : TypeId) (v : Value), Ts[j]? = some t → vs[j]? = some v → ∃ r b, Value.okWide P w r b t v) → (∀ m ∈ DataW.weightsEach P Ts ds, m ≤ lenB) →
    ∃ x : Den ps, vrels (env0 w) (argsV ps x) vs ∧ (∃ cs, Rd (blocks w) w ps x cs) ∧ (∀ g, bulkD g ps x ≤ uptoBulkAll ds) ∧ vs.length = Ts.length ∧ ds.length = Ts.length
  | [], vs, ds, p, ps, ht, hs, _, _ => by
    cases ps <;> simp only [shpAll, Bool.false_eq_true] at hs
    cases vs with
    | cons => cases ds <;> simp [DataW.TrodAll] at ht
    | nil =>
      cases ds with
      | cons => simp [DataW.TrodAll] at ht
      | nil => exact ⟨(), trivial, ⟨[], .unit⟩, fun g => by cases g <;> simp [bulkD], rfl, rfl⟩
  | T :: Ts, vs, ds, p, ps, ht, hs, hv, hw => by
    cases ps <;> simp only [shpAll, Bool.false_eq_true] at hs
    rename_i a b
    simp only [Bool.and_eq_true] at hs
    cases vs with
    | nil => cases ds <;> simp [DataW.TrodAll] at ht
    | cons v vs =>
      cases ds with
      | nil => simp [DataW.TrodAll] at ht
      | cons d ds =>
        simp only [DataW.TrodAll] at ht
        obtain ⟨p1, q, ⟨fuel, h1⟩, h2, _⟩ := ht
        simp only [DataW.weightsEach, List.mem_append] at hw
        obtain ⟨x, hx, bx⟩ := open_at 32 T a fuel _ _ hs.1 h1 (fun m hm => hw m (.inl hm))
        obtain ⟨y, k1, ⟨cs, k2⟩, k3, k4, k5⟩ := args_open h2 hs.2 (fun j t v h3 h4 => hv (j + 1) t v (by simpa using h3) (by simpa using h4)) (fun m hm => hw m (.inr hm))
        obtain ⟨r, b0, hok⟩ := hv 0 T v rfl rfl
        refine ⟨(x, y), ?_, ⟨_, .prod hx k2⟩, fun g => ?_, by simp [k4], by simp [k5]⟩
        · simp only [argsV, vrels]
          exact ⟨argV_rel (E := env0 w) hx (shp_form hs.1 hok), k1⟩
        · cases g with
          | zero => simp [bulkD]
          | succ g =>
            simp only [bulkD, uptoBulkAll]
            have h1 : bulkD g a x ≤ uptoBulk d := bx g
            have := k3 g
            omega

def isTrue : V → Prop
  | .bool b => b = true
  | .kb b => b = true
  | _ => False

theorem isTrue_rel {E : Env} {v : V} {u : Value} (h : isTrue v) (hv : vrel E v u) : u = .bool true := by
  cases v <;> simp only [isTrue] at h <;> subst h <;> simpa [vrel] using hv

/-- a law's call -/
theorem law_calls {C : Cfg} (hC : CfgOK P C) (hP : P.follows .mixedOrders = true) {f : FuncId} {fn : Func} (hf : P.funcs[f]? = some fn) (hN : C.N = fn.ntmps) {ps : Ty} (hps : shpAll P fn.params.toList ps = true) (hle : fn.params.size ≤ fn.ntmps)
    {Λ : Den ps → Nat → Option LoopSum} {bound : Nat}
    (hΛ : ∀ x : Den ps, wfD ps x → bulkD FUEL ps x ≤ bound → ∀ c, fn.body = some c → ∀ b ∈ loopsIn (Λ x) c, ∀ L, Λ x (rid b) = some L → LoopOK P C.N b L)
    (h : ∀ x : Den ps, wfD ps x → bulkD FUEL ps x ≤ bound → (evFn C (Λ x) fn (argsV ps x)).sat fun v _ => isTrue v)
    {args : Array Value} {ds : List (DataW H)} {p : List MemPlace} (hA : DataW.TrodAll enc P w 0 (fun _ => true) true fn.params.toList args.toList ds p) (hval : ∀ (j : Nat) t v, fn.params[j]? = some t → args[j]? = some v → ∃ r b, Value.okWide P w r b t v)
    (hw : ∀ m ∈ DataW.weightsEach P fn.params.toList ds, m ≤ lenB) (hb : uptoBulkAll ds ≤ bound) :
    Calls P f args w fun e w' => e = .returned (.bool true) ∧ Keeps w (fun _ => False) w' := by
  obtain ⟨x, k1, ⟨cs, k2⟩, k3, k4, k5⟩ := args_open hA hps (fun j t v h1 h2 => hval j t v (by simpa using h1) (by simpa using h2)) hw
  have hwf : wfD ps x := ⟨_, _, _, k2⟩
  have hbd := Nat.le_trans (k3 FUEL) hb
  have hc := evFn_sound hC hP hf hN (hΛ x hwf hbd) (h x hwf hbd) (env0_rel w) (fun _ => trivial) rfl (fun _ h => h) k1 (by rw [k4]; simpa using hle)
  have e : args.toList.toArray = args := by simp
  rw [e] at hc
  refine Calls.mono hc fun e w' hr => ?_
  obtain ⟨Ec, v', v0, v, acc, rfl, hEc, rfl, hv, hcan, hq⟩ := hr
  have hcs := canV_sound hEc 0 v0 [] v acc v' hcan hv
  refine ⟨?_, hEc.keeps⟩
  have hnf : v.noF = true := by cases v <;> simp only [isTrue] at hq <;> rfl
  have hrel := hcs.rel { Ec with U := fun _ => True, ρ := fun i => (acc[i]?).bind fun q => Ec.ρ q.1, H := fun i => (acc[i]?).map fun q => .row i true q.2.t q.2.xs } rfl (.inr hnf) (fun i h r hi => by simp [hi])
  have this : v' = .bool true := by
    have e : v.shift 0 = v := by cases v <;> simp only [isTrue] at hq <;> rfl
    rw [e] at hrel
    exact isTrue_rel hq hrel
  rw [this]

theorem keptBut_of {w' : World} (h : Keeps w (fun _ => False) w') (may : MemPlace → Prop) : w.keptBut w' may := by
  refine ⟨h.os, h.output, fun i hi => ?_⟩
  rw [h.block i hi (fun h => h)]
  split
  · rename_i a b c d e f h1 h2
    rw [h1] at h2; cases h2
    exact ⟨rfl, rfl, rfl, fun _ _ => rfl⟩
  · rename_i h1 h2
    rw [h1] at h2; cases h2
    exact .inr ⟨rfl, rfl⟩
  · rfl

theorem trodAll_stays (hl : laidOutB P = true) {w' : World} (hk : Keeps w (fun _ => False) w') {sp : Nat → Bool} : ∀ {Ts : List TypeId} {vs : List Value} {ds : List (DataW H)} {p : List MemPlace}, DataW.TrodAll enc P w 0 (fun _ => true) true Ts vs ds p →
    (∀ t ∈ Ts, P.readableRec t = true ∧ t < P.types.size) → (∀ x ∈ p, x.block < w.heap.size) → (∀ x ∈ p, sp x.block = true) → DataW.TrodAll enc P w' 0 sp true Ts vs ds p
  | [], vs, ds, p, h, _, _, _ => by cases vs <;> cases ds <;> simp_all [DataW.TrodAll]
  | T :: Ts, vs, ds, p, h, hr, hp, hs => by
    cases vs with
    | nil => cases ds <;> simp [DataW.TrodAll] at h
    | cons v vs =>
      cases ds with
      | nil => simp [DataW.TrodAll] at h
      | cons d ds =>
        simp only [DataW.TrodAll] at h ⊢
        obtain ⟨p1, q, h1, h2, rfl⟩ := h
        have hb : Below w.heap.size w w' := ⟨hk.os, hk.tape, hk.output, hk.size, fun k hk' => hk.block k hk' (fun h => h)⟩
        refine ⟨p1, q, ?_, trodAll_stays hl hk h2 (fun t ht => hr t (by simp [ht])) (fun x hx => hp x (by simp [hx])) (fun x hx => hs x (by simp [hx])), rfl⟩
        exact WideElems.Trod_stays hl (hr T (by simp)).1 (hr T (by simp)).2 h1 (fun x hx => hb.same (hp x (by simp [hx]))) (fun x hx => hs x (by simp [hx]))

/-- a law's row: what it leaves behind -/
theorem law_post (hl : laidOutB P = true) {fn : Func} {s : ChangeSpec} {TB : TypeId} (hres : fn.resultTypes = #[TB]) (hTB : P.underlying TB = some .bool) (hread : ∀ t ∈ fn.params.toList, P.readableRec t = true ∧ t < P.types.size)
    (hsv : s.vars = []) {args : Array Value} {ds gs : List (DataW H)} {before : List MemPlace} (hW : DataW.Whole enc P fn.params.toList s.vars false w args.toList ds gs before)
    (hs : (s.fn H (ds ++ gs)).results = [.lit (.bool true)] ∧ (s.fn H (ds ++ gs)).args = ds ∧ (s.fn H (ds ++ gs)).vars = []) {w' : World} (hk : Keeps w (fun _ => False) w') :
    s.post enc P fn false true false false w args (.bool true) w' := by
  have hlt := hW.lt
  have hW' := hW
  obtain ⟨p, q, hA, hV, rfl, hfz, hnd⟩ := hW
  rw [hsv] at hV
  obtain ⟨rfl, rfl⟩ := trodVars_none hV
  simp only [List.append_nil] at hlt hW' hs ⊢
  refine ⟨ds, [], p, [], p, [], by simpa using hW', ?_, ?_, ?_, keptBut_of hk _, fun h => by cases h⟩
  · rw [List.append_nil, hs.1, hres]
    exact trodAll_mk1 (shut_bool hTB true)
  · rw [List.append_nil, hs.2.1]
    exact trodAll_stays hl hk hA hread hlt (fun x hx => by simpa using hlt x hx)
  · rw [List.append_nil, hs.2.2, hsv]
    rfl
end

end Go.Mir

/- The mirror, part 30: what a loop's round asks, computed. -/
namespace Go.Mir
open Go.RowKit

variable {P : Program}

/-- what becomes of an end of a round: the next round's data, or an end of the loop -/
inductive Lspec (α : Type) where
  | next (a : α) (σ : List (Nat × Nat)) (Z : List Nat)
  | out (path : List Bool) (σ : List (Nat × Nat)) (Z : List Nat)

def lfEq : Lf → Lf → Bool
  | .nrm, .nrm => true
  | .ret, .ret => true
  | .ext n, .ext m => Nat.beq n m
  | _, _ => false

theorem lfEq_iff {e e' : Lf} (h : lfEq e e' = true) : e = e' := by
  cases e <;> cases e' <;> simp only [lfEq, Bool.false_eq_true, Nat.beq_eq] at h
  · rfl
  · subst h; rfl
  · rfl

def conj : List Prop → Prop
  | [] => True
  | [p] => p
  | p :: q :: r => p ∧ conj (q :: r)

theorem conj_all : ∀ {l : List Prop}, conj l → ∀ p ∈ l, p
  | [], _, p, hp => by simp at hp
  | [q], h, p, hp => by rw [List.mem_singleton] at hp; subst hp; exact h
  | q :: q' :: r, h, p, hp => by
    rcases List.mem_cons.1 hp with rfl | hp
    · exact h.1
    · exact conj_all h.2 p hp

/-- an end of a tree, by its path, with what is asked on the way -/
def Tr.walk : Tr → List Bool → Option (List Prop × Lf × Dl × Nat)
  | .leaf e d nx, _ => some ([], e, d, nx)
  | .br b t u, p => match p with
    | true :: p => (match t.walk p with | some (ps, z) => some ((b = true) :: ps, z) | none => none)
    | false :: p => (match u.walk p with | some (ps, z) => some ((b = false) :: ps, z) | none => none)
    | [] => none
  | .need _ t, p => t.walk p
  | .both t u, p => match p with
    | true :: p => t.walk p
    | false :: p => u.walk p
    | [] => none
  | .when b t, p => match t.walk p with | some (ps, z) => some ((b = true) :: ps, z) | none => none
  | .done, _ => none
  | .bad, _ => none

theorem walk_sat {Q : Lf → Dl → Nat → Prop} : ∀ {t : Tr} {p : List Bool} {ps : List Prop} {e : Lf} {d : Dl} {nx : Nat}, t.walk p = some (ps, e, d, nx) → (∀ q ∈ ps, q) → t.sat Q → Q e d nx
  | .leaf e d nx, p, ps, e', d', nx', h, _, hs => by simp only [Tr.walk, Option.some.injEq, Prod.mk.injEq] at h; obtain ⟨_, rfl, rfl, rfl⟩ := h; exact hs
  | .br b t u, p, ps, e', d', nx', h, hp, hs => by
    cases p with
    | nil => simp [Tr.walk] at h
    | cons x p =>
      cases x with
      | true =>
        simp only [Tr.walk] at h
        split at h
        case h_2 => cases h
        rename_i ps' z hz
        simp only [Option.some.injEq, Prod.mk.injEq] at h
        obtain ⟨rfl, rfl⟩ := h
        exact walk_sat hz (fun q hq => hp q (by simp [hq])) (hs.1 (hp _ (by simp)))
      | false =>
        simp only [Tr.walk] at h
        split at h
        case h_2 => cases h
        rename_i ps' z hz
        simp only [Option.some.injEq, Prod.mk.injEq] at h
        obtain ⟨rfl, rfl⟩ := h
        exact walk_sat hz (fun q hq => hp q (by simp [hq])) (hs.2 (hp _ (by simp)))
  | .need q t, p, ps, e', d', nx', h, hp, hs => walk_sat (t := t) h hp hs.2
  | .both t u, p, ps, e', d', nx', h, hp, hs => by
    cases p with
    | nil => simp [Tr.walk] at h
    | cons x p =>
      cases x with
      | true => exact walk_sat (t := t) h hp hs.1
      | false => exact walk_sat (t := u) h hp hs.2
  | .when b t, p, ps, e', d', nx', h, hp, hs => by
    simp only [Tr.walk] at h
    split at h
    case h_2 => cases h
    rename_i ps' z hz
    simp only [Option.some.injEq, Prod.mk.injEq] at h
    obtain ⟨rfl, rfl⟩ := h
    exact walk_sat hz (fun q hq => hp q (by simp [hq])) (hs (hp _ (by simp)))
  | .done, p, _, _, _, _, h, _, _ => by simp [Tr.walk] at h
  | .bad, p, _, _, _, _, h, _, _ => by simp [Tr.walk] at h

section
variable {α : Type} (I : α → St) (inv : α → Prop) (μ : α → Nat) (a : α) (T : Tr)

def leafObl (e : Lf) (d : Dl) (nx : Nat) : Lspec α → Prop
  | .next a' σ Z => match e with
    | .nrm => inv a' ∧ μ a' < μ a ∧ Sub ⟨σ, Z, (I a').nx⟩ ((I a).app d nx) (I a').tm (I a').hp
    | _ => False
  | .out p σ Z => match e with
    | .nrm => False
    | e => match T.walk p with
      | some (ps, e', d', nx') => ifB (lfEq e e') (conj ps ∧ Sub ⟨σ, Z, nx'⟩ ((I a).app d nx) d'.tm d'.hp)
      | none => False

def stepObl : Tr → List (Lspec α) → Prop × List (Lspec α)
  | .leaf e d nx, l => match l with
    | [] => (False, [])
    | s :: r => (leafObl I inv μ a T e d nx s, r)
  | .br b t u, l => ((b = true → (stepObl t l).1) ∧ (b = false → (stepObl u (stepObl t l).2).1), (stepObl u (stepObl t l).2).2)
  | .need p t, l => (p ∧ (stepObl t l).1, (stepObl t l).2)
  | .both t u, l => ((stepObl t l).1 ∧ (stepObl u (stepObl t l).2).1, (stepObl u (stepObl t l).2).2)
  | .when b t, l => ((b = true → (stepObl t l).1), (stepObl t l).2)
  | .done, l => (True, l)
  | .bad, l => (False, l)

def stepQ : Lf → Dl → Nat → Prop := fun e d nx => match e with
  | .nrm => ∃ (a' : α) (M : Nam), inv a' ∧ μ a' < μ a ∧ M.nx = (I a').nx ∧ Sub M ((I a).app d nx) (I a').tm (I a').hp
  | e => ∃ (M : Nam) (tm : List (Nat × V)) (hp : List (Nat × Blk)), Sub M ((I a).app d nx) tm hp ∧ ∀ Q : Lf → Dl → Nat → Prop, T.sat Q → Q e ⟨tm, hp⟩ M.nx

variable {I inv μ a T}

theorem leafObl_sat {e : Lf} {d : Dl} {nx : Nat} : ∀ {s : Lspec α}, leafObl I inv μ a T e d nx s → stepQ I inv μ a T e d nx
  | .next a' σ Z, h => by
    cases e with
    | nrm => exact ⟨a', ⟨σ, Z, (I a').nx⟩, h.1, h.2.1, rfl, h.2.2⟩
    | ext id => exact h.elim
    | ret => exact h.elim
  | .out p σ Z, h => by
    have key : ∀ e : Lf, (match T.walk p with
      | some (ps, e', d', nx') => ifB (lfEq e e') (conj ps ∧ Sub ⟨σ, Z, nx'⟩ ((I a).app d nx) d'.tm d'.hp)
      | none => False) → ∃ (M : Nam) (tm : List (Nat × V)) (hp : List (Nat × Blk)), Sub M ((I a).app d nx) tm hp ∧ ∀ Q : Lf → Dl → Nat → Prop, T.sat Q → Q e ⟨tm, hp⟩ M.nx := fun e h => by
      split at h
      case h_2 => exact h.elim
      rename_i ps e' d' nx' hw
      obtain ⟨h1, h2, h3⟩ := ifB_iff.1 h
      obtain rfl := lfEq_iff h1
      exact ⟨⟨σ, Z, nx'⟩, d'.tm, d'.hp, h3, fun Q hT => walk_sat hw (conj_all h2) hT⟩
    cases e with
    | nrm => exact h.elim
    | ext id => exact key _ h
    | ret => exact key _ h

theorem stepObl_sat : ∀ {t : Tr} {l : List (Lspec α)}, (stepObl I inv μ a T t l).1 → t.sat (stepQ I inv μ a T)
  | .leaf e d nx, l, h => by
    cases l with
    | nil => exact h.elim
    | cons s r => exact leafObl_sat h
  | .br b t u, l, h => ⟨fun hb => stepObl_sat (h.1 hb), fun hb => stepObl_sat (h.2 hb)⟩
  | .need p t, l, h => ⟨h.1, stepObl_sat h.2⟩
  | .both t u, l, h => ⟨stepObl_sat h.1, stepObl_sat h.2⟩
  | .when b t, l, h => fun hb => stepObl_sat (h hb)
  | .done, _, h => h
  | .bad, _, h => h.elim
end

/-- THE LOOP, its rounds' obligations computed -/
theorem loop_by {C : Cfg} (hC : CfgOK P C) (hP : P.follows .mixedOrders = true) {body : Code} {α : Type} (I : α → St) (hI : ∀ a, (I a).H0 = fun _ => none) (inv : α → Prop) (μ : α → Nat) (Λ : α → Nat → Option LoopSum)
    (hΛ : ∀ a, inv a → ∀ b ∈ loopsIn (Λ a) body, ∀ L, Λ a (rid b) = some L → LoopOK P C.N b L) (T : Tr) (σ : List (Nat × Nat)) (Z : List Nat) (a0 : α) (h0 : inv a0) (L : α → List (Lspec α))
    (step : ∀ a, inv a → (stepObl I inv μ a T (evCode C (Λ a) body (I a)) (L a)).1) :
    LoopOK P C.N body (loopSum ⟨σ, Z, (I a0).nx⟩ (I a0) T) :=
  loop_ok hC hP I hI inv μ Λ hΛ h0 rfl fun a ha => stepObl_sat (step a ha)

/-- a loop that is entered only where something holds -/
def LoopSum.under (p : Prop) (L : LoopSum) : LoopSum := ⟨fun st => p ∧ L.pre st, L.T⟩
theorem LoopOK.under {N : Nat} {b : Code} {L : LoopSum} {p : Prop} (h : p → LoopOK P N b L) : LoopOK P N b (L.under p) := fun B hB st Q CQ hp => h hp.1 B hB st Q CQ hp.2

/-- a summary picked by the state -/
def selSum (F : St → LoopSum) : LoopSum := ⟨fun st => (F st).pre st, fun st => (F st).T st⟩
theorem selSum_ok {N : Nat} {b : Code} {F : St → LoopSum} (h : ∀ st, LoopOK P N b (F st)) : LoopOK P N b (selSum F) := fun B hB st Q CQ => h st B hB st Q CQ

/-- a number in a slot -/
def slotI (st : St) (s : Nat) : Int := match lookV st.tm s with
  | .int _ n => n
  | _ => -1

/-- all loops of a code are summed up rightly -/
def LoopsOK (P : Program) (N : Nat) (l : List Code) (Λ : Nat → Option LoopSum) : Prop := ∀ b ∈ l, ∀ L, Λ (rid b) = some L → LoopOK P N b L

theorem LoopsOK.nil {N : Nat} {Λ : Nat → Option LoopSum} : LoopsOK P N [] Λ := fun b hb => by simp at hb
theorem LoopsOK.cons {N : Nat} {b : Code} {l : List Code} {Λ : Nat → Option LoopSum} {L : LoopSum} (h0 : Λ (rid b) = some L) (h1 : LoopOK P N b L) (h2 : LoopsOK P N l Λ) : LoopsOK P N (b :: l) Λ := fun b' hb L' hL => by
  rcases List.mem_cons.1 hb with rfl | hb
  · rw [h0] at hL; cases hL; exact h1
  · exact h2 b' hb L' hL

theorem LoopsOK.skip {N : Nat} {b : Code} {l : List Code} {Λ : Nat → Option LoopSum} (h0 : Λ (rid b) = none) (h2 : LoopsOK P N l Λ) : LoopsOK P N (b :: l) Λ := fun b' hb L' hL => by
  rcases List.mem_cons.1 hb with rfl | hb
  · rw [h0] at hL; cases hL
  · exact h2 b' hb L' hL

def bodyOf (fn : Func) : Code := match fn.body with | some c => c | none => .skip
def loopN (fn : Func) (k : Nat) : Code := match (loopsOf (bodyOf fn))[k]? with | some c => c | none => .skip

/-- a loop inside a loop -/
def loopIn (fn : Func) (k j : Nat) : Code := match (loopsOf (loopN fn k))[j]? with | some c => c | none => .skip

theorem LoopsOK.at {N : Nat} {fn : Func} {l : List Code} {Λ : Nat → Option LoopSum} (he : loopsIn Λ (bodyOf fn) = l) (h : LoopsOK P N l Λ) : ∀ c, fn.body = some c → ∀ b ∈ loopsIn Λ c, ∀ L, Λ (rid b) = some L → LoopOK P N b L := fun c hc => by
  have : bodyOf fn = c := by unfold bodyOf; rw [hc]
  rw [← this, he]
  exact h

/-! ## a tree whose Bools are all known -/
def RT.chk (Q : V → List RowD → Prop) : RT → List Prop
  | .ret v rows => [Q v rows]
  | .br b t e => match b with | true => t.chk Q | false => e.chk Q
  | .need p t => p :: t.chk Q
  | .both t u => t.chk Q ++ u.chk Q
  | .when b t => match b with | true => t.chk Q | false => []
  | .done => []
  | .bad => [False]

theorem chk_sat {Q : V → List RowD → Prop} : ∀ (t : RT), (∀ p ∈ t.chk Q, p) → t.sat Q
  | .ret v rows, h => h (Q v rows) (List.mem_singleton.2 rfl)
  | .br b t e, h => by
    cases b with
    | true => exact ⟨fun _ => chk_sat t h, fun hb => Bool.noConfusion hb⟩
    | false => exact ⟨fun hb => Bool.noConfusion hb, fun _ => chk_sat e h⟩
  | .need p t, h => ⟨h p List.mem_cons_self, chk_sat t fun q hq => h q (List.mem_cons_of_mem _ hq)⟩
  | .both t u, h => ⟨chk_sat t fun q hq => h q (List.mem_append_left _ hq), chk_sat u fun q hq => h q (List.mem_append_right _ hq)⟩
  | .when b t, h => by
    cases b with
    | true => exact fun _ => chk_sat t h
    | false => exact fun hb => Bool.noConfusion hb
  | .done, _ => trivial
  | .bad, h => (h False (List.mem_singleton.2 rfl)).elim

theorem conj_sat {Q : V → List RowD → Prop} {t : RT} (h : conj (t.chk Q)) : t.sat Q := chk_sat t (conj_all h)

/-! ## contracts, one behind the other -/

abbrev Ctrs := List (FuncId × Ctr)
def CtrsOK (P : Program) (K : Nat) (l : Ctrs) : Prop := ∀ f c, find l f = some c → CtrOK P K f c
theorem CtrsOK.nil {K : Nat} : CtrsOK P K [] := fun f c h => by simp [find] at h
theorem CtrsOK.cons {K : Nat} {f : FuncId} {c : Ctr} {l : Ctrs} (h : CtrOK P K f c) (hl : CtrsOK P K l) : CtrsOK P K ((f, c) :: l) := fun g c' hg => by
  simp only [find] at hg
  cases hb : Nat.beq f g with
  | true => rw [hb] at hg; obtain rfl := Nat.eq_of_beq_eq_true hb; simp only [cond_true, Option.some.injEq] at hg; subst hg; exact h
  | false => rw [hb] at hg; exact hl g c' hg

end Go.Mir

/- Contracts of small functions: slices.Index, slices.Contains. -/
namespace Go.Proofs.Ytogdeefpidccmaa
open Go Go.Mir

abbrev KK : Nat := 4
def cfg (l : Ctrs) (n : Nat) : Cfg := ⟨tbl, find l, KK, n⟩
def cfgF (l : Ctrs) (fn : Func) : Cfg := cfg l fn.ntmps
theorem mixed : Try.prog.follows .mixedOrders = true := by kernel_rfl
theorem cfgOK {l : Ctrs} (h : CtrsOK Try.prog KK l) (n : Nat) : CfgOK Try.prog (cfg l n) := ⟨tbl_ok, by show 1 ≤ KK; decide, h⟩

theorem wrap64 {n : Int} (h1 : -9223372036854775808 ≤ n) (h2 : n ≤ 9223372036854775807) : IntKind.i64.wrap n = n := by
  simp only [IntKind.wrap, IntKind.bits, IntKind.signed]
  simp
  omega

/-- the number of a member, counted from i; -1 for none -/
def idx : List Int → Int → Int → Int
  | [], _, _ => -1
  | x :: xs, v, i => bif v == x then i else idx xs v (i + 1)

theorem idx_none : ∀ (xs : List Int) (v i : Int), v ∉ xs → idx xs v i = -1
  | [], _, _, _ => rfl
  | x :: xs, v, i, h => by
    simp only [List.mem_cons, not_or] at h
    have : (v == x) = false := by simpa using h.1
    simp only [idx, this, cond_false]
    exact idx_none xs v (i + 1) h.2

theorem idx_at : ∀ (xs : List Int) (v i : Int) (k : Nat), xs[k]? = some v → v ∉ xs.take k → idx xs v i = i + k
  | [], _, _, _, h, _ => by simp at h
  | x :: xs, v, i, 0, h, _ => by
    simp only [List.getElem?_cons_zero, Option.some.injEq] at h
    subst h
    simp [idx]
  | x :: xs, v, i, k + 1, h, hn => by
    simp only [List.getElem?_cons_succ] at h
    simp only [List.take_succ_cons, List.mem_cons, not_or] at hn
    have : (v == x) = false := by simpa using hn.1
    simp only [idx, this, cond_false]
    rw [idx_at xs v (i + 1) k h hn.2]
    omega

def J63 (xs : List Int) (v : Int) (i : Nat) : St := ⟨[(0, .fsl (.int .u8) xs), (1, .int .u8 v), (7, .int .i64 xs.length), (8, .int .i64 i)], [], fun _ => none, 0⟩
def T63 (xs : List Int) (v : Int) : Tr := .br (xs.contains v) (.leaf .ret ⟨[(4, .int .i64 (idx xs v 0))], []⟩ 0) (.leaf (.ext 0) ⟨[], []⟩ 0)
def ps63 : Ty := .prod (.slice (.int .u8)) (.prod (.int .u8) .unit)
def Λ63 (x : Den ps63) : Nat → Option LoopSum := find [(2, loopSum ⟨[], [], 0⟩ (J63 x.1 x.2.1 0) (T63 x.1 x.2.1))]
def spec63 : Den ps63 → PRes := fun x => ⟨[], .int .i64 (idx x.1 x.2.1 0), []⟩
def inv63 (xs : List Int) (v : Int) (i : Nat) : Prop := i ≤ xs.length ∧ v ∉ xs.take i
def L63 (i : Nat) : List (Lspec Nat) := [.out [true] [] [], .next (i + 1) [] [], .out [false] [] []]

theorem step63 (xs : List Int) (v : Int) (hx : xs.length ≤ lenB) (i : Nat) (hi : inv63 xs v i) :
    (stepObl (J63 xs v) (inv63 xs v) (fun i => xs.length - i) i (T63 xs v) (evCode (cfg [] 19) (fun _ => none) (loopN Try.f63 0) (J63 xs v i)) (L63 i)).1 := by
  have h : ((decide ((i : Int) < (xs.length : Int)) = true →
    (0 ≤ (i : Int) ∧ (i : Int) < (xs.length : Int)) ∧
      ((v == (xs.getD (i : Int).toNat 0)) = true → xs.contains v = true ∧ ((i : Int) = idx xs v 0 ∧ True) ∧ True) ∧
        ((v == (xs.getD (i : Int).toNat 0)) = false →
          inv63 xs v (i + 1) ∧
            xs.length - (i + 1) < xs.length - i ∧
              (RowD.mk (.int .u8) xs = RowD.mk (.int .u8) xs ∧
                  v = v ∧ (xs.length : Int) = (xs.length : Int) ∧ IntKind.i64.wrap ((i : Int) + 1) = ((i + 1 : Nat) : Int) ∧ True) ∧
                True)) ∧
    (decide ((i : Int) < (xs.length : Int)) = false → xs.contains v = false ∧ True ∧ True)) := by
    have e : (i : Int).toNat = i := by simp
    rw [e]
    refine ⟨fun h1 => ?_, fun h1 => ?_⟩
    · have h1 : i < xs.length := by simpa using h1
      refine ⟨⟨by omega, by omega⟩, fun h2 => ?_, fun h2 => ?_⟩
      · have h2 : v = xs.getD i 0 := by simpa using h2
        have h3 : xs[i]? = some v := by rw [h2, List.getD_eq_getElem?_getD, List.getElem?_eq_getElem h1]; rfl
        refine ⟨by simpa using List.mem_of_getElem? h3, ⟨?_, trivial⟩, trivial⟩
        rw [idx_at xs v 0 i h3 hi.2]; omega
      · have h2 : ¬ v = xs.getD i 0 := by simpa using h2
        have h3 : xs.getD i 0 = xs[i] := by rw [List.getD_eq_getElem?_getD, List.getElem?_eq_getElem h1]; rfl
        refine ⟨⟨by omega, ?_⟩, by omega, ⟨rfl, rfl, rfl, ?_, trivial⟩, trivial⟩
        · rw [List.take_succ_eq_append_getElem h1, List.mem_append, List.mem_singleton, not_or]
          exact ⟨hi.2, by rw [← h3]; exact h2⟩
        · have : xs.length ≤ 140737488355328 := hx
          rw [wrap64 (by omega) (by omega)]; omega
    · have h1 : ¬ i < xs.length := by simpa using h1
      refine ⟨?_, trivial, trivial⟩
      have := hi.2
      rw [List.take_of_length_le (by omega)] at this
      simpa using this
  exact cast (by kernel_rfl) h

theorem den_slice {S : Nat → Prop} {w : World} {t : Ty} {xs : List (Den t)} {cs : List Value} (h : Rd S w (.slice t) xs cs) : xs.length ≤ lenB := by
  cases h with
  | nil => exact Nat.zero_le _
  | slice _ _ _ _ h _ => exact h

theorem wf_slice {t : Ty} {xs : List (Den t)} (h : wfD (.slice t) xs) : xs.length ≤ lenB := by
  obtain ⟨S, w, cs, h⟩ := h
  exact den_slice h
theorem wf_fst {a b : Ty} {x : Den a} {y : Den b} (h : wfD (.prod a b) (x, y)) : wfD a x := by
  obtain ⟨S, w, cs, h⟩ := h
  cases h with | prod h _ => exact ⟨_, _, _, h⟩
theorem wf_snd {a b : Ty} {x : Den a} {y : Den b} (h : wfD (.prod a b) (x, y)) : wfD b y := by
  obtain ⟨S, w, cs, h⟩ := h
  cases h with | prod _ h => exact ⟨_, _, _, h⟩

theorem loops63 (xs : List Int) (v : Int) (hx : xs.length ≤ lenB) : LoopsOK Try.prog 19 [loopN Try.f63 0] (Λ63 (xs, v, ())) := by
  refine .cons (L := loopSum ⟨[], [], 0⟩ (J63 xs v 0) (T63 xs v)) (by kernel_rfl) ?_ .nil
  exact loop_by (cfgOK CtrsOK.nil 19) mixed (J63 xs v) (fun _ => rfl) (inv63 xs v) (fun i => xs.length - i) (fun _ _ => none) (fun _ _ _ _ _ h => by cases h) (T63 xs v) [] [] 0 ⟨Nat.zero_le _, by simp⟩ L63 (fun i hi => step63 xs v hx i hi)

theorem run63 (xs : List Int) (v : Int) : (evFn (cfg [] 19) (Λ63 (xs, v, ())) Try.f63 (argsV ps63 (xs, v, ()))).sat fun v' rows => leV v' (spec63 (xs, v, ())).v ∧ rows = (spec63 (xs, v, ())).rows := by
  have h : ((noH0 fun _ => none) ∧
      (RowD.mk (.int .u8) xs = RowD.mk (.int .u8) xs ∧ v = v ∧ (xs.length : Int) = (xs.length : Int) ∧ (0 : Int) = ((0 : Nat) : Int) ∧ True) ∧ True) ∧
    (xs.contains v = true → idx xs v 0 = idx xs v 0 ∧ ([] : List RowD) = []) ∧ (xs.contains v = false → -1 = idx xs v 0 ∧ ([] : List RowD) = []) := by
    refine ⟨⟨rfl, ⟨rfl, rfl, rfl, rfl, trivial⟩, trivial⟩, fun _ => ⟨rfl, rfl⟩, fun h => ⟨?_, rfl⟩⟩
    rw [idx_none]
    simpa using h
  exact cast (by kernel_rfl) h

theorem ok63 : CtrOK Try.prog KK 63 (pureCtr KK ps63 spec63) := by
  refine pure_ok (C := cfg [] 19) (cfgOK CtrsOK.nil 19) mixed (fn := Try.f63) Try.func63 (by kernel_rfl) (by kernel_rfl) (by kernel_rfl) (Λ := Λ63) ?_ ?_ ?_
  · rintro ⟨xs, v, ⟨⟩⟩ hw _
    exact LoopsOK.at (by kernel_rfl) (loops63 xs v (wf_slice (wf_fst hw)))
  · rintro ⟨xs, v, ⟨⟩⟩
    exact (by decide : 2 ≤ 19)
  · rintro ⟨xs, v, ⟨⟩⟩ _ _
    exact run63 xs v

end Go.Proofs.Ytogdeefpidccmaa

/- The field layer: plain functions. -/
namespace Go.Proofs.Ytogdeefpidccmaa
open Go Go.Mir

abbrev K8 : Nat := 8
def cfg8 (l : Ctrs) (n : Nat) : Cfg := ⟨tbl, find l, K8, n⟩
def cf8 (l : Ctrs) (fn : Func) : Cfg := cfg8 l fn.ntmps
theorem cfg8OK {l : Ctrs} (h : CtrsOK Try.prog K8 l) (n : Nat) : CfgOK Try.prog (cfg8 l n) := ⟨tbl_ok, by show 1 ≤ K8; decide, h⟩

/-- slices in a result are rows, numbered as they come -/
def osls : Nat → List V → List V × List RowD
  | _, [] => ([], [])
  | k, .fsl t xs :: r => (.osl k k :: (osls (k + 1) r).1, ⟨t, xs⟩ :: (osls (k + 1) r).2)
  | k, v :: r => (v :: (osls k r).1, (osls k r).2)
/-- the same, where an empty slice is nil -/
def nils : Nat → List V → List V × List RowD
  | _, [] => ([], [])
  | k, .fsl _ [] :: r => (.nilsl :: (nils k r).1, (nils k r).2)
  | k, .fsl t (x :: xs) :: r => (.osl k k :: (nils (k + 1) r).1, ⟨t, x :: xs⟩ :: (nils (k + 1) r).2)
  | k, v :: r => (v :: (nils k r).1, (nils k r).2)
def rowI (x : Innings) : V := .agg (osls 0 (flat FUEL (.nm .Innings) x)).1
def rowsI (x : Innings) : List RowD := (osls 0 (flat FUEL (.nm .Innings) x)).2

def knownW (x : Innings) (p : Int) : Bool := decide (p ≥ 1) && decide (p ≤ (x.Subs.length : Int))
def subAt (x : Innings) (p : Int) : Bool := x.Subs.getD (p - 1).toNat false
def replacedW (x : Innings) (p : Int) : Bool := knownW x p && subAt x p
def covers (over : Int) (p : Phase) : Bool := decide (p.From ≤ IntKind.i64.wrap (over + 1)) && decide (IntKind.i64.wrap (over + 1) ≤ p.To)
def allowedW (r : Rules) (over : Int) : Int := ((r.Power.find? (covers over)).map Phase.Outside).getD r.Outside
def readyW (r : Rules) (x : Innings) : Int :=
  if !knownW x x.Keeper || replacedW x x.Keeper || x.Keeper == x.Bowler then 17 else if x.Outside > allowedW r x.Complete then 16 else 0
def named1 (x : Innings) (d : Delivery) : Int :=
  if d.Fielder > 0 then (if !knownW x d.Fielder then 3 else if replacedW x d.Fielder != d.Sub then 18 else 0) else 0
def named2 (x : Innings) (d : Delivery) : Int :=
  if d.Second > 0 then (if !knownW x d.Second then 3 else if replacedW x d.Second then 18 else 0) else 0
def namedW (x : Innings) (d : Delivery) : Int :=
  if named1 x d != 0 then named1 x d else if named2 x d != 0 then named2 x d
  else if d.How == 4 && maxI d.Fielder 0 != x.Keeper then 17 else 0
def hereQ (l : List Bool) (k : Nat) : Bool := !l.getD k false
def presentN (l : List Bool) (n : Nat) : List Int := ((List.range n).filter (hereQ l)).map fun k : Nat => (k : Int) + 1
def presentW (x : Innings) : List Int := presentN x.Subs x.Subs.length
def fewW (x : Innings) : Innings := { x with Batters := x.Batters.take 13, Bowlers := x.Bowlers.take 13, Before := x.Before.take 13, Bowled := x.Bowled.take 13, Subs := x.Subs.take 13 }

def keeperY (x : Innings) (p : Int) : Innings := if !knownW x p then x else if replacedW x p then x else if p == x.Bowler || p == x.Keeper then x else { x with Keeper := p }
def keeperL (x : Innings) (p : Int) : Int := if !knownW x p then 3 else if replacedW x p then 18 else if p == x.Bowler || p == x.Keeper then 17 else 0
def putSub (x : Innings) (p : Int) (on : Bool) : Innings :=
  { x with Subs := x.Subs.set (p - 1).toNat on, Keeper := bif on && x.Keeper == p then 0 else x.Keeper, Bowler := bif on && x.Bowler == p then 0 else x.Bowler }
def substY (x : Innings) (p : Int) (on : Bool) : Innings := if !knownW x p then x else if replacedW x p == on then x else putSub x p on
def substL (x : Innings) (p : Int) (on : Bool) : Int := if !knownW x p then 3 else if replacedW x p == on then 18 else 0
def tooFar (x : Innings) (n : Int) : Bool := decide (n < 0) || decide (n > (x.Subs.length : Int) - 2)
def outsideY (x : Innings) (n : Int) : Innings := if tooFar x n then x else { x with Outside := n }
def outsideL (x : Innings) (n : Int) : Int := if tooFar x n then 16 else 0
def eqLI (xs ys : List Int) : Bool := decide (xs = ys)

def smallI (x : Innings) : Prop := x.Batters.length ≤ 1000000 ∧ x.Bowlers.length ≤ 1000000 ∧ x.Before.length ≤ 1000000 ∧ x.Bowled.length ≤ 1000000 ∧ x.Subs.length ≤ 1000000

/-! ## specifications -/
def psI : Ty := .prod (.nm .Innings) .unit
def psII : Ty := .prod (.nm .Innings) (.prod (.int .i64) .unit)
def psIIB : Ty := .prod (.nm .Innings) (.prod (.int .i64) (.prod .bool .unit))
def psLI : Ty := .prod (.slice (.int .i64)) (.prod (.slice (.int .i64)) .unit)
def psR : Ty := .prod (.nm .Rules) (.prod (.int .i64) .unit)
def psRI : Ty := .prod (.nm .Rules) (.prod (.nm .Innings) .unit)
def psID : Ty := .prod (.nm .Innings) (.prod (.nm .Delivery) .unit)
def spec73 : Den psII → PRes := fun x => ⟨[], .bool (knownW x.1 x.2.1), []⟩
def spec74 : Den psII → PRes := fun x => ⟨[], .bool (replacedW x.1 x.2.1), []⟩
def spec75 : Den psR → PRes := fun x => ⟨[], .int .i64 (allowedW x.1 x.2.1), []⟩
def spec40 : Den psRI → PRes := fun x => ⟨[], .int .i64 (readyW x.1 x.2.1), []⟩
def spec42 : Den psID → PRes := fun x => ⟨[], .int .i64 (namedW x.1 x.2.1), []⟩
def spec38 : Den psI → PRes := fun x => ⟨[x.1.Subs.length ≤ 1000000], .osl 0 0, [⟨.int .i64, presentW x.1⟩]⟩
def spec33 : Den psI → PRes := fun x => ⟨[], .agg (flat FUEL (.nm .Innings) (fewW x.1)), []⟩
def spec78 : Den psI → PRes := fun x => ⟨[smallI x.1], rowI x.1, rowsI x.1⟩
def spec66 : Den psII → PRes := fun x => ⟨[smallI x.1], .tup [rowI (keeperY x.1 x.2.1), .int .i64 (keeperL x.1 x.2.1)], rowsI (keeperY x.1 x.2.1)⟩
def spec46 : Den psIIB → PRes := fun x => ⟨[smallI x.1], .tup [rowI (substY x.1 x.2.1 x.2.2.1), .int .i64 (substL x.1 x.2.1 x.2.2.1)], rowsI (substY x.1 x.2.1 x.2.2.1)⟩
def spec67 : Den psII → PRes := fun x => ⟨[smallI x.1], .tup [rowI (outsideY x.1 x.2.1), .int .i64 (outsideL x.1 x.2.1)], rowsI (outsideY x.1 x.2.1)⟩
def spec37 : Den psLI → PRes := fun x => ⟨[], .bool (eqLI x.1 x.2.1), []⟩
def ps45 : Ty := .prod (.slice .bool) .unit
def spec45 : Den ps45 → PRes := fun x => ⟨[x.1.length ≤ 1000000], .osl 0 0, [⟨.bool, x.1⟩]⟩
def ps90 : Ty := .prod (.slice (.int .u8)) .unit
def spec90 : Den ps90 → PRes := fun x => ⟨[x.1.length ≤ 1000000], .osl 0 0, [⟨.int .u8, x.1⟩]⟩
def ps91 : Ty := .prod (.slice (.int .i64)) .unit
def spec91 : Den ps91 → PRes := fun x => ⟨[x.1.length ≤ 1000000], .osl 0 0, [⟨.int .i64, x.1⟩]⟩
def ps0 : Ty := .unit
def zeroI : Innings := { Innings.zero with Subs := [false, false, false, false] }
def spec65 : Den ps0 → PRes := fun _ => ⟨[], rowI zeroI, rowsI zeroI⟩
def spec32 : Den ps0 → PRes := fun _ => ⟨[], .bool true, []⟩

def k73 : FuncId × Ctr := (73, pureCtr K8 psII spec73)
def k76 : FuncId × Ctr := (76, pureCtr K8 psII spec73)
def k74 : FuncId × Ctr := (74, pureCtr K8 psII spec74)
def k72 : FuncId × Ctr := (72, pureCtr K8 psII spec74)
def k75 : FuncId × Ctr := (75, pureCtr K8 psR spec75)
def k77 : FuncId × Ctr := (77, pureCtr K8 psR spec75)
def k40 : FuncId × Ctr := (40, pureCtr K8 psRI spec40)
def k41 : FuncId × Ctr := (41, pureCtr K8 psRI spec40)
def k42 : FuncId × Ctr := (42, pureCtr K8 psID spec42)
def k43 : FuncId × Ctr := (43, pureCtr K8 psID spec42)
def k38 : FuncId × Ctr := (38, pureCtr K8 psI spec38)
def k39 : FuncId × Ctr := (39, pureCtr K8 psI spec38)
def k33 : FuncId × Ctr := (33, pureCtr K8 psI spec33)
def k78 : FuncId × Ctr := (78, pureCtr K8 psI spec78)
def k44 : FuncId × Ctr := (44, pureCtr K8 psI spec78)
def k66 : FuncId × Ctr := (66, pureCtr K8 psII spec66)
def k68 : FuncId × Ctr := (68, pureCtr K8 psII spec66)
def k46 : FuncId × Ctr := (46, pureCtr K8 psIIB spec46)
def k69 : FuncId × Ctr := (69, pureCtr K8 psIIB spec46)
def k67 : FuncId × Ctr := (67, pureCtr K8 psII spec67)
def k70 : FuncId × Ctr := (70, pureCtr K8 psII spec67)
def k37 : FuncId × Ctr := (37, pureCtr K8 psLI spec37)
def k71 : FuncId × Ctr := (71, pureCtr K8 psLI spec37)
def k45 : FuncId × Ctr := (45, pureCtr K8 ps45 spec45)
def k90 : FuncId × Ctr := (90, pureCtr K8 ps90 spec90)
def k91 : FuncId × Ctr := (91, pureCtr K8 ps91 spec91)
def k65 : FuncId × Ctr := (65, pureCtr K8 ps0 spec65)
def psLV : Ty := .prod (.slice (.int .i64)) (.prod (.int .i64) .unit)
def hasLI (xs : List Int) (v : Int) : Bool := xs.contains v
def spec47 : Den psLV → PRes := fun x => ⟨[], .bool (hasLI x.1 x.2.1), []⟩
def spec79 : Den psLV → PRes := fun x => ⟨[], .int .i64 (idx x.1 x.2.1 0), []⟩
def k47 : FuncId × Ctr := (47, pureCtr K8 psLV spec47)
def k79 : FuncId × Ctr := (79, pureCtr K8 psLV spec79)
def k32 : FuncId × Ctr := (32, pureCtr K8 ps0 spec32)

/-! ## loops -/
def invE (xs ys : List Int) (i : Nat) : Prop := i ≤ xs.length ∧ xs.length = ys.length ∧ xs.take i = ys.take i
def LE (i : Nat) : List (Lspec Nat) := [.out [false] [] [], .next (i + 1) [] [], .out [true] [] []]
def T37 (xs ys : List Int) : Tr := .br (eqLI xs ys) (.leaf (.ext 0) ⟨[], []⟩ 72) (.leaf .ret ⟨[(4, .kb false)], []⟩ 72)
def J37 (xs ys : List Int) (i : Nat) : St := ⟨[(0, .fsl (.int .i64) xs), (1, .fsl (.int .i64) ys), (12, .int .i64 xs.length), (13, .int .i64 i)], [], fun _ => none, 72⟩
def Λ37 (xs ys : List Int) : Nat → Option LoopSum := find [(4, (loopSum ⟨[], [], 72⟩ (J37 xs ys 0) (T37 xs ys)).under (xs.length = ys.length))]

def inv79 (xs : List Int) (v : Int) (i : Nat) : Prop := i ≤ xs.length ∧ v ∉ xs.take i
def L79 (i : Nat) : List (Lspec Nat) := [.out [true] [] [], .next (i + 1) [] [], .out [false] [] []]
def J79 (xs : List Int) (v : Int) (i : Nat) : St := ⟨[(0, .fsl (.int .i64) xs), (1, .int .i64 v), (7, .int .i64 xs.length), (8, .int .i64 i)], [], fun _ => none, 0⟩
def T79 (xs : List Int) (v : Int) : Tr := .br (xs.contains v) (.leaf .ret ⟨[(4, .int .i64 (idx xs v 0))], []⟩ 0) (.leaf (.ext 0) ⟨[], []⟩ 0)
def Λ79 (xs : List Int) (v : Int) : Nat → Option LoopSum := find [(2, loopSum ⟨[], [], 0⟩ (J79 xs v 0) (T79 xs v))]

def inv38 (x : Innings) (i : Nat) : Prop := i ≤ x.Subs.length
def L38 (i : Nat) : List (Lspec Nat) := [.next (i + 1) [(57, 160)] [], .next (i + 1) [] [], .out [] [] []]
def T38 (x : Innings) : Tr := .leaf (.ext 0) ⟨[(3, .osl 56 57)], [(56, .row 57 true (.int .i64) (presentW x))]⟩ 64
def J38 (x : Innings) (i : Nat) : St := ⟨[(3, .osl 56 57), (7, .fsl .bool x.Subs), (8, .int .i64 x.Subs.length), (9, .int .i64 i)], [(56, .row 57 true (.int .i64) (presentN x.Subs i))], fun _ => none, 64⟩
def Λ38 (x : Innings) : Nat → Option LoopSum := find [(3, loopSum ⟨[], [56], 64⟩ (J38 x 0) (T38 x))]
def L39 (i : Nat) : List (Lspec Nat) := [.next (i + 1) [(33, 136)] [], .next (i + 1) [] [], .out [] [] []]
def T39 (x : Innings) : Tr := .leaf (.ext 0) ⟨[(3, .osl 32 33)], [(32, .row 33 true (.int .i64) (presentW x))]⟩ 40
def J39 (x : Innings) (i : Nat) : St := ⟨[(1, .ptr 0 0), (3, .osl 32 33), (4, .int .i64 ((i : Int) + 1))], [(32, .row 33 true (.int .i64) (presentN x.Subs i)), (0, .cells (flat FUEL (.nm .Innings) x))], fun _ => none, 40⟩
def Λ39 (x : Innings) : Nat → Option LoopSum := find [(3, loopSum ⟨[], [32], 40⟩ (J39 x 0) (T39 x))]

def inv75 (r : Rules) (o : Int) (i : Nat) : Prop := i ≤ r.Power.length ∧ ∀ p ∈ r.Power.take i, covers o p = false
def L75 (i : Nat) : List (Lspec Nat) := [.out [true] [] [], .next (i + 1) [] [], .out [false] [] []]
def T75 (r : Rules) (o : Int) : Tr := .br (r.Power.any (covers o)) (.leaf .ret ⟨[(4, .int .i64 (allowedW r o))], []⟩ 48) (.leaf (.ext 0) ⟨[(2, .ptr 0 0)], [(0, .cells (flat FUEL (.nm .Rules) r))]⟩ 48)
def J75 (r : Rules) (o : Int) (i : Nat) : St := ⟨[(1, .int .i64 o), (2, .ptr 0 0), (8, .fsl (.nm .Phase) r.Power), (9, .int .i64 r.Power.length), (10, .int .i64 i)], [(0, .cells (flat FUEL (.nm .Rules) r))], fun _ => none, 48⟩
def Λ75 (r : Rules) (o : Int) : Nat → Option LoopSum := find [(2, loopSum ⟨[], [], 48⟩ (J75 r o 0) (T75 r o))]

end Go.Proofs.Ytogdeefpidccmaa

/- Rules and bowlers: plain functions. -/
namespace Go.Proofs.Ytogdeefpidccmaa
open Go Go.Mir

def betweenW (n lo hi : Int) : Bool := decide (n ≥ lo) && decide (n ≤ hi)
def inRangeW (r : Rules) : Bool :=
  betweenW r.Side 2 11 && (betweenW r.Innings 1 2 && (betweenW r.Overs 0 90 && (betweenW r.Balls 4 8 && (betweenW r.Quota 0 90 && (betweenW r.Wide 1 5 && (betweenW r.NoBall 1 5 && (
  betweenW r.NewBall 0 200 && (betweenW r.FollowOn 0 1000 && (betweenW r.Reviews 0 9 && betweenW r.Outside 0 11)))))))))
def phaseAt (r : Rules) (i : Nat) : Phase := r.Power.getD i Phase.zero
def phaseBad (r : Rules) (p : Phase) : Bool := decide (p.From < 1) || (decide (p.From > p.To) || (decide (p.To > r.Overs) || !betweenW p.Outside 0 11))
def phErr (r : Rules) (i : Nat) : Int :=
  if phaseBad r (phaseAt r i) then 2 else if decide ((i : Int) > 0) && decide ((phaseAt r i).From ≤ (phaseAt r (i - 1)).To) then 8 else 0
def scanW (r : Rules) : Nat → Nat → Int
  | _, 0 => 0
  | i, n + 1 => if phErr r i != 0 then phErr r i else scanW r (i + 1) n
def phasesW (r : Rules) : Int := if (r.Power.length : Int) > 8 then 9 else scanW r 0 r.Power.length
def byteAt (s : ByteArray) (i : Nat) : Int := ((s.data.getD i 0).toNat : Int)
def letterW (c : Int) : Bool := decide (c ≥ 65) && decide (c ≤ 90)
def badCh (i : Int) (c : Int) : Bool := !letterW c && (i == 0 || (c != 95 && (c != 45 && (decide (c < 48) || decide (c > 57)))))
def nameW (s : ByteArray) : Bool := (List.range s.size).all (fun i => !badCh i (byteAt s i)) && (decide ((s.size : Int) ≥ 1) && decide ((s.size : Int) ≤ 16))

def ps97 : Ty := .prod (.int .i64) (.prod (.int .i64) (.prod (.int .i64) .unit))
def spec97 : Den ps97 → PRes := fun x => ⟨[], .bool (betweenW x.1 x.2.1 x.2.2.1), []⟩
def psRu : Ty := .prod (.nm .Rules) .unit
def spec93 : Den psRu → PRes := fun x => ⟨[], .bool (inRangeW x.1), []⟩
def spec94 : Den psRu → PRes := fun x => ⟨[], .int .i64 (phasesW x.1), []⟩
def psSt : Ty := .prod .str .unit
def spec95 : Den psSt → PRes := fun x => ⟨[], .bool (nameW x.1), []⟩
def knownB (x : Innings) (p : Int) : Bool := decide (p ≥ 1) && decide (p ≤ (x.Bowled.length : Int))
def spec84 : Den psII → PRes := fun x => ⟨[], .bool (knownB x.1 x.2.1), []⟩
def k97 : FuncId × Ctr := (97, pureCtr K8 ps97 spec97)
def k96 : FuncId × Ctr := (96, pureCtr K8 ps97 spec97)
def k93 : FuncId × Ctr := (93, pureCtr K8 psRu spec93)
def k94 : FuncId × Ctr := (94, pureCtr K8 psRu spec94)
def k95 : FuncId × Ctr := (95, pureCtr K8 psSt spec95)
def k92 : FuncId × Ctr := (92, pureCtr K8 psSt spec95)
def k84 : FuncId × Ctr := (84, pureCtr K8 psII spec84)
def k87 : FuncId × Ctr := (87, pureCtr K8 psII spec84)
def k83 : FuncId × Ctr := (83, pureCtr K8 psI spec78)
def k88 : FuncId × Ctr := (88, pureCtr K8 psLV spec47)

/-! ## loops -/
def inv88 (xs : List Int) (v : Int) (i : Nat) : Prop := i ≤ xs.length ∧ v ∉ xs.take i
def L88 (i : Nat) : List (Lspec Nat) := [.out [true] [] [], .next (i + 1) [] [], .out [false] [] []]
def J88 (xs : List Int) (v : Int) (i : Nat) : St := ⟨[(1, .int .i64 v), (7, .fsl (.int .i64) xs), (8, .int .i64 xs.length), (9, .int .i64 i)], [], fun _ => none, 0⟩
def T88 (xs : List Int) (v : Int) : Tr := .br (xs.contains v) (.leaf .ret ⟨[(4, .kb true)], []⟩ 0) (.leaf (.ext 0) ⟨[], []⟩ 0)
def Λ88 (xs : List Int) (v : Int) : Nat → Option LoopSum := find [(2, loopSum ⟨[], [], 0⟩ (J88 xs v 0) (T88 xs v))]

def inv94 (r : Rules) (i : Nat) : Prop := i ≤ r.Power.length ∧ scanW r 0 r.Power.length = scanW r i (r.Power.length - i)
def L94 (i : Nat) : List (Lspec Nat) := [.out [true] [] [], .out [true] [] [], .next (i + 1) [] [], .out [false] [] []]
def J94 (r : Rules) (i : Nat) : St := ⟨[(1, .ptr 0 0), (10, .fsl (.nm .Phase) r.Power), (11, .int .i64 r.Power.length), (12, .int .i64 i)], [(0, .cells (flat FUEL (.nm .Rules) r))], fun _ => none, 8⟩
def T94 (r : Rules) : Tr := .br (scanW r 0 r.Power.length != 0) (.leaf .ret ⟨[(2, .int .i64 (scanW r 0 r.Power.length))], []⟩ 8) (.leaf (.ext 0) ⟨[], []⟩ 8)
def Λ94 (r : Rules) : Nat → Option LoopSum := find [(4, loopSum ⟨[], [], 8⟩ (J94 r 0) (T94 r))]

def goodTo (s : ByteArray) (i : Nat) : Bool := (List.range i).all (fun k => !badCh k (byteAt s k))
def inv95 (s : ByteArray) (i : Nat) : Prop := i ≤ s.size ∧ goodTo s i = true
def L95 (i : Nat) : List (Lspec Nat) := [.out [false] [] [], .next (i + 1) [] [], .out [true] [] []]
def J95 (s : ByteArray) (i : Nat) : St := ⟨[(0, .str s), (3, .int .i64 i)], [], fun _ => none, 0⟩
def T95 (s : ByteArray) : Tr := .br (goodTo s s.size) (.leaf (.ext 0) ⟨[], []⟩ 0) (.leaf .ret ⟨[(2, .kb false)], []⟩ 0)
def Λ95 (s : ByteArray) : Nat → Option LoopSum := find [(4, loopSum ⟨[], [], 0⟩ (J95 s 0) (T95 s))]

end Go.Proofs.Ytogdeefpidccmaa

/- Rules and bowlers, second part: plain functions. -/
namespace Go.Proofs.Ytogdeefpidccmaa
open Go Go.Mir

def argBad (r : Rules) : Bool := (r.FollowOn != 0 && r.Innings == 1) || ((r.Quota != 0 || decide ((r.Power.length : Int) > 0)) && r.Overs == 0)
def conflW (r : Rules) : Bool := r.Quota != 0 && decide (IntKind.i64.wrap (r.Quota * r.Side) < r.Overs)
def checkW (r : Rules) : Int := if !nameW r.Name then 5 else if !inRangeW r then 2 else if argBad r then 1 else if conflW r then 13 else phasesW r
def spec85 : Den psRu → PRes := fun x => ⟨[], .int .i64 (checkW x.1), []⟩
def k85 : FuncId × Ctr := (85, pureCtr K8 psRu spec85)
def k86 : FuncId × Ctr := (86, pureCtr K8 psRu spec85)

def psRIP : Ty := .prod (.nm .Rules) (.prod (.nm .Innings) (.prod (.int .i64) .unit))
def roomW (r : Rules) (x : Innings) (p : Int) : Int :=
  if !knownB x p || checkW r != 0 then 0 else if r.Quota == 0 then -1
  else maxI (IntKind.i64.wrap (IntKind.i64.wrap (r.Quota * r.Balls) - maxI (x.Bowled.getD (p - 1).toNat 0) 0)) 0
def spec81 : Den psRIP → PRes := fun x => ⟨[], .int .i64 (roomW x.1 x.2.1 x.2.2.1), []⟩
def k81 : FuncId × Ctr := (81, pureCtr K8 psRIP spec81)
def J86 (r : Rules) (i : Nat) : St := ⟨[(1, .ptr 0 0), (115, .fsl (.nm .Phase) r.Power), (116, .int .i64 r.Power.length), (117, .int .i64 i)], [(0, .cells (flat FUEL (.nm .Rules) r))], fun _ => none, 8⟩
def Λ86 (r : Rules) : Nat → Option LoopSum := find [(12, loopSum ⟨[], [], 8⟩ (J86 r 0) (T94 r))]

end Go.Proofs.Ytogdeefpidccmaa

/- Bowlers: plain functions. -/
namespace Go.Proofs.Ytogdeefpidccmaa
open Go Go.Mir

def mayW (r : Rules) (x : Innings) (p : Int) : Int :=
  if !knownB x p || checkW r != 0 then 3
  else if p == x.Keeper || (p == x.Bowler || replacedW x p) then 7
  else if hasLI x.Before p then 8
  else if roomW r x p != -1 && decide (x.InOver < IntKind.i64.wrap (r.Balls - roomW r x p)) then 9 else 0
def spec82 : Den psRIP → PRes := fun x => ⟨[], .int .i64 (mayW x.1 x.2.1 x.2.2.1), []⟩
def k82 : FuncId × Ctr := (82, pureCtr K8 psRIP spec82)
def takeY (r : Rules) (x : Innings) (p : Int) : Innings := if mayW r x p == 0 then { x with Bowler := p } else x
def spec50 : Den psRIP → PRes := fun x => ⟨[smallI x.2.1], .tup [rowI (takeY x.1 x.2.1 x.2.2.1), .int .i64 (mayW x.1 x.2.1 x.2.2.1)], rowsI (takeY x.1 x.2.1 x.2.2.1)⟩
def k50 : FuncId × Ctr := (50, pureCtr K8 psRIP spec50)
def noNew (r : Rules) (x : Innings) : Bool := checkW r != 0 || (r.NewBall == 0 || decide (x.BallAge < IntKind.i64.wrap (r.NewBall * r.Balls)))
def newY (r : Rules) (x : Innings) : Innings := if noNew r x then x else { x with BallAge := 0 }
def newL (r : Rules) (x : Innings) : Int := if noNew r x then 22 else 0
def spec55 : Den psRI → PRes := fun x => ⟨[smallI x.2.1], .tup [rowI (newY x.1 x.2.1), .int .i64 (newL x.1 x.2.1)], rowsI (newY x.1 x.2.1)⟩
def k55 : FuncId × Ctr := (55, pureCtr K8 psRI spec55)
def k56 : FuncId × Ctr := (56, pureCtr K8 psRI spec55)

def bowlersW (x : Innings) : List Int := if hasLI x.Bowlers x.Bowler then x.Bowlers else x.Bowlers ++ [x.Bowler]
def bumpW (x : Innings) : List Int := x.Bowled.set (x.Bowler - 1).toNat (IntKind.i64.wrap (x.Bowled.getD (x.Bowler - 1).toNat 0 + 1))
def countW (x : Innings) (c : Bool) : Innings :=
  if c then { x with Bowlers := bowlersW x, Bowled := bumpW x, InOver := IntKind.i64.wrap (x.InOver + 1), BallAge := IntKind.i64.wrap (x.BallAge + 1) } else { x with Bowlers := bowlersW x }
def overW (y : Innings) : Innings := { y with Complete := IntKind.i64.wrap (y.Complete + 1), InOver := 0, Before := y.Bowlers, Bowlers := [], Bowler := 0 }
def noBall (r : Rules) (x : Innings) : Bool := !knownB x x.Bowler || checkW r != 0
def ballY (r : Rules) (x : Innings) (c : Bool) : Innings := if noBall r x then x else if (countW x c).InOver < r.Balls then countW x c else overW (countW x c)
def ballO (r : Rules) (x : Innings) (c : Bool) : Bool := if noBall r x then false else if (countW x c).InOver < r.Balls then false else true
def psRIB : Ty := .prod (.nm .Rules) (.prod (.nm .Innings) (.prod .bool .unit))
def spec51 : Den psRIB → PRes := fun x => ⟨[smallI x.2.1], .tup [rowI (ballY x.1 x.2.1 x.2.2.1), .bool (ballO x.1 x.2.1 x.2.2.1)], rowsI (ballY x.1 x.2.1 x.2.2.1)⟩
def k51 : FuncId × Ctr := (51, pureCtr K8 psRIB spec51)
def k54 : FuncId × Ctr := (54, pureCtr K8 psRIB spec51)

end Go.Proofs.Ytogdeefpidccmaa

/- Bowlers, second part: plain functions. -/
namespace Go.Proofs.Ytogdeefpidccmaa
open Go Go.Mir

def quotaR : Rules := ⟨{ data := #[82] }, 4, 1, 8, 6, 2, 1, 1, false, 0, 0, 0, 0, []⟩
def spec49 : Den ps0 → PRes := fun _ => ⟨[], .agg (osls 0 (flat FUEL (.nm .Rules) quotaR)).1, (osls 0 (flat FUEL (.nm .Rules) quotaR)).2⟩
def k49 : FuncId × Ctr := (49, pureCtr K8 ps0 spec49)
def name20 (s : ByteArray) : ByteArray := s.extract 0 (if (20 : Int) < (s.size : Int) then (20 : Int) else (s.size : Int)).toNat
def boundW (r : Rules) : Rules := { r with Name := name20 r.Name, Power := r.Power.take 10 }
def spec52 : Den psRu → PRes := fun x => ⟨[], .agg (flat FUEL (.nm .Rules) (boundW x.1)), []⟩
def k52 : FuncId × Ctr := (52, pureCtr K8 psRu spec52)
def k53 : FuncId × Ctr := (53, pureCtr K8 psI spec33)
def ableN (r : Rules) (x : Innings) (n : Nat) : List Int := ((List.range n).filter fun i : Nat => mayW r x ((i : Int) + 1) == 0).map fun k : Nat => (k : Int) + 1
def ableW (r : Rules) (x : Innings) : List Int := ableN r x x.Bowled.length
def spec80 : Den psRI → PRes := fun x => ⟨[x.2.1.Bowled.length ≤ 1000000], .osl 0 0, [⟨.int .i64, ableW x.1 x.2.1⟩]⟩
def k80 : FuncId × Ctr := (80, pureCtr K8 psRI spec80)

def inv80 (x : Innings) (i : Nat) : Prop := i ≤ x.Bowled.length
def L80 (i : Nat) : List (Lspec Nat) := [.next (i + 1) [(65, 176)] [], .next (i + 1) [] [], .out [] [] []]
def J80 (r : Rules) (x : Innings) (i : Nat) : St := ⟨[(2, .ptr 0 0), (3, .ptr 8 0), (5, .osl 64 65), (9, .int .i64 x.Bowled.length), (10, .int .i64 i)],
  [(64, .row 65 true (.int .i64) (ableN r x i)), (0, .cells (flat FUEL (.nm .Rules) r)), (8, .cells (flat FUEL (.nm .Innings) x))], fun _ => none, 72⟩
def T80 (r : Rules) (x : Innings) : Tr := .leaf (.ext 0) ⟨[(5, .osl 64 65)], [(64, .row 65 true (.int .i64) (ableW r x))]⟩ 72
def Λ80 (r : Rules) (x : Innings) : Nat → Option LoopSum := find [(3, loopSum ⟨[], [64], 72⟩ (J80 r x 0) (T80 r x))]

end Go.Proofs.Ytogdeefpidccmaa

/- Bowlers: what a spell counts, plain law. -/
namespace Go.Proofs.Ytogdeefpidccmaa
open Go Go.Mir

abbrev S3 := Innings × List (List Int) × List Int
def addN (nw : List Int) (b : Int) : List Int := if hasLI nw b then nw else nw ++ [b]
def wideZ (w : Bool) (z : Innings) : Innings := if w then ballY quotaR z false else z
def stepB (w : Bool) (s : S3) : S3 :=
  if ballO quotaR (wideZ w s.1) true then (ballY quotaR (wideZ w s.1) true, s.2.1 ++ [addN s.2.2 s.1.Bowler], []) else (ballY quotaR (wideZ w s.1) true, s.2.1, addN s.2.2 s.1.Bowler)

def sumI : List Int → Int
  | [] => 0
  | x :: xs => x + sumI xs

theorem sum_set : ∀ (l : List Int) (i : Nat), i < l.length → sumI (l.set i (l.getD i 0 + 1)) = sumI l + 1
  | [], i, h => by simp at h
  | x :: xs, 0, _ => by simp [sumI]; omega
  | x :: xs, i + 1, h => by
    have := sum_set xs i (by simpa using h)
    simp only [List.set_cons_succ, List.getD_cons_succ, sumI, this]
    omega

theorem chk0 : checkW quotaR = 0 := by kernel_rfl

structure Inv13 (n : Nat) (s : S3) : Prop where
  len : s.1.Bowled.length = 4
  bat : s.1.Batters.length = 0
  subs : s.1.Subs.length = 4
  lo : ∀ v ∈ s.1.Bowled, 0 ≤ v ∧ v ≤ 12
  sum : sumI s.1.Bowled = 6 * s.1.Complete + s.1.InOver
  age : s.1.BallAge = sumI s.1.Bowled
  io : 0 ≤ s.1.InOver ∧ s.1.InOver ≤ 5
  co : s.1.Complete = (s.2.1.length : Int)
  bw : s.1.Bowlers = s.2.2
  bf : s.1.Before = (s.2.1.getLast?).getD []
  cur : s.1.Bowler ≠ 0 → 1 ≤ s.1.Bowler ∧ s.1.Bowler ≤ 4 ∧ s.1.Bowler ∉ s.1.Before ∧ s.1.Bowled.getD (s.1.Bowler - 1).toNat 0 + (6 - s.1.InOver) ≤ 12
  dis : ∀ v ∈ s.2.2, v ∉ s.1.Before
  ov : ∀ (i : Nat) (a b : List Int), s.2.1[i]? = some a → s.2.1[i + 1]? = some b → ∀ v ∈ b, v ∉ a
  cnt : s.2.1.length ≤ n ∧ s.2.2.length ≤ n ∧ s.1.Before.length ≤ n
  sz : ∀ a ∈ s.2.1, a.length ≤ n

theorem Inv13.mono {n m : Nat} {s : S3} (h : Inv13 n s) (hm : n ≤ m) : Inv13 m s :=
  ⟨h.len, h.bat, h.subs, h.lo, h.sum, h.age, h.io, h.co, h.bw, h.bf, h.cur, h.dis, h.ov, by have := h.cnt; omega, fun a ha => by have := h.sz a ha; omega⟩

theorem Inv13.small {n : Nat} {s : S3} (h : Inv13 n s) (hn : n ≤ 100000) : smallI s.1 := by
  have h1 := h.cnt
  have h2 := h.len
  have h3 := h.bat
  have h4 := h.subs
  have h5 : s.1.Bowlers.length = s.2.2.length := by rw [h.bw]
  exact ⟨by omega, by omega, by omega, by omega, by omega⟩

theorem hasLI_iff (l : List Int) (v : Int) : hasLI l v = true ↔ v ∈ l := by simp [hasLI]

theorem addN_idem (l : List Int) (b : Int) : addN (addN l b) b = addN l b := by
  unfold addN
  by_cases h : hasLI l b = true
  · rw [if_pos h, if_pos h]
  · rw [if_neg h, if_pos]
    rw [hasLI_iff]
    simp

theorem addN_mem {l : List Int} {b v : Int} (h : v ∈ addN l b) : v ∈ l ∨ v = b := by
  unfold addN at h
  split at h
  · exact .inl h
  · simpa using h

theorem addN_len (l : List Int) (b : Int) : (addN l b).length ≤ l.length + 1 := by
  unfold addN; split <;> simp

theorem bowlers_eq (z : Innings) : bowlersW z = addN z.Bowlers z.Bowler := rfl

theorem known13 {n : Nat} {s : S3} (h : Inv13 n s) (hb : s.1.Bowler ≠ 0) : noBall quotaR s.1 = false := by
  have h1 := h.cur hb
  have hl := h.len
  unfold noBall knownB
  rw [chk0, hl]
  simp
  omega

theorem wide_eq {n : Nat} {s : S3} (h : Inv13 n s) (hb : s.1.Bowler ≠ 0) (w : Bool) : wideZ w s.1 = if w then { s.1 with Bowlers := addN s.1.Bowlers s.1.Bowler } else s.1 := by
  unfold wideZ
  cases w with
  | false => rfl
  | true =>
    simp only [if_true]
    unfold ballY
    rw [known13 h hb]
    have hio := h.io
    have : (countW s.1 false).InOver < quotaR.Balls := by
      show s.1.InOver < 6
      omega
    simp only [Bool.false_eq_true, if_false, if_pos this]
    rfl

/-- the innings after a ball that counts -/
def counted (z : Innings) : Innings := { z with Bowlers := addN z.Bowlers z.Bowler, Bowled := z.Bowled.set (z.Bowler - 1).toNat (z.Bowled.getD (z.Bowler - 1).toNat 0 + 1), InOver := z.InOver + 1, BallAge := z.BallAge + 1 }

theorem step_eq {n : Nat} {s : S3} (h : Inv13 n s) (hn : n ≤ 100000) (hb : s.1.Bowler ≠ 0) (w : Bool) :
    stepB w s = if s.1.InOver < 5 then (counted s.1, s.2.1, addN s.2.2 s.1.Bowler) else ({ counted s.1 with Complete := s.1.Complete + 1, InOver := 0, Before := addN s.1.Bowlers s.1.Bowler, Bowlers := [], Bowler := 0 }, s.2.1 ++ [addN s.2.2 s.1.Bowler], []) := by
  have h1 := h.cur hb
  have hl := h.len
  have hio := h.io
  have hco := h.co
  have hcn := h.cnt
  have hsum := h.sum
  have hage := h.age
  have hgd : 0 ≤ s.1.Bowled.getD (s.1.Bowler - 1).toNat 0 ∧ s.1.Bowled.getD (s.1.Bowler - 1).toNat 0 ≤ 12 := by
    have hi : (s.1.Bowler - 1).toNat < s.1.Bowled.length := by omega
    rw [List.getD_eq_getElem?_getD, List.getElem?_eq_getElem hi]
    exact h.lo _ (List.getElem_mem hi)
  have hcw : countW (wideZ w s.1) true = counted s.1 := by
    rw [wide_eq h hb]
    have e1 : IntKind.i64.wrap (s.1.Bowled.getD (s.1.Bowler - 1).toNat 0 + 1) = s.1.Bowled.getD (s.1.Bowler - 1).toNat 0 + 1 := wrap64 (by omega) (by omega)
    have e2 : IntKind.i64.wrap (s.1.InOver + 1) = s.1.InOver + 1 := wrap64 (by omega) (by omega)
    have e3 : IntKind.i64.wrap (s.1.BallAge + 1) = s.1.BallAge + 1 := wrap64 (by omega) (by omega)
    cases w with
    | false =>
      simp only [Bool.false_eq_true, if_false]
      unfold countW counted
      simp only [if_true, bumpW, bowlers_eq, e1, e2, e3]
    | true =>
      simp only [if_true]
      unfold countW counted
      simp only [if_true, bumpW, bowlers_eq, addN_idem, e1, e2, e3]
  have hnb : noBall quotaR (wideZ w s.1) = false := by
    rw [wide_eq h hb]
    have := known13 h hb
    cases w <;> simpa [noBall, knownB] using this
  have hin : (counted s.1).InOver = s.1.InOver + 1 := rfl
  unfold stepB ballO ballY
  rw [hnb, hcw]
  simp only [Bool.false_eq_true, if_false]
  by_cases h5 : s.1.InOver < 5
  · have h6 : (counted s.1).InOver < quotaR.Balls := by rw [hin]; show s.1.InOver + 1 < 6; omega
    simp only [if_pos h5, if_pos h6, Bool.false_eq_true, if_false]
  · have h6 : ¬ (counted s.1).InOver < quotaR.Balls := by rw [hin]; show ¬ s.1.InOver + 1 < 6; omega
    simp only [if_neg h5, if_neg h6, if_true]
    have e4 : IntKind.i64.wrap ((counted s.1).Complete + 1) = s.1.Complete + 1 := wrap64 (by show _ ≤ s.1.Complete + 1; omega) (by show s.1.Complete + 1 ≤ _; omega)
    unfold overW
    rw [e4]
    rfl

theorem getD_bound {l : List Int} (hl : ∀ v ∈ l, 0 ≤ v ∧ v ≤ 12) {i : Nat} (hi : i < l.length) : 0 ≤ l.getD i 0 ∧ l.getD i 0 ≤ 12 := by
  rw [List.getD_eq_getElem?_getD, List.getElem?_eq_getElem hi]
  exact hl _ (List.getElem_mem hi)

theorem mem_set_bound {l : List Int} (hl : ∀ v ∈ l, 0 ≤ v ∧ v ≤ 12) {i : Nat} {x : Int} (hx : 0 ≤ x ∧ x ≤ 12) : ∀ v ∈ l.set i x, 0 ≤ v ∧ v ≤ 12 := fun v hv => by
  rcases List.mem_or_eq_of_mem_set hv with h | h
  · exact hl v h
  · rw [h]; exact hx

theorem getD_set_self {l : List Int} {i : Nat} {x : Int} (hi : i < l.length) : (l.set i x).getD i 0 = x := by
  simp [List.getD_eq_getElem?_getD, hi]

theorem Inv13.step {n : Nat} {s : S3} (h : Inv13 n s) (hn : n ≤ 100000) (hb : s.1.Bowler ≠ 0) (w : Bool) : Inv13 (n + 1) (stepB w s) := by
  have h1 := h.cur hb
  have hl := h.len
  have hio := h.io
  have hcn := h.cnt
  have hi : (s.1.Bowler - 1).toNat < s.1.Bowled.length := by omega
  have hg := getD_bound h.lo hi
  have hs := sum_set s.1.Bowled _ hi
  have hal := addN_len s.2.2 s.1.Bowler
  have hsum := h.sum
  have hage := h.age
  have hco := h.co
  have hmem : ∀ v ∈ addN s.2.2 s.1.Bowler, v ∉ s.1.Before := fun v hv => by
    rcases addN_mem hv with h2 | h2
    · exact h.dis v h2
    · rw [h2]; exact h1.2.2.1
  rw [step_eq h hn hb w]
  by_cases h5 : s.1.InOver < 5
  · rw [if_pos h5]
    refine ⟨?_, h.bat, h.subs, ?_, ?_, ?_, ?_, hco, ?_, h.bf, fun _ => ⟨h1.1, h1.2.1, h1.2.2.1, ?_⟩, hmem, h.ov, ?_, fun a ha => by have := h.sz a ha; omega⟩
    · show (s.1.Bowled.set _ _).length = 4; rw [List.length_set]; exact hl
    · exact mem_set_bound h.lo ⟨by omega, by omega⟩
    · show sumI (s.1.Bowled.set _ _) = 6 * s.1.Complete + (s.1.InOver + 1); rw [hs]; omega
    · show s.1.BallAge + 1 = sumI (s.1.Bowled.set _ _); rw [hs]; omega
    · show 0 ≤ s.1.InOver + 1 ∧ s.1.InOver + 1 ≤ 5; omega
    · show addN s.1.Bowlers s.1.Bowler = addN s.2.2 s.1.Bowler; rw [h.bw]
    · show (s.1.Bowled.set (s.1.Bowler - 1).toNat (s.1.Bowled.getD (s.1.Bowler - 1).toNat 0 + 1)).getD (s.1.Bowler - 1).toNat 0 + (6 - (s.1.InOver + 1)) ≤ 12
      rw [getD_set_self hi]; omega
    · show s.2.1.length ≤ n + 1 ∧ (addN s.2.2 s.1.Bowler).length ≤ n + 1 ∧ s.1.Before.length ≤ n + 1; omega
  · rw [if_neg h5]
    refine ⟨?_, h.bat, h.subs, ?_, ?_, ?_, ?_, ?_, rfl, ?_, fun h0 => absurd rfl h0, fun v hv => by simp at hv, ?_, ?_, fun a ha => ?_⟩
    · show (s.1.Bowled.set _ _).length = 4; rw [List.length_set]; exact hl
    · exact mem_set_bound h.lo ⟨by omega, by omega⟩
    · show sumI (s.1.Bowled.set _ _) = 6 * (s.1.Complete + 1) + 0; rw [hs]; omega
    · show s.1.BallAge + 1 = sumI (s.1.Bowled.set _ _); rw [hs]; omega
    · show (0 : Int) ≤ 0 ∧ (0 : Int) ≤ 5; omega
    · show s.1.Complete + 1 = ((s.2.1 ++ [addN s.2.2 s.1.Bowler]).length : Int); rw [List.length_append]; simp; omega
    · show addN s.1.Bowlers s.1.Bowler = ((s.2.1 ++ [addN s.2.2 s.1.Bowler]).getLast?).getD []
      rw [h.bw]; simp
    · intro i a b ha hb' v hv
      show v ∉ a
      have ha : (s.2.1 ++ [addN s.2.2 s.1.Bowler])[i]? = some a := ha
      have hb' : (s.2.1 ++ [addN s.2.2 s.1.Bowler])[i + 1]? = some b := hb'
      by_cases hlt : i + 1 < s.2.1.length
      · rw [List.getElem?_append_left (by omega)] at ha
        rw [List.getElem?_append_left hlt] at hb'
        exact h.ov i a b ha hb' v hv
      · have hlt2 : i + 1 < (s.2.1 ++ [addN s.2.2 s.1.Bowler]).length := by
          apply Decidable.byContradiction
          intro hc
          rw [List.getElem?_eq_none (by omega)] at hb'
          cases hb'
        rw [List.length_append] at hlt2
        simp only [List.length_cons, List.length_nil] at hlt2
        have hie : i + 1 = s.2.1.length := by omega
        rw [hie, List.getElem?_append_right (Nat.le_refl _), Nat.sub_self] at hb'
        simp only [List.getElem?_cons_zero, Option.some.injEq] at hb'
        rw [List.getElem?_append_left (by omega)] at ha
        have hla : s.2.1.getLast? = some a := by rw [List.getLast?_eq_getElem?, ← hie, Nat.add_sub_cancel]; exact ha
        have hbf := h.bf
        rw [hla] at hbf
        simp only [Option.getD_some] at hbf
        rw [← hbf]
        rw [← hb'] at hv
        exact hmem v hv
    · show (s.2.1 ++ [addN s.2.2 s.1.Bowler]).length ≤ n + 1 ∧ ([] : List Int).length ≤ n + 1 ∧ (addN s.1.Bowlers s.1.Bowler).length ≤ n + 1
      rw [h.bw, List.length_append]
      simp only [List.length_cons, List.length_nil]
      omega
    · have ha : a ∈ s.2.1 ++ [addN s.2.2 s.1.Bowler] := ha
      rcases List.mem_append.1 ha with h2 | h2
      · have := h.sz a h2; omega
      · simp only [List.mem_singleton] at h2
        rw [h2]; omega

theorem Inv13.take {n : Nat} {s : S3} (h : Inv13 n s) (p : Int) : Inv13 n (takeY quotaR s.1 p, s.2) := by
  unfold takeY
  by_cases hm : mayW quotaR s.1 p = 0
  · have hl := h.len
    have hio := h.io
    rw [if_pos (by rw [hm]; rfl)]
    refine ⟨h.len, h.bat, h.subs, h.lo, h.sum, h.age, h.io, h.co, h.bw, h.bf, fun _ => ?_, h.dis, h.ov, h.cnt, h.sz⟩
    show 1 ≤ p ∧ p ≤ 4 ∧ p ∉ s.1.Before ∧ s.1.Bowled.getD (p - 1).toNat 0 + (6 - s.1.InOver) ≤ 12
    unfold mayW at hm
    rw [chk0] at hm
    by_cases hk : knownB s.1 p = true
    · rw [hk] at hm
      have hk' : 1 ≤ p ∧ p ≤ 4 := by
        unfold knownB at hk
        rw [hl] at hk
        simp only [Bool.and_eq_true, decide_eq_true_eq] at hk
        omega
      have hg := getD_bound h.lo (show (p - 1).toNat < s.1.Bowled.length by omega)
      have hroom : roomW quotaR s.1 p = 12 - s.1.Bowled.getD (p - 1).toNat 0 := by
        unfold roomW
        rw [hk, chk0]
        have e0 : quotaR.Quota = 2 := rfl
        have e1 : quotaR.Balls = 6 := rfl
        rw [e0, e1]
        have e2 : IntKind.i64.wrap ((2 : Int) * 6) = 12 := wrap64 (by omega) (by omega)
        have e3 : maxI (s.1.Bowled.getD (p - 1).toNat 0) 0 = s.1.Bowled.getD (p - 1).toNat 0 := by unfold maxI; split <;> omega
        rw [e2, e3, wrap64 (by omega) (by omega)]
        have e4 : maxI (12 - s.1.Bowled.getD (p - 1).toNat 0) 0 = 12 - s.1.Bowled.getD (p - 1).toNat 0 := by unfold maxI; split <;> omega
        rw [e4]
        rfl
      rw [hroom] at hm
      have e1 : quotaR.Balls = 6 := rfl
      rw [e1, wrap64 (by omega) (by omega)] at hm
      by_cases hkp : (p == s.1.Keeper || (p == s.1.Bowler || replacedW s.1 p)) = true
      · rw [hkp] at hm; simp at hm
      · rw [Bool.not_eq_true] at hkp
        rw [hkp] at hm
        by_cases hbf : hasLI s.1.Before p = true
        · rw [hbf] at hm; simp at hm
        · refine ⟨hk'.1, hk'.2, fun hx => hbf ((hasLI_iff _ _).2 hx), ?_⟩
          rw [Bool.not_eq_true] at hbf
          rw [hbf] at hm
          apply Decidable.byContradiction
          intro hc
          have : (12 - s.1.Bowled.getD (p - 1).toNat 0 != -1 && decide (s.1.InOver < 6 - (12 - s.1.Bowled.getD (p - 1).toNat 0))) = true := by
            rw [Bool.and_eq_true]
            exact ⟨by rw [bne_iff_ne]; omega, decide_eq_true (by omega)⟩
          rw [this] at hm
          simp at hm
    · rw [Bool.not_eq_true] at hk
      rw [hk] at hm
      simp at hm
  · have : (mayW quotaR s.1 p == 0) = false := by simpa using hm
    rw [this]
    exact h

/-- the balls of one act -/
def balls (w : Bool) : Nat → S3 → S3
  | 0, s => s
  | n + 1, s => if s.1.Bowler == 0 then s else balls w n (stepB w s)
def actS (a : law13_Act) (s : S3) : S3 := balls a.Wide (a.Balls.tmod 8).toNat (takeY quotaR s.1 a.Player, s.2)
def playN (l : List law13_Act) : Nat → Nat → S3 → S3
  | _, 0, s => s
  | i, n + 1, s => playN l (i + 1) n (actS (l.getD i law13_Act.zero) s)
def z0 (k : Int) : Innings := { Innings.zero with Bowled := [0, 0, 0, 0], Subs := [false, false, false, false], Keeper := k }

theorem Inv13.balls (w : Bool) : ∀ (m : Nat) {n : Nat} {s : S3}, Inv13 n s → n + m ≤ 100000 → Inv13 (n + m) (balls w m s)
  | 0, n, s, h, _ => h
  | m + 1, n, s, h, hn => by
    unfold Go.Proofs.Ytogdeefpidccmaa.balls
    split
    · exact h.mono (by omega)
    · rename_i hb
      have := Inv13.balls w m (h.step (by omega) (by simpa using hb) w) (by omega)
      rw [show n + (m + 1) = n + 1 + m by omega]
      exact this

theorem mod8 (b : Int) : (b.tmod 8).toNat ≤ 7 := by
  have h : b.tmod 8 < 8 := Int.tmod_lt_of_pos b (by omega)
  omega

theorem Inv13.act {n : Nat} {s : S3} (h : Inv13 n s) (hn : n ≤ 90000) (a : law13_Act) : Inv13 (n + 7) (actS a s) := by
  have h8 := mod8 a.Balls
  exact (Inv13.balls a.Wide _ (h.take a.Player) (by omega)).mono (by omega)

theorem Inv13.play (l : List law13_Act) : ∀ (m i : Nat) {n : Nat} {s : S3}, Inv13 n s → n + 7 * m ≤ 90000 → Inv13 (n + 7 * m) (playN l i m s)
  | 0, i, n, s, h, _ => h
  | m + 1, i, n, s, h, hn => by
    unfold playN
    have := Inv13.play l m (i + 1) (h.act (by omega) (l.getD i law13_Act.zero)) (by omega)
    rw [show n + 7 * (m + 1) = n + 7 + 7 * m by omega]
    exact this

theorem inv0 (k : Int) : Inv13 0 (z0 k, [], []) :=
  ⟨rfl, rfl, rfl, fun v hv => by simp [z0] at hv; subst hv; omega, rfl, rfl, by show (0 : Int) ≤ 0 ∧ (0 : Int) ≤ 5; omega, rfl, rfl, rfl, fun h => absurd rfl h, fun v hv => by simp at hv, fun i a b h => by simp at h, ⟨by simp, by simp, by simp [z0, Innings.zero]⟩, fun a ha => by simp at ha⟩

/-- the end -/
def fin13 (l : List law13_Act) (k : Int) : S3 := playN l 0 (min l.length 20) (z0 k, [], [])
theorem inv_fin (l : List law13_Act) (k : Int) : Inv13 1000 (fin13 l k) := (Inv13.play l (min l.length 20) 0 (inv0 k) (by omega)).mono (by omega)

end Go.Proofs.Ytogdeefpidccmaa

/- The field layer: equal states, acts: plain functions. -/
namespace Go.Proofs.Ytogdeefpidccmaa
open Go Go.Mir

def eqLB (xs ys : List Bool) : Bool := decide (xs = ys)
/-- all that is compared at the end -/
def restW (a b : Innings) : Bool :=
  a.Side == b.Side && (a.Target == b.Target && (a.Overs == b.Overs && (a.Runs == b.Runs && (a.Wickets == b.Wickets && (
  (a.Extras.Wides == b.Extras.Wides && (a.Extras.NoBalls == b.Extras.NoBalls && (a.Extras.Byes == b.Extras.Byes && (a.Extras.LegByes == b.Extras.LegByes && (a.Extras.Penalties == b.Extras.Penalties && true))))) && (
  a.Complete == b.Complete && (a.InOver == b.InOver && (a.Striker == b.Striker && (a.Other == b.Other && (a.Bowler == b.Bowler && (a.Fresh == b.Fresh && (a.FreeHit == b.FreeHit && (a.BallAge == b.BallAge && (
  a.Keeper == b.Keeper && (a.Outside == b.Outside && (a.Reviews.1 == b.Reviews.1 && (a.Reviews.2.1 == b.Reviews.2.1 && a.Ending == b.Ending)))))))))))))))))
def sameW (a b : Innings) : Bool :=
  eqLI a.Bowlers b.Bowlers && (eqLI a.Before b.Before && (eqLI a.Bowled b.Bowled && (eqLI a.Batters b.Batters && (eqLB a.Subs b.Subs && restW a b))))
def psSS : Ty := .prod (.nm .Innings) (.prod (.nm .Innings) .unit)
def spec36 : Den psSS → PRes := fun x => ⟨[], .bool (sameW x.1 x.2.1), []⟩
def actY (x : Innings) (a : law11_Act) : Innings := if a.Kind.tmod 3 == 0 then keeperY x a.N else if a.Kind.tmod 3 == 1 then substY x a.N a.On else outsideY x a.N
def actL (x : Innings) (a : law11_Act) : Int := if a.Kind.tmod 3 == 0 then keeperL x a.N else if a.Kind.tmod 3 == 1 then substL x a.N a.On else outsideL x a.N
def psIA : Ty := .prod (.nm .Innings) (.prod (.nm .law11_Act) .unit)
def spec34 : Den psIA → PRes := fun x => ⟨[smallI x.1], .tup [rowI (actY x.1 x.2.1), .int .i64 (actL x.1 x.2.1)], rowsI (actY x.1 x.2.1)⟩

def k36 : FuncId × Ctr := (36, pureCtr K8 psSS spec36)
def k34 : FuncId × Ctr := (34, pureCtr K8 psIA spec34)
def k35 : FuncId × Ctr := (35, pureCtr K8 psIA spec34)

/-! ## loops -/
def J36 (a b : Innings) (i : Nat) : St := ⟨[(2, .ptr 0 0), (3, .ptr 8 0), (49, .int .i64 a.Batters.length), (50, .int .i64 i)], [(0, .cells (flat FUEL (.nm .Innings) a)), (8, .cells (flat FUEL (.nm .Innings) b))], fun _ => none, 376⟩
def T36 (a b : Innings) : Tr := .br (eqLI a.Batters b.Batters) (.leaf (.ext 0) ⟨[(2, .ptr 0 0), (3, .ptr 8 0)], [(0, .cells (flat FUEL (.nm .Innings) a)), (8, .cells (flat FUEL (.nm .Innings) b))]⟩ 376) (.leaf .ret ⟨[(4, .kb false)], []⟩ 376)
def inv36 (a b : Innings) (i : Nat) : Prop := invE a.Batters b.Batters i
def J36b (a b : Innings) (i : Nat) : St := ⟨[(2, .ptr 0 0), (3, .ptr 8 0), (67, .int .i64 a.Subs.length), (68, .int .i64 i)], [(0, .cells (flat FUEL (.nm .Innings) a)), (8, .cells (flat FUEL (.nm .Innings) b))], fun _ => none, 408⟩
def T36b (a b : Innings) : Tr := .br (eqLB a.Subs b.Subs) (.leaf (.ext 2) ⟨[(2, .ptr 0 0), (3, .ptr 8 0)], [(0, .cells (flat FUEL (.nm .Innings) a)), (8, .cells (flat FUEL (.nm .Innings) b))]⟩ 408) (.leaf .ret ⟨[(4, .kb false)], []⟩ 408)
def inv36b (a b : Innings) (i : Nat) : Prop := i ≤ a.Subs.length ∧ a.Subs.length = b.Subs.length ∧ a.Subs.take i = b.Subs.take i
def Λ36 (a b : Innings) : Nat → Option LoopSum := find [(4, (loopSum ⟨[], [], 376⟩ (J36 a b 0) (T36 a b)).under (a.Batters.length = b.Batters.length)), (10, (loopSum ⟨[], [], 408⟩ (J36b a b 0) (T36b a b)).under (a.Subs.length = b.Subs.length))]

end Go.Proofs.Ytogdeefpidccmaa

/- FieldKeeps: states of its loop. -/
namespace Go.Proofs.Ytogdeefpidccmaa
open Go Go.Mir

/-- the cells of a state whose slices are rows, numbered from k on; and these rows -/
def rowC (k : Nat) (x : Innings) : List V := (osls k (flat FUEL (.nm .Innings) x)).1
def flipN (l : List Bool) (i : Nat) : List Bool := (l.take i).map (fun b => !b) ++ l.drop i
def heap11 (y z : Innings) (s : List Bool) : List (Nat × Blk) :=
  [(248, .row 248 true .bool z.Subs), (144, .cells (rowC 112 z)), (112, .row 112 true (.int .u8) z.Batters), (113, .row 113 true (.int .i64) z.Bowlers), (114, .row 114 true (.int .i64) z.Before), (115, .row 115 true (.int .i64) z.Bowled), (116, .row 116 true .bool s),
   (80, .cells (rowC 72 y)), (72, .row 72 true (.int .u8) y.Batters), (73, .row 73 true (.int .i64) y.Bowlers), (74, .row 74 true (.int .i64) y.Before), (75, .row 75 true (.int .i64) y.Bowled), (76, .row 76 true .bool y.Subs), (0, .cells (flat FUEL (.nm .Innings) y))]
def J11 (y z : Innings) (i : Nat) : St := ⟨[(2, .ptr 0 0), (5, .ptr 80 0), (6, .ptr 144 0), (8, .osl 248 248), (43, .int .i64 z.Subs.length), (44, .int .i64 i)], heap11 y z (flipN z.Subs i), fun _ => none, 288⟩
def T11 (y z : Innings) : Tr := .leaf (.ext 0) ⟨[(2, .ptr 0 0), (5, .ptr 80 0), (6, .ptr 144 0), (8, .osl 248 248)], heap11 y z (flipN z.Subs z.Subs.length)⟩ 288
def inv11 (z : Innings) (i : Nat) : Prop := i ≤ z.Subs.length
def L11 (i : Nat) : List (Lspec Nat) := [.next (i + 1) [] [], .out [] [] []]
def Λ11 (x : Innings) (a : law11_Act) : Nat → Option LoopSum := find [(10, loopSum ⟨[], [], 288⟩ (J11 (fewW x) (actY (fewW x) a) 0) (T11 (fewW x) (actY (fewW x) a)))]

end Go.Proofs.Ytogdeefpidccmaa

/- Bowlers: the example's specification. -/
namespace Go.Proofs.Ytogdeefpidccmaa
open Go Go.Mir

def spec48 : Den ps0 → PRes := fun _ => ⟨[], .bool true, []⟩
def k48 : FuncId × Ctr := (48, pureCtr K8 ps0 spec48)

end Go.Proofs.Ytogdeefpidccmaa

/- Bowlers: the states of the law of counts. -/
namespace Go.Proofs.Ytogdeefpidccmaa
open Go Go.Mir

def hr13 (h : Nat) (z : Innings) : List (Nat × Blk) :=
  [(h, .row h true (.int .u8) z.Batters), (h + 1, .row (h + 1) true (.int .i64) z.Bowlers), (h + 2, .row (h + 2) true (.int .i64) z.Before), (h + 3, .row (h + 3) true (.int .i64) z.Bowled), (h + 4, .row (h + 4) true .bool z.Subs)]
def hp13 (s : S3) : List (Nat × Blk) :=
  [(6, .cells (rowC 32 s.1)), (5, .cells (osls 4 (flat FUEL (.nm .Rules) quotaR)).1), (4, .row 4 true (.nm .Phase) []), (7, .row 9 true (.slice (.int .i64)) s.2.1), (8, .row 10 true (.int .i64) s.2.2)] ++ hr13 32 s.1
def tm13 (l : List law13_Act) (i : Nat) : List (Nat × V) := [(0, .fsl (.nm .law13_Act) l), (5, .ptr 5 0), (6, .ptr 6 0), (7, .osl 7 9), (8, .osl 8 10), (9, .int .i64 i)]
def actAt13 (l : List law13_Act) (i : Nat) : law13_Act := l.getD i law13_Act.zero
def cnt8 (l : List law13_Act) (i : Nat) : Int := (actAt13 l i).Balls.tmod 8
/-- a ball of the loop: wide, already listed, over -/
def stepP (w c o : Bool) (s : S3) : S3 :=
  (ballY quotaR (bif w then ballY quotaR s.1 false else s.1) true, bif o then s.2.1 ++ [bif c then s.2.2 else s.2.2 ++ [s.1.Bowler]] else s.2.1, bif o then [] else bif c then s.2.2 else s.2.2 ++ [s.1.Bowler])
def J12 (l : List law13_Act) (i : Nat) (q : Nat × S3) : St := ⟨(53, .int .u8 (cnt8 l i)) :: (54, .int .u8 q.1) :: tm13 l i, hp13 q.2, fun _ => none, 40⟩
def T12 (l : List law13_Act) (i : Nat) (s : S3) : Tr := .leaf (.ext 2) ⟨tm13 l i, hp13 (balls (actAt13 l i).Wide (cnt8 l i).toNat s)⟩ 40
def J8 (l : List law13_Act) (q : Nat × S3) : St := ⟨tm13 l q.1, hp13 q.2, fun _ => none, 40⟩
def T8 (l : List law13_Act) (k : Int) : Tr := .leaf (.ext 0) ⟨[(6, .ptr 6 0), (7, .osl 7 9)], hp13 (fin13 l k)⟩ 40

def inv12 (l : List law13_Act) (i : Nat) (s0 : S3) (q : Nat × S3) : Prop := q.1 ≤ (cnt8 l i).toNat ∧ Inv13 (200 + q.1) q.2 ∧ balls (actAt13 l i).Wide ((cnt8 l i).toNat - q.1) q.2 = balls (actAt13 l i).Wide (cnt8 l i).toNat s0
def mu12 (l : List law13_Act) (i : Nat) (q : Nat × S3) : Nat := (cnt8 l i).toNat - q.1
def L12 (q : Nat × S3) : List (Lspec (Nat × S3)) := [.out [] [] [], .next (q.1 + 1, stepP true false true q.2) [(9, 368), (32, 288), (33, 289), (34, 290), (35, 291), (36, 292)] [8],
  .next (q.1 + 1, stepP true false false q.2) [(10, 248), (32, 288), (33, 289), (34, 290), (35, 291), (36, 292)] [],
  .next (q.1 + 1, stepP true true true q.2) [(9, 328), (32, 248), (33, 249), (34, 250), (35, 251), (36, 252)] [8],
  .next (q.1 + 1, stepP true true false q.2) [(32, 248), (33, 249), (34, 250), (35, 251), (36, 252)] [],
  .next (q.1 + 1, stepP false false true q.2) [(9, 312), (32, 232), (33, 233), (34, 234), (35, 235), (36, 236)] [8],
  .next (q.1 + 1, stepP false false false q.2) [(10, 192), (32, 232), (33, 233), (34, 234), (35, 235), (36, 236)] [],
  .next (q.1 + 1, stepP false true true q.2) [(9, 272), (32, 192), (33, 193), (34, 194), (35, 195), (36, 196)] [8],
  .next (q.1 + 1, stepP false true false q.2) [(32, 192), (33, 193), (34, 194), (35, 195), (36, 196)] [], .out [] [] []]

def took (l : List law13_Act) (q : Nat × S3) : S3 := (takeY quotaR q.2.1 (actAt13 l q.1).Player, q.2.2)
def Λ12 (l : List law13_Act) (q : Nat × S3) : Nat → Option LoopSum := find [(12, (loopSum ⟨[(32, 160), (33, 161), (34, 162), (35, 163), (36, 164)], [], 40⟩ (J12 l q.1 (0, took l q)) (T12 l q.1 (took l q))).under (q.1 < l.length))]
def inv8 (l : List law13_Act) (k : Int) (q : Nat × S3) : Prop := q.1 ≤ min l.length 20 ∧ Inv13 (7 * q.1) q.2 ∧ playN l q.1 (min l.length 20 - q.1) q.2 = fin13 l k
def mu8 (l : List law13_Act) (q : Nat × S3) : Nat := min l.length 20 - q.1
def L8 (l : List law13_Act) (q : Nat × S3) : List (Lspec (Nat × S3)) := [.next (q.1 + 1, actS (actAt13 l q.1) q.2) [] [], .out [] [] []]

/-! ## the sums -/
def sumTo (s : S3) (j : Nat) : Int := sumI (s.1.Bowled.take j)
def tmS (n : Int) : List (Nat × V) := [(12, .int .i64 n), (6, .ptr 6 0), (7, .osl 7 9)]
def J26 (s : S3) (j : Nat) : St := ⟨(93, .osl 35 35) :: (94, .int .i64 s.1.Bowled.length) :: (95, .int .i64 j) :: tmS (sumTo s j), hp13 s, fun _ => none, 40⟩
def T26 (s : S3) : Tr := .br true (.leaf (.ext 4) ⟨tmS (sumI s.1.Bowled), hp13 s⟩ 40) (.leaf .ret ⟨[(4, .kb false)], []⟩ 40)
def inv26 (s : S3) (j : Nat) : Prop := j ≤ s.1.Bowled.length
def L26 (j : Nat) : List (Lspec Nat) := [.out [false] [] [], .next (j + 1) [] [], .out [true] [] []]
def overAt (s : S3) (i : Nat) : List Int := s.2.1.getD i []
def J36c (s : S3) (i j : Nat) : St := ⟨(114, .fsl (.int .i64) (overAt s i)) :: (115, .int .i64 (overAt s i).length) :: (116, .int .i64 j) :: (15, .int .i64 i) :: tmS (sumI s.1.Bowled), hp13 s, fun _ => none, 40⟩
def T36c (s : S3) (i : Nat) : Tr := .br true (.leaf (.ext 8) ⟨(15, .int .i64 i) :: tmS (sumI s.1.Bowled), hp13 s⟩ 40) (.leaf .ret ⟨[(4, .kb false)], []⟩ 40)
def inv36c (s : S3) (i j : Nat) : Prop := j ≤ (overAt s i).length
def L36c (j : Nat) : List (Lspec Nat) := [.out [false] [] [], .next (j + 1) [] [], .out [true] [] []]
def Λ36c (s : S3) (i : Nat) : Nat → Option LoopSum := find [(36, (loopSum ⟨[], [], 40⟩ (J36c s i 0) (T36c s i)).under (i < s.2.1.length))]
def J33 (s : S3) (i : Nat) : St := ⟨(15, .int .i64 i) :: tmS (sumI s.1.Bowled), hp13 s, fun _ => none, 40⟩
def T33 (s : S3) : Tr := .br true (.leaf (.ext 6) ⟨tmS (sumI s.1.Bowled), hp13 s⟩ 40) (.leaf .ret ⟨[(4, .kb false)], []⟩ 40)
def inv33 (s : S3) (i : Nat) : Prop := 1 ≤ i ∧ i ≤ s.2.1.length + 1
def L33 (i : Nat) : List (Lspec Nat) := [.next (i + 1) [] [], .out [false] [] [], .out [true] [] []]
def Λ13 (l : List law13_Act) (k : Int) : Nat → Option LoopSum := find
  [(8, loopSum ⟨[(6, 96), (5, 32), (4, 24), (35, 48), (36, 56)], [7, 8, 32, 33, 34], 40⟩ (J8 l (0, (z0 ((IntKind.i64.wrap k).tmod 5), [], []))) (T8 l ((IntKind.i64.wrap k).tmod 5))),
   (26, loopSum ⟨[], [], 40⟩ (J26 (fin13 l ((IntKind.i64.wrap k).tmod 5)) 0) (T26 (fin13 l ((IntKind.i64.wrap k).tmod 5)))),
   (33, loopSum ⟨[], [], 40⟩ (J33 (fin13 l ((IntKind.i64.wrap k).tmod 5)) 1) (T33 (fin13 l ((IntKind.i64.wrap k).tmod 5))))]

end Go.Proofs.Ytogdeefpidccmaa

/- The mirror, part 23: tries, and values written out in full (for runs by the kernel). -/
namespace Go.Mir
open Go.RowKit

/-- an end, or where it broke off -/
inductive Rn (γ : Type) where
  | ok (r : γ)
  | no (w : List Nat)

inductive Tri (α : Type) where
  | lf
  | nd (l : Tri α) (v : Option α) (r : Tri α)

def Tri.get {α : Type} (t : Tri α) : Nat → Option α :=
  match t with
  | .lf => fun _ => none
  | .nd l v r => fun k => Nat.casesOn (motive := fun _ => Option α) k v fun k => Bool.casesOn (motive := fun _ => Option α) (Nat.beq (Nat.mod k 2) 0) (r.get (Nat.div k 2)) (l.get (Nat.div k 2))

def Tri.inL {α γ : Type} (κ : Tri α → Rn γ) (w : Option α) (r l : Tri α) : Rn γ := κ (.nd l w r)
def Tri.inR {α γ : Type} (κ : Tri α → Rn γ) (l : Tri α) (w : Option α) (r : Tri α) : Rn γ := κ (.nd l w r)

/-- put, then go on -/
def Tri.setK {α γ : Type} (f : Nat) : Tri α → Nat → α → (Tri α → Rn γ) → Rn γ :=
  match f with
  | 0 => fun _ _ _ _ => .no [1]
  | f + 1 => fun t => Tri.casesOn (motive := fun _ => Nat → α → (Tri α → Rn γ) → Rn γ) t
    (fun k v κ => Nat.casesOn (motive := fun _ => Rn γ) k (κ (.nd .lf (some v) .lf)) fun k => Bool.casesOn (motive := fun _ => Rn γ) (Nat.beq (Nat.mod k 2) 0) (Tri.setK f .lf (Nat.div k 2) v (Tri.inR κ .lf none)) (Tri.setK f .lf (Nat.div k 2) v (Tri.inL κ none .lf)))
    (fun l w r k v κ => Nat.casesOn (motive := fun _ => Rn γ) k (κ (.nd l (some v) r)) fun k => Bool.casesOn (motive := fun _ => Rn γ) (Nat.beq (Nat.mod k 2) 0) (Tri.setK f r (Nat.div k 2) v (Tri.inR κ l w)) (Tri.setK f l (Nat.div k 2) v (Tri.inL κ w r)))

theorem Tri.get_lf {α : Type} (k : Nat) : (Tri.lf : Tri α).get k = none := rfl
theorem Tri.get_zero {α : Type} (l : Tri α) (v : Option α) (r : Tri α) : (Tri.nd l v r).get 0 = v := rfl
theorem Tri.get_succ {α : Type} (l : Tri α) (v : Option α) (r : Tri α) (k : Nat) : (Tri.nd l v r).get (k + 1) = bif Nat.beq (Nat.mod k 2) 0 then l.get (Nat.div k 2) else r.get (Nat.div k 2) := by
  show Bool.casesOn (motive := fun _ => Option α) (Nat.beq (Nat.mod k 2) 0) (r.get (Nat.div k 2)) (l.get (Nat.div k 2)) = _
  cases Nat.beq (Nat.mod k 2) 0 <;> rfl
theorem Tri.setK_lf {α γ : Type} (f k : Nat) (v : α) (κ : Tri α → Rn γ) : Tri.setK (f + 1) .lf k v κ = match k with
    | 0 => κ (.nd .lf (some v) .lf)
    | k + 1 => bif Nat.beq (Nat.mod k 2) 0 then Tri.setK f .lf (Nat.div k 2) v fun l => κ (.nd l none .lf) else Tri.setK f .lf (Nat.div k 2) v fun r => κ (.nd .lf none r) := by
  cases k with
  | zero => rfl
  | succ k =>
    show Bool.casesOn (motive := fun _ => Rn γ) (Nat.beq (Nat.mod k 2) 0) (Tri.setK f .lf (Nat.div k 2) v (Tri.inR κ .lf none)) (Tri.setK f .lf (Nat.div k 2) v (Tri.inL κ none .lf)) = bif Nat.beq (Nat.mod k 2) 0 then Tri.setK f .lf (Nat.div k 2) v fun l => κ (.nd l none .lf) else Tri.setK f .lf (Nat.div k 2) v fun r => κ (.nd .lf none r)
    cases Nat.beq (Nat.mod k 2) 0 <;> rfl
theorem Tri.setK_nd {α γ : Type} (f k : Nat) (v : α) (κ : Tri α → Rn γ) (l : Tri α) (w : Option α) (r : Tri α) : Tri.setK (f + 1) (.nd l w r) k v κ = match k with
    | 0 => κ (.nd l (some v) r)
    | k + 1 => bif Nat.beq (Nat.mod k 2) 0 then Tri.setK f l (Nat.div k 2) v fun l => κ (.nd l w r) else Tri.setK f r (Nat.div k 2) v fun r => κ (.nd l w r) := by
  cases k with
  | zero => rfl
  | succ k =>
    show Bool.casesOn (motive := fun _ => Rn γ) (Nat.beq (Nat.mod k 2) 0) (Tri.setK f r (Nat.div k 2) v (Tri.inR κ l w)) (Tri.setK f l (Nat.div k 2) v (Tri.inL κ w r)) = bif Nat.beq (Nat.mod k 2) 0 then Tri.setK f l (Nat.div k 2) v fun l => κ (.nd l w r) else Tri.setK f r (Nat.div k 2) v fun r => κ (.nd l w r)
    cases Nat.beq (Nat.mod k 2) 0 <;> rfl

theorem half_inj {i j : Nat} (h : i % 2 = j % 2) (h2 : i / 2 = j / 2) : i = j := by omega

theorem Tri.setK_some {α γ : Type} : ∀ {f : Nat} {t : Tri α} {k : Nat} {v : α} {κ : Tri α → Rn γ} {r : γ}, Tri.setK f t k v κ = .ok r → ∃ t', κ t' = .ok r ∧ ∀ j, t'.get j = if j = k then some v else t.get j
  | 0, _, _, _, _, _, h => by cases h
  | f + 1, .lf, k, v, κ, r, h => by
    rw [Tri.setK_lf] at h
    cases k with
    | zero =>
      refine ⟨_, h, fun j => ?_⟩
      cases j with
      | zero => simp [Tri.get_zero, Tri.get_lf]
      | succ j => simp only [Tri.get_succ, Tri.get_lf]; cases Nat.beq (Nat.mod j 2) 0 <;> simp
    | succ k =>
      simp only at h
      cases hb : Nat.beq (Nat.mod k 2) 0 with
      | true =>
        rw [hb] at h
        obtain ⟨l, h1, h2⟩ := Tri.setK_some h
        refine ⟨_, h1, fun j => ?_⟩
        have hk : k % 2 = 0 := Nat.eq_of_beq_eq_true hb
        cases j with
        | zero => simp [Tri.get_zero, Tri.get_lf]
        | succ j =>
          simp only [Tri.get_succ, Tri.get_lf]
          cases hj : Nat.beq (Nat.mod j 2) 0 with
          | true =>
            have hj' : j % 2 = 0 := Nat.eq_of_beq_eq_true hj
            simp only [cond_true, h2]
            by_cases e : j = k
            · subst e; simp
            · have : ¬ Nat.div j 2 = Nat.div k 2 := fun e2 => e (half_inj (by omega) e2)
              simp [this, e, Tri.get_lf]
          | false =>
            have : ¬ j = k := fun e => by subst e; rw [hb] at hj; cases hj
            simp [this, Tri.get_lf]
      | false =>
        rw [hb] at h
        obtain ⟨l, h1, h2⟩ := Tri.setK_some h
        refine ⟨_, h1, fun j => ?_⟩
        have hk : ¬ k % 2 = 0 := fun e => by
          have : Nat.beq (Nat.mod k 2) 0 = true := by rw [Nat.beq_eq]; exact e
          rw [this] at hb; cases hb
        cases j with
        | zero => simp [Tri.get_zero, Tri.get_lf]
        | succ j =>
          simp only [Tri.get_succ, Tri.get_lf]
          cases hj : Nat.beq (Nat.mod j 2) 0 with
          | false =>
            have hj' : ¬ j % 2 = 0 := fun e => by
              have : Nat.beq (Nat.mod j 2) 0 = true := by rw [Nat.beq_eq]; exact e
              rw [this] at hj; cases hj
            simp only [cond_false, h2]
            by_cases e : j = k
            · subst e; simp
            · have : ¬ Nat.div j 2 = Nat.div k 2 := fun e2 => e (half_inj (by omega) e2)
              simp [this, e, Tri.get_lf]
          | true =>
            have : ¬ j = k := fun e => by subst e; rw [hb] at hj; cases hj
            simp [this, Tri.get_lf]
  | f + 1, .nd l0 w r0, k, v, κ, r, h => by
    rw [Tri.setK_nd] at h
    cases k with
    | zero =>
      refine ⟨_, h, fun j => ?_⟩
      cases j with
      | zero => simp [Tri.get_zero, Tri.get_lf]
      | succ j => simp only [Tri.get_succ, Tri.get_lf]; simp
    | succ k =>
      simp only at h
      cases hb : Nat.beq (Nat.mod k 2) 0 with
      | true =>
        rw [hb] at h
        obtain ⟨l, h1, h2⟩ := Tri.setK_some h
        refine ⟨_, h1, fun j => ?_⟩
        have hk : k % 2 = 0 := Nat.eq_of_beq_eq_true hb
        cases j with
        | zero => simp [Tri.get_zero, Tri.get_lf]
        | succ j =>
          simp only [Tri.get_succ, Tri.get_lf]
          cases hj : Nat.beq (Nat.mod j 2) 0 with
          | true =>
            have hj' : j % 2 = 0 := Nat.eq_of_beq_eq_true hj
            simp only [cond_true, h2]
            by_cases e : j = k
            · subst e; simp
            · have : ¬ Nat.div j 2 = Nat.div k 2 := fun e2 => e (half_inj (by omega) e2)
              simp [this, e]
          | false =>
            have : ¬ j = k := fun e => by subst e; rw [hb] at hj; cases hj
            simp [this]
      | false =>
        rw [hb] at h
        obtain ⟨l, h1, h2⟩ := Tri.setK_some h
        refine ⟨_, h1, fun j => ?_⟩
        have hk : ¬ k % 2 = 0 := fun e => by
          have : Nat.beq (Nat.mod k 2) 0 = true := by rw [Nat.beq_eq]; exact e
          rw [this] at hb; cases hb
        cases j with
        | zero => simp [Tri.get_zero, Tri.get_lf]
        | succ j =>
          simp only [Tri.get_succ, Tri.get_lf]
          cases hj : Nat.beq (Nat.mod j 2) 0 with
          | false =>
            have hj' : ¬ j % 2 = 0 := fun e => by
              have : Nat.beq (Nat.mod j 2) 0 = true := by rw [Nat.beq_eq]; exact e
              rw [this] at hj; cases hj
            simp only [cond_false, h2]
            by_cases e : j = k
            · subst e; simp
            · have : ¬ Nat.div j 2 = Nat.div k 2 := fun e2 => e (half_inj (by omega) e2)
              simp [this, e]
          | true =>
            have : ¬ j = k := fun e => by subst e; rw [hb] at hj; cases hj
            simp [this]

/-! ## written out in full -/

def forceN {γ : Type} (n : Nat) (κ : Nat → Rn γ) : Rn γ := Nat.casesOn (motive := fun _ => Rn γ) n (κ 0) fun m => κ (Nat.succ m)
theorem forceN_eq {γ : Type} (n : Nat) (κ : Nat → Rn γ) : forceN n κ = κ n := by cases n <;> rfl

def forceI {γ : Type} (n : Int) (κ : Int → Rn γ) : Rn γ := Int.casesOn (motive := fun _ => Rn γ) n (fun m => forceN m fun m => κ (.ofNat m)) fun m => forceN m fun m => κ (.negSucc m)
theorem forceI_eq {γ : Type} (n : Int) (κ : Int → Rn γ) : forceI n κ = κ n := by cases n <;> simp [forceI, forceN_eq]

def forceB {γ : Type} (b : Bool) (κ : Bool → Rn γ) : Rn γ := Bool.casesOn (motive := fun _ => Rn γ) b (κ false) (κ true)
theorem forceB_eq {γ : Type} (b : Bool) (κ : Bool → Rn γ) : forceB b κ = κ b := by cases b <;> rfl

def forceIK {γ : Type} (k : IntKind) (κ : IntKind → Rn γ) : Rn γ := IntKind.casesOn (motive := fun _ => Rn γ) k (κ .i8) (κ .i16) (κ .i32) (κ .i64) (κ .u8) (κ .u16) (κ .u32) (κ .u64)
theorem forceIK_eq {γ : Type} (k : IntKind) (κ : IntKind → Rn γ) : forceIK k κ = κ k := by cases k <;> rfl

def forceBs {γ : Type} : List UInt8 → (List UInt8 → Rn γ) → Rn γ
  | [], κ => κ []
  | b :: r, κ => forceN b.toNat fun n => forceBs r fun r => κ (UInt8.ofNat n :: r)
theorem forceBs_eq {γ : Type} : ∀ (l : List UInt8) (κ : List UInt8 → Rn γ), forceBs l κ = κ l
  | [], _ => rfl
  | b :: r, κ => by simp [forceBs, forceN_eq, forceBs_eq r]

def forceS {γ : Type} (s : ByteArray) (κ : ByteArray → Rn γ) : Rn γ := forceBs s.data.toList fun l => κ ⟨⟨l⟩⟩
theorem forceS_eq {γ : Type} (s : ByteArray) (κ : ByteArray → Rn γ) : forceS s κ = κ s := by simp [forceS, forceBs_eq]

def fInt {γ : Type} (k : IntKind) (n : Int) (κ : V → Rn γ) : Rn γ := forceI n fun n => κ (.int k n)
def fGsl {γ : Type} (h v e o l : Nat) (κ : V → Rn γ) : Rn γ := forceN h fun h => forceN v fun v => forceN e fun e => forceN o fun o => forceN l fun l => κ (.gsl h v e o l)
def fGp {γ : Type} (h v o : Nat) (κ : V → Rn γ) : Rn γ := forceN h fun h => forceN v fun v => forceN o fun o => κ (.gp h v o)
def fPtr {γ : Type} (h o : Nat) (κ : V → Rn γ) : Rn γ := forceN h fun h => forceN o fun o => κ (.ptr h o)
def fStr {γ : Type} (s : ByteArray) (κ : V → Rn γ) : Rn γ := forceS s fun s => κ (.str s)
def fFsl {γ : Type} (t : Ty) (xs : List (Den t)) (κ : V → Rn γ) : Rn γ := match xs with
  | [] => κ (.fsl t [])
  | _ :: _ => .no [2]

mutual
def forceV {γ : Type} : V → (V → Rn γ) → Rn γ
  | .any, κ => κ .any
  | .int k n, κ => fInt k n κ
  | .bool b, κ => forceB b fun b => κ (.bool b)
  | .kb b, κ => forceB b fun b => κ (.kb b)
  | .hint _ _, _ => .no [2]
  | .str s, κ => fStr s κ
  | .nilptr, κ => κ .nilptr
  | .ptr h o, κ => fPtr h o κ
  | .fp _ _ _ _, _ => .no [2]
  | .rp _ _ _ _, _ => .no [2]
  | .nilsl, κ => κ .nilsl
  | .esl, κ => κ .esl
  | .osl _ _, _ => .no [2]
  | .fsl t xs, κ => fFsl t xs κ
  | .gsl h v e o l, κ => fGsl h v e o l κ
  | .gp h v o, κ => fGp h v o κ
  | .mpv h, κ => forceN h fun h => κ (.mpv h)
  | .nilfn, κ => κ .nilfn
  | .nilmap, κ => κ .nilmap
  | .fn f cs, κ => forceN f fun f => forceVs cs fun cs => κ (.fn f cs)
  | .agg cs, κ => forceVs cs fun cs => κ (.agg cs)
  | .tup cs, κ => forceVs cs fun cs => κ (.tup cs)
def forceVs {γ : Type} : List V → (List V → Rn γ) → Rn γ
  | [], κ => κ []
  | v :: vs, κ => forceV v fun v => forceVs vs fun vs => κ (v :: vs)
end

mutual
theorem forceV_some {γ : Type} : ∀ (v : V) (κ : V → Rn γ) (r : γ), forceV v κ = .ok r → κ v = .ok r
  | .any, κ, r, h => h
  | .int k n, κ, r, h => by simpa only [forceV, fInt, forceI_eq] using h
  | .bool b, κ, r, h => by simpa only [forceV, forceB_eq] using h
  | .kb b, κ, r, h => by simpa only [forceV, forceB_eq] using h
  | .hint _ _, κ, r, h => by simp [forceV] at h
  | .str s, κ, r, h => by simpa only [forceV, fStr, forceS_eq] using h
  | .nilptr, κ, r, h => h
  | .ptr _ _, κ, r, h => by simpa only [forceV, fPtr, fGsl, fGp, forceN_eq] using h
  | .fp _ _ _ _, κ, r, h => by simp [forceV] at h
  | .rp _ _ _ _, κ, r, h => by simp [forceV] at h
  | .nilsl, κ, r, h => h
  | .esl, κ, r, h => h
  | .osl _ _, κ, r, h => by simp [forceV] at h
  | .fsl _ [], κ, r, h => h
  | .fsl _ (_ :: _), κ, r, h => by simp [forceV, fFsl] at h
  | .gsl _ _ _ _ _, κ, r, h => by simpa only [forceV, fPtr, fGsl, fGp, forceN_eq] using h
  | .gp _ _ _, κ, r, h => by simpa only [forceV, fPtr, fGsl, fGp, forceN_eq] using h
  | .mpv _, κ, r, h => by simpa only [forceV, fPtr, fGsl, fGp, forceN_eq] using h
  | .nilfn, κ, r, h => h
  | .nilmap, κ, r, h => h
  | .fn f cs, κ, r, h => by
    simp only [forceV, forceN_eq] at h
    exact forceVs_some cs (fun cs => κ (.fn f cs)) r h
  | .agg cs, κ, r, h => by
    simp only [forceV] at h
    exact forceVs_some cs (fun cs => κ (.agg cs)) r h
  | .tup cs, κ, r, h => by
    simp only [forceV] at h
    exact forceVs_some cs (fun cs => κ (.tup cs)) r h
theorem forceVs_some {γ : Type} : ∀ (vs : List V) (κ : List V → Rn γ) (r : γ), forceVs vs κ = .ok r → κ vs = .ok r
  | [], κ, r, h => h
  | v :: vs, κ, r, h => by
    simp only [forceVs] at h
    exact forceVs_some vs (fun vs => κ (v :: vs)) r (forceV_some v (fun v => forceVs vs fun vs => κ (v :: vs)) r h)
end

def forceEs {γ : Type} : List (V × V) → (List (V × V) → Rn γ) → Rn γ
  | [], κ => κ []
  | (a, b) :: r, κ => forceV a fun a => forceV b fun b => forceEs r fun r => κ ((a, b) :: r)
theorem forceEs_some {γ : Type} : ∀ (es : List (V × V)) (κ : List (V × V) → Rn γ) (r : γ), forceEs es κ = .ok r → κ es = .ok r
  | [], _, _, h => h
  | (a, b) :: es, κ, r, h => by
    simp only [forceEs] at h
    exact forceEs_some es (fun es => κ ((a, b) :: es)) r (forceV_some _ _ _ (forceV_some _ _ _ h))

def forceBlk {γ : Type} : Blk → (Blk → Rn γ) → Rn γ
  | .cells cs, κ => forceVs cs fun cs => κ (.cells cs)
  | .grow v e cs, κ => forceN v fun v => forceN e fun e => forceVs cs fun cs => κ (.grow v e cs)
  | .mp es, κ => forceEs es fun es => κ (.mp es)
  | .row _ _ _ _, _ => .no [2]
theorem forceBlk_some {γ : Type} : ∀ (b : Blk) (κ : Blk → Rn γ) (r : γ), forceBlk b κ = .ok r → κ b = .ok r
  | .cells cs, κ, r, h => forceVs_some cs (fun cs => κ (.cells cs)) r h
  | .grow v e cs, κ, r, h => by
    simp only [forceBlk, forceN_eq] at h
    exact forceVs_some cs (fun cs => κ (.grow v e cs)) r h
  | .mp es, κ, r, h => forceEs_some es (fun es => κ (.mp es)) r h
  | .row _ _ _ _, κ, r, h => by simp [forceBlk] at h

def setsK {γ : Type} : List (Nat × Blk) → Tri Blk → (Tri Blk → Rn γ) → Rn γ
  | [], t, κ => κ t
  | (h, b) :: r, t, κ => setsK r t fun t => forceN h fun h => forceBlk b fun b => Tri.setK 64 t h b κ
theorem setsK_some {γ : Type} : ∀ (l : List (Nat × Blk)) (t : Tri Blk) (κ : Tri Blk → Rn γ) (r : γ), setsK l t κ = .ok r → ∃ t', κ t' = .ok r ∧ t'.get = hset t.get l
  | [], t, κ, r, h => ⟨t, h, rfl⟩
  | (a, b) :: l, t, κ, r, h => by
    simp only [setsK] at h
    obtain ⟨t1, h1, h2⟩ := setsK_some l t _ r h
    rw [forceN_eq] at h1
    have h3 := forceBlk_some b _ r h1
    obtain ⟨t2, h4, h5⟩ := Tri.setK_some h3
    refine ⟨t2, h4, ?_⟩
    funext j
    rw [h5, h2]
    simp only [hset, find]
    cases hb : Nat.beq a j with
    | true => rw [if_pos (Nat.eq_of_beq_eq_true hb).symm]; rfl
    | false =>
      rw [if_neg (fun e => by subst e; rw [Nat.beq_refl] at hb; cases hb)]
      rfl

/-! ## the same -/

def IntKind.eqb (a b : IntKind) : Bool := decide (a = b)

mutual
def V.eqb : V → V → Bool
  | .any, .any => true
  | .int k n, .int k' n' => decide (k = k') && decide (n = n')
  | .bool a, .bool b => decide (a = b)
  | .kb a, .kb b => decide (a = b)
  | .str s, .str t => decide (s.data.toList = t.data.toList)
  | .nilptr, .nilptr => true
  | .ptr h o, .ptr h' o' => Nat.beq h h' && Nat.beq o o'
  | .nilsl, .nilsl => true
  | .esl, .esl => true
  | .gsl h v e o l, .gsl h' v' e' o' l' => Nat.beq h h' && Nat.beq v v' && Nat.beq e e' && Nat.beq o o' && Nat.beq l l'
  | .gp h v o, .gp h' v' o' => Nat.beq h h' && Nat.beq v v' && Nat.beq o o'
  | .mpv h, .mpv h' => Nat.beq h h'
  | .nilfn, .nilfn => true
  | .nilmap, .nilmap => true
  | .fn f cs, .fn f' cs' => Nat.beq f f' && eqbs cs cs'
  | .agg cs, .agg cs' => eqbs cs cs'
  | .tup cs, .tup cs' => eqbs cs cs'
  | _, _ => false
def eqbs : List V → List V → Bool
  | [], [] => true
  | x :: xs, y :: ys => V.eqb x y && eqbs xs ys
  | _, _ => false
end

mutual
theorem V.eqb_eq : ∀ (x y : V), V.eqb x y = true → x = y
  | .any, y, h => by cases y <;> simp_all [V.eqb]
  | .int k n, y, h => by cases y <;> simp_all [V.eqb]
  | .bool _, y, h => by cases y <;> simp_all [V.eqb]
  | .kb _, y, h => by cases y <;> simp_all [V.eqb]
  | .hint _ _, y, h => by cases y <;> simp [V.eqb] at h
  | .str s, y, h => by
    cases y <;> simp only [V.eqb, Bool.false_eq_true, decide_eq_true_eq] at h
    rename_i t
    have : s = t := ByteArray.ext (Array.toList_inj.1 h)
    rw [this]
  | .nilptr, y, h => by cases y <;> simp_all [V.eqb]
  | .ptr _ _, y, h => by cases y <;> simp_all [V.eqb]
  | .fp _ _ _ _, y, h => by cases y <;> simp [V.eqb] at h
  | .rp _ _ _ _, y, h => by cases y <;> simp [V.eqb] at h
  | .nilsl, y, h => by cases y <;> simp_all [V.eqb]
  | .esl, y, h => by cases y <;> simp_all [V.eqb]
  | .osl _ _, y, h => by cases y <;> simp [V.eqb] at h
  | .fsl _ _, y, h => by cases y <;> simp [V.eqb] at h
  | .gsl _ _ _ _ _, y, h => by cases y <;> simp_all [V.eqb]
  | .gp _ _ _, y, h => by cases y <;> simp_all [V.eqb]
  | .mpv _, y, h => by cases y <;> simp_all [V.eqb]
  | .nilfn, y, h => by cases y <;> simp_all [V.eqb]
  | .nilmap, y, h => by cases y <;> simp_all [V.eqb]
  | .fn f cs, y, h => by
    cases y <;> simp only [V.eqb, Bool.false_eq_true, Bool.and_eq_true, Nat.beq_eq] at h
    rw [h.1, eqbs_eq _ _ h.2]
  | .agg cs, y, h => by
    cases y <;> simp only [V.eqb, Bool.false_eq_true] at h
    rw [eqbs_eq _ _ h]
  | .tup cs, y, h => by
    cases y <;> simp only [V.eqb, Bool.false_eq_true] at h
    rw [eqbs_eq _ _ h]
theorem eqbs_eq : ∀ (xs ys : List V), eqbs xs ys = true → xs = ys
  | [], [], _ => rfl
  | [], _ :: _, h => by simp [eqbs] at h
  | _ :: _, [], h => by simp [eqbs] at h
  | x :: xs, y :: ys, h => by
    simp only [eqbs, Bool.and_eq_true] at h
    rw [V.eqb_eq _ _ h.1, eqbs_eq _ _ h.2]
end

def eqbE : List (V × V) → List (V × V) → Bool
  | [], [] => true
  | (a, b) :: xs, (c, d) :: ys => V.eqb a c && V.eqb b d && eqbE xs ys
  | _, _ => false
theorem eqbE_eq : ∀ (xs ys : List (V × V)), eqbE xs ys = true → xs = ys
  | [], [], _ => rfl
  | [], _ :: _, h => by simp [eqbE] at h
  | _ :: _, [], h => by simp [eqbE] at h
  | (a, b) :: xs, (c, d) :: ys, h => by
    simp only [eqbE, Bool.and_eq_true] at h
    rw [V.eqb_eq _ _ h.1.1, V.eqb_eq _ _ h.1.2, eqbE_eq _ _ h.2]

def eqbB : Option Blk → Option Blk → Bool
  | some (.cells a), some (.cells b) => eqbs a b
  | some (.grow v e a), some (.grow v' e' b) => Nat.beq v v' && Nat.beq e e' && eqbs a b
  | some (.mp a), some (.mp b) => eqbE a b
  | _, _ => false
theorem eqbB_eq : ∀ (x y : Option Blk), eqbB x y = true → x = y
  | some (.cells a), some (.cells b), h => by simp only [eqbB] at h; rw [eqbs_eq _ _ h]
  | some (.grow v e a), some (.grow v' e' b), h => by simp only [eqbB, Bool.and_eq_true, Nat.beq_eq] at h; rw [h.1.1, h.1.2, eqbs_eq _ _ h.2]
  | some (.mp a), some (.mp b), h => by simp only [eqbB] at h; rw [eqbE_eq _ _ h]
  | none, y, h => by simp [eqbB] at h
  | some (.row _ _ _ _), y, h => by simp [eqbB] at h
  | some (.cells _), none, h => by simp [eqbB] at h
  | some (.grow _ _ _), none, h => by simp [eqbB] at h
  | some (.mp _), none, h => by simp [eqbB] at h
  | some (.cells _), some (.grow _ _ _), h => by simp [eqbB] at h
  | some (.cells _), some (.mp _), h => by simp [eqbB] at h
  | some (.cells _), some (.row _ _ _ _), h => by simp [eqbB] at h
  | some (.grow _ _ _), some (.cells _), h => by simp [eqbB] at h
  | some (.grow _ _ _), some (.mp _), h => by simp [eqbB] at h
  | some (.grow _ _ _), some (.row _ _ _ _), h => by simp [eqbB] at h
  | some (.mp _), some (.cells _), h => by simp [eqbB] at h
  | some (.mp _), some (.grow _ _ _), h => by simp [eqbB] at h
  | some (.mp _), some (.row _ _ _ _), h => by simp [eqbB] at h

end Go.Mir

/- The mirror, part 24: runs on values that are known, for the kernel. -/
namespace Go.Mir
open Go.RowKit

variable {P : Program}

def Ob.chk : Ob → Bool
  | .rng n len => decide (0 ≤ n) && decide (n < (len : Int))
  | .sub l h len => decide (0 ≤ l) && decide (l ≤ h) && decide (h ≤ (len : Int))
  | .mk n c => decide (0 ≤ n) && decide (c = n) && decide (n ≤ 17179869184)
  | .mkc n c => decide (0 ≤ n) && decide (n ≤ c) && decide (c ≤ 17179869184)
  | .ne0 n => !decide (n = 0)
  | .leN a b => Nat.ble a b
  | .prop _ => false
theorem Ob.chk_holds : ∀ {p : Ob}, p.chk = true → p.holds
  | .rng n len, h => by simpa [Ob.chk, Ob.holds] using h
  | .sub l h len, hh => by simp only [Ob.chk, Bool.and_eq_true, decide_eq_true_eq] at hh; exact ⟨hh.1.1, hh.1.2, hh.2⟩
  | .mk n c, h => by simp only [Ob.chk, Bool.and_eq_true, decide_eq_true_eq] at h; exact ⟨h.1.1, h.1.2, h.2⟩
  | .mkc n c, h => by simp only [Ob.chk, Bool.and_eq_true, decide_eq_true_eq] at h; exact ⟨h.1.1, h.1.2, h.2⟩
  | .ne0 n, h => by simpa [Ob.chk, Ob.holds] using h
  | .leN a b, h => Nat.le_of_ble_eq_true h

def lookT (t : Tri V) (i : Nat) : V := Option.casesOn (motive := fun _ => V) (t.get i) .any fun v => v

def opndT (t : Tri V) : Operand → V
  | .tmp i => lookT t i
  | .const v => cv v
  | .func f => .fn f []
  | .global _ => .any

def guardT (all : List Oper) (t : Tri V) (o : Oper) : Option Bool :=
  match o.guard with
  | none => some true
  | some (j, want) => match all[j]? with
    | some oj => match oj.dst with
      | some dj => match lookT t dj with
        | .kb b => some (b == want)
        | .tup [] => some false
        | _ => none
      | none => none
    | none => none

def toKb : V → V
  | .bool b => .kb b
  | v => v

def putK {γ : Type} (d : Option Nat) (v : V) (t : Tri V) (κ : Tri V → Rn γ) : Rn γ :=
  match d with
  | some d => Tri.setK 64 t d (toKb v) κ
  | none => κ t

/-- the state of a run -/
structure RS where
  tm : Tri V
  hp : Tri Blk
  nx : Nat

/-- callees: function, arguments, heap, first free name -/
abbrev CallR := FuncId → List V → Tri Blk → Nat → Rn (V × Tri Blk × Nat)

/-! ### single operations, each in a small piece -/

def rVal (r : Res) : Option (List Ob × V × List (Nat × Blk)) := match r with
  | .val ps v dh => some (ps, v, dh)
  | _ => none
abbrev R1 := Option (List Ob × V × List (Nat × Blk))
def rStore (tb : Tbl) (H : Heap) (ev : Operand → V) (t : TypeId) (a x : Operand) : R1 := match tb t with
  | some td => match evStoreG td H (ev a) (ev x) with
    | .skip ps dh => some (ps, .tup [], dh)
    | _ => none
  | none => none
def rMove (ev : Operand → V) (x : Operand) : R1 := some ([], ev x, [])
def rPick (ev : Operand → V) (c a b : Operand) : R1 := rVal (evPick (ev c) (ev a) (ev b))
def rAlloc (tb : Tbl) (m : Nat) (t : TypeId) : R1 := match tb t with | some td => some ([], .ptr m 0, [(m, .cells td.zero)]) | none => none
def rBox (m : Nat) (ev : Operand → V) (x : Operand) : R1 := match cellsOf (ev x) with | some cs => some ([], .ptr m 0, [(m, .cells cs)]) | none => none
def rBuild (tb : Tbl) (ev : Operand → V) (t : TypeId) (parts : Array (Nat × Operand)) : R1 := match tb t with | some td => rVal (evBuild tb td (parts.toList.map fun p => (p.1, ev p.2))) | none => none
def rBuildSlice (tb : Tbl) (m : Nat) (H : Heap) (ev : Operand → V) (t : TypeId) (n : Nat) (parts : Array (Nat × Operand)) : R1 := match tb t with | some td => rVal (evBuildSliceG tb td H m n (parts.toList.map fun p => (p.1, ev p.2))) | none => none
def rLoad (tb : Tbl) (H : Heap) (ev : Operand → V) (t : TypeId) (a : Operand) : R1 := match tb t with | some td => rVal (evLoadG td H (ev a)) | none => none
def rNil (ev : Operand → V) (x : Operand) : R1 := rVal (evNil (ev x))
def rBin (tb : Tbl) (ev : Operand → V) (op : BinOp) (t : TypeId) (x y : Operand) : R1 := match tb t with | some td => rVal (evBin td op (ev x) (ev y)) | none => none
def rUn (ev : Operand → V) (op : UnOp) (x : Operand) : R1 := rVal (evUn op (ev x))
def rConv (tb : Tbl) (m : Nat) (ev : Operand → V) (s d : TypeId) (x : Operand) : R1 := match tb s, tb d with | some ts, some td => rVal (evConv2 tb ts td m (ev x)) | _, _ => none
def rFunc (ev : Operand → V) (fn : Fn) (first caps : Array Operand) : R1 := match fn with
  | .func f => if first.size = 0 then some ([], .fn f (caps.toList.map ev), []) else none
  | _ => none
def rMake (tb : Tbl) (m : Nat) (H : Heap) (ev : Operand → V) (t : TypeId) (l c : Operand) : R1 := match tb t with | some td => rVal (evMakeSliceG tb td H m (ev l) (ev c)) | none => none
def rSlice (tb : Tbl) (H : Heap) (ev : Operand → V) (t : TypeId) (x : Operand) (lo hi mx : Option Operand) : R1 := match tb t with | some td => rVal (evSliceG tb td H (ev x) (lo.map ev) (hi.map ev) (mx.map ev)) | none => none
def rField (tb : Tbl) (ev : Operand → V) (t : TypeId) (x : Operand) (f : Nat) : R1 := match tb t with | some td => rVal (evFieldG tb td (ev x) f) | none => none
def rFieldV (tb : Tbl) (ev : Operand → V) (t : TypeId) (x : Operand) (f : Nat) : R1 := match tb t with | some td => rVal (evFieldVal tb td (ev x) f) | none => none
def rIndex (tb : Tbl) (H : Heap) (ev : Operand → V) (t : TypeId) (x i : Operand) : R1 := match tb t with | some td => rVal (evIndexG tb td H (ev x) (ev i)) | none => none
def rIdxV (tb : Tbl) (ev : Operand → V) (t : TypeId) (x i : Operand) : R1 := match tb t with | some td => rVal (evIdxVal td (ev x) (ev i)) | none => none
def rExtract (ev : Operand → V) (t : Operand) (i : Nat) : R1 := rVal (evExtract (ev t) i)

/-- one operation, not a call of a function -/
def evAnyR (tb : Tbl) (N m : Nat) (H : Heap) (ev : Operand → V) (op : Op) : R1 := match op with
  | .store t a x => rStore tb H ev t a x
  | .move x => rMove ev x
  | .assign x => rMove ev x
  | .pick c a b => rPick ev c a b
  | .alloc t => rAlloc tb m t
  | .box _ x => rBox m ev x
  | .build t parts => rBuild tb ev t parts
  | .buildSlice t n parts => rBuildSlice tb m H ev t n parts
  | .load t a => rLoad tb H ev t a
  | .nilCheck x => rNil ev x
  | .binOp op t x y _ => rBin tb ev op t x y
  | .unOp op _ x => rUn ev op x
  | .convert s d x => rConv tb m ev s d x
  | .makeFunc fn first caps => rFunc ev fn first caps
  | .makeSlice t l c => rMake tb m H ev t l c
  | .slice t x lo hi mx => rSlice tb H ev t x lo hi mx
  | .fieldAddr t x f => rField tb ev t x f
  | .field t x f => rFieldV tb ev t x f
  | .indexAddr t x i => rIndex tb H ev t x i
  | .index t x i => rIdxV tb ev t x i
  | .extract t i => rExtract ev t i
  | op => evAny ⟨tb, fun _ => none, 1, N⟩ m H ev op

theorem evAnyR_eq (tb : Tbl) (N m : Nat) (H : Heap) (ev : Operand → V) (op : Op) {q : List Ob × V × List (Nat × Blk)} (h : evAnyR tb N m H ev op = some q) : evAny ⟨tb, fun _ => none, 1, N⟩ m H ev op = some q := by
  have key : ∀ {r : Res}, rVal r = some q → (match r with | .val ps v dh => some (ps, v, dh) | _ => none : R1) = some q := fun {r} h => by cases r <;> first | exact h | cases h
  cases op <;> simp only [evAnyR] at h <;> simp only [evAny, evSt, evOp]
  case store t a x => simp only [rStore] at h; cases ht : tb t <;> rw [ht] at h <;> simp only [reduceCtorEq] at h ⊢; cases hs : evStoreG _ H (ev a) (ev x) <;> rw [hs] at h <;> simp only [reduceCtorEq] at h ⊢; exact h
  case move => simpa [rMove] using h
  case assign => simpa [rMove] using h
  case pick => exact key h
  case alloc t => simp only [rAlloc] at h; cases ht : tb t <;> rw [ht] at h <;> simp only [reduceCtorEq] at h ⊢; exact h
  case box t x => simp only [rBox] at h; cases ht : cellsOf (ev x) <;> rw [ht] at h <;> simp only [reduceCtorEq] at h ⊢; exact h
  case build t parts => simp only [rBuild] at h; cases ht : tb t <;> rw [ht] at h <;> simp only [reduceCtorEq] at h ⊢; exact key h
  case buildSlice t n parts => simp only [rBuildSlice] at h; cases ht : tb t <;> rw [ht] at h <;> simp only [reduceCtorEq] at h ⊢; exact key h
  case load t a => simp only [rLoad] at h; cases ht : tb t <;> rw [ht] at h <;> simp only [reduceCtorEq] at h ⊢; exact key h
  case nilCheck => exact key h
  case binOp o t x y t2 => simp only [rBin] at h; cases ht : tb t <;> rw [ht] at h <;> simp only [reduceCtorEq] at h ⊢; exact key h
  case unOp => exact key h
  case convert s d x =>
    simp only [rConv] at h
    cases ht : tb s with
    | none => rw [ht] at h; cases h
    | some ts =>
      rw [ht] at h
      cases ht2 : tb d with
      | none => rw [ht2] at h; cases h
      | some td => rw [ht2] at h; exact key h
  case makeFunc fn first caps =>
    cases fn <;> simp only [rFunc, reduceCtorEq] at h
    split at h
    · rename_i hs
      cases h
      simp only [evOp, hs, if_true]
    · cases h
  case makeSlice t l c => simp only [rMake] at h; cases ht : tb t <;> rw [ht] at h <;> simp only [reduceCtorEq] at h ⊢; exact key h
  case slice t x lo hi mx => simp only [rSlice] at h; cases ht : tb t <;> rw [ht] at h <;> simp only [reduceCtorEq] at h ⊢; exact key h
  case fieldAddr t x f => simp only [rField] at h; cases ht : tb t <;> rw [ht] at h <;> simp only [reduceCtorEq] at h ⊢; exact key h
  case field t x f => simp only [rFieldV] at h; cases ht : tb t <;> rw [ht] at h <;> simp only [reduceCtorEq] at h ⊢; exact key h
  case indexAddr t x i => simp only [rIndex] at h; cases ht : tb t <;> rw [ht] at h <;> simp only [reduceCtorEq] at h ⊢; exact key h
  case index t x i => simp only [rIdxV] at h; cases ht : tb t <;> rw [ht] at h <;> simp only [reduceCtorEq] at h ⊢; exact key h
  case extract => exact key h
  all_goals (simp only [evAny, evSt, evOp] at h; exact h)

/-- what an operation is: a call of a function, or done at once -/
inductive Act1 where
  | plain (r : R1)
  | call (g : FuncId) (args : List V)

def callA (tb : Tbl) (N m : Nat) (H : Heap) (ev : Operand → V) (c : Call) : Act1 := match c.callee with
  | .value f => match ev f with
    | .fn g caps => .call g (c.args.toList.map ev ++ caps)
    | _ => .plain none
  | _ => .plain (evAny ⟨tb, fun _ => none, 1, N⟩ m H ev (.call c))

def evA (tb : Tbl) (N m : Nat) (H : Heap) (ev : Operand → V) (op : Op) : Act1 := match op with
  | .call c => callA tb N m H ev c
  | .store t a x => .plain (rStore tb H ev t a x)
  | .move x => .plain (rMove ev x)
  | .assign x => .plain (rMove ev x)
  | .pick c a b => .plain (rPick ev c a b)
  | .alloc t => .plain (rAlloc tb m t)
  | .box _ x => .plain (rBox m ev x)
  | .build t parts => .plain (rBuild tb ev t parts)
  | .buildSlice t n parts => .plain (rBuildSlice tb m H ev t n parts)
  | .load t a => .plain (rLoad tb H ev t a)
  | .nilCheck x => .plain (rNil ev x)
  | .binOp op t x y _ => .plain (rBin tb ev op t x y)
  | .unOp op _ x => .plain (rUn ev op x)
  | .convert s d x => .plain (rConv tb m ev s d x)
  | .makeFunc fn first caps => .plain (rFunc ev fn first caps)
  | .makeSlice t l c => .plain (rMake tb m H ev t l c)
  | .slice t x lo hi mx => .plain (rSlice tb H ev t x lo hi mx)
  | .fieldAddr t x f => .plain (rField tb ev t x f)
  | .field t x f => .plain (rFieldV tb ev t x f)
  | .indexAddr t x i => .plain (rIndex tb H ev t x i)
  | .index t x i => .plain (rIdxV tb ev t x i)
  | .extract t i => .plain (rExtract ev t i)
  | op => .plain (evAny ⟨tb, fun _ => none, 1, N⟩ m H ev op)

theorem evA_plain (tb : Tbl) (N m : Nat) (H : Heap) (ev : Operand → V) (op : Op) {q : List Ob × V × List (Nat × Blk)} (h : evA tb N m H ev op = .plain (some q)) : evAny ⟨tb, fun _ => none, 1, N⟩ m H ev op = some q := by
  cases op
  case call c =>
    simp only [evA, callA] at h
    split at h
    · split at h <;> simp at h
    · exact Act1.plain.inj h
  all_goals (exact evAnyR_eq tb N m H ev _ (Act1.plain.inj h))

theorem evA_call (tb : Tbl) (N m : Nat) (H : Heap) (ev : Operand → V) (op : Op) {g : FuncId} {args : List V} (h : evA tb N m H ev op = .call g args) : ∃ c f caps, op = .call c ∧ c.callee = .value f ∧ ev f = .fn g caps ∧ args = c.args.toList.map ev ++ caps := by
  cases op
  case call c =>
    simp only [evA, callA] at h
    split at h
    · rename_i f hf
      split at h
      · rename_i caps he
        cases h
        exact ⟨c, f, caps, rfl, hf, he, rfl⟩
      · cases h
    · cases h
  all_goals (cases h)

/-- after an operation -/
def finR (d : Option Nat) (v : V) (dh : List (Nat × Blk)) (tm : Tri V) (hp : Tri Blk) (nx : Nat) (κ : Tri V → Tri Blk → Nat → Rn RS) : Rn RS :=
  List.casesOn (motive := fun _ => Rn RS) dh (forceV v fun v => putK d v tm fun tm => forceN nx fun nx => κ tm hp nx)
    fun _ _ => forceV v fun v => setsK dh hp fun hp => putK d v tm fun tm => forceN nx fun nx => κ tm hp nx

def callRR (r : Rn (V × Tri Blk × Nat)) (g : FuncId) (d : Option Nat) (tm : Tri V) (κ : Tri V → Tri Blk → Nat → Rn RS) : Rn RS := match r with
  | .ok (v, hp, nx) => putK d v tm fun tm => κ tm hp nx
  | .no w => .no (g :: w)

def obsOK (ps : List Ob) : Bool := List.casesOn (motive := fun _ => Bool) ps true fun _ _ => ps.all Ob.chk

def plainR (r : R1) (d : Option Nat) (tm : Tri V) (hp : Tri Blk) (nx : Nat) (κ : Tri V → Tri Blk → Nat → Rn RS) : Rn RS := match r with
  | some (ps, v, dh) => Bool.casesOn (motive := fun _ => Rn RS) (obsOK ps) (.no [100]) (finR d v dh tm hp (Nat.succ nx) κ)
  | none => .no [101]

def doR (call : CallR) (a : Act1) (d : Option Nat) (tm : Tri V) (hp : Tri Blk) (nx : Nat) (κ : Tri V → Tri Blk → Nat → Rn RS) : Rn RS := match a with
  | .call g args => forceN g fun g => forceVs args fun args => callRR (call g args hp nx) g d tm κ
  | .plain r => plainR r d tm hp nx κ

def oneR (tb : Tbl) (N : Nat) (call : CallR) (all : List Oper) (o : Oper) (tm : Tri V) (hp : Tri Blk) (nx : Nat) (κ : Tri V → Tri Blk → Nat → Rn RS) : Rn RS := match o.guard with
  | none => doR call (evA tb N nx hp.get (opndT tm) o.op) o.dst tm hp nx κ
  | some _ => match guardT all tm o with
    | some true => doR call (evA tb N nx hp.get (opndT tm) o.op) o.dst tm hp nx κ
    | some false => putK o.dst (.tup []) tm fun tm => κ tm hp nx
    | none => .no [102]

def opsR (tb : Tbl) (N : Nat) (call : CallR) (all : List Oper) : List Oper → Tri V → Tri Blk → Nat → Rn RS
  | [], tm, hp, nx => .ok ⟨tm, hp, nx⟩
  | o :: rest, tm, hp, nx => oneR tb N call all o tm hp nx (opsR tb N call all rest)

/-- all results have their places -/
def dstsOK (N : Nat) (ops : List Oper) : Bool := ops.all fun o => dstIn N o.dst

/-! ### a region that draws its order -/

def maskR (rs : List Nat) (tm : Tri V) : Operand → V
  | .tmp t => bif memN rs t then lookT tm t else .any
  | .const v => cv v
  | .func f => .fn f []
  | .global _ => .any

/-- a part of a heap -/
def partK {γ : Type} (hp : Tri Blk) : List Nat → Tri Blk → (Tri Blk → Rn γ) → Rn γ
  | [], t, κ => κ t
  | h :: r, t, κ => match hp.get h with
    | some b => Tri.setK 64 t h b fun t => partK hp r t κ
    | none => .no [20]

def pickK {γ : Type} (hp : Tri Blk) (skip : Nat → Bool) : List Nat → (List (Nat × Blk) → Rn γ) → Rn γ
  | [], κ => κ []
  | h :: r, κ => bif skip h then pickK hp skip r κ else match hp.get h with
    | some b => forceN h fun h => pickK hp skip r fun l => κ ((h, b) :: l)
    | none => .no [21]

def forceL {γ : Type} : List Nat → (List Nat → Rn γ) → Rn γ
  | [], κ => κ []
  | n :: r, κ => forceN n fun n => forceL r fun r => κ (n :: r)

/-- a call on a part of the heap -/
def dcall (call : CallR) (g : FuncId) (args : List V) (hp : Tri Blk) (R : List Nat) (m : Nat) : Rn (V × List (Nat × Blk) × Nat) :=
  partK hp R .lf fun hr => match call g args hr m with
    | .ok (v, hp', nx) => forceL (R.filter fun h => !eqbB (hp.get h) (hp'.get h)) fun chg => forceL (reach hp'.get 64 (v.hs ++ chg) []) fun keep =>
        pickK hp' (fun h => memN R h && !memN chg h) keep fun dh =>
          bif R.all (fun h => memN (dh.map (·.1)) h || eqbB (hp.get h) (hp'.get h)) then .ok (v, dh, nx) else .no [22]
    | .no w => .no w

def drawR (tb : Tbl) (N : Nat) (call : CallR) (all : List Oper) : List Oper → Tri V → Tri Blk → Nat → List Rec → Rn RS
  | [], tm, hp, nx, recs => bif edgesOK 0 all && chkAll (masks all []) 0 recs then .ok ⟨tm, hp, nx⟩ else .no [30]
  | o :: rest, tm, hp, nx, recs => bif dstIn N o.dst then
      match guardT all tm o with
      | some false => putK o.dst (.tup []) tm fun tm => forceN (nx + 1) fun nx => drawR tb N call all rest tm hp nx (recs ++ [⟨o.dst, .tup [], [], [], slotsOf all o⟩])
      | some true => forceL (slotsOf all o) fun rs => forceL (reach hp.get 8 (o.op.operands.toList.flatMap fun x => (maskR rs tm x).hs) []) fun R =>
        match evA tb N nx (restr hp.get R) (maskR rs tm) o.op with
        | .call g args => forceN g fun g => forceVs args fun args => match dcall call g args hp R nx with
          | .ok (v, dh, nx2) => bif frameOK hp.get R nx (nx2 + 1 - nx) v dh then
              setsK dh hp fun hp => putK o.dst v tm fun tm => forceN (nx2 + 1) fun nx => drawR tb N call all rest tm hp nx (recs ++ [⟨o.dst, toKb v, dh, R, rs⟩])
            else .no [31, rest.length]
          | .no w => .no (g :: w)
        | .plain none => .no [33, rest.length]
        | .plain (some (ps, v, dh)) => bif ps.all Ob.chk && frameOK hp.get R nx 1 v dh then
              forceV v fun v => setsK dh hp fun hp => putK o.dst v tm fun tm => forceN (nx + 1) fun nx => drawR tb N call all rest tm hp nx (recs ++ [⟨o.dst, toKb v, dh, R, rs⟩])
            else .no [32, rest.length]
      | none => .no [34, rest.length]
    else .no [35, rest.length]

def loopR (f : RS → Rn (Lf × RS)) : Nat → RS → Rn (Lf × RS)
  | 0, _ => .no [3]
  | n + 1, s => match f s with
    | .ok (.nrm, s) => loopR f n s
    | r => r

def runR (tb : Tbl) (N : Nat) (call : CallR) : Code → RS → Rn (Lf × RS)
  | .skip, s => .ok (.nrm, s)
  | .region id ops false, s => Bool.casesOn (motive := fun _ => Rn (Lf × RS)) (dstsOK N ops.toList) (.no [103]) (match opsR tb N call ops.toList ops.toList s.tm s.hp s.nx with
    | .ok s => .ok (.nrm, s)
    | .no w => .no ((1000 + id) :: w))
  | .region id ops true, s => match drawR tb N call ops.toList ops.toList s.tm s.hp s.nx [] with
    | .ok s => .ok (.nrm, s)
    | .no w => .no ((2000 + id) :: w)
  | .seq a b, s => match runR tb N call a s with
    | .ok (.nrm, s) => runR tb N call b s
    | r => r
  | .cond c x y, s => match opndT s.tm c with
    | .kb true => runR tb N call x s
    | .kb false => runR tb N call y s
    | _ => .no [4]
  | .block id b, s => match runR tb N call b s with
    | .ok (.ext i, s) => if i = id then .ok (.nrm, s) else .ok (.ext i, s)
    | r => r
  | .loop b, s => loopR (runR tb N call b) ROUNDS s
  | .exit id, s => .ok (.ext id, s)
  | .ret, s => .ok (.ret, s)
  | _, _ => .no [6]

def resT1 (tb : Tbl) (tm : Tri V) (hp : Tri Blk) : ResultVar → Option V
  | .tmp t => some (lookT tm t)
  | .cell a t => match tb t with
    | some td => match evLoad td hp.get (lookT tm a) with
      | .val _ v _ => some v
      | _ => none
    | none => none
def resTL (tb : Tbl) (tm : Tri V) (hp : Tri Blk) : List ResultVar → Option (List V)
  | [] => some []
  | r :: rs => match resT1 tb tm hp r with
    | some v => match resTL tb tm hp rs with
      | some l => some (v :: l)
      | none => none
    | none => none
def resT (tb : Tbl) (tm : Tri V) (hp : Tri Blk) (rs : List ResultVar) : Option V :=
  match resTL tb tm hp rs with
  | some [v] => some v
  | some l => some (.tup l)
  | none => none

def argsT {γ : Type} : Nat → List V → Tri V → (Tri V → Rn γ) → Rn γ
  | _, [], t, κ => κ t
  | i, v :: vs, t, κ => Tri.setK 64 t i v fun t => argsT (i + 1) vs t κ

/-- a function, carried out -/
def fnR (tb : Tbl) (call : CallR) (fn : Func) (args : List V) (hp : Tri Blk) (nx : Nat) : Rn (V × Tri Blk × Nat) :=
  match fn.body with
  | some c => bif Nat.ble args.length fn.ntmps then argsT 0 args .lf fun tm => match runR tb fn.ntmps call c ⟨tm, hp, nx⟩ with
      | .ok (.ext _, _) => .no [7]
      | .ok (_, ⟨tm, hp, nx⟩) => match resT tb tm hp fn.results.toList with
        | some v => forceV v fun v => .ok (v, hp, nx)
        | none => .no [8]
      | .no w => .no w
    else .no [9]
  | none => .no [10]

def callN (tb : Tbl) (P : FuncId → Option Func) : Nat → CallR
  | 0, _, _, _, _ => .no [11]
  | d + 1, f, args, hp, nx => match P f with
    | some fn => fnR tb (callN tb P d) fn args hp nx
    | none => .no [12]

end Go.Mir
