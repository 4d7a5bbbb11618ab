/- The field layer: the example, and the laws' functions. -/
import Derived.Test.YtogdeefpidccmaaFk
namespace Go.Proofs.Ytogdeefpidccmaa
open Go Go.Mir
attribute [local irreducible] Go.Mir.RT.sat Go.Mir.evFn Go.Mir.stepObl
theorem step79 (xs : List Int) (v : Int) (hx : xs.length ≤ lenB) (i : Nat) (hi : inv79 xs v i) : (stepObl (J79 xs v) (inv79 xs v) (fun i => xs.length - i) i (T79 xs v) (evCode (cf8 [] Try.f79) (fun _ => none) (loopN Try.f79 0) (J79 xs v i)) (L79 i)).1 := by
  refine cast (by kernel_rfl) (?_ : (decide ((↑i : Int) < (↑xs.length : Int)) = true → ((0 : Int) ≤ (↑i : Int) ∧ (↑i : Int) < (↑xs.length : Int)) ∧ ((v == xs.getD (↑i : Int).toNat (dflt (Ty.int IntKind.i64))) = true → xs.contains v = true ∧ ((↑i : Int) = idx xs v (0 : Int) ∧ True) ∧ True) ∧ ((v == xs.getD (↑i : Int).toNat (dflt (Ty.int IntKind.i64))) = false → inv79 xs v (i + (1 : Nat)) ∧ xs.length - (i + (1 : Nat)) < xs.length - i ∧ (RowD.mk (Ty.int IntKind.i64) xs = RowD.mk (Ty.int IntKind.i64) xs ∧ v = v ∧ (↑xs.length : Int) = (↑xs.length : Int) ∧ IntKind.i64.wrap ((↑i : Int) + (1 : Int)) = (↑(i + (1 : Nat)) : Int) ∧ True) ∧ True)) ∧ (decide ((↑i : Int) < (↑xs.length : Int)) = false → xs.contains v = false ∧ True ∧ True))
  have e : (i : Int).toNat = i := by simp
  rw [e]
  refine ⟨fun h1 => ?_, fun h1 => ?_⟩
  · have h1 : i < xs.length := by simpa using h1
    refine ⟨⟨by omega, by omega⟩, fun h2 => ?_, fun h2 => ?_⟩
    · have h2 : v = xs.getD i (dflt (Ty.int IntKind.i64)) := eq_of_beq h2
      have h3 : xs[i]? = some v := by rw [h2]; exact getD_at _ h1
      refine ⟨by simpa using List.mem_of_getElem? h3, ⟨?_, trivial⟩, trivial⟩
      rw [idx_at xs v 0 i h3 hi.2]; omega
    · have h2 : v ≠ xs.getD i (0 : Int) := ne_of_beq_false h2
      have h3 : xs.getD i (0 : Int) = xs[i] := by rw [List.getD_eq_getElem?_getD, List.getElem?_eq_getElem h1]; rfl
      refine ⟨⟨by omega, ?_⟩, by omega, ⟨rfl, rfl, rfl, ?_, trivial⟩, trivial⟩
      · rw [List.take_succ_eq_append_getElem h1, List.mem_append, List.mem_singleton, not_or]
        exact ⟨hi.2, by rw [← h3]; exact h2⟩
      · have : xs.length ≤ 140737488355328 := hx
        rw [wrap64 (by omega) (by omega)]; omega
  · have h1 : ¬ i < xs.length := by simpa using h1
    refine ⟨?_, trivial, trivial⟩
    have := hi.2
    rw [List.take_of_length_le (by omega)] at this
    simpa using this
theorem loop79 (xs : List Int) (v : Int) (hx : xs.length ≤ lenB) : LoopOK Try.prog Try.f79.ntmps (loopN Try.f79 0) (loopSum ⟨[], [], 0⟩ (J79 xs v 0) (T79 xs v)) :=
  loop_by (cfg8OK (CtrsOK.nil) _) mixed (J79 xs v) (fun _ => rfl) (inv79 xs v) (fun i => xs.length - i) (fun _ _ => none) (fun _ _ _ _ _ h => by cases h) (T79 xs v) [] [] 0 (⟨Nat.zero_le _, by simp⟩) L79 (fun i hi => step79 xs v hx i hi)
theorem run79 (xs : List Int) (v : Int) (hx : xs.length ≤ lenB) : (evFn (cf8 [] Try.f79) (Λ79 xs v) Try.f79 (argsV psLV (xs, v, ()))).sat fun v' rows => leV v' (spec79 (xs, v, ())).v ∧ rows = (spec79 (xs, v, ())).rows := by
  refine cast (by kernel_rfl) (?_ : ((noH0 fun x => none) ∧ (RowD.mk (Ty.int IntKind.i64) xs = RowD.mk (Ty.int IntKind.i64) xs ∧ v = v ∧ (↑xs.length : Int) = (↑xs.length : Int) ∧ (0 : Int) = (↑(0 : Nat) : Int) ∧ True) ∧ True) ∧ (xs.contains v = true → idx xs v (0 : Int) = idx xs v (0 : Int) ∧ ([] : List RowD) = []) ∧ (xs.contains v = false → (-1 : Int) = idx xs v (0 : Int) ∧ ([] : List RowD) = []))
  refine ⟨⟨rfl, ⟨rfl, rfl, rfl, rfl, trivial⟩, trivial⟩, fun _ => ⟨rfl, rfl⟩, fun h => ⟨?_, rfl⟩⟩
  rw [idx_none]
  simpa using h
theorem ok79 : CtrOK Try.prog K8 79 (pureCtr K8 psLV spec79) := by
  refine pure_ok (C := cf8 [] Try.f79) (cfg8OK (CtrsOK.nil) _) mixed (fn := Try.f79) Try.func79 (by kernel_rfl) (by kernel_rfl) (by kernel_rfl) (Λ := fun x => Λ79 x.1 x.2.1) ?_ ?_ ?_
  · rintro ⟨xs, v, ⟨⟩⟩ hw hn
    exact LoopsOK.at (by kernel_rfl) (.cons (by kernel_rfl) (loop79 xs v (wf_slice (wf_fst hw))) .nil)
  · rintro ⟨xs, v, ⟨⟩⟩
    exact of_decide_eq_true (by kernel_rfl)
  · rintro ⟨xs, v, ⟨⟩⟩ hw hn
    exact run79 xs v (wf_slice (wf_fst hw))
theorem run47 (xs : List Int) (v : Int)  : (evFn (cf8 [k79] Try.f47) (fun _ => none) Try.f47 (argsV psLV (xs, v, ()))).sat fun v' rows => leV v' (spec47 (xs, v, ())).v ∧ rows = (spec47 (xs, v, ())).rows := by
  refine cast (by kernel_rfl) (?_ : decide (idx xs v (0 : Int) ≥ (0 : Int)) = hasLI xs v ∧ ([] : List RowD) = [])
  exact ⟨idx_has xs v 0 (Int.le_refl 0), rfl⟩
theorem ok47 : CtrOK Try.prog K8 47 (pureCtr K8 psLV spec47) := by
  refine pure_ok (C := cf8 [k79] Try.f47) (cfg8OK (.cons ok79 .nil) _) mixed (fn := Try.f47) Try.func47 (by kernel_rfl) (by kernel_rfl) (by kernel_rfl) (Λ := fun _ _ => none) ?_ ?_ ?_
  · exact fun _ _ _ _ _ _ _ _ h => by cases h
  · rintro ⟨xs, v, ⟨⟩⟩
    exact of_decide_eq_true (by kernel_rfl)
  · rintro ⟨xs, v, ⟨⟩⟩ hw hn
    exact run47 xs v
theorem run32   : (evFn (cf8 [k37, k38, k40, k42, k46, k65, k66, k67] Try.f32) (fun _ => none) Try.f32 (argsV ps0 ())).sat fun v' rows => leV v' (spec32 ()).v ∧ rows = (spec32 ()).rows := by
  refine conj_sat (cast (by kernel_rfl) (?_ : smallI (Innings.mk (0 : Int) (0 : Int) (0 : Int) (0 : Int) (0 : Int) (Extras.mk (0 : Int) (0 : Int) (0 : Int) (0 : Int) (0 : Int)) (0 : Int) (0 : Int) (0 : Int) (0 : Int) [] (0 : Int) [] [] false [] false (0 : Int) (0 : Int) (0 : Int) [false, false, false, false] ((0 : Int), (0 : Int), ()) (0 : Int)) ∧ smallI (Innings.mk (0 : Int) (0 : Int) (0 : Int) (0 : Int) (0 : Int) (Extras.mk (0 : Int) (0 : Int) (0 : Int) (0 : Int) (0 : Int)) (0 : Int) (0 : Int) (0 : Int) (0 : Int) [] (0 : Int) [] [] false [] false (0 : Int) (2 : Int) (0 : Int) [false, false, false, false] ((0 : Int), (0 : Int), ()) (0 : Int)) ∧ smallI (Innings.mk (0 : Int) (0 : Int) (0 : Int) (0 : Int) (0 : Int) (Extras.mk (0 : Int) (0 : Int) (0 : Int) (0 : Int) (0 : Int)) (0 : Int) (0 : Int) (0 : Int) (0 : Int) [] (0 : Int) [] [] false [] false (0 : Int) (2 : Int) (2 : Int) [false, false, false, false] ((0 : Int), (0 : Int), ()) (0 : Int)) ∧ smallI (Innings.mk (0 : Int) (0 : Int) (0 : Int) (0 : Int) (0 : Int) (Extras.mk (0 : Int) (0 : Int) (0 : Int) (0 : Int) (0 : Int)) (0 : Int) (0 : Int) (0 : Int) (0 : Int) [] (0 : Int) [] [] false [] false (0 : Int) (2 : Int) (2 : Int) [false, false, false, false] ((0 : Int), (0 : Int), ()) (0 : Int)) ∧ ([false, false, false, false].set ((2 : Int) - (1 : Int)).toNat true).length ≤ (1000000 : Nat) ∧ (bif keeperL (Innings.mk (0 : Int) (0 : Int) (0 : Int) (0 : Int) (0 : Int) (Extras.mk (0 : Int) (0 : Int) (0 : Int) (0 : Int) (0 : Int)) (0 : Int) (0 : Int) (0 : Int) (0 : Int) [] (0 : Int) [] [] false [] false (0 : Int) (0 : Int) (0 : Int) [false, false, false, false] ((0 : Int), (0 : Int), ()) (0 : Int)) (2 : Int) == (0 : Int) then bif outsideL (Innings.mk (0 : Int) (0 : Int) (0 : Int) (0 : Int) (0 : Int) (Extras.mk (0 : Int) (0 : Int) (0 : Int) (0 : Int) (0 : Int)) (0 : Int) (0 : Int) (0 : Int) (0 : Int) [] (0 : Int) [] [] false [] false (0 : Int) (2 : Int) (0 : Int) [false, false, false, false] ((0 : Int), (0 : Int), ()) (0 : Int)) (2 : Int) == (0 : Int) then bif outsideL (Innings.mk (0 : Int) (0 : Int) (0 : Int) (0 : Int) (0 : Int) (Extras.mk (0 : Int) (0 : Int) (0 : Int) (0 : Int) (0 : Int)) (0 : Int) (0 : Int) (0 : Int) (0 : Int) [] (0 : Int) [] [] false [] false (0 : Int) (2 : Int) (2 : Int) [false, false, false, false] ((0 : Int), (0 : Int), ()) (0 : Int)) (3 : Int) == (16 : Int) then bif readyW (Rules.mk ByteArray.empty (0 : Int) (0 : Int) (0 : Int) (0 : Int) (0 : Int) (0 : Int) (0 : Int) false (0 : Int) (0 : Int) (0 : Int) (2 : Int) []) (Innings.mk (0 : Int) (0 : Int) (0 : Int) (0 : Int) (0 : Int) (Extras.mk (0 : Int) (0 : Int) (0 : Int) (0 : Int) (0 : Int)) (0 : Int) (0 : Int) (0 : Int) (0 : Int) [] (0 : Int) [] [] false [] false (0 : Int) (2 : Int) (2 : Int) [false, false, false, false] ((0 : Int), (0 : Int), ()) (0 : Int)) == (0 : Int) then bif substL (Innings.mk (0 : Int) (0 : Int) (0 : Int) (0 : Int) (0 : Int) (Extras.mk (0 : Int) (0 : Int) (0 : Int) (0 : Int) (0 : Int)) (0 : Int) (0 : Int) (0 : Int) (0 : Int) [] (0 : Int) [] [] false [] false (0 : Int) (2 : Int) (2 : Int) [false, false, false, false] ((0 : Int), (0 : Int), ()) (0 : Int)) (2 : Int) true == (0 : Int) then bif (bif true && (2 : Int) == (2 : Int) then (0 : Int) else (2 : Int)) == (0 : Int) then bif eqLI (presentW (Innings.mk (0 : Int) (0 : Int) (0 : Int) (0 : Int) (0 : Int) (Extras.mk (0 : Int) (0 : Int) (0 : Int) (0 : Int) (0 : Int)) (0 : Int) (0 : Int) (0 : Int) (0 : Int) [] (bif true && (0 : Int) == (2 : Int) then (0 : Int) else (0 : Int)) [] [] false [] false (0 : Int) (bif true && (2 : Int) == (2 : Int) then (0 : Int) else (2 : Int)) (2 : Int) ([false, false, false, false].set ((2 : Int) - (1 : Int)).toNat true) ((0 : Int), (0 : Int), ()) (0 : Int))) [(1 : Int), (3 : Int), (4 : Int)] then namedW (Innings.mk (0 : Int) (0 : Int) (0 : Int) (0 : Int) (0 : Int) (Extras.mk (0 : Int) (0 : Int) (0 : Int) (0 : Int) (0 : Int)) (0 : Int) (0 : Int) (0 : Int) (0 : Int) [] (bif true && (0 : Int) == (2 : Int) then (0 : Int) else (0 : Int)) [] [] false [] false (0 : Int) (bif true && (2 : Int) == (2 : Int) then (0 : Int) else (2 : Int)) (2 : Int) ([false, false, false, false].set ((2 : Int) - (1 : Int)).toNat true) ((0 : Int), (0 : Int), ()) (0 : Int)) (Delivery.mk (1 : Int) (0 : Int) (0 : Int) (0 : Int) (0 : Int) false (2 : Int) (1 : Int) (2 : Int) (0 : Int) false (0 : Int)) == (18 : Int) else false else false else false else false else false else false else false) = true ∧ ([] : List RowD) = []))
  exact ⟨by simp [smallI], by simp [smallI], by simp [smallI], by simp [smallI], by simp, by kernel_rfl, rfl⟩
theorem ok32 : CtrOK Try.prog K8 32 (pureCtr K8 ps0 spec32) := by
  refine pure_ok (C := cf8 [k37, k38, k40, k42, k46, k65, k66, k67] Try.f32) (cfg8OK (.cons ok37 (.cons ok38 (.cons ok40 (.cons ok42 (.cons ok46 (.cons ok65 (.cons ok66 (.cons ok67 .nil)))))))) _) mixed (fn := Try.f32) Try.func32 (by kernel_rfl) (by kernel_rfl) (by kernel_rfl) (Λ := fun _ _ => none) ?_ ?_ ?_
  · exact fun _ _ _ _ _ _ _ _ h => by cases h
  · rintro ⟨⟩
    exact of_decide_eq_true (by kernel_rfl)
  · rintro ⟨⟩ hw hn
    exact run32 
theorem few_small (x : Innings) : smallI (fewW x) := by
  simp only [smallI, fewW, List.length_take]
  omega

theorem run10 (r : Rules) (x : Innings) (d : Delivery)  : (evFn (cf8 [k32, k33, k40, k41, k42, k43] Try.f10) (fun _ => none) Try.f10 (argsV (.prod (.nm .Rules) (.prod (.nm .Innings) (.prod (.nm .Delivery) .unit))) (r, x, d, ()))).sat fun v _ => isTrue v := by
  refine cast (by kernel_rfl) (?_ : ((!true) = true → false = true) ∧ ((!true) = false → ((0 : Int) ≤ (0 : Int) ∧ ((0 : Int) ≤ if (10 : Int) < (↑r.14.length : Int) then (10 : Int) else (↑r.14.length : Int)) ∧ (if (10 : Int) < (↑r.14.length : Int) then (10 : Int) else (↑r.14.length : Int)) ≤ (↑r.14.length : Int)) ∧ (bif readyW (Rules.mk r.1 r.2 r.3 r.4 r.5 r.6 r.7 r.8 r.9 r.10 r.11 r.12 r.13 (List.drop (Int.toNat (0 : Int)) (List.take (if (10 : Int) < (↑r.14.length : Int) then (10 : Int) else (↑r.14.length : Int)).toNat r.14))) (Innings.mk x.1 x.2 x.3 x.4 x.5 x.6 (if (1000000 : Int) < if (0 : Int) > x.7 then (0 : Int) else x.7 then (1000000 : Int) else if (0 : Int) > x.7 then (0 : Int) else x.7) x.8 x.9 x.10 (List.take (13 : Nat) x.11) x.12 (List.take (13 : Nat) x.13) (List.take (13 : Nat) x.14) x.15 (List.take (13 : Nat) x.16) x.17 x.18 x.19 x.20 (fewW x).21 x.22 x.23) == readyW (Rules.mk r.1 r.2 r.3 r.4 r.5 r.6 r.7 r.8 r.9 r.10 r.11 r.12 r.13 (List.drop (Int.toNat (0 : Int)) (List.take (if (10 : Int) < (↑r.14.length : Int) then (10 : Int) else (↑r.14.length : Int)).toNat r.14))) (Innings.mk x.1 x.2 x.3 x.4 x.5 x.6 (if (1000000 : Int) < if (0 : Int) > x.7 then (0 : Int) else x.7 then (1000000 : Int) else if (0 : Int) > x.7 then (0 : Int) else x.7) x.8 x.9 x.10 (List.take (13 : Nat) x.11) x.12 (List.take (13 : Nat) x.13) (List.take (13 : Nat) x.14) x.15 (List.take (13 : Nat) x.16) x.17 x.18 x.19 x.20 (fewW x).21 x.22 x.23) then namedW (Innings.mk x.1 x.2 x.3 x.4 x.5 x.6 (if (1000000 : Int) < if (0 : Int) > x.7 then (0 : Int) else x.7 then (1000000 : Int) else if (0 : Int) > x.7 then (0 : Int) else x.7) x.8 x.9 x.10 (List.take (13 : Nat) x.11) x.12 (List.take (13 : Nat) x.13) (List.take (13 : Nat) x.14) x.15 (List.take (13 : Nat) x.16) x.17 x.18 x.19 x.20 (fewW x).21 x.22 x.23) d == namedW (Innings.mk x.1 x.2 x.3 x.4 x.5 x.6 (if (1000000 : Int) < if (0 : Int) > x.7 then (0 : Int) else x.7 then (1000000 : Int) else if (0 : Int) > x.7 then (0 : Int) else x.7) x.8 x.9 x.10 (List.take (13 : Nat) x.11) x.12 (List.take (13 : Nat) x.13) (List.take (13 : Nat) x.14) x.15 (List.take (13 : Nat) x.16) x.17 x.18 x.19 x.20 (fewW x).21 x.22 x.23) d else false) = true))
  refine ⟨fun h => (by cases h), fun _ => ⟨⟨Int.le_refl 0, by split <;> omega, by split <;> omega⟩, ?_⟩⟩
  simp

theorem putSub_len (y : Innings) (p : Int) (on : Bool) : (putSub y p on).Subs.length = y.Subs.length := by simp [putSub]
theorem putSub_small {y : Innings} (h : smallI y) (p : Int) (on : Bool) : smallI (putSub y p on) := by
  simp only [smallI, putSub, List.length_set] at h ⊢
  exact h
theorem substY_small {y : Innings} (h : smallI y) (p : Int) (on : Bool) : smallI (substY y p on) := by
  unfold substY
  split
  · exact h
  · split
    · exact h
    · exact putSub_small h p on

theorem hereQ_set (l : List Bool) (k i : Nat) (hk : k < l.length) : hereQ (l.set k true) i = (hereQ l i && decide (i ≠ k)) := by
  simp only [hereQ, List.getD_eq_getElem?_getD, List.getElem?_set]
  by_cases h : k = i
  · subst h; simp [hk]
  · simp [h, Ne.symm h]

/-- one player leaves the field -/
theorem present_less (l : List Bool) (k : Nat) (hk : k < l.length) (h0 : l.getD k false = false) :
    (presentN (l.set k true) l.length).length = (presentN l l.length).length - 1 ∧ 1 ≤ (presentN l l.length).length ∧ ((k : Int) + 1) ∉ presentN (l.set k true) l.length := by
  have hf : (List.range l.length).filter (hereQ (l.set k true)) = ((List.range l.length).filter (hereQ l)).erase k := by
    rw [List.Nodup.erase_eq_filter (List.Pairwise.filter _ List.nodup_range), List.filter_filter]
    congr 1
    funext i
    rw [hereQ_set l k i hk]
    rw [Bool.and_comm]
    congr 1
    by_cases h : i = k <;> simp [h]
  have hm : k ∈ (List.range l.length).filter (hereQ l) := by
    rw [List.mem_filter, List.mem_range]
    exact ⟨hk, by simp only [hereQ, h0]; rfl⟩
  unfold presentN
  rw [hf]
  simp only [List.length_map]
  refine ⟨List.length_erase_of_mem hm, List.length_pos_of_mem hm, ?_⟩
  intro hc
  rw [List.mem_map] at hc
  obtain ⟨i, hi, e⟩ := hc
  have : i = k := by omega
  subst this
  exact (List.Nodup.not_mem_erase (List.Pairwise.filter _ List.nodup_range)) hi

structure Swapped (y : Innings) (p : Int) : Prop where
  len : ((presentW (substY y p true)).length : Int) = ((presentW y).length : Int) - 1
  pos : 1 ≤ (presentW y).length
  no : hasLI (presentW (substY y p true)) p = false
  law : substL (substY y p true) p false = 0
  back : presentW (substY (substY y p true) p false) = presentW y
  kp : (substY y p true).Keeper ≠ p
  bw : (substY y p true).Bowler ≠ p

theorem swaps (y : Innings) (p : Int) (h : substL y p true = 0) : Swapped y p := by
  have hk : knownW y p = true := by
    cases hk : knownW y p with
    | true => rfl
    | false => simp [substL, hk] at h
  have hr : replacedW y p = false := by
    cases hr : replacedW y p with
    | false => rfl
    | true => simp [substL, hk, hr] at h
  have hs : subAt y p = false := by simpa [replacedW, hk] using hr
  have e : substY y p true = putSub y p true := by simp [substY, hk, hr]
  have hb := hk
  simp only [knownW, Bool.and_eq_true, decide_eq_true_eq] at hb
  generalize hkk : (p - 1).toNat = k
  have hp : p = (k : Int) + 1 := by omega
  have hlt : k < y.Subs.length := by omega
  have hs' : y.Subs.getD k false = false := by rw [← hkk]; exact hs
  obtain ⟨a1, a2, a3⟩ := present_less y.Subs k hlt hs'
  have hP : presentW (putSub y p true) = presentN (y.Subs.set k true) y.Subs.length := by
    simp only [presentW, putSub, List.length_set, hkk]
  have hk2 : knownW (putSub y p true) p = true := by simp only [knownW, putSub_len]; exact hk
  have hs2 : subAt (putSub y p true) p = true := by
    simp only [subAt, putSub, hkk, List.getD_eq_getElem?_getD, List.getElem?_set_self hlt]; rfl
  have hr2 : replacedW (putSub y p true) p = true := by simp [replacedW, hk2, hs2]
  have e2 : substY (putSub y p true) p false = putSub (putSub y p true) p false := by simp [substY, hk2, hr2]
  refine ⟨?_, a2, ?_, ?_, ?_, ?_, ?_⟩
  · rw [e, hP, a1]; simp only [presentW] at a2 ⊢; omega
  · rw [e, hP]
    simp only [hasLI]
    rw [hp]
    simpa using a3
  · rw [e]; simp [substL, hk2, hr2]
  · rw [e, e2]
    have : (putSub (putSub y p true) p false).Subs = y.Subs := by
      simp only [putSub, hkk, List.set_set]
      apply List.ext_getElem?
      intro i
      rw [List.getElem?_set]
      by_cases hi : k = i
      · subst hi
        rw [if_pos rfl, if_pos hlt, List.getElem?_eq_getElem hlt]
        rw [List.getD_eq_getElem?_getD, List.getElem?_eq_getElem hlt] at hs'
        simpa using hs'.symm
      · rw [if_neg hi]
    simp only [presentW, this]
  · rw [e]
    simp only [putSub, Bool.true_and]
    by_cases h : y.Keeper = p
    · simp [h]; omega
    · rw [beq_eq_false_iff_ne.2 h]; exact h
  · rw [e]
    simp only [putSub, Bool.true_and]
    by_cases h : y.Bowler = p
    · simp [h]; omega
    · rw [beq_eq_false_iff_ne.2 h]; exact h

theorem run12 (x : Innings) (p : Int)  : (evFn (cf8 [k32, k33, k37, k38, k46, k47] Try.f12) (fun _ => none) Try.f12 (argsV (.prod (.nm .Innings) (.prod (.int .i64) .unit)) (x, p, ()))).sat fun v _ => isTrue v := by
  refine cast (by kernel_rfl) (?_ : ((!true) = true → false = true) ∧ ((!true) = false → (fewW x).21.length ≤ (1000000 : Nat) ∧ smallI (fewW x) ∧ ((substL (fewW x) p true != (0 : Int)) = true → (bif substL (fewW x) p true == (3 : Int) then true else substL (fewW x) p true == (18 : Int)) = true) ∧ ((substL (fewW x) p true != (0 : Int)) = false → (substY (fewW x) p true).21.length ≤ (1000000 : Nat) ∧ smallI (substY (fewW x) p true) ∧ ((((↑(presentW (substY (fewW x) p true)).length : Int) == IntKind.i64.wrap ((↑(presentW (fewW x)).length : Int) - (1 : Int))) = true → ((!hasLI (presentW (substY (fewW x) p true)) p) = true → ((substL (substY (fewW x) p true) p false == (0 : Int)) = true → (substY (substY (fewW x) p true) p false).21.length ≤ (1000000 : Nat) ∧ (eqLI (presentW (substY (substY (fewW x) p true) p false)) (presentW (fewW x)) = true → (((substY (fewW x) p true).19 != p) = true → True) ∧ (((substY (fewW x) p true).19 != p) = false → True)) ∧ (eqLI (presentW (substY (substY (fewW x) p true) p false)) (presentW (fewW x)) = false → True)) ∧ ((substL (substY (fewW x) p true) p false == (0 : Int)) = false → True)) ∧ ((!hasLI (presentW (substY (fewW x) p true)) p) = false → True)) ∧ (((↑(presentW (substY (fewW x) p true)).length : Int) == IntKind.i64.wrap ((↑(presentW (fewW x)).length : Int) - (1 : Int))) = false → True)) ∧ (true = true → (bif (↑(presentW (substY (fewW x) p true)).length : Int) == IntKind.i64.wrap ((↑(presentW (fewW x)).length : Int) - (1 : Int)) then bif !hasLI (presentW (substY (fewW x) p true)) p then bif substL (substY (fewW x) p true) p false == (0 : Int) then bif eqLI (presentW (substY (substY (fewW x) p true) p false)) (presentW (fewW x)) then bif (substY (fewW x) p true).19 != p then (substY (fewW x) p true).12 != p else false else false else false else false else false) = true))))
  have hsm := few_small x
  generalize fewW x = y at hsm ⊢
  have h1 := substY_small hsm p true
  have h2 := substY_small h1 p false
  have hw : ∀ h : substL y p true = 0, IntKind.i64.wrap (((presentW y).length : Int) - 1) = ((presentW y).length : Int) - 1 := fun h => by
    have a := presentN_len y.Subs y.Subs.length
    have b := hsm.2.2.2.2
    have c := (swaps y p h).pos
    simp only [presentW] at a c ⊢
    exact wrap64 (by omega) (by omega)
  have hL : substL y p true = 0 ∨ substL y p true = 3 ∨ substL y p true = 18 := by
    unfold substL; split
    · simp
    · split <;> simp
  refine ⟨fun h => (by cases h), fun _ => ⟨hsm.2.2.2.2, hsm, fun h => ?_, fun h => ?_⟩⟩
  · rcases hL with h3 | h3 | h3 <;> simp [h3] at h ⊢
  · have h : substL y p true = 0 := by simpa using h
    have S := swaps y p h
    have hww := hw h
    obtain ⟨s1, s2, s3, s4, s5, s6, s7⟩ := S
    simp only [hww, s1, s3, s4, s5]
    simp [h1.2.2.2.2, h1, h2.2.2.2.2, eqLI, s6, s7]
end Go.Proofs.Ytogdeefpidccmaa
