/- bits.Mul at one and a small number: the walk (seat 2). -/
import Derived.Test.YtkaoegdfgoojdaaGreatDoorMc
import Derived.Deep.OwnRows
import Derived.Laws.CopyOwn
namespace Go.Proofs.YtkaoegdfgoojdaaGreatDoor
open Go Go.RowKit
set_option maxRecDepth 100000

set_option maxHeartbeats 800000 in
theorem mul64_two (w : World) : Calls Tryz.prog 45 #[.int .u64 1, .int .u64 2] w (Says w (.tuple #[.int .u64 0, .int .u64 2])) := by
  go_enter Tryz.func45, Tryz.ntmps45
  go_wp2_with fail
  go_ret2
  exact ⟨rfl, Below.refl _ _⟩
set_option maxHeartbeats 800000 in
theorem mul64_six (w : World) : Calls Tryz.prog 45 #[.int .u64 1, .int .u64 6] w (Says w (.tuple #[.int .u64 0, .int .u64 6])) := by
  go_enter Tryz.func45, Tryz.ntmps45
  go_wp2_with fail
  go_ret2
  exact ⟨rfl, Below.refl _ _⟩
set_option maxHeartbeats 800000 in
theorem mul_small (w : World) (n : Nat) (hn : n = 2 ∨ n = 6) : Calls Tryz.prog 28 #[.int .u64 1, .int .u64 n] w (Says w (.tuple #[.int .u64 0, .int .u64 n])) := by
  have hm : ∀ w, Calls Tryz.prog 45 #[.int .u64 1, .int .u64 n] w (Says w (.tuple #[.int .u64 0, .int .u64 n])) := by
    rcases hn with rfl | rfl
    · exact mul64_two
    · exact mul64_six
  have HM := Lib.hid hm
  clear hm hn
  go_enter Tryz.func28, Tryz.ntmps28
  go_wp2_with fail
  refine (HM.out _).mono ?_
  rintro e w2 ⟨rfl, hb⟩
  have HB := Lib.hid hb
  clear hb
  go_wp2_with fail
  go_ret2
  exact ⟨rfl, HB.out⟩
end Go.Proofs.YtkaoegdfgoojdaaGreatDoor

/- slices.Repeat of one unset: the walk (seat 2). -/
namespace Go.Proofs.YtkaoegdfgoojdaaGreatDoor
open Go Go.RowKit
set_option maxRecDepth 100000

def rowK (n k : Nat) : List Value := List.replicate k (.int .i64 (-1)) ++ List.replicate (n - k) (.int .i64 0)
theorem rowK_length (n k : Nat) (h : k ≤ n) : (rowK n k).length = n := by simp [rowK]; omega
theorem rowK_step (n k c : Nat) (h : k + c ≤ n) : (rowK n k).take k ++ List.replicate c (Value.int .i64 (-1)) ++ (rowK n k).drop (k + c) = rowK n (k + c) := by
  have h1 : (rowK n k).take k = List.replicate k (Value.int .i64 (-1)) := List.take_left' (by simp)
  have h2 : (rowK n k).drop (k + c) = List.replicate (n - (k + c)) (Value.int .i64 0) := by
    unfold rowK
    rw [List.drop_append, List.drop_eq_nil_of_le (by simp), List.length_replicate, show k + c - k = c by omega, List.drop_replicate, List.nil_append, show n - k - c = n - (k + c) by omega]
  rw [h1, h2, List.replicate_append_replicate]
  rfl
theorem rowK_zero (n : Nat) : madeCells #[Value.int .i64 0] n = (rowK n 0).toArray := by
  apply Array.ext'
  rw [toList_madeCells_one]
  simp [rowK]
theorem rowK_at (n k j : Nat) (h : j < k) : (rowK n k)[j]? = some (.int .i64 (-1)) := by
  unfold rowK
  rw [List.getElem?_append_left (by simpa using h)]
  simp [h]

def RepeatPost (w : World) (n : Nat) (e : Ending) (w' : World) : Prop :=
  ∃ g, e = .returned (.slice (some ⟨g, 0, none⟩) n n) ∧ w.heap.size ≤ g ∧ w'.heap[g]? = some (.cells (rowK n n).toArray 3 (0, 0)) ∧ Below w.heap.size w w'

set_option maxHeartbeats 1600000 in
theorem repeat_small (w : World) (b n : Nat) (hn : n = 2 ∨ n = 6) (hb : b < w.heap.size) (hc : w.cell? ⟨b, 0, none⟩ = some (.int .i64 (-1))) :
    Calls Tryz.prog 17 #[.slice (some ⟨b, 0, none⟩) 1 1, .int .i64 n] w (RepeatPost w n) := by
  have HM := Lib.hid (mul_small w n hn)
  have hn1 : 2 ≤ n := by omega
  have hn2 : n ≤ 6 := by omega
  have HC := Lib.hid hc
  have HB := Lib.hid hb
  clear hn hc hb
  have hmk : ∀ w, _ := run_make_row' (P := Tryz.prog) 34 3 (.int .i64 0) 8 und_ints info_int rfl .i64 .i64 n (by omega) (by omega)
  have ng : ¬ ((n : Int) < 0) := by omega
  have w1 : IntKind.u64.wrap (n : Int) = n := IntWalk.u64_in _ (by omega)
  have w2 : IntKind.i64.wrap (n : Int) = n := IntWalk.i64_in _ (by omega)
  have ng2 : ¬ ((9223372036854775807 : Int) < n) := by omega
  go_enter Tryz.func17, Tryz.ntmps17
  go_wp2_with fail
  refine HM.out.mono ?_
  rintro e w2 ⟨rfl, hb2⟩
  have HB2 := Lib.hid hb2
  clear hb2
  have hbA : Below w2.heap.size w2 (w2.alloc (.cells (madeCells #[.int .i64 0] n) 3)) := (Below.refl _ _).alloc (Nat.le_refl _) _
  have hr3 := heap_alloc_new w2 (.cells (madeCells #[.int .i64 0] n) 3)
  rw [rowK_zero] at hbA hr3 hmk
  have hc3 := ((HB2.out.trans (hbA.mono HB2.out.size)).cell (p := ⟨b, 0, none⟩) HB.out).trans HC.out
  have hst : (rowK n 0).take 0 ++ [Value.int .i64 (-1)] ++ (rowK n 0).drop 1 = rowK n 1 := rowK_step n 0 1 (by omega)
  have hcp : ∀ ty : TypeId, (Builtin.copy_ #[34, 34] ty #[.slice (some ⟨w2.heap.size, 0, none⟩) n n, .slice (some ⟨b, 0, none⟩) 1 1]).run Tryz.prog (w2.alloc (.cells (rowK n 0).toArray 3)) = .ok (.int .i64 1) ((w2.alloc (.cells (rowK n 0).toArray 3)).setRow w2.heap.size (rowK n 1).toArray) := fun ty => by
   rw [← hst]
   exact run_copy_row (P := Tryz.prog) (w2.alloc (.cells (rowK n 0).toArray 3)) 34 34 ty 3 w2.heap.size 0 n n ⟨b, 0, none⟩ 1 1 _ _ [.int .i64 (-1)] und_ints (by kernel_rfl) hr3 (by show 1 = min 1 n; omega)
    (fun j v hj => by
      have : j = 0 := by have := (List.getElem?_eq_some_iff.1 hj).1; simpa using this
      subst this
      simp only [List.getElem?_cons_zero, Option.some.injEq] at hj
      subst hj
      rw [WideShapes.add_plain]
      exact hc3) (by simp [rowK]; omega) (by intro v hv; rw [List.mem_singleton.1 hv]; rfl)
  have hrow := setRow_heap (w2.alloc (.cells (rowK n 0).toArray 3)) w2.heap.size _ ((rowK n 0).take 0 ++ [Value.int .i64 (-1)] ++ (rowK n 0).drop 1).toArray _ _ hr3
  have hbl := below_setRow (hbA) (Nat.le_refl w2.heap.size) ((rowK n 0).take 0 ++ [Value.int .i64 (-1)] ++ (rowK n 0).drop 1).toArray
  rw [hst] at hrow hbl
  have HBL := Lib.hid (HB2.out.trans (hbl.mono HB2.out.size))
  have HROW := Lib.hid hrow
  clear hrow hst hbl hbA hr3 hc3
  go_wp2_with fail
  go_loopw [8] (fun v wr => ∃ k, 1 ≤ k ∧ k ≤ n ∧ v = .int .i64 (k : Nat) ∧ wr.heap[w2.heap.size]? = some (.cells (rowK n k).toArray 3 (0, 0)) ∧ Below w.heap.size w wr) (fun v _ => n - (intOf v).toNat)
  case atStart => exact ⟨1, Nat.le_refl _, by omega, rfl, HROW.out, HBL.out⟩
  case round =>
    obtain ⟨k, hk1, hk2, rfl, hrow, hbl⟩ := hrel
    have HROW1 := Lib.hid hrow
    have HBL1 := Lib.hid hbl
    clear hrow hbl hcp
    by_cases hlt : k < n
    · obtain ⟨c, hc⟩ : ∃ c, c = min k (n - k) := ⟨_, rfl⟩
      have hc1 : 0 < c := by omega
      have hc2 : k + c ≤ n := by omega
      have hst := rowK_step n k c hc2
      have hcp : ∀ ty : TypeId, (Builtin.copy_ #[34, 34] ty #[.slice (some ⟨w2.heap.size, k, none⟩) (n - k) (n - k), .slice (some ⟨w2.heap.size, 0, none⟩) k n]).run Tryz.prog wr.drew = .ok (.int .i64 (c : Nat)) (wr.drew.setRow w2.heap.size (rowK n (k + c)).toArray) := fun ty => by
       have h := run_copy_row (P := Tryz.prog) wr.drew 34 34 ty 3 w2.heap.size k (n - k) (n - k) ⟨w2.heap.size, 0, none⟩ k n _ _ (List.replicate c (.int .i64 (-1))) und_ints (by kernel_rfl) HROW1.out (by rw [List.length_replicate]; exact hc)
        (fun j v hj => by
          obtain ⟨h1, h2⟩ := List.getElem?_eq_some_iff.1 hj
          rw [List.length_replicate] at h1
          rw [List.getElem_replicate] at h2
          subst h2
          rw [WideShapes.add_plain]
          show wr.cell? _ = _
          rw [cell_of_row _ _ _ _ _ _ HROW1.out, Nat.zero_add]
          simpa using rowK_at n k j (by omega)) (by simp only [List.length_replicate, List.size_toArray]; rw [rowK_length n k hk2]; exact hc2) (by intro v hv; rw [List.eq_of_mem_replicate hv]; rfl)
       rw [List.length_replicate, List.toList_toArray, hst] at h
       exact h
      have hrow := setRow_heap wr.drew w2.heap.size _ ((rowK n k).take k ++ List.replicate c (Value.int .i64 (-1)) ++ (rowK n k).drop (k + c)).toArray _ _ HROW1.out
      have hbl := below_setRow (Below.drew (Below.refl w2.heap.size wr)) (Nat.le_refl w2.heap.size) ((rowK n k).take k ++ List.replicate c (Value.int .i64 (-1)) ++ (rowK n k).drop (k + c)).toArray
      rw [hst] at hrow hbl
      have HROW2 := Lib.hid hrow
      have HBL2 := Lib.hid (HBL1.out.trans (hbl.mono HB2.out.size))
      clear hrow hbl hc hst
      go_wp2_with fail
      go_region
      all_goals
        go_wp2_with fail
        go_roundw
        case rel => exact ⟨k + c, by omega, by omega, by go_num, HROW2.out, HBL2.out⟩
        case measure => simp [intOf]; omega
    · obtain rfl : k = n := by omega
      go_wp2_with fail
      go_ret
      exact ⟨_, rfl, HB2.out.size, HROW1.out, HBL1.out⟩
end Go.Proofs.YtkaoegdfgoojdaaGreatDoor
