/- octet.Of at 'a', awake: the walks. -/
import Derived.Test.YtkaoegdfgoojdaaCompile
namespace Go.Proofs.Ytkaoegdfgoojdaa
open Go Go.RowKit

set_option maxRecDepth 100000 in
set_option maxHeartbeats 400000 in
theorem add_a (w : World) (S : Nat) (hc : w.cell? ⟨S, 1, none⟩ = some (.int .u64 0)) (hf : w.frozen? ⟨S, 1, none⟩ = false) :
    Calls Try.prog 22 #[.pointer (some ⟨S, 0, none⟩), .int .u8 97] w fun e w' => e = .returned (.tuple #[]) ∧ (w.setCell ⟨S, 1, none⟩ (.int .u64 8589934592)).drew = w' := by
  have e1 : IntKind.u8.wrap 1 = 1 := by decide
  have e2 : IntKind.u8.wrap 33 = 33 := by decide
  go_enter Try.func22, Try.ntmps22
  go_wp2_with fail
  refine wp_region_still_tail 12 (by kernel_rfl) (by kernel_rfl) ?_
  simp only [List.take_succ_cons, List.take_zero, List.drop_succ_cons, List.drop_zero]
  repeat still_step
  refine wpStill_nil ?_
  change wpList _ _ _ _ _ w.drew
  go_wp2_with fail
  go_end0
  exact ⟨rfl, rfl⟩

/-- What holds at the head of Of's loop. -/
def OfRel (w : World) (n : Int) (i : Value) (wr : World) : Prop :=
  i = .int .i64 n ∧ wr.heap[w.heap.size]? = some (.cells #[.int .u64 0, .int .u64 0, .int .u64 0, .int .u64 0] 41 (0, 0)) ∧
  wr.heap[w.heap.size + 1]? = some (.cells #[.int .u64 0, .int .u64 (if n = 0 then 0 else 8589934592), .int .u64 0, .int .u64 0] 41 (0, 0)) ∧ Below w.heap.size w wr

set_option maxRecDepth 100000 in
set_option maxHeartbeats 800000 in
theorem Of_a (w : World) (b : Nat) (hc : w.cell? ⟨b, 0, none⟩ = some (.int .u8 97)) (hb : b < w.heap.size) :
    Calls Try.prog 11 #[.slice (some ⟨b, 0, none⟩) 1 1] w (Says w (.agg #[.int .u64 0, .int .u64 8589934592, .int .u64 0, .int .u64 0])) := by
  have HC := Lib.hid hc
  clear hc
  go_enter Try.func11, Try.ntmps11
  go_wp2_with fail
  have hz : (w.alloc (.cells #[.int .u64 0, .int .u64 0, .int .u64 0, .int .u64 0] 41)).heap.size = w.heap.size + 1 := Array.size_push _
  have hB : Below w.heap.size w ((w.alloc (.cells #[.int .u64 0, .int .u64 0, .int .u64 0, .int .u64 0] 41)).alloc (.cells #[.int .u64 0, .int .u64 0, .int .u64 0, .int .u64 0] 41)) :=
    ((Below.refl _ _).alloc (Nat.le_refl _) _).alloc (by rw [hz]; omega) _
  have h0 : OfRel w 0 (.int .i64 0) ((w.alloc (.cells #[.int .u64 0, .int .u64 0, .int .u64 0, .int .u64 0] 41)).alloc (.cells #[.int .u64 0, .int .u64 0, .int .u64 0, .int .u64 0] 41)) := by
    refine ⟨rfl, ?_, ?_, hB⟩
    · rw [Below.heap_alloc _ _ _ (by rw [hz]; omega)]; exact heap_alloc_new w _
    · have h := heap_alloc_new (w.alloc (.cells #[.int .u64 0, .int .u64 0, .int .u64 0, .int .u64 0] 41)) (.cells #[.int .u64 0, .int .u64 0, .int .u64 0, .int .u64 0] 41)
      rw [hz] at h
      exact h
  have H0 := Lib.hid h0
  clear hz hB h0
  generalize ((w.alloc (.cells #[.int .u64 0, .int .u64 0, .int .u64 0, .int .u64 0] 41)).alloc (.cells #[.int .u64 0, .int .u64 0, .int .u64 0, .int .u64 0] 41)) = W0 at *
  go_loopw [8] (fun i wr => OfRel w 0 i wr ∨ OfRel w 1 i wr) (fun i _ => 1 - (intOf i).toNat)
  case atStart => exact .inl H0.out
  case round =>
    rcases hrel with ⟨rfl, h1, h2, h3⟩ | ⟨rfl, h1, h2, h3⟩
    · have hcell := (h3.cell (p := ⟨b, 0, none⟩) hb).trans HC.out
      have HB := Lib.hid h3
      have H1 := Lib.hid h1
      have H2 := Lib.hid h2
      clear h1 h2 h3
      go_wp2_with fail
      clear hcell
      refine (add_a wr (w.heap.size + 1) (cell_of H2.out rfl) (frozen_of_row _ _ _ _ _ H2.out)).mono ?_
      rintro e w2 ⟨rfl, rfl⟩
      go_wp2_with fail
      go_roundw
      case rel =>
        refine .inr ⟨rfl, ?_, ?_, (HB.out.setCell (p := ⟨w.heap.size + 1, 1, none⟩) (by simp) _).drew⟩
        · exact (heap_setCell_other wr ⟨w.heap.size + 1, 1, none⟩ w.heap.size _ (by simp)).trans H1.out
        · exact (heap_setCell_same wr (w.heap.size + 1) 1 _ _ _ H2.out).trans rfl
      case measure => simp [intOf]
    · have c0 := cell_of h1 (j := 0) rfl
      have c1 := cell_of h1 (j := 1) rfl
      have c2 := cell_of h1 (j := 2) rfl
      have c3 := cell_of h1 (j := 3) rfl
      have d0 := cell_of h2 (j := 0) (u := .int .u64 0) rfl
      have d1 := cell_of h2 (j := 1) (u := .int .u64 8589934592) rfl
      have d2 := cell_of h2 (j := 2) (u := .int .u64 0) rfl
      have d3 := cell_of h2 (j := 3) (u := .int .u64 0) rfl
      have f0 := frozen_of_row wr w.heap.size 0 _ _ h1
      have f1 := frozen_of_row wr w.heap.size 1 _ _ h1
      have f2 := frozen_of_row wr w.heap.size 2 _ _ h1
      have f3 := frozen_of_row wr w.heap.size 3 _ _ h1
      have HB := Lib.hid h3
      clear h1 h2 h3
      go_wp2_with fail
      refine bodyPost_ret (v := .agg #[.int .u64 0, .int .u64 8589934592, .int .u64 0, .int .u64 0]) (by simp [results, Try.results11, go_sem, c0, c1, c2, c3]) rfl ⟨rfl, ?_⟩
      exact (((HB.out.setCell (Nat.le_refl _) _).setCell (Nat.le_refl _) _).setCell (Nat.le_refl _) _).setCell (Nat.le_refl _) _
end Go.Proofs.Ytkaoegdfgoojdaa
