/- machine.found: the walk (seat 2). -/
import Derived.Test.YtkaoegdfgoojdaaGreatDoorNumbers
import Derived.Test.YtkaoegdfgoojdaaGreatDoorRunP
namespace Go.Proofs.YtkaoegdfgoojdaaGreatDoor
open Go Go.RowKit

/-- A slice of ints that is only read: its cells, in a block below N. -/
def Rdi (w : World) (N : Nat) (l : List Int) (x : Value) : Prop :=
  ∃ b off c, x = .slice (some ⟨b, off, none⟩) l.length c ∧ b < N ∧ l.length ≤ 1048576 ∧ ∀ j u, (l.map (Value.int .i64))[j]? = some u → w.cell? ⟨b, off + j, none⟩ = some u

set_option maxRecDepth 100000 in
set_option maxHeartbeats 800000 in
/-- The first match: the slots are cloned. -/
theorem found_first (w : World) (M N : Nat) (sl : List Int) (x : Value) (at_ : Nat) (hsl : 0 < sl.length) (hN : N ≤ w.heap.size) (hM : M < w.heap.size) (h5 : w.cell? ⟨M, 5, none⟩ = some x) (h8 : w.cell? ⟨M, 8, none⟩ = some (.slice none 0 0)) (f8 : w.frozen? ⟨M, 8, none⟩ = false) (hx : Rdi w N sl x) :
    Calls Tryz.prog 30 #[.pointer (some ⟨M, 0, none⟩), .int .i64 at_] w fun e w' => e = .returned (.tuple #[]) ∧
      ∃ w1 g cap, Below w.heap.size w w1 ∧ w1.ownsRow w.heap.size 3 1 (.slice (some ⟨g, 0, none⟩) sl.length cap) sl.length (sl.map (Value.int .i64)) ∧ w' = w1.setCell ⟨M, 8, none⟩ (.slice (some ⟨g, 0, none⟩) sl.length cap) := by
  obtain ⟨b, off, c, rfl, hb, hl, hc⟩ := hx
  have HC := Lib.hid hc
  clear hc
  go_enter Tryz.func30, Tryz.ntmps30
  go_wp2_with fail
  refine (clone_ints w b off sl.length c (sl.map (Value.int .i64)) hsl hl (by simp) (by intro u hu; obtain ⟨m, _, rfl⟩ := List.mem_map.1 hu; rfl) (by omega) HC.out).mono ?_
  rintro e w2 ⟨g, cap, rfl, ho, hbl, hg⟩
  have HO := Lib.hid ho
  have HB := Lib.hid hbl
  have k8 := (hbl.cell (p := ⟨M, 8, none⟩) hM).trans h8
  have e8 : w2.frozen? ⟨M, 8, none⟩ = false := by rw [← f8]; exact World.frozen?_of_block (w := w) (hbl.block M hM)
  clear ho hbl h5 h8 f8
  go_wp2_with fail
  go_end0
  exact ⟨rfl, w2, g, cap, HB.out, HO.out, rfl⟩
set_option maxRecDepth 100000 in
set_option maxHeartbeats 800000 in
/-- A longer match than the best: the slots are cloned. -/
theorem found_longer (w : World) (M N : Nat) (sl : List Int) (x : Value) (at_ bb bn bc : Nat) (hsl : 0 < sl.length) (hN : N ≤ w.heap.size) (hM : M < w.heap.size) (h5 : w.cell? ⟨M, 5, none⟩ = some x) (h8 : w.cell? ⟨M, 8, none⟩ = some (.slice (some ⟨bb, 0, none⟩) bn bc)) (hbn : 1 < bn) (be : Int) (hbe : w.cell? ⟨bb, 1, none⟩ = some (.int .i64 be)) (hlt : be < at_) (f8 : w.frozen? ⟨M, 8, none⟩ = false) (hx : Rdi w N sl x) :
    Calls Tryz.prog 30 #[.pointer (some ⟨M, 0, none⟩), .int .i64 at_] w fun e w' => e = .returned (.tuple #[]) ∧
      ∃ w1 g cap, Below w.heap.size w w1 ∧ w1.ownsRow w.heap.size 3 1 (.slice (some ⟨g, 0, none⟩) sl.length cap) sl.length (sl.map (Value.int .i64)) ∧ w' = w1.setCell ⟨M, 8, none⟩ (.slice (some ⟨g, 0, none⟩) sl.length cap) := by
  obtain ⟨b, off, c, rfl, hb, hl, hc⟩ := hx
  have HC := Lib.hid hc
  have hz : ((bn : Int) == 0) = false := by simp; omega
  have hi : (1 : Int) < (bn : Int) := by omega
  clear hc
  go_enter Tryz.func30, Tryz.ntmps30
  go_wp2_with fail
  refine (clone_ints w b off sl.length c (sl.map (Value.int .i64)) hsl hl (by simp) (by intro u hu; obtain ⟨m, _, rfl⟩ := List.mem_map.1 hu; rfl) (by omega) HC.out).mono ?_
  rintro e w2 ⟨g, cap, rfl, ho, hbl, hg⟩
  have HO := Lib.hid ho
  have HB := Lib.hid hbl
  have k8 := (hbl.cell (p := ⟨M, 8, none⟩) hM).trans h8
  have e8 : w2.frozen? ⟨M, 8, none⟩ = false := by rw [← f8]; exact World.frozen?_of_block (w := w) (hbl.block M hM)
  clear ho hbl h5 h8 f8
  go_wp2_with fail
  go_end0
  exact ⟨rfl, w2, g, cap, HB.out, HO.out, rfl⟩
set_option maxRecDepth 100000 in
set_option maxHeartbeats 800000 in
/-- No longer match than the best. -/
theorem found_not (w : World) (M N : Nat) (sl : List Int) (x : Value) (at_ bb bn bc : Nat) (hsl : 0 < sl.length) (hN : N ≤ w.heap.size) (hM : M < w.heap.size) (h5 : w.cell? ⟨M, 5, none⟩ = some x) (h8 : w.cell? ⟨M, 8, none⟩ = some (.slice (some ⟨bb, 0, none⟩) bn bc)) (hbn : 1 < bn) (be : Int) (hbe : w.cell? ⟨bb, 1, none⟩ = some (.int .i64 be)) (hlt : ¬ be < at_) (f8 : w.frozen? ⟨M, 8, none⟩ = false) (hx : Rdi w N sl x) :
    Calls Tryz.prog 30 #[.pointer (some ⟨M, 0, none⟩), .int .i64 at_] w fun e w' => e = .returned (.tuple #[]) ∧ w = w' := by
  have hz : ((bn : Int) == 0) = false := by simp; omega
  have hi : (1 : Int) < (bn : Int) := by omega
  go_enter Tryz.func30, Tryz.ntmps30
  go_wp2_with fail
  go_end0
  exact ⟨rfl, rfl⟩

end Go.Proofs.YtkaoegdfgoojdaaGreatDoor
