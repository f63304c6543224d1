/- machine.move at a Byte: the walk (seat 2). -/
import Derived.Test.YtkaoegdfgoojdaaGreatDoorFound
import Derived.BigQuiet
import Derived.Deep.QuietTactic
import Derived.Deep.RegionHeld3
namespace Go.Proofs.YtkaoegdfgoojdaaGreatDoor
open Go Go.RowKit

theorem below_drewN {B : Nat} {a w : World} (h : Below B a w) (n : Nat) : Below B a (w.drewN n) := ⟨h.os, h.tape, h.output, h.size, h.block⟩

set_option maxRecDepth 100000 in
set_option maxHeartbeats 800000 in
/-- Behind the text's end. -/
theorem move_end (w : World) (M : Nat) (hM : M < w.heap.size) (s0 s1 s2 s3 x y : Int) (s : ByteArray) (at_ : Nat) (hs : w.cell? ⟨M, 4, none⟩ = some (.string s)) (hat : ¬ at_ < s.size) (hsm : at_ ≤ 1048576) (hss : s.size ≤ 1048576) :
    Calls Tryz.prog 35 #[.pointer (some ⟨M, 0, none⟩), .agg #[.int .i64 0, .int .u64 s0, .int .u64 s1, .int .u64 s2, .int .u64 s3, .int .i64 x, .int .i64 y], .int .i64 at_] w (Says w (.tuple #[.int .i64 ((at_ + 1 : Nat) : Int), .bool false])) := by
  have hd : decide ((at_ : Int) < (s.size : Int)) = false := by simp; omega
  have e1 : IntKind.i64.wrap ((at_ : Int) + 1) = (at_ : Int) + 1 := IntWalk.i64_in _ (by omega)
  go_enter Tryz.func35, Tryz.ntmps35
  go_wp2_with fail
  go_quiet (fail)
  go_wp2_with fail
  go_ret2
  exact ⟨rfl, below_drewN ((Below.refl _ _).alloc (Nat.le_refl _) _) _⟩

set_option maxRecDepth 100000 in
set_option maxHeartbeats 1600000 in
/-- In the text. -/
theorem move_in (w : World) (M : Nat) (hM : M < w.heap.size) (s0 s1 s2 s3 x y : Int) (s : ByteArray) (at_ : Nat) (hs : w.cell? ⟨M, 4, none⟩ = some (.string s)) (hat : at_ < s.size) (hss : s.size ≤ 1048576)
    (hr : ∀ c, 0 ≤ wordOf ⟨0, s0, s1, s2, s3, 0, 0⟩ c ∧ wordOf ⟨0, s0, s1, s2, s3, 0, 0⟩ c ≤ 18446744073709551615) :
    Calls Tryz.prog 35 #[.pointer (some ⟨M, 0, none⟩), .agg #[.int .i64 0, .int .u64 s0, .int .u64 s1, .int .u64 s2, .int .u64 s3, .int .i64 x, .int .i64 y], .int .i64 at_] w
      (Says w (.tuple #[.int .i64 ((at_ + 1 : Nat) : Int), .bool (hasB ⟨0, s0, s1, s2, s3, 0, 0⟩ (s[at_]'hat).toNat)])) := by
  have hd : decide ((at_ : Int) < (s.size : Int)) = true := by simp; omega
  have hi : (at_ : Int) < (s.size : Int) := by omega
  have e1 : IntKind.i64.wrap ((at_ : Int) + 1) = (at_ : Int) + 1 := IntWalk.i64_in _ (by omega)
  have HH := Lib.hid (fun w' => has_any w' s0 s1 s2 s3 (s[at_]'hat).toNat (UInt8.toNat_lt _) (hr _))
  go_enter Tryz.func35, Tryz.ntmps35
  go_wp2_with fail
  have hzA : M < (w.alloc (.cells #[.int .i64 0, .int .u64 s0, .int .u64 s1, .int .u64 s2, .int .u64 s3, .int .i64 x, .int .i64 y] 74)).heap.size := by simp; omega
  have HBA := Lib.hid (show Below w.heap.size w (w.alloc (.cells #[.int .i64 0, .int .u64 s0, .int .u64 s1, .int .u64 s2, .int .u64 s3, .int .i64 x, .int .i64 y] 74)) from (Below.refl _ _).alloc (Nat.le_refl _) _)
  have hR := heap_alloc_new w (.cells #[.int .i64 0, .int .u64 s0, .int .u64 s1, .int .u64 s2, .int .u64 s3, .int .i64 x, .int .i64 y] 74)
  have hzz : w.heap.size < (w.alloc (.cells #[.int .i64 0, .int .u64 s0, .int .u64 s1, .int .u64 s2, .int .u64 s3, .int .i64 x, .int .i64 y] 74)).heap.size := by simp
  have HSS := Lib.hid ((HBA.out.cell (p := ⟨M, 4, none⟩) hM).trans hs)
  generalize w.alloc (.cells #[.int .i64 0, .int .u64 s0, .int .u64 s1, .int .u64 s2, .int .u64 s3, .int .i64 x, .int .i64 y] 74) = W1 at *
  have r1 : W1.cell? ⟨w.heap.size, 1, none⟩ = some (.int .u64 s0) := cell_of hR (j := 1) rfl
  have r2 : W1.cell? ⟨w.heap.size, 2, none⟩ = some (.int .u64 s1) := cell_of hR (j := 2) rfl
  have r3 : W1.cell? ⟨w.heap.size, 3, none⟩ = some (.int .u64 s2) := cell_of hR (j := 3) rfl
  have r4 : W1.cell? ⟨w.heap.size, 4, none⟩ = some (.int .u64 s3) := cell_of hR (j := 4) rfl
  have r5 := HSS.out
  clear hs
  go_region_held3 (fun w' => w'.cell? ⟨M, 4, none⟩ = some (.string s) ∧ w'.cell? ⟨w.heap.size, 1, none⟩ = some (.int .u64 s0) ∧ w'.cell? ⟨w.heap.size, 2, none⟩ = some (.int .u64 s1) ∧ w'.cell? ⟨w.heap.size, 3, none⟩ = some (.int .u64 s2) ∧ w'.cell? ⟨w.heap.size, 4, none⟩ = some (.int .u64 s3))
    (first | go_keep | exact ⟨(HB1.out.cell (p := ⟨M, 4, none⟩) hzA).trans r5, (HB1.out.cell (p := ⟨w.heap.size, 1, none⟩) hzz).trans r1, (HB1.out.cell (p := ⟨w.heap.size, 2, none⟩) hzz).trans r2, (HB1.out.cell (p := ⟨w.heap.size, 3, none⟩) hzz).trans r3, (HB1.out.cell (p := ⟨w.heap.size, 4, none⟩) hzz).trans r4⟩)
    (first | (go_at_call 50; refine (HH.out _).mono ?_; rintro e w2 ⟨rfl, hb⟩; have HB1 := Lib.hid (show Below W1.heap.size W1 w2 from (Below.drew (Below.refl _ _)).trans hb); clear hb))
  all_goals
    go_wp2_with fail
    go_ret2
    exact ⟨rfl, HBA.out.trans (HB1.out.mono HBA.out.size)⟩
end Go.Proofs.YtkaoegdfgoojdaaGreatDoor
