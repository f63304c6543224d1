/- awake: the walk. -/
import Derived.Test.YtkaoegdfgoojdaaOf
namespace Go.Proofs.Ytkaoegdfgoojdaa
open Go Go.RowKit

def aT : Tr := .one 0 8589934592 0 0
theorem aT_right : rightB aT = true := rfl
theorem aT_final : finalB aT = ⟨[inst 3 0, ⟨0, 0, 8589934592, 0, 0, 0, 0⟩, inst 3 1, inst 9 0], 0, 0, false, false⟩ := rfl

set_option maxRecDepth 100000 in
set_option maxHeartbeats 800000 in
theorem awake_any (w : World) : Calls Try.prog 6 #[] w (Says w (.bool true)) := by
  go_enter Try.func6, Try.ntmps6
  go_wp2_with fail
  refine (Of_a _ w.heap.size (by simp) (by simp)).mono ?_
  rintro e w2 ⟨rfl, hb⟩
  have HB := Lib.hid (show Below w.heap.size w w2 from ((Below.refl _ _).alloc (Nat.le_refl _) _).trans (hb.mono (by simp)))
  clear hb
  go_wp2_with fail
  refine (Compile_any w2 w2.heap.size (Nat.le_refl _) aT _ rfl (by simp [aT, sizeT])).mono ?_
  rintro e w3 ⟨hb, hc⟩
  rw [aT_right, aT_final] at hc
  simp only [if_true, Bool.false_eq_true, if_false] at hc
  obtain ⟨x, rfl, ho, _⟩ := hc
  have HB3 := Lib.hid (HB.out.trans (hb.mono HB.out.size))
  obtain ⟨g, cap, rfl, hg, hlt⟩ := ho.form (by simp)
  have q0 := ho.cellAt 0 (by simp)
  have q1 := ho.cellAt 7 (by simp)
  have q3 := ho.cellAt 21 (by simp)
  clear hb ho
  simp [flat, In.cells, inst] at q0 q1 q3
  go_wp2_with fail
  go_ret
  exact ⟨rfl, HB3.out.alloc HB3.out.size _⟩
end Go.Proofs.Ytkaoegdfgoojdaa
