/- numbers of none: the walk (seat 2). -/
import Derived.Test.YtkaoegdfgoojdaaGreatDoorHas
import Derived.BigQuiet
import Derived.Deep.QuietTactic
import Derived.Deep.RegionHeld3
import Derived.Lib.UnsafeStr
namespace Go.Proofs.YtkaoegdfgoojdaaGreatDoor
open Go Go.RowKit

set_option maxRecDepth 100000 in
set_option maxHeartbeats 800000 in
theorem usd_nil (ts : Array TypeId) (ty : TypeId) (w : World) : (Builtin.unsafeSliceData_ ts ty #[.slice none 0 0]).run Tryz.prog w = .ok (.pointer none) w := rfl

set_option maxRecDepth 100000 in
set_option maxHeartbeats 800000 in
theorem string_nil (w : World) (b : Nat) (h : w.cell? ⟨b, 1, none⟩ = some (.slice none 0 0)) : Calls Tryz.prog 65 #[.pointer (some ⟨b, 0, none⟩)] w (Says w (.string ByteArray.empty)) := by
  have u1 := usd_nil
  have u2 : ∀ (pt it ty : TypeId) (w : World), (Builtin.unsafeString_ #[pt, it] ty #[.pointer none, .int .i64 0]).run Tryz.prog w = .ok (.string .empty) w := fun pt it ty w => Lib.run_unsafeString_none w pt it ty none
  go_enter Tryz.func65, Tryz.ntmps65
  go_wp2_with fail
  go_region_held3 (fun w' => w'.cell? ⟨b, 1, none⟩ = some (.slice none 0 0)) (go_keep) (first | fail)
  all_goals
    go_wp2_with fail
    go_ret
    exact ⟨rfl, (Below.refl _ _).drew⟩

set_option maxRecDepth 100000 in
set_option maxHeartbeats 800000 in
theorem numbers_nil (w : World) : Calls Tryz.prog 46 #[.slice none 0 0] w (Says w (.string ByteArray.empty)) := by
  go_enter Tryz.func46, Tryz.ntmps46
  go_wp2_with fail
  refine wp_loop_rounds 1 ?_
  rw [rounds_succ]
  go_wp2_with fail
  refine (string_nil _ w.heap.size (cell_of (heap_alloc_new w _) (j := 1) rfl)).mono ?_
  rintro e w2 ⟨rfl, hb⟩
  have HB := Lib.hid ((show Below w.heap.size w _ from (Below.refl _ _).alloc (Nat.le_refl _) _).trans (hb.mono (by simp)))
  clear hb
  go_wp2_with fail
  go_ret
  exact ⟨rfl, HB.out⟩
end Go.Proofs.YtkaoegdfgoojdaaGreatDoor
