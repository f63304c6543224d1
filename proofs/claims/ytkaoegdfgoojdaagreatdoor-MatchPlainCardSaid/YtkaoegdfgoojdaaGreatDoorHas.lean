/- Set.Has: the walk (seat 2). -/
import Derived.Test.YtkaoegdfgoojdaaGreatDoorNew
import Derived.Test.YtkaoegdfgoojdaaGreatDoorWordP
import Derived.WalkSmall
namespace Go.Proofs.YtkaoegdfgoojdaaGreatDoor
open Go Go.RowKit

set_option maxRecDepth 100000 in
set_option maxHeartbeats 800000 in
theorem has_any (w : World) (s0 s1 s2 s3 : Int) (c : Nat) (hc : c < 256) (hr : 0 ≤ wordOf ⟨0, s0, s1, s2, s3, 0, 0⟩ c ∧ wordOf ⟨0, s0, s1, s2, s3, 0, 0⟩ c ≤ 18446744073709551615) :
    Calls Tryz.prog 50 #[.agg #[.int .u64 s0, .int .u64 s1, .int .u64 s2, .int .u64 s3], .int .u8 c] w (Says w (.bool (hasB ⟨0, s0, s1, s2, s3, 0, 0⟩ c))) := by
  have q : (w.alloc (.cells #[.int .u64 s0, .int .u64 s1, .int .u64 s2, .int .u64 s3] 72)).cell? ⟨w.heap.size, c / 64, none⟩ = some (.int .u64 (wordOf ⟨0, s0, s1, s2, s3, 0, 0⟩ c)) := by
    have h := heap_alloc_new w (.cells #[.int .u64 s0, .int .u64 s1, .int .u64 s2, .int .u64 s3] 72)
    have h1 : c / 64 < 4 := by omega
    unfold wordOf
    generalize c / 64 = x at *
    have hx : x = 0 ∨ x = 1 ∨ x = 2 ∨ x = 3 := by omega
    rcases hx with rfl | rfl | rfl | rfl
    · exact cell_of h rfl
    · exact cell_of h rfl
    · exact cell_of h rfl
    · exact cell_of h rfl
  have HH := Lib.hid (show hasB ⟨0, s0, s1, s2, s3, 0, 0⟩ c = ((wordOf ⟨0, s0, s1, s2, s3, 0, 0⟩ c / 2 ^ (c % 64)) % 2 == 1) from rfl)
  obtain ⟨W, hW⟩ : ∃ W, wordOf ⟨0, s0, s1, s2, s3, 0, 0⟩ c = W := ⟨_, rfl⟩
  rw [hW] at q HH hr
  have HA := Lib.hid (and_one_u64 (W / 2 ^ (c % 64)) (Int.ediv_nonneg hr.1 (Int.pow_nonneg (by decide))) (Int.le_trans (Int.ediv_le_self _ hr.1) hr.2))
  clear hW
  go_enter Tryz.func50, Tryz.ntmps50
  go_wp2_with fail
  go_ret
  rw [HA.out, HH.out]
  exact ⟨rfl, (Below.refl _ _).alloc (Nat.le_refl _) _⟩
end Go.Proofs.YtkaoegdfgoojdaaGreatDoor
