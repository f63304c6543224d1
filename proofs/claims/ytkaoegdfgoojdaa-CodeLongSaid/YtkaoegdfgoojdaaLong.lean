/- CodeLong: the walk. -/
import Derived.Test.YtkaoegdfgoojdaaLongPure
namespace Go.Proofs.Ytkaoegdfgoojdaa
open Go Go.RowKit

set_option maxRecDepth 100000 in
set_option maxHeartbeats 800000 in
theorem codeLong_any (a b : Nat) (ha : a ≤ 255) (hb : b ≤ 255) (w : World) :
    Calls Try.prog 4 #[.int .u8 a, .int .u8 b] w (Says w (.bool true)) := by
  go_enter Try.func4, Try.ntmps4
  go_wp2_with fail
  refine (awake_any w).mono ?_
  rintro e w1 ⟨rfl, hb1⟩
  have HB1 := Lib.hid hb1
  clear hb1
  go_wp2_with fail
  refine (Of_a _ w1.heap.size (by simp) (by simp)).mono ?_
  rintro e w2 ⟨rfl, hb2⟩
  have HB2 := Lib.hid (HB1.out.trans ((show Below w1.heap.size w1 w2 from ((Below.refl _ _).alloc (Nat.le_refl _) _).trans (hb2.mono (by simp))).mono HB1.out.size))
  clear hb2
  go_wp2_with fail
  refine (Compile_any w2 w2.heap.size (Nat.le_refl _) (longT a b) _ ⟨_, rfl, _, rfl, rfl⟩ (by simp [longT, aT, sizeT])).mono ?_
  rintro e w3 ⟨hb3, hc⟩
  have HB3 := Lib.hid (HB2.out.trans (hb3.mono HB2.out.size))
  clear hb3
  rw [long_right a b ha hb, if_pos rfl] at hc
  obtain ⟨lf, ll⟩ := long_final a b
  have hab : a * b ≤ 255 * 255 := Nat.mul_le_mul ha hb
  have hab' : (a : Int) * (b : Int) ≤ 65025 := by rw [← Int.natCast_mul]; omega
  have hab0 : 0 ≤ (a : Int) * (b : Int) := by rw [← Int.natCast_mul]; omega
  have e : b * a = a * b := Nat.mul_comm b a
  rw [e] at lf
  clear e
  by_cases hbig : a * b + 3 ≤ 3000
  · rw [if_pos hbig] at lf
    rw [lf.1] at hc
    simp only [Bool.false_eq_true, if_false] at hc
    obtain ⟨x, rfl, ho, hs⟩ := hc
    obtain ⟨S, hS⟩ : ∃ S, finalB (longT a b) = S := ⟨_, rfl⟩
    rw [hS] at ll lf ho hs
    rw [hS, ll]
    clear hS
    obtain ⟨g, cap, rfl, hg, hlt⟩ := ho.form (by rw [lf.2]; omega)
    have hm : ((S.insts.length : Int) == (a : Int) * (b : Int) + 3) = true := by rw [beq_iff_eq, lf.2, ← Int.natCast_mul]; omega
    have hbig' : (a : Int) * (b : Int) + 3 ≤ 3000 := by rw [← Int.natCast_mul]; omega
    clear lf ll hbig hab ho
    go_wp2_with fail
    go_ret
    exact ⟨rfl, HB3.out.alloc HB3.out.size _⟩
  · rw [if_neg hbig] at lf
    rw [lf, if_pos rfl] at hc
    obtain rfl := hc
    have hbig' : ¬ (a : Int) * (b : Int) + 3 ≤ 3000 := by rw [← Int.natCast_mul]; omega
    clear lf ll hbig hab
    go_wp2_with fail
    go_ret
    exact ⟨rfl, HB3.out.alloc HB3.out.size _⟩
end Go.Proofs.Ytkaoegdfgoojdaa
