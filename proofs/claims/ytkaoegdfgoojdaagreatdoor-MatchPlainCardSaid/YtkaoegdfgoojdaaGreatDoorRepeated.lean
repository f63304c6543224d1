/- repeated of the reference's reading, where nothing is repeated: the walk (seat 2; printed by parse.py). -/
import Derived.Test.YtkaoegdfgoojdaaGreatDoorBlocks
namespace Go.Proofs.YtkaoegdfgoojdaaGreatDoor
open Go Go.RowKit
set_option maxRecDepth 100000

set_option maxHeartbeats 4000000 in
theorem repeated_none (w : World) (S : ByteArray) (at_ opn : Nat) (a : Option Addr) (n c : Nat) (k s0 s1 s2 s3 : Int) (al : Option Addr) (nl cl : Nat) (mn mx num : Int) (σ : ByteArray) (hat : at_ ≤ 1048576) (hss : σ.size ≤ 1)
    (hsig : ∀ w', Calls Tryz.prog 53 #[rVal S at_ opn a n c, .int .i64 at_] w' (Says w' (.string σ)))
    (h1 : (σ.toList == [42]) = false) (h2 : (σ.toList == [43]) = false) (h3 : (σ.toList == [63]) = false) (h4 : (σ.toList == [123]) = false) :
    Calls Tryz.prog 81 #[rVal S at_ opn a n c, .agg #[.int .i64 k, .int .u64 s0, .int .u64 s1, .int .u64 s2, .int .u64 s3, .slice al nl cl, .int .i64 mn, .int .i64 mx, .int .i64 num]] w (Says w (.tuple #[rVal S at_ opn a n c, .agg #[.int .i64 k, .int .u64 s0, .int .u64 s1, .int .u64 s2, .int .u64 s3, .slice al nl cl, .int .i64 mn, .int .i64 mx, .int .i64 num]])) := by
  unfold rVal at hsig ⊢
  have HSIG := Lib.hid hsig
  have HOP := Lib.hid (fun (w' : World) (b : ByteArray) => op_any w' S at_ opn a n c b)
  obtain ⟨b0, z0, g2, g3, g4, g5⟩ := alloc4 w (.cells #[.string S, .bool true, .int .i64 at_, .int .i64 opn, .slice a n c, .slice none 0 0, .int .i64 0, .int .i64 0] 105) (.cells #[.int .i64 k, .int .u64 s0, .int .u64 s1, .int .u64 s2, .int .u64 s3, .slice al nl cl, .int .i64 mn, .int .i64 mx, .int .i64 num] 28) (.cells #[.string ⟨#[]⟩, .bool false, .int .i64 0, .int .i64 0, .slice none 0 0, .slice none 0 0, .int .i64 0, .int .i64 0] 105) (.cells #[.int .i64 0, .int .u64 0, .int .u64 0, .int .u64 0, .int .u64 0, .slice none 0 0, .int .i64 0, .int .i64 0, .int .i64 0] 28)
  have HB0 := Lib.hid b0
  have HSZ0 := Lib.hid (Nat.le_of_eq z0.symm)
  have H20 := Lib.hid g2
  have H30 := Lib.hid g3
  have H40 := Lib.hid g4
  have H50 := Lib.hid g5
  have e0 : IntKind.i64.wrap ((at_ : Int) + (σ.size : Int)) = (at_ : Int) + (σ.size : Int) := IntWalk.i64_in _ (by omega)
  clear hsig b0 z0 g2 g3 g4 g5
  go_enter Tryz.func81, Tryz.ntmps81
  go_wp2_with fail
  generalize (((w.alloc (.cells #[.string S, .bool true, .int .i64 at_, .int .i64 opn, .slice a n c, .slice none 0 0, .int .i64 0, .int .i64 0] 105)).alloc (.cells #[.int .i64 k, .int .u64 s0, .int .u64 s1, .int .u64 s2, .int .u64 s3, .slice al nl cl, .int .i64 mn, .int .i64 mx, .int .i64 num] 28)).alloc (.cells #[.string ⟨#[]⟩, .bool false, .int .i64 0, .int .i64 0, .slice none 0 0, .slice none 0 0, .int .i64 0, .int .i64 0] 105)).alloc (.cells #[.int .i64 0, .int .u64 0, .int .u64 0, .int .u64 0, .int .u64 0, .slice none 0 0, .int .i64 0, .int .i64 0, .int .i64 0] 28) = W0 at *
  refine wp_loop_rounds 1 ?_
  rw [rounds_succ]
  have p0 : W0.cell? ⟨w.heap.size, 0, none⟩ = some (.string S) := cell_of H20.out (j := 0) rfl
  have p1 : W0.cell? ⟨w.heap.size, 1, none⟩ = some (.bool true) := cell_of H20.out (j := 1) rfl
  have p2 : W0.cell? ⟨w.heap.size, 2, none⟩ = some (.int .i64 at_) := cell_of H20.out (j := 2) rfl
  have p3 : W0.cell? ⟨w.heap.size, 3, none⟩ = some (.int .i64 opn) := cell_of H20.out (j := 3) rfl
  have p4 : W0.cell? ⟨w.heap.size, 4, none⟩ = some (.slice a n c) := cell_of H20.out (j := 4) rfl
  have p5 : W0.cell? ⟨w.heap.size, 5, none⟩ = some (.slice none 0 0) := cell_of H20.out (j := 5) rfl
  have p6 : W0.cell? ⟨w.heap.size, 6, none⟩ = some (.int .i64 0) := cell_of H20.out (j := 6) rfl
  have p7 : W0.cell? ⟨w.heap.size, 7, none⟩ = some (.int .i64 0) := cell_of H20.out (j := 7) rfl
  go_wp2_with fail
  refine (HSIG.out _).mono ?_
  rintro e W1 ⟨rfl, hb⟩
  clear p0 p1 p2 p3 p4 p5 p6 p7
  have H21 := Lib.hid ((hb.block (w.heap.size) (by have := HSZ0.out; omega)).trans H20.out)
  have H31 := Lib.hid ((hb.block (w.heap.size + 1) (by have := HSZ0.out; omega)).trans H30.out)
  have H41 := Lib.hid ((hb.block (w.heap.size + 1 + 1) (by have := HSZ0.out; omega)).trans H40.out)
  have H51 := Lib.hid ((hb.block (w.heap.size + 1 + 1 + 1) (by have := HSZ0.out; omega)).trans H50.out)
  have HSZ1 := Lib.hid (show w.heap.size + 4 ≤ W1.heap.size by have := HSZ0.out; have := hb.size; omega)
  have HB1 := Lib.hid (HB0.out.trans (hb.mono HB0.out.size))
  have p0 : W1.cell? ⟨w.heap.size, 0, none⟩ = some (.string S) := cell_of H21.out (j := 0) rfl
  have p1 : W1.cell? ⟨w.heap.size, 1, none⟩ = some (.bool true) := cell_of H21.out (j := 1) rfl
  have p2 : W1.cell? ⟨w.heap.size, 2, none⟩ = some (.int .i64 at_) := cell_of H21.out (j := 2) rfl
  have p3 : W1.cell? ⟨w.heap.size, 3, none⟩ = some (.int .i64 opn) := cell_of H21.out (j := 3) rfl
  have p4 : W1.cell? ⟨w.heap.size, 4, none⟩ = some (.slice a n c) := cell_of H21.out (j := 4) rfl
  have p5 : W1.cell? ⟨w.heap.size, 5, none⟩ = some (.slice none 0 0) := cell_of H21.out (j := 5) rfl
  have p6 : W1.cell? ⟨w.heap.size, 6, none⟩ = some (.int .i64 0) := cell_of H21.out (j := 6) rfl
  have p7 : W1.cell? ⟨w.heap.size, 7, none⟩ = some (.int .i64 0) := cell_of H21.out (j := 7) rfl
  clear hb
  go_wp2_with fail
  go_quiet (fail)
  have bq : Below W1.heap.size W1 (W1.drewN nq) := below_drewN (Below.refl _ _) _
  clear p0 p1 p2 p3 p4 p5 p6 p7
  have H22 := Lib.hid ((bq.block (w.heap.size) (by have := HSZ1.out; omega)).trans H21.out)
  have H32 := Lib.hid ((bq.block (w.heap.size + 1) (by have := HSZ1.out; omega)).trans H31.out)
  have H42 := Lib.hid ((bq.block (w.heap.size + 1 + 1) (by have := HSZ1.out; omega)).trans H41.out)
  have H52 := Lib.hid ((bq.block (w.heap.size + 1 + 1 + 1) (by have := HSZ1.out; omega)).trans H51.out)
  have HSZ2 := Lib.hid (show w.heap.size + 4 ≤ (W1.drewN nq).heap.size by have := HSZ1.out; have := bq.size; omega)
  have HB2 := Lib.hid (HB1.out.trans (bq.mono HB1.out.size))
  clear bq
  generalize W1.drewN nq = W2 at *
  have p0 : W2.cell? ⟨w.heap.size, 0, none⟩ = some (.string S) := cell_of H22.out (j := 0) rfl
  have p1 : W2.cell? ⟨w.heap.size, 1, none⟩ = some (.bool true) := cell_of H22.out (j := 1) rfl
  have p2 : W2.cell? ⟨w.heap.size, 2, none⟩ = some (.int .i64 at_) := cell_of H22.out (j := 2) rfl
  have p3 : W2.cell? ⟨w.heap.size, 3, none⟩ = some (.int .i64 opn) := cell_of H22.out (j := 3) rfl
  have p4 : W2.cell? ⟨w.heap.size, 4, none⟩ = some (.slice a n c) := cell_of H22.out (j := 4) rfl
  have p5 : W2.cell? ⟨w.heap.size, 5, none⟩ = some (.slice none 0 0) := cell_of H22.out (j := 5) rfl
  have p6 : W2.cell? ⟨w.heap.size, 6, none⟩ = some (.int .i64 0) := cell_of H22.out (j := 6) rfl
  have p7 : W2.cell? ⟨w.heap.size, 7, none⟩ = some (.int .i64 0) := cell_of H22.out (j := 7) rfl
  go_wp2_with fail
  refine (HOP.out _ _).mono ?_
  rintro e W3 ⟨rfl, hb⟩
  clear p0 p1 p2 p3 p4 p5 p6 p7
  have H23 := Lib.hid ((hb.block (w.heap.size) (by have := HSZ2.out; omega)).trans H22.out)
  have H33 := Lib.hid ((hb.block (w.heap.size + 1) (by have := HSZ2.out; omega)).trans H32.out)
  have H43 := Lib.hid ((hb.block (w.heap.size + 1 + 1) (by have := HSZ2.out; omega)).trans H42.out)
  have H53 := Lib.hid ((hb.block (w.heap.size + 1 + 1 + 1) (by have := HSZ2.out; omega)).trans H52.out)
  have HSZ3 := Lib.hid (show w.heap.size + 4 ≤ W3.heap.size by have := HSZ2.out; have := hb.size; omega)
  have HB3 := Lib.hid (HB2.out.trans (hb.mono HB2.out.size))
  clear hb
  have p0 : W3.cell? ⟨w.heap.size, 0, none⟩ = some (.string S) := cell_of H23.out (j := 0) rfl
  have p1 : W3.cell? ⟨w.heap.size, 1, none⟩ = some (.bool true) := cell_of H23.out (j := 1) rfl
  have p2 : W3.cell? ⟨w.heap.size, 2, none⟩ = some (.int .i64 at_) := cell_of H23.out (j := 2) rfl
  have p3 : W3.cell? ⟨w.heap.size, 3, none⟩ = some (.int .i64 opn) := cell_of H23.out (j := 3) rfl
  have p4 : W3.cell? ⟨w.heap.size, 4, none⟩ = some (.slice a n c) := cell_of H23.out (j := 4) rfl
  have p5 : W3.cell? ⟨w.heap.size, 5, none⟩ = some (.slice none 0 0) := cell_of H23.out (j := 5) rfl
  have p6 : W3.cell? ⟨w.heap.size, 6, none⟩ = some (.int .i64 0) := cell_of H23.out (j := 6) rfl
  have p7 : W3.cell? ⟨w.heap.size, 7, none⟩ = some (.int .i64 0) := cell_of H23.out (j := 7) rfl
  go_wp2_with fail
  refine (HOP.out _ _).mono ?_
  rintro e W4 ⟨rfl, hb⟩
  clear p0 p1 p2 p3 p4 p5 p6 p7
  have H24 := Lib.hid ((hb.block (w.heap.size) (by have := HSZ3.out; omega)).trans H23.out)
  have H34 := Lib.hid ((hb.block (w.heap.size + 1) (by have := HSZ3.out; omega)).trans H33.out)
  have H44 := Lib.hid ((hb.block (w.heap.size + 1 + 1) (by have := HSZ3.out; omega)).trans H43.out)
  have H54 := Lib.hid ((hb.block (w.heap.size + 1 + 1 + 1) (by have := HSZ3.out; omega)).trans H53.out)
  have HSZ4 := Lib.hid (show w.heap.size + 4 ≤ W4.heap.size by have := HSZ3.out; have := hb.size; omega)
  have HB4 := Lib.hid (HB3.out.trans (hb.mono HB3.out.size))
  clear hb
  have p0 : W4.cell? ⟨w.heap.size, 0, none⟩ = some (.string S) := cell_of H24.out (j := 0) rfl
  have p1 : W4.cell? ⟨w.heap.size, 1, none⟩ = some (.bool true) := cell_of H24.out (j := 1) rfl
  have p2 : W4.cell? ⟨w.heap.size, 2, none⟩ = some (.int .i64 at_) := cell_of H24.out (j := 2) rfl
  have p3 : W4.cell? ⟨w.heap.size, 3, none⟩ = some (.int .i64 opn) := cell_of H24.out (j := 3) rfl
  have p4 : W4.cell? ⟨w.heap.size, 4, none⟩ = some (.slice a n c) := cell_of H24.out (j := 4) rfl
  have p5 : W4.cell? ⟨w.heap.size, 5, none⟩ = some (.slice none 0 0) := cell_of H24.out (j := 5) rfl
  have p6 : W4.cell? ⟨w.heap.size, 6, none⟩ = some (.int .i64 0) := cell_of H24.out (j := 6) rfl
  have p7 : W4.cell? ⟨w.heap.size, 7, none⟩ = some (.int .i64 0) := cell_of H24.out (j := 7) rfl
  go_wp2_with fail
  refine (HOP.out _ _).mono ?_
  rintro e W5 ⟨rfl, hb⟩
  clear p0 p1 p2 p3 p4 p5 p6 p7
  have H25 := Lib.hid ((hb.block (w.heap.size) (by have := HSZ4.out; omega)).trans H24.out)
  have H35 := Lib.hid ((hb.block (w.heap.size + 1) (by have := HSZ4.out; omega)).trans H34.out)
  have H45 := Lib.hid ((hb.block (w.heap.size + 1 + 1) (by have := HSZ4.out; omega)).trans H44.out)
  have H55 := Lib.hid ((hb.block (w.heap.size + 1 + 1 + 1) (by have := HSZ4.out; omega)).trans H54.out)
  have HSZ5 := Lib.hid (show w.heap.size + 4 ≤ W5.heap.size by have := HSZ4.out; have := hb.size; omega)
  have HB5 := Lib.hid (HB4.out.trans (hb.mono HB4.out.size))
  clear hb
  have p0 : W5.cell? ⟨w.heap.size, 0, none⟩ = some (.string S) := cell_of H25.out (j := 0) rfl
  have p1 : W5.cell? ⟨w.heap.size, 1, none⟩ = some (.bool true) := cell_of H25.out (j := 1) rfl
  have p2 : W5.cell? ⟨w.heap.size, 2, none⟩ = some (.int .i64 at_) := cell_of H25.out (j := 2) rfl
  have p3 : W5.cell? ⟨w.heap.size, 3, none⟩ = some (.int .i64 opn) := cell_of H25.out (j := 3) rfl
  have p4 : W5.cell? ⟨w.heap.size, 4, none⟩ = some (.slice a n c) := cell_of H25.out (j := 4) rfl
  have p5 : W5.cell? ⟨w.heap.size, 5, none⟩ = some (.slice none 0 0) := cell_of H25.out (j := 5) rfl
  have p6 : W5.cell? ⟨w.heap.size, 6, none⟩ = some (.int .i64 0) := cell_of H25.out (j := 6) rfl
  have p7 : W5.cell? ⟨w.heap.size, 7, none⟩ = some (.int .i64 0) := cell_of H25.out (j := 7) rfl
  have q0 : W5.cell? ⟨w.heap.size + 1, 0, none⟩ = some (.int .i64 k) := cell_of H35.out (j := 0) rfl
  have q1 : W5.cell? ⟨w.heap.size + 1, 1, none⟩ = some (.int .u64 s0) := cell_of H35.out (j := 1) rfl
  have q2 : W5.cell? ⟨w.heap.size + 1, 2, none⟩ = some (.int .u64 s1) := cell_of H35.out (j := 2) rfl
  have q3 : W5.cell? ⟨w.heap.size + 1, 3, none⟩ = some (.int .u64 s2) := cell_of H35.out (j := 3) rfl
  have q4 : W5.cell? ⟨w.heap.size + 1, 4, none⟩ = some (.int .u64 s3) := cell_of H35.out (j := 4) rfl
  have q5 : W5.cell? ⟨w.heap.size + 1, 5, none⟩ = some (.slice al nl cl) := cell_of H35.out (j := 5) rfl
  have q6 : W5.cell? ⟨w.heap.size + 1, 6, none⟩ = some (.int .i64 mn) := cell_of H35.out (j := 6) rfl
  have q7 : W5.cell? ⟨w.heap.size + 1, 7, none⟩ = some (.int .i64 mx) := cell_of H35.out (j := 7) rfl
  have q8 : W5.cell? ⟨w.heap.size + 1, 8, none⟩ = some (.int .i64 num) := cell_of H35.out (j := 8) rfl
  have r0 : W5.cell? ⟨w.heap.size + 1 + 1, 0, none⟩ = some (.string ⟨#[]⟩) := cell_of H45.out (j := 0) rfl
  have r1 : W5.cell? ⟨w.heap.size + 1 + 1, 1, none⟩ = some (.bool false) := cell_of H45.out (j := 1) rfl
  have r2 : W5.cell? ⟨w.heap.size + 1 + 1, 2, none⟩ = some (.int .i64 0) := cell_of H45.out (j := 2) rfl
  have r3 : W5.cell? ⟨w.heap.size + 1 + 1, 3, none⟩ = some (.int .i64 0) := cell_of H45.out (j := 3) rfl
  have r4 : W5.cell? ⟨w.heap.size + 1 + 1, 4, none⟩ = some (.slice none 0 0) := cell_of H45.out (j := 4) rfl
  have r5 : W5.cell? ⟨w.heap.size + 1 + 1, 5, none⟩ = some (.slice none 0 0) := cell_of H45.out (j := 5) rfl
  have r6 : W5.cell? ⟨w.heap.size + 1 + 1, 6, none⟩ = some (.int .i64 0) := cell_of H45.out (j := 6) rfl
  have r7 : W5.cell? ⟨w.heap.size + 1 + 1, 7, none⟩ = some (.int .i64 0) := cell_of H45.out (j := 7) rfl
  have t0 : W5.cell? ⟨w.heap.size + 1 + 1 + 1, 0, none⟩ = some (.int .i64 0) := cell_of H55.out (j := 0) rfl
  have t1 : W5.cell? ⟨w.heap.size + 1 + 1 + 1, 1, none⟩ = some (.int .u64 0) := cell_of H55.out (j := 1) rfl
  have t2 : W5.cell? ⟨w.heap.size + 1 + 1 + 1, 2, none⟩ = some (.int .u64 0) := cell_of H55.out (j := 2) rfl
  have t3 : W5.cell? ⟨w.heap.size + 1 + 1 + 1, 3, none⟩ = some (.int .u64 0) := cell_of H55.out (j := 3) rfl
  have t4 : W5.cell? ⟨w.heap.size + 1 + 1 + 1, 4, none⟩ = some (.int .u64 0) := cell_of H55.out (j := 4) rfl
  have t5 : W5.cell? ⟨w.heap.size + 1 + 1 + 1, 5, none⟩ = some (.slice none 0 0) := cell_of H55.out (j := 5) rfl
  have t6 : W5.cell? ⟨w.heap.size + 1 + 1 + 1, 6, none⟩ = some (.int .i64 0) := cell_of H55.out (j := 6) rfl
  have t7 : W5.cell? ⟨w.heap.size + 1 + 1 + 1, 7, none⟩ = some (.int .i64 0) := cell_of H55.out (j := 7) rfl
  have t8 : W5.cell? ⟨w.heap.size + 1 + 1 + 1, 8, none⟩ = some (.int .i64 0) := cell_of H55.out (j := 8) rfl
  have f0 := frozen_of_row W5 (w.heap.size + 1 + 1) 0 _ _ H45.out
  have f1 := frozen_of_row W5 (w.heap.size + 1 + 1) 1 _ _ H45.out
  have f2 := frozen_of_row W5 (w.heap.size + 1 + 1) 2 _ _ H45.out
  have f3 := frozen_of_row W5 (w.heap.size + 1 + 1) 3 _ _ H45.out
  have f4 := frozen_of_row W5 (w.heap.size + 1 + 1) 4 _ _ H45.out
  have f5 := frozen_of_row W5 (w.heap.size + 1 + 1) 5 _ _ H45.out
  have f6 := frozen_of_row W5 (w.heap.size + 1 + 1) 6 _ _ H45.out
  have f7 := frozen_of_row W5 (w.heap.size + 1 + 1) 7 _ _ H45.out
  have g0 := frozen_of_row W5 (w.heap.size + 1 + 1 + 1) 0 _ _ H55.out
  have g1 := frozen_of_row W5 (w.heap.size + 1 + 1 + 1) 1 _ _ H55.out
  have g2 := frozen_of_row W5 (w.heap.size + 1 + 1 + 1) 2 _ _ H55.out
  have g3 := frozen_of_row W5 (w.heap.size + 1 + 1 + 1) 3 _ _ H55.out
  have g4 := frozen_of_row W5 (w.heap.size + 1 + 1 + 1) 4 _ _ H55.out
  have g5 := frozen_of_row W5 (w.heap.size + 1 + 1 + 1) 5 _ _ H55.out
  have g6 := frozen_of_row W5 (w.heap.size + 1 + 1 + 1) 6 _ _ H55.out
  have g7 := frozen_of_row W5 (w.heap.size + 1 + 1 + 1) 7 _ _ H55.out
  have g8 := frozen_of_row W5 (w.heap.size + 1 + 1 + 1) 8 _ _ H55.out
  go_wp2_with fail
  go_region
  obtain ⟨k4, o4, b4⟩ := put8 H45.out (.string S) (.bool true) (.int .i64 at_) (.int .i64 opn) (.slice a n c) (.slice none 0 0) (.int .i64 0) (.int .i64 0)
  obtain ⟨k5, o5, b5⟩ := put9 ((o4 (w.heap.size + 1 + 1 + 1) (by omega)).trans H55.out) (.int .i64 k) (.int .u64 s0) (.int .u64 s1) (.int .u64 s2) (.int .u64 s3) (.slice al nl cl) (.int .i64 mn) (.int .i64 mx) (.int .i64 num)
  have HBF := Lib.hid (b5 _ _ (b4 _ _ HB5.out (by omega)) (by omega))
  have K4 := Lib.hid ((o5 (w.heap.size + 1 + 1) (by omega)).trans k4)
  have K5 := Lib.hid k5
  clear k4 o4 b4 k5 o5 b5 r0 r1 r2 r3 r4 r5 r6 r7 t0 t1 t2 t3 t4 t5 t6 t7 t8 f0 f1 f2 f3 f4 f5 f6 f7 g0 g1 g2 g3 g4 g5 g6 g7 g8
  generalize (((((((((((((((((W5.setCell ⟨w.heap.size + 1 + 1, 0, none⟩ (.string S)).setCell ⟨w.heap.size + 1 + 1, 1, none⟩ (.bool true)).setCell ⟨w.heap.size + 1 + 1, 2, none⟩ (.int .i64 at_)).setCell ⟨w.heap.size + 1 + 1, 3, none⟩ (.int .i64 opn)).setCell ⟨w.heap.size + 1 + 1, 4, none⟩ (.slice a n c)).setCell ⟨w.heap.size + 1 + 1, 5, none⟩ (.slice none 0 0)).setCell ⟨w.heap.size + 1 + 1, 6, none⟩ (.int .i64 0)).setCell ⟨w.heap.size + 1 + 1, 7, none⟩ (.int .i64 0)).setCell ⟨w.heap.size + 1 + 1 + 1, 0, none⟩ (.int .i64 k)).setCell ⟨w.heap.size + 1 + 1 + 1, 1, none⟩ (.int .u64 s0)).setCell ⟨w.heap.size + 1 + 1 + 1, 2, none⟩ (.int .u64 s1)).setCell ⟨w.heap.size + 1 + 1 + 1, 3, none⟩ (.int .u64 s2)).setCell ⟨w.heap.size + 1 + 1 + 1, 4, none⟩ (.int .u64 s3)).setCell ⟨w.heap.size + 1 + 1 + 1, 5, none⟩ (.slice al nl cl)).setCell ⟨w.heap.size + 1 + 1 + 1, 6, none⟩ (.int .i64 mn)).setCell ⟨w.heap.size + 1 + 1 + 1, 7, none⟩ (.int .i64 mx)).setCell ⟨w.heap.size + 1 + 1 + 1, 8, none⟩ (.int .i64 num)) = WF at *
  have r0 : WF.cell? ⟨w.heap.size + 1 + 1, 0, none⟩ = some (.string S) := cell_of K4.out (j := 0) rfl
  have r1 : WF.cell? ⟨w.heap.size + 1 + 1, 1, none⟩ = some (.bool true) := cell_of K4.out (j := 1) rfl
  have r2 : WF.cell? ⟨w.heap.size + 1 + 1, 2, none⟩ = some (.int .i64 at_) := cell_of K4.out (j := 2) rfl
  have r3 : WF.cell? ⟨w.heap.size + 1 + 1, 3, none⟩ = some (.int .i64 opn) := cell_of K4.out (j := 3) rfl
  have r4 : WF.cell? ⟨w.heap.size + 1 + 1, 4, none⟩ = some (.slice a n c) := cell_of K4.out (j := 4) rfl
  have r5 : WF.cell? ⟨w.heap.size + 1 + 1, 5, none⟩ = some (.slice none 0 0) := cell_of K4.out (j := 5) rfl
  have r6 : WF.cell? ⟨w.heap.size + 1 + 1, 6, none⟩ = some (.int .i64 0) := cell_of K4.out (j := 6) rfl
  have r7 : WF.cell? ⟨w.heap.size + 1 + 1, 7, none⟩ = some (.int .i64 0) := cell_of K4.out (j := 7) rfl
  have t0 : WF.cell? ⟨w.heap.size + 1 + 1 + 1, 0, none⟩ = some (.int .i64 k) := cell_of K5.out (j := 0) rfl
  have t1 : WF.cell? ⟨w.heap.size + 1 + 1 + 1, 1, none⟩ = some (.int .u64 s0) := cell_of K5.out (j := 1) rfl
  have t2 : WF.cell? ⟨w.heap.size + 1 + 1 + 1, 2, none⟩ = some (.int .u64 s1) := cell_of K5.out (j := 2) rfl
  have t3 : WF.cell? ⟨w.heap.size + 1 + 1 + 1, 3, none⟩ = some (.int .u64 s2) := cell_of K5.out (j := 3) rfl
  have t4 : WF.cell? ⟨w.heap.size + 1 + 1 + 1, 4, none⟩ = some (.int .u64 s3) := cell_of K5.out (j := 4) rfl
  have t5 : WF.cell? ⟨w.heap.size + 1 + 1 + 1, 5, none⟩ = some (.slice al nl cl) := cell_of K5.out (j := 5) rfl
  have t6 : WF.cell? ⟨w.heap.size + 1 + 1 + 1, 6, none⟩ = some (.int .i64 mn) := cell_of K5.out (j := 6) rfl
  have t7 : WF.cell? ⟨w.heap.size + 1 + 1 + 1, 7, none⟩ = some (.int .i64 mx) := cell_of K5.out (j := 7) rfl
  have t8 : WF.cell? ⟨w.heap.size + 1 + 1 + 1, 8, none⟩ = some (.int .i64 num) := cell_of K5.out (j := 8) rfl
  go_wp2_with fail
  refine bodyPost_ret (v := .tuple #[.agg #[.string S, .bool true, .int .i64 at_, .int .i64 opn, .slice a n c, .slice none 0 0, .int .i64 0, .int .i64 0], .agg #[.int .i64 k, .int .u64 s0, .int .u64 s1, .int .u64 s2, .int .u64 s3, .slice al nl cl, .int .i64 mn, .int .i64 mx, .int .i64 num]]) (by simp [results, Tryz.results81, go_sem, r0, r1, r2, r3, r4, r5, r6, r7, t0, t1, t2, t3, t4, t5, t6, t7, t8]) rfl ⟨rfl, HBF.out.drew⟩
end Go.Proofs.YtkaoegdfgoojdaaGreatDoor
