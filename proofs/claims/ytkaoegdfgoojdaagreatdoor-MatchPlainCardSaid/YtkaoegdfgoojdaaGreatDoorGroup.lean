/- The reading of a group: the walk (seat 2; printed by parse.py). -/
import Derived.Test.YtkaoegdfgoojdaaGreatDoorAtom
namespace Go.Proofs.YtkaoegdfgoojdaaGreatDoor
open Go Go.RowKit
set_option maxRecDepth 100000

set_option maxHeartbeats 16000000 in
/-- A group. -/
theorem atom_group (S : ByteArray) (hS : S.size ≤ 1048576) (r r1 : PS) (t : RT) (deep : Nat) (hi : r.at_ < S.size) (hch : S[r.at_]'hi = 40) (hd : deep < 12) (ho : r.opn ≤ 1000) (hi1 : r1.at_ < S.size) (hch1 : S[r1.at_]'hi1 = 41) (w : World) (a : Option Addr) (n c : Nat) (hcl : CL w a n c r.cl) (hcl1 : r1.cl.length ≤ 1000)
    (hcho : ∀ w a n c, CL w a n c r.cl → Calls Tryz.prog 36 #[rVal S (r.at_ + 1) (r.opn + 1) a n c, .int .i64 (deep + 1 : Nat)] w (ParsePost w S a r1 t)) :
    Calls Tryz.prog 80 #[rVal S r.at_ r.opn a n c, .int .i64 deep] w (ParsePost w S a ⟨r1.at_ + 1, r1.opn, r1.cl ++ [((r.opn + 1 : Nat) : Int)]⟩ (groupR (r.opn + 1) t)) := by
  have hsig : ∀ w', Calls Tryz.prog 53 #[rVal S r.at_ r.opn a n c, .int .i64 r.at_] w' (Says w' (.string ⟨#[40]⟩)) := fun w' => by
    rw [← hch]
    exact sign_byte w' S r.at_ r.opn a n c r.at_ hi hS (by rw [hch]; decide)
  have HCL := Lib.hid hcl
  have HSIG := Lib.hid hsig
  have HCHO := Lib.hid hcho
  have HOP := Lib.hid (fun (w' : World) (b : ByteArray) => op_any w' S r.at_ r.opn a n c b)
  have HSG2 := Lib.hid (fun (w' : World) (a : Option Addr) (n c : Nat) => (show Calls Tryz.prog 53 #[rVal S r1.at_ r1.opn a n c, .int .i64 r1.at_] w' (Says w' (.string ⟨#[41]⟩)) from by
    rw [← hch1]
    exact sign_byte w' S r1.at_ r1.opn a n c r1.at_ hi1 hS (by rw [hch1]; decide)))
  have HOP2 := Lib.hid (fun (w' : World) (a : Option Addr) (n c : Nat) (b : ByteArray) => op_any w' S r1.at_ r1.opn a n c b)
  have hsz : (ByteArray.mk #[40]).size = 1 := rfl
  have hsz2 : (ByteArray.mk #[41]).size = 1 := rfl
  have hd12 : ((deep : Int) == 12) = false := by rw [beq_eq_false_iff_ne]; omega
  have e1 : IntKind.i64.wrap ((r.at_ : Int) + 1) = (r.at_ : Int) + 1 := IntWalk.i64_in _ (by omega)
  have e2 : IntKind.i64.wrap ((r.opn : Int) + 1) = (r.opn : Int) + 1 := IntWalk.i64_in _ (by omega)
  have e3 : IntKind.i64.wrap ((deep : Int) + 1) = (deep : Int) + 1 := IntWalk.i64_in _ (by omega)
  have e4 : IntKind.i64.wrap ((r1.at_ : Int) + 1) = (r1.at_ : Int) + 1 := IntWalk.i64_in _ (by omega)
  obtain ⟨b0, z0, g2, g4, g5⟩ := alloc3 w (.cells #[.string S, .bool true, .int .i64 r.at_, .int .i64 r.opn, .slice a n c, .slice none 0 0, .int .i64 0, .int .i64 0] 105) (.cells #[.string ⟨#[]⟩, .bool false, .int .i64 0, .int .i64 0, .slice none 0 0, .slice none 0 0, .int .i64 0, .int .i64 0] 105) (.cells #[.int .i64 0, .int .u64 0, .int .u64 0, .int .u64 0, .int .u64 0, .slice none 0 0, .int .i64 0, .int .i64 0, .int .i64 0] 28)
  have HB0 := Lib.hid b0
  have HSZ0 := Lib.hid (Nat.le_of_eq z0.symm)
  have H20 := Lib.hid g2
  have H40 := Lib.hid g4
  have H50 := Lib.hid g5
  clear hcl hsig b0 z0 g2 g4 g5 hch hch1 hcho
  unfold rVal
  go_enter Tryz.func80, Tryz.ntmps80
  go_wp2_with fail
  generalize ((w.alloc (.cells #[.string S, .bool true, .int .i64 r.at_, .int .i64 r.opn, .slice a n c, .slice none 0 0, .int .i64 0, .int .i64 0] 105)).alloc (.cells #[.string ⟨#[]⟩, .bool false, .int .i64 0, .int .i64 0, .slice none 0 0, .slice none 0 0, .int .i64 0, .int .i64 0] 105)).alloc (.cells #[.int .i64 0, .int .u64 0, .int .u64 0, .int .u64 0, .int .u64 0, .slice none 0 0, .int .i64 0, .int .i64 0, .int .i64 0] 28) = W0 at *
  refine (HSIG.out _).mono ?_
  rintro e W1 ⟨rfl, hb⟩
  have H21 := Lib.hid ((hb.block (w.heap.size) (by have := HSZ0.out; omega)).trans H20.out)
  have H41 := Lib.hid ((hb.block (w.heap.size + 1) (by have := HSZ0.out; omega)).trans H40.out)
  have H51 := Lib.hid ((hb.block (w.heap.size + 1 + 1) (by have := HSZ0.out; omega)).trans H50.out)
  have HSZ1 := Lib.hid (show w.heap.size + 3 ≤ W1.heap.size by have := HSZ0.out; have := hb.size; omega)
  have HB1 := Lib.hid (HB0.out.trans (hb.mono HB0.out.size))
  clear hb
  have p0 : W1.cell? ⟨w.heap.size, 0, none⟩ = some (.string S) := cell_of H21.out (j := 0) rfl
  have p1 : W1.cell? ⟨w.heap.size, 1, none⟩ = some (.bool true) := cell_of H21.out (j := 1) rfl
  have p2 : W1.cell? ⟨w.heap.size, 2, none⟩ = some (.int .i64 r.at_) := cell_of H21.out (j := 2) rfl
  have p3 : W1.cell? ⟨w.heap.size, 3, none⟩ = some (.int .i64 r.opn) := cell_of H21.out (j := 3) rfl
  have p4 : W1.cell? ⟨w.heap.size, 4, none⟩ = some (.slice a n c) := cell_of H21.out (j := 4) rfl
  have p5 : W1.cell? ⟨w.heap.size, 5, none⟩ = some (.slice none 0 0) := cell_of H21.out (j := 5) rfl
  have p6 : W1.cell? ⟨w.heap.size, 6, none⟩ = some (.int .i64 0) := cell_of H21.out (j := 6) rfl
  have p7 : W1.cell? ⟨w.heap.size, 7, none⟩ = some (.int .i64 0) := cell_of H21.out (j := 7) rfl
  go_wp2_with fail
  refine (HOP.out _ _).mono ?_
  rintro e W2 ⟨rfl, hb⟩
  clear p0 p1 p2 p3 p4 p5 p6 p7
  have H22 := Lib.hid ((hb.block (w.heap.size) (by have := HSZ1.out; omega)).trans H21.out)
  have H42 := Lib.hid ((hb.block (w.heap.size + 1) (by have := HSZ1.out; omega)).trans H41.out)
  have H52 := Lib.hid ((hb.block (w.heap.size + 1 + 1) (by have := HSZ1.out; omega)).trans H51.out)
  have HSZ2 := Lib.hid (show w.heap.size + 3 ≤ W2.heap.size by have := HSZ1.out; have := hb.size; omega)
  have HB2 := Lib.hid (HB1.out.trans (hb.mono HB1.out.size))
  clear hb
  have p0 : W2.cell? ⟨w.heap.size, 0, none⟩ = some (.string S) := cell_of H22.out (j := 0) rfl
  have p1 : W2.cell? ⟨w.heap.size, 1, none⟩ = some (.bool true) := cell_of H22.out (j := 1) rfl
  have p2 : W2.cell? ⟨w.heap.size, 2, none⟩ = some (.int .i64 r.at_) := cell_of H22.out (j := 2) rfl
  have p3 : W2.cell? ⟨w.heap.size, 3, none⟩ = some (.int .i64 r.opn) := cell_of H22.out (j := 3) rfl
  have p4 : W2.cell? ⟨w.heap.size, 4, none⟩ = some (.slice a n c) := cell_of H22.out (j := 4) rfl
  have p5 : W2.cell? ⟨w.heap.size, 5, none⟩ = some (.slice none 0 0) := cell_of H22.out (j := 5) rfl
  have p6 : W2.cell? ⟨w.heap.size, 6, none⟩ = some (.int .i64 0) := cell_of H22.out (j := 6) rfl
  have p7 : W2.cell? ⟨w.heap.size, 7, none⟩ = some (.int .i64 0) := cell_of H22.out (j := 7) rfl
  have f2 := frozen_of_row W2 w.heap.size 2 _ _ H22.out
  have f3 := frozen_of_row W2 w.heap.size 3 _ _ H22.out
  go_upto_region 9 with (fail)
  have hb : Below w.heap.size w ((W2.setCell ⟨w.heap.size, 3, none⟩ (.int .i64 ((r.opn : Int) + 1))).setCell ⟨w.heap.size, 2, none⟩ (.int .i64 ((r.at_ : Int) + 1))) := (HB2.out.setCell (Nat.le_refl _) _).setCell (Nat.le_refl _) _
  have h23a : (W2.setCell ⟨w.heap.size, 3, none⟩ (.int .i64 ((r.opn : Int) + 1))).heap[w.heap.size]? = some (.cells #[.string S, .bool true, .int .i64 r.at_, .int .i64 ((r.opn : Int) + 1), .slice a n c, .slice none 0 0, .int .i64 0, .int .i64 0] 105 (0, 0)) := heap_setCell_same _ _ 3 _ _ _ H22.out
  have h23 : ((W2.setCell ⟨w.heap.size, 3, none⟩ (.int .i64 ((r.opn : Int) + 1))).setCell ⟨w.heap.size, 2, none⟩ (.int .i64 ((r.at_ : Int) + 1))).heap[w.heap.size]? = some (.cells #[.string S, .bool true, .int .i64 ((r.at_ : Int) + 1), .int .i64 ((r.opn : Int) + 1), .slice a n c, .slice none 0 0, .int .i64 0, .int .i64 0] 105 (0, 0)) := heap_setCell_same _ _ 2 _ _ _ h23a
  have hoth : ∀ k, k ≠ w.heap.size → ((W2.setCell ⟨w.heap.size, 3, none⟩ (.int .i64 ((r.opn : Int) + 1))).setCell ⟨w.heap.size, 2, none⟩ (.int .i64 ((r.at_ : Int) + 1))).heap[k]? = W2.heap[k]? := fun k hk => (Below.heap_setCell _ _ _ _ hk).trans (Below.heap_setCell _ _ _ _ hk)
  have H23 := Lib.hid h23
  have H43 := Lib.hid ((hoth (w.heap.size + 1) (by omega)).trans H42.out)
  have H53 := Lib.hid ((hoth (w.heap.size + 1 + 1) (by omega)).trans H52.out)
  have HSZ3 := Lib.hid (show w.heap.size + 3 ≤ ((W2.setCell ⟨w.heap.size, 3, none⟩ (.int .i64 ((r.opn : Int) + 1))).setCell ⟨w.heap.size, 2, none⟩ (.int .i64 ((r.at_ : Int) + 1))).heap.size by simpa [World.setCell] using HSZ2.out)
  have HB3 := Lib.hid hb
  clear hb h23a h23 hoth f2 f3 p0 p1 p2 p3 p4 p5 p6 p7
  generalize (W2.setCell ⟨w.heap.size, 3, none⟩ (.int .i64 ((r.opn : Int) + 1))).setCell ⟨w.heap.size, 2, none⟩ (.int .i64 ((r.at_ : Int) + 1)) = W3 at *
  have p0 : W3.cell? ⟨w.heap.size, 0, none⟩ = some (.string S) := cell_of H23.out (j := 0) rfl
  have p1 : W3.cell? ⟨w.heap.size, 1, none⟩ = some (.bool true) := cell_of H23.out (j := 1) rfl
  have p2 : W3.cell? ⟨w.heap.size, 2, none⟩ = some (.int .i64 ((r.at_ : Int) + 1)) := cell_of H23.out (j := 2) rfl
  have p3 : W3.cell? ⟨w.heap.size, 3, none⟩ = some (.int .i64 ((r.opn : Int) + 1)) := cell_of H23.out (j := 3) rfl
  have p4 : W3.cell? ⟨w.heap.size, 4, none⟩ = some (.slice a n c) := cell_of H23.out (j := 4) rfl
  have p5 : W3.cell? ⟨w.heap.size, 5, none⟩ = some (.slice none 0 0) := cell_of H23.out (j := 5) rfl
  have p6 : W3.cell? ⟨w.heap.size, 6, none⟩ = some (.int .i64 0) := cell_of H23.out (j := 6) rfl
  have p7 : W3.cell? ⟨w.heap.size, 7, none⟩ = some (.int .i64 0) := cell_of H23.out (j := 7) rfl
  have HCH3 := Lib.hid (HCHO.out W3 a n c (HCL.out.below HB3.out))
  go_wp2_with fail
  refine HCH3.out.mono ?_
  rintro e W4 ⟨a1, n1, c1, cs, rfl, hb, hrd, hcl1', _⟩
  obtain ⟨k1, s01, s11, s21, s31, al1, nl1, cl1, mn1, mx1, num1, rfl⟩ := hrd.form
  have HRD := Lib.hid hrd
  have HCL1 := Lib.hid hcl1'
  clear p0 p1 p2 p3 p4 p5 p6 p7
  have H44 := Lib.hid ((hb.block (w.heap.size + 1) (by have := HSZ3.out; omega)).trans H43.out)
  have H54 := Lib.hid ((hb.block (w.heap.size + 1 + 1) (by have := HSZ3.out; omega)).trans H53.out)
  have HSZ4 := Lib.hid (show w.heap.size + 3 ≤ W4.heap.size by have := HSZ3.out; have := hb.size; omega)
  have HB4 := Lib.hid (HB3.out.trans (hb.mono HB3.out.size))
  have HZ34 := Lib.hid (show W3.heap.size ≤ W4.heap.size from hb.size)
  clear hb hrd hcl1' H23
  unfold rVal
  go_upto_region 10 with (fail)
  obtain ⟨b0, z0, g6, g7⟩ := alloc2 W4 (.cells #[.string S, .bool true, .int .i64 r1.at_, .int .i64 r1.opn, .slice a1 n1 c1, .slice none 0 0, .int .i64 0, .int .i64 0] 105) (.cells #[.int .i64 k1, .int .u64 s01, .int .u64 s11, .int .u64 s21, .int .u64 s31, .slice al1 nl1 cl1, .int .i64 mn1, .int .i64 mx1, .int .i64 num1] 28)
  have H45 := Lib.hid ((b0.block (w.heap.size + 1) (by have := HSZ4.out; omega)).trans H44.out)
  have H55 := Lib.hid ((b0.block (w.heap.size + 1 + 1) (by have := HSZ4.out; omega)).trans H54.out)
  have H65 := Lib.hid g6
  have H75 := Lib.hid g7
  have HBW := Lib.hid b0
  have HZ5 := Lib.hid z0
  clear b0 z0 g6 g7
  generalize (W4.alloc (.cells #[.string S, .bool true, .int .i64 r1.at_, .int .i64 r1.opn, .slice a1 n1 c1, .slice none 0 0, .int .i64 0, .int .i64 0] 105)).alloc (.cells #[.int .i64 k1, .int .u64 s01, .int .u64 s11, .int .u64 s21, .int .u64 s31, .slice al1 nl1 cl1, .int .i64 mn1, .int .i64 mx1, .int .i64 num1] 28) = W5 at *
  have p0 : W5.cell? ⟨W4.heap.size, 0, none⟩ = some (.string S) := cell_of H65.out (j := 0) rfl
  have p1 : W5.cell? ⟨W4.heap.size, 1, none⟩ = some (.bool true) := cell_of H65.out (j := 1) rfl
  have p2 : W5.cell? ⟨W4.heap.size, 2, none⟩ = some (.int .i64 r1.at_) := cell_of H65.out (j := 2) rfl
  have p3 : W5.cell? ⟨W4.heap.size, 3, none⟩ = some (.int .i64 r1.opn) := cell_of H65.out (j := 3) rfl
  have p4 : W5.cell? ⟨W4.heap.size, 4, none⟩ = some (.slice a1 n1 c1) := cell_of H65.out (j := 4) rfl
  have p5 : W5.cell? ⟨W4.heap.size, 5, none⟩ = some (.slice none 0 0) := cell_of H65.out (j := 5) rfl
  have p6 : W5.cell? ⟨W4.heap.size, 6, none⟩ = some (.int .i64 0) := cell_of H65.out (j := 6) rfl
  have p7 : W5.cell? ⟨W4.heap.size, 7, none⟩ = some (.int .i64 0) := cell_of H65.out (j := 7) rfl
  have SX := Lib.hid (show ∀ w', Below W5.heap.size W5 w' → (Below W5.heap.size W5 w' ∧ w'.cell? ⟨W4.heap.size, 0, none⟩ = some (.string S) ∧ w'.cell? ⟨W4.heap.size, 1, none⟩ = some (.bool true) ∧ w'.cell? ⟨W4.heap.size, 2, none⟩ = some (.int .i64 r1.at_) ∧ w'.cell? ⟨W4.heap.size, 3, none⟩ = some (.int .i64 r1.opn) ∧ w'.cell? ⟨W4.heap.size, 4, none⟩ = some (.slice a1 n1 c1) ∧ w'.cell? ⟨W4.heap.size, 5, none⟩ = some (.slice none 0 0) ∧ w'.cell? ⟨W4.heap.size, 6, none⟩ = some (.int .i64 0) ∧ w'.cell? ⟨W4.heap.size, 7, none⟩ = some (.int .i64 0)) from fun w' hb => ⟨hb, (hb.cell (p := ⟨W4.heap.size, 0, none⟩) (by have := HZ5.out; show W4.heap.size < _; omega)).trans p0, (hb.cell (p := ⟨W4.heap.size, 1, none⟩) (by have := HZ5.out; show W4.heap.size < _; omega)).trans p1, (hb.cell (p := ⟨W4.heap.size, 2, none⟩) (by have := HZ5.out; show W4.heap.size < _; omega)).trans p2, (hb.cell (p := ⟨W4.heap.size, 3, none⟩) (by have := HZ5.out; show W4.heap.size < _; omega)).trans p3, (hb.cell (p := ⟨W4.heap.size, 4, none⟩) (by have := HZ5.out; show W4.heap.size < _; omega)).trans p4, (hb.cell (p := ⟨W4.heap.size, 5, none⟩) (by have := HZ5.out; show W4.heap.size < _; omega)).trans p5, (hb.cell (p := ⟨W4.heap.size, 6, none⟩) (by have := HZ5.out; show W4.heap.size < _; omega)).trans p6, (hb.cell (p := ⟨W4.heap.size, 7, none⟩) (by have := HZ5.out; show W4.heap.size < _; omega)).trans p7⟩)
  go_region_held3 (fun w' => Below W5.heap.size W5 w' ∧ w'.cell? ⟨W4.heap.size, 0, none⟩ = some (.string S) ∧ w'.cell? ⟨W4.heap.size, 1, none⟩ = some (.bool true) ∧ w'.cell? ⟨W4.heap.size, 2, none⟩ = some (.int .i64 r1.at_) ∧ w'.cell? ⟨W4.heap.size, 3, none⟩ = some (.int .i64 r1.opn) ∧ w'.cell? ⟨W4.heap.size, 4, none⟩ = some (.slice a1 n1 c1) ∧ w'.cell? ⟨W4.heap.size, 5, none⟩ = some (.slice none 0 0) ∧ w'.cell? ⟨W4.heap.size, 6, none⟩ = some (.int .i64 0) ∧ w'.cell? ⟨W4.heap.size, 7, none⟩ = some (.int .i64 0))
    (first | exact SX.out _ ((Below.refl _ _).drew) | exact SX.out _ HBL.out)
    (first | (go_at_call 53; refine (HSG2.out _ a1 n1 c1).mono ?_; rintro e W6 ⟨rfl, hb6⟩; have HBL := Lib.hid (show Below W5.heap.size W5 W6 from (by first | exact ((Below.refl W5.heap.size W5).drew).trans hb6 | exact HBL.out.trans (hb6.mono HBL.out.size))); clear hb6)
           | (go_at_call 54; refine (HOP2.out _ a1 n1 c1 _).mono ?_; rintro e W6 ⟨rfl, hb6⟩; have HBL := Lib.hid (show Below W5.heap.size W5 W6 from (by first | exact ((Below.refl W5.heap.size W5).drew).trans hb6 | exact HBL.out.trans (hb6.mono HBL.out.size))); clear hb6))
  have H46 := Lib.hid ((HBL.out.block (w.heap.size + 1) (by have := HSZ4.out; have := HZ5.out; omega)).trans H45.out)
  have H56 := Lib.hid ((HBL.out.block (w.heap.size + 1 + 1) (by have := HSZ4.out; have := HZ5.out; omega)).trans H55.out)
  have H66 := Lib.hid ((HBL.out.block W4.heap.size (by have := HZ5.out; omega)).trans H65.out)
  have H76 := Lib.hid ((HBL.out.block (W4.heap.size + 1) (by have := HZ5.out; omega)).trans H75.out)
  have HBW6 := Lib.hid (HBW.out.trans (HBL.out.mono HBW.out.size))
  have HZ6 := Lib.hid (show W4.heap.size + 2 ≤ W6.heap.size by have := HZ5.out; have := HBL.out.size; omega)
  clear p0 p1 p2 p3 p4 p5 p6 p7
  have p0 : W6.cell? ⟨W4.heap.size, 0, none⟩ = some (.string S) := cell_of H66.out (j := 0) rfl
  have p1 : W6.cell? ⟨W4.heap.size, 1, none⟩ = some (.bool true) := cell_of H66.out (j := 1) rfl
  have p2 : W6.cell? ⟨W4.heap.size, 2, none⟩ = some (.int .i64 r1.at_) := cell_of H66.out (j := 2) rfl
  have p3 : W6.cell? ⟨W4.heap.size, 3, none⟩ = some (.int .i64 r1.opn) := cell_of H66.out (j := 3) rfl
  have p4 : W6.cell? ⟨W4.heap.size, 4, none⟩ = some (.slice a1 n1 c1) := cell_of H66.out (j := 4) rfl
  have p5 : W6.cell? ⟨W4.heap.size, 5, none⟩ = some (.slice none 0 0) := cell_of H66.out (j := 5) rfl
  have p6 : W6.cell? ⟨W4.heap.size, 6, none⟩ = some (.int .i64 0) := cell_of H66.out (j := 6) rfl
  have p7 : W6.cell? ⟨W4.heap.size, 7, none⟩ = some (.int .i64 0) := cell_of H66.out (j := 7) rfl
  have f2 := frozen_of_row W6 W4.heap.size 2 _ _ H66.out
  go_upto_region 15 with (fail)
  have h67 : (W6.setCell ⟨W4.heap.size, 2, none⟩ (.int .i64 ((r1.at_ : Int) + 1))).heap[W4.heap.size]? = some (.cells #[.string S, .bool true, .int .i64 ((r1.at_ : Int) + 1), .int .i64 r1.opn, .slice a1 n1 c1, .slice none 0 0, .int .i64 0, .int .i64 0] 105 (0, 0)) := heap_setCell_same _ _ 2 _ _ _ H66.out
  have hoth : ∀ k, k ≠ W4.heap.size → (W6.setCell ⟨W4.heap.size, 2, none⟩ (.int .i64 ((r1.at_ : Int) + 1))).heap[k]? = W6.heap[k]? := fun k hk => Below.heap_setCell _ _ _ _ hk
  have H67 := Lib.hid h67
  have H47 := Lib.hid ((hoth (w.heap.size + 1) (by have := HSZ4.out; omega)).trans H46.out)
  have H57 := Lib.hid ((hoth (w.heap.size + 1 + 1) (by have := HSZ4.out; omega)).trans H56.out)
  have H77 := Lib.hid ((hoth (W4.heap.size + 1) (by omega)).trans H76.out)
  have HBW7 := Lib.hid (HBW6.out.setCell (p := ⟨W4.heap.size, 2, none⟩) (Nat.le_refl _) (.int .i64 ((r1.at_ : Int) + 1)))
  have HZ7 := Lib.hid (show W4.heap.size + 2 ≤ (W6.setCell ⟨W4.heap.size, 2, none⟩ (.int .i64 ((r1.at_ : Int) + 1))).heap.size by simpa [World.setCell] using HZ6.out)
  clear h67 hoth f2 p0 p1 p2 p3 p4 p5 p6 p7
  generalize W6.setCell ⟨W4.heap.size, 2, none⟩ (.int .i64 ((r1.at_ : Int) + 1)) = W7 at *
  have p0 : W7.cell? ⟨W4.heap.size, 0, none⟩ = some (.string S) := cell_of H67.out (j := 0) rfl
  have p1 : W7.cell? ⟨W4.heap.size, 1, none⟩ = some (.bool true) := cell_of H67.out (j := 1) rfl
  have p2 : W7.cell? ⟨W4.heap.size, 2, none⟩ = some (.int .i64 ((r1.at_ : Int) + 1)) := cell_of H67.out (j := 2) rfl
  have p3 : W7.cell? ⟨W4.heap.size, 3, none⟩ = some (.int .i64 r1.opn) := cell_of H67.out (j := 3) rfl
  have p4 : W7.cell? ⟨W4.heap.size, 4, none⟩ = some (.slice a1 n1 c1) := cell_of H67.out (j := 4) rfl
  have p5 : W7.cell? ⟨W4.heap.size, 5, none⟩ = some (.slice none 0 0) := cell_of H67.out (j := 5) rfl
  have p6 : W7.cell? ⟨W4.heap.size, 6, none⟩ = some (.int .i64 0) := cell_of H67.out (j := 6) rfl
  have p7 : W7.cell? ⟨W4.heap.size, 7, none⟩ = some (.int .i64 0) := cell_of H67.out (j := 7) rfl
  have hX7 : W4.heap.size < W7.heap.size := by have := HZ7.out; omega
  obtain ⟨i0, hi0, hz0, hz1, hz2⟩ := info_parts info_int
  have HI := Lib.hid hi0
  have HI0 := Lib.hid hz0
  have HI1 := Lib.hid hz1
  have HI2 := Lib.hid hz2
  have HO := Lib.hid (own_fresh W7 W7.heap.size 3 1 (Nat.le_refl _))
  clear hi0 hz0 hz1 hz2
  rcases HCL1.out with ⟨hc0, rfl, rfl, rfl⟩ | ⟨g1, rfl, rfl, hn0, hn1, hg1, hin⟩
  · have hz7 : (W7.alloc (.cells #[] 3)).heap.size = W7.heap.size + 1 := Array.size_push _
    have HX7 := Lib.hid hz7
    have ha7 : Below W7.heap.size W7 ((W7.alloc (.cells #[] 3)).alloc (.cells #[.int .i64 ((r.opn : Int) + 1)] 3)) := ((Below.refl _ _).alloc (Nat.le_refl _) _).alloc (by rw [hz7]; omega) _
    have HA7 := Lib.hid ha7
    have hnw : ∀ j u, [Value.int .i64 ((r.opn : Int) + 1)][j]? = some u → ((W7.alloc (.cells #[] 3)).alloc (.cells #[.int .i64 ((r.opn : Int) + 1)] 3)).cell? ((⟨W7.heap.size + 1, 0, none⟩ : Addr).add j) = some u := by
      have h := news1 (W7.alloc (.cells #[] 3)) #[.int .i64 ((r.opn : Int) + 1)] 3
      rw [hz7] at h
      exact h
    have HNW := Lib.hid hnw
    clear ha7 hz7 hnw
    go_wp2_with (at_builtin; (refine wpList_append_lies _ rfl (.tmp 78) (.tmp 80) 34 rfl W7.heap.size 3 i0 _ 1 8 und_ints HI.out HI0.out HI1.out HI2.out rfl (by decide) _ 0 [] rfl (HO.out.alloc (.cells #[.int .i64 ((r.opn : Int) + 1)] 3)) _ 1 1 [.int .i64 ((r.opn : Int) + 1)] rfl rfl HNW.out (by intro u hu; rw [List.mem_singleton.1 hu]; rfl) (by decide) (by unfold maxLen; omega) (by omega) HA7.out.size _ rfl ?_))
    intro g2 cap2 w9 hown hgrow hat hlt9
    have hb9 := HA7.out.grown hgrow HA7.out.size (fun k hk => ((HO.out.alloc (.cells #[.int .i64 ((r.opn : Int) + 1)] 3)).lt k hk).1)
    have ho9 : w9.ownsRow W7.heap.size 3 1 (.slice (some ⟨g2, 0, none⟩) 1 cap2) 1 ((r1.cl ++ [((r.opn + 1 : Nat) : Int)]).map (Value.int .i64)) := by rw [hc0]; exact hown
    have HB9 := Lib.hid hb9
    have HO9 := Lib.hid ho9
    have h69 := (hb9.block W4.heap.size hX7).trans H67.out
    have H69 := Lib.hid h69
    clear p0 p1 p2 p3 p4 p5 p6 p7
    have p0 : w9.cell? ⟨W4.heap.size, 0, none⟩ = some (.string S) := cell_of h69 (j := 0) rfl
    have p1 : w9.cell? ⟨W4.heap.size, 1, none⟩ = some (.bool true) := cell_of h69 (j := 1) rfl
    have p2 : w9.cell? ⟨W4.heap.size, 2, none⟩ = some (.int .i64 ((r1.at_ : Int) + 1)) := cell_of h69 (j := 2) rfl
    have p3 : w9.cell? ⟨W4.heap.size, 3, none⟩ = some (.int .i64 r1.opn) := cell_of h69 (j := 3) rfl
    have p4 : w9.cell? ⟨W4.heap.size, 4, none⟩ = some (.slice none 0 0) := cell_of h69 (j := 4) rfl
    have p5 : w9.cell? ⟨W4.heap.size, 5, none⟩ = some (.slice none 0 0) := cell_of h69 (j := 5) rfl
    have p6 : w9.cell? ⟨W4.heap.size, 6, none⟩ = some (.int .i64 0) := cell_of h69 (j := 6) rfl
    have p7 : w9.cell? ⟨W4.heap.size, 7, none⟩ = some (.int .i64 0) := cell_of h69 (j := 7) rfl
    have f4 := frozen_of_row w9 W4.heap.size 4 _ _ h69
    clear hb9 ho9 h69 hown hgrow hat hlt9
    go_upto_region 16 with (fail)
    have h610 : (w9.setCell ⟨W4.heap.size, 4, none⟩ (.slice (some ⟨g2, 0, none⟩) 1 cap2)).heap[W4.heap.size]? = some (.cells #[.string S, .bool true, .int .i64 ((r1.at_ : Int) + 1), .int .i64 r1.opn, .slice (some ⟨g2, 0, none⟩) 1 cap2, .slice none 0 0, .int .i64 0, .int .i64 0] 105 (0, 0)) := heap_setCell_same _ _ 4 _ _ _ H69.out
    have hoth : ∀ k, k ≠ W4.heap.size → (w9.setCell ⟨W4.heap.size, 4, none⟩ (.slice (some ⟨g2, 0, none⟩) 1 cap2)).heap[k]? = w9.heap[k]? := fun k hk => Below.heap_setCell _ _ _ _ hk
    have H610 := Lib.hid h610
    have H410 := Lib.hid ((hoth (w.heap.size + 1) (by have := HSZ4.out; omega)).trans ((HB9.out.block (w.heap.size + 1) (by have := HSZ4.out; omega)).trans H47.out))
    have H510 := Lib.hid ((hoth (w.heap.size + 1 + 1) (by have := HSZ4.out; omega)).trans ((HB9.out.block (w.heap.size + 1 + 1) (by have := HSZ4.out; omega)).trans H57.out))
    have H710 := Lib.hid ((hoth (W4.heap.size + 1) (by omega)).trans ((HB9.out.block (W4.heap.size + 1) (by have := HZ7.out; omega)).trans H77.out))
    have HO10 := Lib.hid (ownsRow_setCell_below HO9.out (a := ⟨W4.heap.size, 4, none⟩) hX7 (.slice (some ⟨g2, 0, none⟩) 1 cap2))
    have HBW10 := Lib.hid ((HBW7.out.trans (HB9.out.mono HBW7.out.size)).setCell (p := ⟨W4.heap.size, 4, none⟩) (Nat.le_refl _) (.slice (some ⟨g2, 0, none⟩) 1 cap2))
    have HZ10 := Lib.hid (show W7.heap.size ≤ (w9.setCell ⟨W4.heap.size, 4, none⟩ (.slice (some ⟨g2, 0, none⟩) 1 cap2)).heap.size by have := HB9.out.size; simpa [World.setCell] using this)
    clear h610 hoth f4 p0 p1 p2 p3 p4 p5 p6 p7
    generalize w9.setCell ⟨W4.heap.size, 4, none⟩ (.slice (some ⟨g2, 0, none⟩) 1 cap2) = W10 at *
    have p0 : W10.cell? ⟨W4.heap.size, 0, none⟩ = some (.string S) := cell_of H610.out (j := 0) rfl
    have p1 : W10.cell? ⟨W4.heap.size, 1, none⟩ = some (.bool true) := cell_of H610.out (j := 1) rfl
    have p2 : W10.cell? ⟨W4.heap.size, 2, none⟩ = some (.int .i64 ((r1.at_ : Int) + 1)) := cell_of H610.out (j := 2) rfl
    have p3 : W10.cell? ⟨W4.heap.size, 3, none⟩ = some (.int .i64 r1.opn) := cell_of H610.out (j := 3) rfl
    have p4 : W10.cell? ⟨W4.heap.size, 4, none⟩ = some (.slice (some ⟨g2, 0, none⟩) 1 cap2) := cell_of H610.out (j := 4) rfl
    have p5 : W10.cell? ⟨W4.heap.size, 5, none⟩ = some (.slice none 0 0) := cell_of H610.out (j := 5) rfl
    have p6 : W10.cell? ⟨W4.heap.size, 6, none⟩ = some (.int .i64 0) := cell_of H610.out (j := 6) rfl
    have p7 : W10.cell? ⟨W4.heap.size, 7, none⟩ = some (.int .i64 0) := cell_of H610.out (j := 7) rfl
    have q0 : W10.cell? ⟨W4.heap.size + 1, 0, none⟩ = some (.int .i64 k1) := cell_of H710.out (j := 0) rfl
    have q1 : W10.cell? ⟨W4.heap.size + 1, 1, none⟩ = some (.int .u64 s01) := cell_of H710.out (j := 1) rfl
    have q2 : W10.cell? ⟨W4.heap.size + 1, 2, none⟩ = some (.int .u64 s11) := cell_of H710.out (j := 2) rfl
    have q3 : W10.cell? ⟨W4.heap.size + 1, 3, none⟩ = some (.int .u64 s21) := cell_of H710.out (j := 3) rfl
    have q4 : W10.cell? ⟨W4.heap.size + 1, 4, none⟩ = some (.int .u64 s31) := cell_of H710.out (j := 4) rfl
    have q5 : W10.cell? ⟨W4.heap.size + 1, 5, none⟩ = some (.slice al1 nl1 cl1) := cell_of H710.out (j := 5) rfl
    have q6 : W10.cell? ⟨W4.heap.size + 1, 6, none⟩ = some (.int .i64 mn1) := cell_of H710.out (j := 6) rfl
    have q7 : W10.cell? ⟨W4.heap.size + 1, 7, none⟩ = some (.int .i64 mx1) := cell_of H710.out (j := 7) rfl
    have q8 : W10.cell? ⟨W4.heap.size + 1, 8, none⟩ = some (.int .i64 num1) := cell_of H710.out (j := 8) rfl
    have cr0 : W10.cell? ⟨w.heap.size + 1, 0, none⟩ = some (.string ⟨#[]⟩) := cell_of H410.out (j := 0) rfl
    have cr1 : W10.cell? ⟨w.heap.size + 1, 1, none⟩ = some (.bool false) := cell_of H410.out (j := 1) rfl
    have cr2 : W10.cell? ⟨w.heap.size + 1, 2, none⟩ = some (.int .i64 0) := cell_of H410.out (j := 2) rfl
    have cr3 : W10.cell? ⟨w.heap.size + 1, 3, none⟩ = some (.int .i64 0) := cell_of H410.out (j := 3) rfl
    have cr4 : W10.cell? ⟨w.heap.size + 1, 4, none⟩ = some (.slice none 0 0) := cell_of H410.out (j := 4) rfl
    have cr5 : W10.cell? ⟨w.heap.size + 1, 5, none⟩ = some (.slice none 0 0) := cell_of H410.out (j := 5) rfl
    have cr6 : W10.cell? ⟨w.heap.size + 1, 6, none⟩ = some (.int .i64 0) := cell_of H410.out (j := 6) rfl
    have cr7 : W10.cell? ⟨w.heap.size + 1, 7, none⟩ = some (.int .i64 0) := cell_of H410.out (j := 7) rfl
    have ct0 : W10.cell? ⟨w.heap.size + 1 + 1, 0, none⟩ = some (.int .i64 0) := cell_of H510.out (j := 0) rfl
    have ct1 : W10.cell? ⟨w.heap.size + 1 + 1, 1, none⟩ = some (.int .u64 0) := cell_of H510.out (j := 1) rfl
    have ct2 : W10.cell? ⟨w.heap.size + 1 + 1, 2, none⟩ = some (.int .u64 0) := cell_of H510.out (j := 2) rfl
    have ct3 : W10.cell? ⟨w.heap.size + 1 + 1, 3, none⟩ = some (.int .u64 0) := cell_of H510.out (j := 3) rfl
    have ct4 : W10.cell? ⟨w.heap.size + 1 + 1, 4, none⟩ = some (.int .u64 0) := cell_of H510.out (j := 4) rfl
    have ct5 : W10.cell? ⟨w.heap.size + 1 + 1, 5, none⟩ = some (.slice none 0 0) := cell_of H510.out (j := 5) rfl
    have ct6 : W10.cell? ⟨w.heap.size + 1 + 1, 6, none⟩ = some (.int .i64 0) := cell_of H510.out (j := 6) rfl
    have ct7 : W10.cell? ⟨w.heap.size + 1 + 1, 7, none⟩ = some (.int .i64 0) := cell_of H510.out (j := 7) rfl
    have ct8 : W10.cell? ⟨w.heap.size + 1 + 1, 8, none⟩ = some (.int .i64 0) := cell_of H510.out (j := 8) rfl
    have cf0 := frozen_of_row W10 (w.heap.size + 1) 0 _ _ H410.out
    have cf1 := frozen_of_row W10 (w.heap.size + 1) 1 _ _ H410.out
    have cf2 := frozen_of_row W10 (w.heap.size + 1) 2 _ _ H410.out
    have cf3 := frozen_of_row W10 (w.heap.size + 1) 3 _ _ H410.out
    have cf4 := frozen_of_row W10 (w.heap.size + 1) 4 _ _ H410.out
    have cf5 := frozen_of_row W10 (w.heap.size + 1) 5 _ _ H410.out
    have cf6 := frozen_of_row W10 (w.heap.size + 1) 6 _ _ H410.out
    have cf7 := frozen_of_row W10 (w.heap.size + 1) 7 _ _ H410.out
    have cg0 := frozen_of_row W10 (w.heap.size + 1 + 1) 0 _ _ H510.out
    have cg1 := frozen_of_row W10 (w.heap.size + 1 + 1) 1 _ _ H510.out
    have cg2 := frozen_of_row W10 (w.heap.size + 1 + 1) 2 _ _ H510.out
    have cg3 := frozen_of_row W10 (w.heap.size + 1 + 1) 3 _ _ H510.out
    have cg4 := frozen_of_row W10 (w.heap.size + 1 + 1) 4 _ _ H510.out
    have cg5 := frozen_of_row W10 (w.heap.size + 1 + 1) 5 _ _ H510.out
    have cg6 := frozen_of_row W10 (w.heap.size + 1 + 1) 6 _ _ H510.out
    have cg7 := frozen_of_row W10 (w.heap.size + 1 + 1) 7 _ _ H510.out
    have cg8 := frozen_of_row W10 (w.heap.size + 1 + 1) 8 _ _ H510.out
    have hz1 : W4.heap.size < W10.heap.size := by have := HZ10.out; omega
    have hz2 : W4.heap.size + 1 < W10.heap.size := by have := HZ10.out; have := HZ7.out; omega
    have hz3 : w.heap.size + 1 < W10.heap.size := by have := HSZ4.out; omega
    have hz4 : w.heap.size + 1 + 1 < W10.heap.size := by have := HSZ4.out; omega
    have hx1 : ¬ W4.heap.size = w.heap.size := by have := HSZ4.out; omega
    have hx2 : ¬ W4.heap.size = w.heap.size + 1 := by have := HSZ4.out; omega
    have hx3 : ¬ W4.heap.size = w.heap.size + 1 + 1 := by have := HSZ4.out; omega
    go_region
    clear p0 p1 p2 p3 p4 p5 p6 p7 q0 q1 q2 q3 q4 q5 q6 q7 q8 cr0 cr1 cr2 cr3 cr4 cr5 cr6 cr7 ct0 ct1 ct2 ct3 ct4 ct5 ct6 ct7 ct8 cf0 cf1 cf2 cf3 cf4 cf5 cf6 cf7 cg0 cg1 cg2 cg3 cg4 cg5 cg6 cg7 cg8 hz1 hz2 hx1 hx2 hx3
    obtain ⟨k4, o4, b4⟩ := put8 H410.out (.string S) (.bool true) (.int .i64 ((r1.at_ : Int) + 1)) (.int .i64 r1.opn) (.slice (some ⟨g2, 0, none⟩) 1 cap2) (.slice none 0 0) (.int .i64 0) (.int .i64 0)
    obtain ⟨k5, o5, b5⟩ := put9 ((o4 (w.heap.size + 1 + 1) (by omega)).trans H510.out) (.int .i64 5) (.int .u64 0) (.int .u64 0) (.int .u64 0) (.int .u64 0) (.slice (some ⟨W10.heap.size, 0, none⟩) 1 1) (.int .i64 0) (.int .i64 0) (.int .i64 ((r.opn : Int) + 1))
    have HO4 := Lib.hid (fun k (h1 : k ≠ w.heap.size + 1) (h2 : k ≠ w.heap.size + 1 + 1) => (o5 k h2).trans (o4 k h1))
    have HBX := Lib.hid (b5 _ _ (b4 _ _ (HB4.out.trans (HBW10.out.mono HB4.out.size)) (by omega)) (by omega))
    have K4 := Lib.hid ((o5 (w.heap.size + 1) (by omega)).trans k4)
    have K5 := Lib.hid k5
    have HZ11 := Lib.hid (show ((((((((((((((((((W10.setCell ⟨w.heap.size + 1, 0, none⟩ (.string S)).setCell ⟨w.heap.size + 1, 1, none⟩ (.bool true)).setCell ⟨w.heap.size + 1, 2, none⟩ (.int .i64 ((r1.at_ : Int) + 1))).setCell ⟨w.heap.size + 1, 3, none⟩ (.int .i64 r1.opn)).setCell ⟨w.heap.size + 1, 4, none⟩ (.slice (some ⟨g2, 0, none⟩) 1 cap2)).setCell ⟨w.heap.size + 1, 5, none⟩ (.slice none 0 0)).setCell ⟨w.heap.size + 1, 6, none⟩ (.int .i64 0)).setCell ⟨w.heap.size + 1, 7, none⟩ (.int .i64 0)).setCell ⟨w.heap.size + 1 + 1, 0, none⟩ (.int .i64 5)).setCell ⟨w.heap.size + 1 + 1, 1, none⟩ (.int .u64 0)).setCell ⟨w.heap.size + 1 + 1, 2, none⟩ (.int .u64 0)).setCell ⟨w.heap.size + 1 + 1, 3, none⟩ (.int .u64 0)).setCell ⟨w.heap.size + 1 + 1, 4, none⟩ (.int .u64 0)).setCell ⟨w.heap.size + 1 + 1, 5, none⟩ (.slice (some ⟨W10.heap.size, 0, none⟩) 1 1)).setCell ⟨w.heap.size + 1 + 1, 6, none⟩ (.int .i64 0)).setCell ⟨w.heap.size + 1 + 1, 7, none⟩ (.int .i64 0)).setCell ⟨w.heap.size + 1 + 1, 8, none⟩ (.int .i64 ((r.opn : Int) + 1)))).heap.size = W10.heap.size by simp [World.setCell])
    clear k4 o4 b4 k5 o5 b5
    generalize (((((((((((((((((W10.setCell ⟨w.heap.size + 1, 0, none⟩ (.string S)).setCell ⟨w.heap.size + 1, 1, none⟩ (.bool true)).setCell ⟨w.heap.size + 1, 2, none⟩ (.int .i64 ((r1.at_ : Int) + 1))).setCell ⟨w.heap.size + 1, 3, none⟩ (.int .i64 r1.opn)).setCell ⟨w.heap.size + 1, 4, none⟩ (.slice (some ⟨g2, 0, none⟩) 1 cap2)).setCell ⟨w.heap.size + 1, 5, none⟩ (.slice none 0 0)).setCell ⟨w.heap.size + 1, 6, none⟩ (.int .i64 0)).setCell ⟨w.heap.size + 1, 7, none⟩ (.int .i64 0)).setCell ⟨w.heap.size + 1 + 1, 0, none⟩ (.int .i64 5)).setCell ⟨w.heap.size + 1 + 1, 1, none⟩ (.int .u64 0)).setCell ⟨w.heap.size + 1 + 1, 2, none⟩ (.int .u64 0)).setCell ⟨w.heap.size + 1 + 1, 3, none⟩ (.int .u64 0)).setCell ⟨w.heap.size + 1 + 1, 4, none⟩ (.int .u64 0)).setCell ⟨w.heap.size + 1 + 1, 5, none⟩ (.slice (some ⟨W10.heap.size, 0, none⟩) 1 1)).setCell ⟨w.heap.size + 1 + 1, 6, none⟩ (.int .i64 0)).setCell ⟨w.heap.size + 1 + 1, 7, none⟩ (.int .i64 0)).setCell ⟨w.heap.size + 1 + 1, 8, none⟩ (.int .i64 ((r.opn : Int) + 1))) = W11 at *
    have hba : Below W11.heap.size W11 (W11.alloc (.cells #[.int .i64 k1, .int .u64 s01, .int .u64 s11, .int .u64 s21, .int .u64 s31, .slice al1 nl1 cl1, .int .i64 mn1, .int .i64 mx1, .int .i64 num1] 28)) := (Below.refl _ _).alloc (Nat.le_refl _) _
    have HBA := Lib.hid hba
    have HFN := Lib.hid (heap_alloc_new W11 (.cells #[.int .i64 k1, .int .u64 s01, .int .u64 s11, .int .u64 s21, .int .u64 s31, .slice al1 nl1 cl1, .int .i64 mn1, .int .i64 mx1, .int .i64 num1] 28))
    have HF4 := Lib.hid ((hba.block (w.heap.size + 1) (by have := HZ11.out; omega)).trans K4.out)
    have HF5 := Lib.hid ((hba.block (w.heap.size + 1 + 1) (by have := HZ11.out; omega)).trans K5.out)
    have HZF := Lib.hid (show (W11.alloc (.cells #[.int .i64 k1, .int .u64 s01, .int .u64 s11, .int .u64 s21, .int .u64 s31, .slice al1 nl1 cl1, .int .i64 mn1, .int .i64 mx1, .int .i64 num1] 28)).heap.size = W11.heap.size + 1 from Array.size_push _)
    clear hba hz3 hz4
    generalize (W11.alloc (.cells #[.int .i64 k1, .int .u64 s01, .int .u64 s11, .int .u64 s21, .int .u64 s31, .slice al1 nl1 cl1, .int .i64 mn1, .int .i64 mx1, .int .i64 num1] 28)) = WF at *
    have cr0 : WF.cell? ⟨w.heap.size + 1, 0, none⟩ = some (.string S) := cell_of HF4.out (j := 0) rfl
    have cr1 : WF.cell? ⟨w.heap.size + 1, 1, none⟩ = some (.bool true) := cell_of HF4.out (j := 1) rfl
    have cr2 : WF.cell? ⟨w.heap.size + 1, 2, none⟩ = some (.int .i64 ((r1.at_ : Int) + 1)) := cell_of HF4.out (j := 2) rfl
    have cr3 : WF.cell? ⟨w.heap.size + 1, 3, none⟩ = some (.int .i64 r1.opn) := cell_of HF4.out (j := 3) rfl
    have cr4 : WF.cell? ⟨w.heap.size + 1, 4, none⟩ = some (.slice (some ⟨g2, 0, none⟩) 1 cap2) := cell_of HF4.out (j := 4) rfl
    have cr5 : WF.cell? ⟨w.heap.size + 1, 5, none⟩ = some (.slice none 0 0) := cell_of HF4.out (j := 5) rfl
    have cr6 : WF.cell? ⟨w.heap.size + 1, 6, none⟩ = some (.int .i64 0) := cell_of HF4.out (j := 6) rfl
    have cr7 : WF.cell? ⟨w.heap.size + 1, 7, none⟩ = some (.int .i64 0) := cell_of HF4.out (j := 7) rfl
    have ct0 : WF.cell? ⟨w.heap.size + 1 + 1, 0, none⟩ = some (.int .i64 5) := cell_of HF5.out (j := 0) rfl
    have ct1 : WF.cell? ⟨w.heap.size + 1 + 1, 1, none⟩ = some (.int .u64 0) := cell_of HF5.out (j := 1) rfl
    have ct2 : WF.cell? ⟨w.heap.size + 1 + 1, 2, none⟩ = some (.int .u64 0) := cell_of HF5.out (j := 2) rfl
    have ct3 : WF.cell? ⟨w.heap.size + 1 + 1, 3, none⟩ = some (.int .u64 0) := cell_of HF5.out (j := 3) rfl
    have ct4 : WF.cell? ⟨w.heap.size + 1 + 1, 4, none⟩ = some (.int .u64 0) := cell_of HF5.out (j := 4) rfl
    have ct5 : WF.cell? ⟨w.heap.size + 1 + 1, 5, none⟩ = some (.slice (some ⟨W10.heap.size, 0, none⟩) 1 1) := cell_of HF5.out (j := 5) rfl
    have ct6 : WF.cell? ⟨w.heap.size + 1 + 1, 6, none⟩ = some (.int .i64 0) := cell_of HF5.out (j := 6) rfl
    have ct7 : WF.cell? ⟨w.heap.size + 1 + 1, 7, none⟩ = some (.int .i64 0) := cell_of HF5.out (j := 7) rfl
    have ct8 : WF.cell? ⟨w.heap.size + 1 + 1, 8, none⟩ = some (.int .i64 ((r.opn : Int) + 1)) := cell_of HF5.out (j := 8) rfl
    go_wp2_with fail
    refine bodyPost_ret (v := .tuple #[.agg #[.string S, .bool true, .int .i64 ((r1.at_ : Int) + 1), .int .i64 r1.opn, .slice (some ⟨g2, 0, none⟩) 1 cap2, .slice none 0 0, .int .i64 0, .int .i64 0], .agg #[.int .i64 5, .int .u64 0, .int .u64 0, .int .u64 0, .int .u64 0, .slice (some ⟨W10.heap.size, 0, none⟩) 1 1, .int .i64 0, .int .i64 0, .int .i64 ((r.opn : Int) + 1)]]) (by simp [results, Tryz.results80, go_sem, cr0, cr1, cr2, cr3, cr4, cr5, cr6, cr7, ct0, ct1, ct2, ct3, ct4, ct5, ct6, ct7, ct8]) rfl ⟨some ⟨g2, 0, none⟩, 1, cap2, [.int .i64 5, .int .u64 0, .int .u64 0, .int .u64 0, .int .u64 0, .slice (some ⟨W10.heap.size, 0, none⟩) 1 1, .int .i64 0, .int .i64 0, .int .i64 ((r.opn : Int) + 1)], rfl, ?_, ?_, ?_, .inr ⟨g2, rfl, by have := (HO10.out.lt g2 rfl).1; have := HZ7.out; have := HSZ4.out; omega⟩⟩
    · exact (HBX.out.trans (HBA.out.mono HBX.out.size)).drew
    · have hz10 := HZ10.out
      have hz7 := HZ7.out
      have hz4 := HSZ4.out
      have hz11 := HZ11.out
      have hzf := HZF.out
      refine ⟨some ⟨W10.heap.size, 0, none⟩, 1, rfl, by simp, .inr ⟨W10.heap.size, 0, rfl, (by show W10.heap.size < WF.heap.size; omega), (by simp), (by omega), ⟨[.int .i64 k1, .int .u64 s01, .int .u64 s11, .int .u64 s21, .int .u64 s31, .slice al1 nl1 cl1, .int .i64 mn1, .int .i64 mx1, .int .i64 num1], fun j hj => ?_, ?_⟩, trivial⟩⟩
      · rw [mask_cell, above, if_pos (by simp; omega), Nat.zero_add]
        show WF.cell? _ = _
        have h := HFN.out
        rw [hz11] at h
        rw [cell_of_row _ _ _ _ _ _ h]
        simp
      · refine Rd.mono (by show W4.heap.size ≤ WF.heap.size; omega) _ _ (Rd.masked (fun b hb hp => ⟨?_, ?_⟩) HRD.out)
        · simp only [above, decide_eq_true_eq] at hp ⊢
          have := HB3.out.size
          omega
        · simp only [above, decide_eq_true_eq] at hp
          have := HSZ3.out
          exact (HBA.out.block b (by omega)).trans ((HO4.out b (by omega) (by omega)).trans (HBW10.out.block b hb))
    · have hlt := HO10.out.lt g2 rfl
      have hz7 := HZ7.out
      have hz4 := HSZ4.out
      have hz11 := HZ11.out
      have hzf := HZF.out
      refine .inr ⟨g2, rfl, by simp [hc0], by omega, by omega, (by show g2 < WF.heap.size; omega), fun j u hu => ?_⟩
      show WF.cell? _ = _
      rw [World.cell?_of_block (a := ⟨g2, j, none⟩) ((HBA.out.block g2 (by omega)).trans (HO4.out g2 (by omega) (by omega))), HO10.out.cellAt j (by have := (List.getElem?_eq_some_iff.1 hu).1; simp [hc0] at this; omega)]
      exact hu
  · have hin7 : IntsIn W7 g1 r1.cl := fun j u hu => (HBW7.out.cell (p := ⟨g1, j, none⟩) hg1).trans (hin j u hu)
    have ha7 : Below W7.heap.size W7 (W7.alloc (.cells #[] 3)) := (Below.refl _ _).alloc (Nat.le_refl _) _
    have HA7 := Lib.hid ha7
    have hg17 : g1 < W7.heap.size := Nat.lt_of_lt_of_le hg1 HBW7.out.size
    have HN := Lib.hid (show ∀ j u, (r1.cl.map (Value.int .i64))[j]? = some u → (W7.alloc (.cells #[] 3)).cell? ((⟨g1, 0, none⟩ : Addr).add j) = some u from fun j u hu => by
      rw [WideShapes.add_plain, Nat.zero_add]
      exact (ha7.cell (p := ⟨g1, j, none⟩) hg17).trans (hin7 j u hu))
    have H1 := Lib.hid (show ∀ u ∈ r1.cl.map (Value.int .i64), u.oneCell' = true by intro u hu; obtain ⟨m, _, rfl⟩ := List.mem_map.1 hu; rfl)
    have HLC := Lib.hid (show (r1.cl.map (Value.int .i64)).length = r1.cl.length * 1 by simp)
    clear ha7 hin7 hin
    go_wp2_with (at_builtin; (refine wpList_append_lies _ rfl (.tmp 75) (.tmp 77) 34 rfl W7.heap.size 3 i0 _ 1 8 und_ints HI.out HI0.out HI1.out HI2.out rfl (by decide) _ 0 [] rfl HO.out ⟨g1, 0, none⟩ r1.cl.length c1 (r1.cl.map (Value.int .i64)) rfl HLC.out HN.out H1.out hn0 (by unfold maxLen; omega) (by omega) HA7.out.size _ rfl ?_))
    intro g8 cap8 w8 hown hgrow hat hlt8
    have hb8 := HA7.out.grown hgrow HA7.out.size (fun k hk => (HO.out.lt k hk).1)
    have HB8 := Lib.hid hb8
    have ho8 : w8.ownsRow W7.heap.size 3 1 (.slice (some ⟨g8, 0, none⟩) r1.cl.length cap8) r1.cl.length (r1.cl.map (Value.int .i64)) := by simpa using hown
    have HO8 := Lib.hid ho8
    have p4' : w8.cell? ⟨W4.heap.size, 4, none⟩ = some (.slice (some ⟨g1, 0, none⟩) r1.cl.length c1) := (hb8.cell (p := ⟨W4.heap.size, 4, none⟩) hX7).trans p4
    have ha8 : Below w8.heap.size w8 (w8.alloc (.cells #[.int .i64 ((r.opn : Int) + 1)] 3)) := (Below.refl _ _).alloc (Nat.le_refl _) _
    have HA8 := Lib.hid (hb8.trans (ha8.mono hb8.size))
    clear hb8 ho8 ha8 hown hgrow hat hlt8
    go_wp2_with (at_builtin; (refine wpList_append_lies _ rfl (.tmp 78) (.tmp 80) 34 rfl W7.heap.size 3 i0 _ 1 8 und_ints HI.out HI0.out HI1.out HI2.out rfl (by decide) _ _ (r1.cl.map (Value.int .i64)) rfl (HO8.out.alloc (.cells #[.int .i64 ((r.opn : Int) + 1)] 3)) _ 1 1 [.int .i64 ((r.opn : Int) + 1)] rfl rfl (news1 _ _ _) (by intro u hu; rw [List.mem_singleton.1 hu]; rfl) (by decide) (by unfold maxLen; omega) (by omega) HA8.out.size _ rfl ?_))
    intro g2 cap2 w9 hown hgrow hat hlt9
    have hb9 := HA8.out.grown hgrow HA8.out.size (fun k hk => ((HO8.out.alloc (.cells #[.int .i64 ((r.opn : Int) + 1)] 3)).lt k hk).1)
    have ho9 : w9.ownsRow W7.heap.size 3 1 (.slice (some ⟨g2, 0, none⟩) (r1.cl.length + 1) cap2) (r1.cl.length + 1) ((r1.cl ++ [((r.opn + 1 : Nat) : Int)]).map (Value.int .i64)) := by rw [List.map_append]; exact hown
    clear p4'
    have HB9 := Lib.hid hb9
    have HO9 := Lib.hid ho9
    have h69 := (hb9.block W4.heap.size hX7).trans H67.out
    have H69 := Lib.hid h69
    clear p0 p1 p2 p3 p4 p5 p6 p7
    have p0 : w9.cell? ⟨W4.heap.size, 0, none⟩ = some (.string S) := cell_of h69 (j := 0) rfl
    have p1 : w9.cell? ⟨W4.heap.size, 1, none⟩ = some (.bool true) := cell_of h69 (j := 1) rfl
    have p2 : w9.cell? ⟨W4.heap.size, 2, none⟩ = some (.int .i64 ((r1.at_ : Int) + 1)) := cell_of h69 (j := 2) rfl
    have p3 : w9.cell? ⟨W4.heap.size, 3, none⟩ = some (.int .i64 r1.opn) := cell_of h69 (j := 3) rfl
    have p4 : w9.cell? ⟨W4.heap.size, 4, none⟩ = some (.slice (some ⟨g1, 0, none⟩) r1.cl.length c1) := cell_of h69 (j := 4) rfl
    have p5 : w9.cell? ⟨W4.heap.size, 5, none⟩ = some (.slice none 0 0) := cell_of h69 (j := 5) rfl
    have p6 : w9.cell? ⟨W4.heap.size, 6, none⟩ = some (.int .i64 0) := cell_of h69 (j := 6) rfl
    have p7 : w9.cell? ⟨W4.heap.size, 7, none⟩ = some (.int .i64 0) := cell_of h69 (j := 7) rfl
    have f4 := frozen_of_row w9 W4.heap.size 4 _ _ h69
    clear hb9 ho9 h69 hown hgrow hat hlt9
    go_upto_region 16 with (fail)
    have h610 : (w9.setCell ⟨W4.heap.size, 4, none⟩ (.slice (some ⟨g2, 0, none⟩) (r1.cl.length + 1) cap2)).heap[W4.heap.size]? = some (.cells #[.string S, .bool true, .int .i64 ((r1.at_ : Int) + 1), .int .i64 r1.opn, .slice (some ⟨g2, 0, none⟩) (r1.cl.length + 1) cap2, .slice none 0 0, .int .i64 0, .int .i64 0] 105 (0, 0)) := heap_setCell_same _ _ 4 _ _ _ H69.out
    have hoth : ∀ k, k ≠ W4.heap.size → (w9.setCell ⟨W4.heap.size, 4, none⟩ (.slice (some ⟨g2, 0, none⟩) (r1.cl.length + 1) cap2)).heap[k]? = w9.heap[k]? := fun k hk => Below.heap_setCell _ _ _ _ hk
    have H610 := Lib.hid h610
    have H410 := Lib.hid ((hoth (w.heap.size + 1) (by have := HSZ4.out; omega)).trans ((HB9.out.block (w.heap.size + 1) (by have := HSZ4.out; omega)).trans H47.out))
    have H510 := Lib.hid ((hoth (w.heap.size + 1 + 1) (by have := HSZ4.out; omega)).trans ((HB9.out.block (w.heap.size + 1 + 1) (by have := HSZ4.out; omega)).trans H57.out))
    have H710 := Lib.hid ((hoth (W4.heap.size + 1) (by omega)).trans ((HB9.out.block (W4.heap.size + 1) (by have := HZ7.out; omega)).trans H77.out))
    have HO10 := Lib.hid (ownsRow_setCell_below HO9.out (a := ⟨W4.heap.size, 4, none⟩) hX7 (.slice (some ⟨g2, 0, none⟩) (r1.cl.length + 1) cap2))
    have HBW10 := Lib.hid ((HBW7.out.trans (HB9.out.mono HBW7.out.size)).setCell (p := ⟨W4.heap.size, 4, none⟩) (Nat.le_refl _) (.slice (some ⟨g2, 0, none⟩) (r1.cl.length + 1) cap2))
    have HZ10 := Lib.hid (show W7.heap.size ≤ (w9.setCell ⟨W4.heap.size, 4, none⟩ (.slice (some ⟨g2, 0, none⟩) (r1.cl.length + 1) cap2)).heap.size by have := HB9.out.size; simpa [World.setCell] using this)
    clear h610 hoth f4 p0 p1 p2 p3 p4 p5 p6 p7
    generalize w9.setCell ⟨W4.heap.size, 4, none⟩ (.slice (some ⟨g2, 0, none⟩) (r1.cl.length + 1) cap2) = W10 at *
    have p0 : W10.cell? ⟨W4.heap.size, 0, none⟩ = some (.string S) := cell_of H610.out (j := 0) rfl
    have p1 : W10.cell? ⟨W4.heap.size, 1, none⟩ = some (.bool true) := cell_of H610.out (j := 1) rfl
    have p2 : W10.cell? ⟨W4.heap.size, 2, none⟩ = some (.int .i64 ((r1.at_ : Int) + 1)) := cell_of H610.out (j := 2) rfl
    have p3 : W10.cell? ⟨W4.heap.size, 3, none⟩ = some (.int .i64 r1.opn) := cell_of H610.out (j := 3) rfl
    have p4 : W10.cell? ⟨W4.heap.size, 4, none⟩ = some (.slice (some ⟨g2, 0, none⟩) (r1.cl.length + 1) cap2) := cell_of H610.out (j := 4) rfl
    have p5 : W10.cell? ⟨W4.heap.size, 5, none⟩ = some (.slice none 0 0) := cell_of H610.out (j := 5) rfl
    have p6 : W10.cell? ⟨W4.heap.size, 6, none⟩ = some (.int .i64 0) := cell_of H610.out (j := 6) rfl
    have p7 : W10.cell? ⟨W4.heap.size, 7, none⟩ = some (.int .i64 0) := cell_of H610.out (j := 7) rfl
    have q0 : W10.cell? ⟨W4.heap.size + 1, 0, none⟩ = some (.int .i64 k1) := cell_of H710.out (j := 0) rfl
    have q1 : W10.cell? ⟨W4.heap.size + 1, 1, none⟩ = some (.int .u64 s01) := cell_of H710.out (j := 1) rfl
    have q2 : W10.cell? ⟨W4.heap.size + 1, 2, none⟩ = some (.int .u64 s11) := cell_of H710.out (j := 2) rfl
    have q3 : W10.cell? ⟨W4.heap.size + 1, 3, none⟩ = some (.int .u64 s21) := cell_of H710.out (j := 3) rfl
    have q4 : W10.cell? ⟨W4.heap.size + 1, 4, none⟩ = some (.int .u64 s31) := cell_of H710.out (j := 4) rfl
    have q5 : W10.cell? ⟨W4.heap.size + 1, 5, none⟩ = some (.slice al1 nl1 cl1) := cell_of H710.out (j := 5) rfl
    have q6 : W10.cell? ⟨W4.heap.size + 1, 6, none⟩ = some (.int .i64 mn1) := cell_of H710.out (j := 6) rfl
    have q7 : W10.cell? ⟨W4.heap.size + 1, 7, none⟩ = some (.int .i64 mx1) := cell_of H710.out (j := 7) rfl
    have q8 : W10.cell? ⟨W4.heap.size + 1, 8, none⟩ = some (.int .i64 num1) := cell_of H710.out (j := 8) rfl
    have cr0 : W10.cell? ⟨w.heap.size + 1, 0, none⟩ = some (.string ⟨#[]⟩) := cell_of H410.out (j := 0) rfl
    have cr1 : W10.cell? ⟨w.heap.size + 1, 1, none⟩ = some (.bool false) := cell_of H410.out (j := 1) rfl
    have cr2 : W10.cell? ⟨w.heap.size + 1, 2, none⟩ = some (.int .i64 0) := cell_of H410.out (j := 2) rfl
    have cr3 : W10.cell? ⟨w.heap.size + 1, 3, none⟩ = some (.int .i64 0) := cell_of H410.out (j := 3) rfl
    have cr4 : W10.cell? ⟨w.heap.size + 1, 4, none⟩ = some (.slice none 0 0) := cell_of H410.out (j := 4) rfl
    have cr5 : W10.cell? ⟨w.heap.size + 1, 5, none⟩ = some (.slice none 0 0) := cell_of H410.out (j := 5) rfl
    have cr6 : W10.cell? ⟨w.heap.size + 1, 6, none⟩ = some (.int .i64 0) := cell_of H410.out (j := 6) rfl
    have cr7 : W10.cell? ⟨w.heap.size + 1, 7, none⟩ = some (.int .i64 0) := cell_of H410.out (j := 7) rfl
    have ct0 : W10.cell? ⟨w.heap.size + 1 + 1, 0, none⟩ = some (.int .i64 0) := cell_of H510.out (j := 0) rfl
    have ct1 : W10.cell? ⟨w.heap.size + 1 + 1, 1, none⟩ = some (.int .u64 0) := cell_of H510.out (j := 1) rfl
    have ct2 : W10.cell? ⟨w.heap.size + 1 + 1, 2, none⟩ = some (.int .u64 0) := cell_of H510.out (j := 2) rfl
    have ct3 : W10.cell? ⟨w.heap.size + 1 + 1, 3, none⟩ = some (.int .u64 0) := cell_of H510.out (j := 3) rfl
    have ct4 : W10.cell? ⟨w.heap.size + 1 + 1, 4, none⟩ = some (.int .u64 0) := cell_of H510.out (j := 4) rfl
    have ct5 : W10.cell? ⟨w.heap.size + 1 + 1, 5, none⟩ = some (.slice none 0 0) := cell_of H510.out (j := 5) rfl
    have ct6 : W10.cell? ⟨w.heap.size + 1 + 1, 6, none⟩ = some (.int .i64 0) := cell_of H510.out (j := 6) rfl
    have ct7 : W10.cell? ⟨w.heap.size + 1 + 1, 7, none⟩ = some (.int .i64 0) := cell_of H510.out (j := 7) rfl
    have ct8 : W10.cell? ⟨w.heap.size + 1 + 1, 8, none⟩ = some (.int .i64 0) := cell_of H510.out (j := 8) rfl
    have cf0 := frozen_of_row W10 (w.heap.size + 1) 0 _ _ H410.out
    have cf1 := frozen_of_row W10 (w.heap.size + 1) 1 _ _ H410.out
    have cf2 := frozen_of_row W10 (w.heap.size + 1) 2 _ _ H410.out
    have cf3 := frozen_of_row W10 (w.heap.size + 1) 3 _ _ H410.out
    have cf4 := frozen_of_row W10 (w.heap.size + 1) 4 _ _ H410.out
    have cf5 := frozen_of_row W10 (w.heap.size + 1) 5 _ _ H410.out
    have cf6 := frozen_of_row W10 (w.heap.size + 1) 6 _ _ H410.out
    have cf7 := frozen_of_row W10 (w.heap.size + 1) 7 _ _ H410.out
    have cg0 := frozen_of_row W10 (w.heap.size + 1 + 1) 0 _ _ H510.out
    have cg1 := frozen_of_row W10 (w.heap.size + 1 + 1) 1 _ _ H510.out
    have cg2 := frozen_of_row W10 (w.heap.size + 1 + 1) 2 _ _ H510.out
    have cg3 := frozen_of_row W10 (w.heap.size + 1 + 1) 3 _ _ H510.out
    have cg4 := frozen_of_row W10 (w.heap.size + 1 + 1) 4 _ _ H510.out
    have cg5 := frozen_of_row W10 (w.heap.size + 1 + 1) 5 _ _ H510.out
    have cg6 := frozen_of_row W10 (w.heap.size + 1 + 1) 6 _ _ H510.out
    have cg7 := frozen_of_row W10 (w.heap.size + 1 + 1) 7 _ _ H510.out
    have cg8 := frozen_of_row W10 (w.heap.size + 1 + 1) 8 _ _ H510.out
    have hz1 : W4.heap.size < W10.heap.size := by have := HZ10.out; omega
    have hz2 : W4.heap.size + 1 < W10.heap.size := by have := HZ10.out; have := HZ7.out; omega
    have hz3 : w.heap.size + 1 < W10.heap.size := by have := HSZ4.out; omega
    have hz4 : w.heap.size + 1 + 1 < W10.heap.size := by have := HSZ4.out; omega
    have hx1 : ¬ W4.heap.size = w.heap.size := by have := HSZ4.out; omega
    have hx2 : ¬ W4.heap.size = w.heap.size + 1 := by have := HSZ4.out; omega
    have hx3 : ¬ W4.heap.size = w.heap.size + 1 + 1 := by have := HSZ4.out; omega
    go_region
    clear p0 p1 p2 p3 p4 p5 p6 p7 q0 q1 q2 q3 q4 q5 q6 q7 q8 cr0 cr1 cr2 cr3 cr4 cr5 cr6 cr7 ct0 ct1 ct2 ct3 ct4 ct5 ct6 ct7 ct8 cf0 cf1 cf2 cf3 cf4 cf5 cf6 cf7 cg0 cg1 cg2 cg3 cg4 cg5 cg6 cg7 cg8 hz1 hz2 hx1 hx2 hx3
    obtain ⟨k4, o4, b4⟩ := put8 H410.out (.string S) (.bool true) (.int .i64 ((r1.at_ : Int) + 1)) (.int .i64 r1.opn) (.slice (some ⟨g2, 0, none⟩) (r1.cl.length + 1) cap2) (.slice none 0 0) (.int .i64 0) (.int .i64 0)
    obtain ⟨k5, o5, b5⟩ := put9 ((o4 (w.heap.size + 1 + 1) (by omega)).trans H510.out) (.int .i64 5) (.int .u64 0) (.int .u64 0) (.int .u64 0) (.int .u64 0) (.slice (some ⟨W10.heap.size, 0, none⟩) 1 1) (.int .i64 0) (.int .i64 0) (.int .i64 ((r.opn : Int) + 1))
    have HO4 := Lib.hid (fun k (h1 : k ≠ w.heap.size + 1) (h2 : k ≠ w.heap.size + 1 + 1) => (o5 k h2).trans (o4 k h1))
    have HBX := Lib.hid (b5 _ _ (b4 _ _ (HB4.out.trans (HBW10.out.mono HB4.out.size)) (by omega)) (by omega))
    have K4 := Lib.hid ((o5 (w.heap.size + 1) (by omega)).trans k4)
    have K5 := Lib.hid k5
    have HZ11 := Lib.hid (show ((((((((((((((((((W10.setCell ⟨w.heap.size + 1, 0, none⟩ (.string S)).setCell ⟨w.heap.size + 1, 1, none⟩ (.bool true)).setCell ⟨w.heap.size + 1, 2, none⟩ (.int .i64 ((r1.at_ : Int) + 1))).setCell ⟨w.heap.size + 1, 3, none⟩ (.int .i64 r1.opn)).setCell ⟨w.heap.size + 1, 4, none⟩ (.slice (some ⟨g2, 0, none⟩) (r1.cl.length + 1) cap2)).setCell ⟨w.heap.size + 1, 5, none⟩ (.slice none 0 0)).setCell ⟨w.heap.size + 1, 6, none⟩ (.int .i64 0)).setCell ⟨w.heap.size + 1, 7, none⟩ (.int .i64 0)).setCell ⟨w.heap.size + 1 + 1, 0, none⟩ (.int .i64 5)).setCell ⟨w.heap.size + 1 + 1, 1, none⟩ (.int .u64 0)).setCell ⟨w.heap.size + 1 + 1, 2, none⟩ (.int .u64 0)).setCell ⟨w.heap.size + 1 + 1, 3, none⟩ (.int .u64 0)).setCell ⟨w.heap.size + 1 + 1, 4, none⟩ (.int .u64 0)).setCell ⟨w.heap.size + 1 + 1, 5, none⟩ (.slice (some ⟨W10.heap.size, 0, none⟩) 1 1)).setCell ⟨w.heap.size + 1 + 1, 6, none⟩ (.int .i64 0)).setCell ⟨w.heap.size + 1 + 1, 7, none⟩ (.int .i64 0)).setCell ⟨w.heap.size + 1 + 1, 8, none⟩ (.int .i64 ((r.opn : Int) + 1)))).heap.size = W10.heap.size by simp [World.setCell])
    clear k4 o4 b4 k5 o5 b5
    generalize (((((((((((((((((W10.setCell ⟨w.heap.size + 1, 0, none⟩ (.string S)).setCell ⟨w.heap.size + 1, 1, none⟩ (.bool true)).setCell ⟨w.heap.size + 1, 2, none⟩ (.int .i64 ((r1.at_ : Int) + 1))).setCell ⟨w.heap.size + 1, 3, none⟩ (.int .i64 r1.opn)).setCell ⟨w.heap.size + 1, 4, none⟩ (.slice (some ⟨g2, 0, none⟩) (r1.cl.length + 1) cap2)).setCell ⟨w.heap.size + 1, 5, none⟩ (.slice none 0 0)).setCell ⟨w.heap.size + 1, 6, none⟩ (.int .i64 0)).setCell ⟨w.heap.size + 1, 7, none⟩ (.int .i64 0)).setCell ⟨w.heap.size + 1 + 1, 0, none⟩ (.int .i64 5)).setCell ⟨w.heap.size + 1 + 1, 1, none⟩ (.int .u64 0)).setCell ⟨w.heap.size + 1 + 1, 2, none⟩ (.int .u64 0)).setCell ⟨w.heap.size + 1 + 1, 3, none⟩ (.int .u64 0)).setCell ⟨w.heap.size + 1 + 1, 4, none⟩ (.int .u64 0)).setCell ⟨w.heap.size + 1 + 1, 5, none⟩ (.slice (some ⟨W10.heap.size, 0, none⟩) 1 1)).setCell ⟨w.heap.size + 1 + 1, 6, none⟩ (.int .i64 0)).setCell ⟨w.heap.size + 1 + 1, 7, none⟩ (.int .i64 0)).setCell ⟨w.heap.size + 1 + 1, 8, none⟩ (.int .i64 ((r.opn : Int) + 1))) = W11 at *
    have hba : Below W11.heap.size W11 (W11.alloc (.cells #[.int .i64 k1, .int .u64 s01, .int .u64 s11, .int .u64 s21, .int .u64 s31, .slice al1 nl1 cl1, .int .i64 mn1, .int .i64 mx1, .int .i64 num1] 28)) := (Below.refl _ _).alloc (Nat.le_refl _) _
    have HBA := Lib.hid hba
    have HFN := Lib.hid (heap_alloc_new W11 (.cells #[.int .i64 k1, .int .u64 s01, .int .u64 s11, .int .u64 s21, .int .u64 s31, .slice al1 nl1 cl1, .int .i64 mn1, .int .i64 mx1, .int .i64 num1] 28))
    have HF4 := Lib.hid ((hba.block (w.heap.size + 1) (by have := HZ11.out; omega)).trans K4.out)
    have HF5 := Lib.hid ((hba.block (w.heap.size + 1 + 1) (by have := HZ11.out; omega)).trans K5.out)
    have HZF := Lib.hid (show (W11.alloc (.cells #[.int .i64 k1, .int .u64 s01, .int .u64 s11, .int .u64 s21, .int .u64 s31, .slice al1 nl1 cl1, .int .i64 mn1, .int .i64 mx1, .int .i64 num1] 28)).heap.size = W11.heap.size + 1 from Array.size_push _)
    clear hba hz3 hz4
    generalize (W11.alloc (.cells #[.int .i64 k1, .int .u64 s01, .int .u64 s11, .int .u64 s21, .int .u64 s31, .slice al1 nl1 cl1, .int .i64 mn1, .int .i64 mx1, .int .i64 num1] 28)) = WF at *
    have cr0 : WF.cell? ⟨w.heap.size + 1, 0, none⟩ = some (.string S) := cell_of HF4.out (j := 0) rfl
    have cr1 : WF.cell? ⟨w.heap.size + 1, 1, none⟩ = some (.bool true) := cell_of HF4.out (j := 1) rfl
    have cr2 : WF.cell? ⟨w.heap.size + 1, 2, none⟩ = some (.int .i64 ((r1.at_ : Int) + 1)) := cell_of HF4.out (j := 2) rfl
    have cr3 : WF.cell? ⟨w.heap.size + 1, 3, none⟩ = some (.int .i64 r1.opn) := cell_of HF4.out (j := 3) rfl
    have cr4 : WF.cell? ⟨w.heap.size + 1, 4, none⟩ = some (.slice (some ⟨g2, 0, none⟩) (r1.cl.length + 1) cap2) := cell_of HF4.out (j := 4) rfl
    have cr5 : WF.cell? ⟨w.heap.size + 1, 5, none⟩ = some (.slice none 0 0) := cell_of HF4.out (j := 5) rfl
    have cr6 : WF.cell? ⟨w.heap.size + 1, 6, none⟩ = some (.int .i64 0) := cell_of HF4.out (j := 6) rfl
    have cr7 : WF.cell? ⟨w.heap.size + 1, 7, none⟩ = some (.int .i64 0) := cell_of HF4.out (j := 7) rfl
    have ct0 : WF.cell? ⟨w.heap.size + 1 + 1, 0, none⟩ = some (.int .i64 5) := cell_of HF5.out (j := 0) rfl
    have ct1 : WF.cell? ⟨w.heap.size + 1 + 1, 1, none⟩ = some (.int .u64 0) := cell_of HF5.out (j := 1) rfl
    have ct2 : WF.cell? ⟨w.heap.size + 1 + 1, 2, none⟩ = some (.int .u64 0) := cell_of HF5.out (j := 2) rfl
    have ct3 : WF.cell? ⟨w.heap.size + 1 + 1, 3, none⟩ = some (.int .u64 0) := cell_of HF5.out (j := 3) rfl
    have ct4 : WF.cell? ⟨w.heap.size + 1 + 1, 4, none⟩ = some (.int .u64 0) := cell_of HF5.out (j := 4) rfl
    have ct5 : WF.cell? ⟨w.heap.size + 1 + 1, 5, none⟩ = some (.slice (some ⟨W10.heap.size, 0, none⟩) 1 1) := cell_of HF5.out (j := 5) rfl
    have ct6 : WF.cell? ⟨w.heap.size + 1 + 1, 6, none⟩ = some (.int .i64 0) := cell_of HF5.out (j := 6) rfl
    have ct7 : WF.cell? ⟨w.heap.size + 1 + 1, 7, none⟩ = some (.int .i64 0) := cell_of HF5.out (j := 7) rfl
    have ct8 : WF.cell? ⟨w.heap.size + 1 + 1, 8, none⟩ = some (.int .i64 ((r.opn : Int) + 1)) := cell_of HF5.out (j := 8) rfl
    go_wp2_with fail
    refine bodyPost_ret (v := .tuple #[.agg #[.string S, .bool true, .int .i64 ((r1.at_ : Int) + 1), .int .i64 r1.opn, .slice (some ⟨g2, 0, none⟩) (r1.cl.length + 1) cap2, .slice none 0 0, .int .i64 0, .int .i64 0], .agg #[.int .i64 5, .int .u64 0, .int .u64 0, .int .u64 0, .int .u64 0, .slice (some ⟨W10.heap.size, 0, none⟩) 1 1, .int .i64 0, .int .i64 0, .int .i64 ((r.opn : Int) + 1)]]) (by simp [results, Tryz.results80, go_sem, cr0, cr1, cr2, cr3, cr4, cr5, cr6, cr7, ct0, ct1, ct2, ct3, ct4, ct5, ct6, ct7, ct8]) rfl ⟨some ⟨g2, 0, none⟩, (r1.cl.length + 1), cap2, [.int .i64 5, .int .u64 0, .int .u64 0, .int .u64 0, .int .u64 0, .slice (some ⟨W10.heap.size, 0, none⟩) 1 1, .int .i64 0, .int .i64 0, .int .i64 ((r.opn : Int) + 1)], rfl, ?_, ?_, ?_, .inr ⟨g2, rfl, by have := (HO10.out.lt g2 rfl).1; have := HZ7.out; have := HSZ4.out; omega⟩⟩
    · exact (HBX.out.trans (HBA.out.mono HBX.out.size)).drew
    · have hz10 := HZ10.out
      have hz7 := HZ7.out
      have hz4 := HSZ4.out
      have hz11 := HZ11.out
      have hzf := HZF.out
      refine ⟨some ⟨W10.heap.size, 0, none⟩, 1, rfl, by simp, .inr ⟨W10.heap.size, 0, rfl, (by show W10.heap.size < WF.heap.size; omega), (by simp), (by omega), ⟨[.int .i64 k1, .int .u64 s01, .int .u64 s11, .int .u64 s21, .int .u64 s31, .slice al1 nl1 cl1, .int .i64 mn1, .int .i64 mx1, .int .i64 num1], fun j hj => ?_, ?_⟩, trivial⟩⟩
      · rw [mask_cell, above, if_pos (by simp; omega), Nat.zero_add]
        show WF.cell? _ = _
        have h := HFN.out
        rw [hz11] at h
        rw [cell_of_row _ _ _ _ _ _ h]
        simp
      · refine Rd.mono (by show W4.heap.size ≤ WF.heap.size; omega) _ _ (Rd.masked (fun b hb hp => ⟨?_, ?_⟩) HRD.out)
        · simp only [above, decide_eq_true_eq] at hp ⊢
          have := HB3.out.size
          omega
        · simp only [above, decide_eq_true_eq] at hp
          have := HSZ3.out
          exact (HBA.out.block b (by omega)).trans ((HO4.out b (by omega) (by omega)).trans (HBW10.out.block b hb))
    · have hlt := HO10.out.lt g2 rfl
      have hz7 := HZ7.out
      have hz4 := HSZ4.out
      have hz11 := HZ11.out
      have hzf := HZF.out
      refine .inr ⟨g2, rfl, by simp [Nat.add_comm], by omega, by omega, (by show g2 < WF.heap.size; omega), fun j u hu => ?_⟩
      show WF.cell? _ = _
      rw [World.cell?_of_block (a := ⟨g2, j, none⟩) ((HBA.out.block g2 (by omega)).trans (HO4.out g2 (by omega) (by omega))), HO10.out.cellAt j (by have := (List.getElem?_eq_some_iff.1 hu).1; simp [Nat.add_comm] at this; omega)]
      exact hu
end Go.Proofs.YtkaoegdfgoojdaaGreatDoor
