/- The reference's Parse: the walks (seat 2). -/
import Derived.Test.YtkaoegdfgoojdaaGreatDoorChoice
namespace Go.Proofs.YtkaoegdfgoojdaaGreatDoor
open Go Go.RowKit
set_option maxRecDepth 100000

/-- All parts of the reading, by the fuel. -/
theorem read_all (S : ByteArray) (hS : S.size ≤ 1048576) : ∀ f, ChoiceC S f ∧ AtomC S f ∧ BranchC S f := by
  intro f
  induction f using Nat.strongRecOn with
  | _ f ih =>
    refine ⟨choice_any S hS f (fun g hg => (ih g hg).2.2), ?_, branch_any S hS f (fun g hg => (ih g hg).2.1)⟩
    cases f with
    | zero => intro r deep r' t h; simp [atomF] at h
    | succ f => exact ratom_any S hS f (ih f (Nat.lt_succ_self f)).1

def ReadPost (w : World) (t : RT) (e : Ending) (w' : World) : Prop :=
  ∃ cs, e = .returned (.tuple #[.agg cs.toArray, .slice none 0 0, .int .i64 0, .int .i64 0]) ∧ Below w.heap.size w w' ∧ Rd (mask (above w.heap.size) w') w'.heap.size t cs

set_option maxHeartbeats 4000000 in
theorem parse4_any (S : ByteArray) (hS : S.size ≤ 250) (f : Nat) (r' : PS) (t : RT) (h : choiceF S.data.toList f ⟨0, 0, []⟩ 0 = some (r', t)) (w : World) :
    Calls Tryz.prog 19 #[.string S, .bool true] w (ReadPost w t) := by
  have HC := Lib.hid (fun w => (read_all S (by omega) f).1 ⟨0, 0, []⟩ 0 r' t h w none 0 0 (.inl ⟨rfl, rfl, rfl, rfl⟩) (by omega) (by show 0 ≤ 1001; omega))
  have hs : ¬ (250 : Int) < (S.size : Int) := by omega
  have hb0 : Below w.heap.size w (w.alloc (.cells #[.int .i64 0, .int .u64 0, .int .u64 0, .int .u64 0, .int .u64 0, .slice none 0 0, .int .i64 0, .int .i64 0, .int .i64 0] 28)) := (Below.refl _ _).alloc (Nat.le_refl _) _
  have HB0 := Lib.hid hb0
  have HR0 := Lib.hid (heap_alloc_new w (.cells #[.int .i64 0, .int .u64 0, .int .u64 0, .int .u64 0, .int .u64 0, .slice none 0 0, .int .i64 0, .int .i64 0, .int .i64 0] 28))
  have HZ0 := Lib.hid (show (w.alloc (.cells #[.int .i64 0, .int .u64 0, .int .u64 0, .int .u64 0, .int .u64 0, .slice none 0 0, .int .i64 0, .int .i64 0, .int .i64 0] 28)).heap.size = w.heap.size + 1 from Array.size_push _)
  clear hb0 h
  go_enter Tryz.func19, Tryz.ntmps19
  go_wp2_with fail
  generalize w.alloc (.cells #[.int .i64 0, .int .u64 0, .int .u64 0, .int .u64 0, .int .u64 0, .slice none 0 0, .int .i64 0, .int .i64 0, .int .i64 0] 28) = W0 at *
  refine (HC.out W0).mono ?_
  rintro e W1 ⟨a, n, c, cs, rfl, hb1, hrd, _, _⟩
  obtain ⟨k, s0, s1, s2, s3, al, nl, cl, mn, mx, num, rfl⟩ := hrd.form
  have HB1 := Lib.hid (HB0.out.trans (hb1.mono HB0.out.size))
  have h1 := (hb1.block w.heap.size (by have := HZ0.out; omega)).trans HR0.out
  have HRD := Lib.hid hrd
  have HZ1 := Lib.hid hb1.size
  have hnw : w.heap.size < W1.heap.size := by have := HZ0.out; have := hb1.size; omega
  have q0 : W1.cell? ⟨w.heap.size, 0, none⟩ = some (.int .i64 0) := cell_of h1 (j := 0) rfl
  have q1 : W1.cell? ⟨w.heap.size, 1, none⟩ = some (.int .u64 0) := cell_of h1 (j := 1) rfl
  have q2 : W1.cell? ⟨w.heap.size, 2, none⟩ = some (.int .u64 0) := cell_of h1 (j := 2) rfl
  have q3 : W1.cell? ⟨w.heap.size, 3, none⟩ = some (.int .u64 0) := cell_of h1 (j := 3) rfl
  have q4 : W1.cell? ⟨w.heap.size, 4, none⟩ = some (.int .u64 0) := cell_of h1 (j := 4) rfl
  have q5 : W1.cell? ⟨w.heap.size, 5, none⟩ = some (.slice none 0 0) := cell_of h1 (j := 5) rfl
  have q6 : W1.cell? ⟨w.heap.size, 6, none⟩ = some (.int .i64 0) := cell_of h1 (j := 6) rfl
  have q7 : W1.cell? ⟨w.heap.size, 7, none⟩ = some (.int .i64 0) := cell_of h1 (j := 7) rfl
  have q8 : W1.cell? ⟨w.heap.size, 8, none⟩ = some (.int .i64 0) := cell_of h1 (j := 8) rfl
  have f0 := frozen_of_row W1 w.heap.size 0 _ _ h1
  have f1 := frozen_of_row W1 w.heap.size 1 _ _ h1
  have f2 := frozen_of_row W1 w.heap.size 2 _ _ h1
  have f3 := frozen_of_row W1 w.heap.size 3 _ _ h1
  have f4 := frozen_of_row W1 w.heap.size 4 _ _ h1
  have f5 := frozen_of_row W1 w.heap.size 5 _ _ h1
  have f6 := frozen_of_row W1 w.heap.size 6 _ _ h1
  have f7 := frozen_of_row W1 w.heap.size 7 _ _ h1
  have f8 := frozen_of_row W1 w.heap.size 8 _ _ h1
  have H1 := Lib.hid h1
  clear hb1 h1 hrd
  unfold rVal
  go_wp2_with fail
  go_region
  clear q0 q1 q2 q3 q4 q5 q6 q7 q8 f0 f1 f2 f3 f4 f5 f6 f7 f8
  obtain ⟨k5, o5, b5⟩ := put9 H1.out (.int .i64 k) (.int .u64 s0) (.int .u64 s1) (.int .u64 s2) (.int .u64 s3) (.slice al nl cl) (.int .i64 mn) (.int .i64 mx) (.int .i64 num)
  have HBF := Lib.hid (b5 _ _ HB1.out (Nat.le_refl _))
  have HO5 := Lib.hid o5
  have HZ9 := Lib.hid (show (((((((((W1.setCell ⟨w.heap.size, 0, none⟩ (.int .i64 k)).setCell ⟨w.heap.size, 1, none⟩ (.int .u64 s0)).setCell ⟨w.heap.size, 2, none⟩ (.int .u64 s1)).setCell ⟨w.heap.size, 3, none⟩ (.int .u64 s2)).setCell ⟨w.heap.size, 4, none⟩ (.int .u64 s3)).setCell ⟨w.heap.size, 5, none⟩ (.slice al nl cl)).setCell ⟨w.heap.size, 6, none⟩ (.int .i64 mn)).setCell ⟨w.heap.size, 7, none⟩ (.int .i64 mx)).setCell ⟨w.heap.size, 8, none⟩ (.int .i64 num)).heap.size = W1.heap.size by simp [World.setCell])
  have K5 := Lib.hid k5
  clear k5 o5 b5
  generalize (((((((((W1.setCell ⟨w.heap.size, 0, none⟩ (.int .i64 k)).setCell ⟨w.heap.size, 1, none⟩ (.int .u64 s0)).setCell ⟨w.heap.size, 2, none⟩ (.int .u64 s1)).setCell ⟨w.heap.size, 3, none⟩ (.int .u64 s2)).setCell ⟨w.heap.size, 4, none⟩ (.int .u64 s3)).setCell ⟨w.heap.size, 5, none⟩ (.slice al nl cl)).setCell ⟨w.heap.size, 6, none⟩ (.int .i64 mn)).setCell ⟨w.heap.size, 7, none⟩ (.int .i64 mx)).setCell ⟨w.heap.size, 8, none⟩ (.int .i64 num)) = W9 at *
  obtain ⟨b0, z0, _, _⟩ := alloc2 W9 (.cells #[.string S, .bool true, .int .i64 r'.at_, .int .i64 r'.opn, .slice a n c, .slice none 0 0, .int .i64 0, .int .i64 0] 105) (.cells #[.int .i64 k, .int .u64 s0, .int .u64 s1, .int .u64 s2, .int .u64 s3, .slice al nl cl, .int .i64 mn, .int .i64 mx, .int .i64 num] 28)
  have HB9 := Lib.hid b0
  have k5 := (b0.block w.heap.size (by have := HZ9.out; omega)).trans K5.out
  clear b0 z0
  generalize (W9.alloc (.cells #[.string S, .bool true, .int .i64 r'.at_, .int .i64 r'.opn, .slice a n c, .slice none 0 0, .int .i64 0, .int .i64 0] 105)).alloc (.cells #[.int .i64 k, .int .u64 s0, .int .u64 s1, .int .u64 s2, .int .u64 s3, .slice al nl cl, .int .i64 mn, .int .i64 mx, .int .i64 num] 28) = WF at *
  have q0 : WF.cell? ⟨w.heap.size, 0, none⟩ = some (.int .i64 k) := cell_of k5 (j := 0) rfl
  have q1 : WF.cell? ⟨w.heap.size, 1, none⟩ = some (.int .u64 s0) := cell_of k5 (j := 1) rfl
  have q2 : WF.cell? ⟨w.heap.size, 2, none⟩ = some (.int .u64 s1) := cell_of k5 (j := 2) rfl
  have q3 : WF.cell? ⟨w.heap.size, 3, none⟩ = some (.int .u64 s2) := cell_of k5 (j := 3) rfl
  have q4 : WF.cell? ⟨w.heap.size, 4, none⟩ = some (.int .u64 s3) := cell_of k5 (j := 4) rfl
  have q5 : WF.cell? ⟨w.heap.size, 5, none⟩ = some (.slice al nl cl) := cell_of k5 (j := 5) rfl
  have q6 : WF.cell? ⟨w.heap.size, 6, none⟩ = some (.int .i64 mn) := cell_of k5 (j := 6) rfl
  have q7 : WF.cell? ⟨w.heap.size, 7, none⟩ = some (.int .i64 mx) := cell_of k5 (j := 7) rfl
  have q8 : WF.cell? ⟨w.heap.size, 8, none⟩ = some (.int .i64 num) := cell_of k5 (j := 8) rfl
  clear k5
  go_wp2_with fail
  refine bodyPost_ret (v := .tuple #[.agg #[.int .i64 k, .int .u64 s0, .int .u64 s1, .int .u64 s2, .int .u64 s3, .slice al nl cl, .int .i64 mn, .int .i64 mx, .int .i64 num], .slice none 0 0, .int .i64 0, .int .i64 0]) (by simp [results, Tryz.results19, go_sem, q0, q1, q2, q3, q4, q5, q6, q7, q8]) rfl ⟨[.int .i64 k, .int .u64 s0, .int .u64 s1, .int .u64 s2, .int .u64 s3, .slice al nl cl, .int .i64 mn, .int .i64 mx, .int .i64 num], rfl, (HBF.out.trans (HB9.out.mono HBF.out.size)).drew, ?_⟩
  refine Rd.mono (show W1.heap.size ≤ WF.heap.size by have := HB9.out.size; have := HZ9.out; omega) _ _ (Rd.masked (w' := WF.drew) (fun b hb hp => ?_) HRD.out)
  simp only [above, decide_eq_true_eq] at hp ⊢
  exact ⟨by have := HZ0.out; omega, (HB9.out.block b (by have := HZ9.out; omega)).trans (HO5.out b (by have := HZ0.out; omega))⟩

set_option maxHeartbeats 4000000 in
theorem parse5_any (S : ByteArray) (hS : S.size ≤ 250) (f : Nat) (r' : PS) (t : RT) (h : choiceF S.data.toList f ⟨0, 0, []⟩ 0 = some (r', t)) (w : World) :
    Calls Tryz.prog 10 #[.string S] w (ReadPost w t) := by
  have HC := Lib.hid (fun w => parse4_any S hS f r' t h w)
  have hb0 : Below w.heap.size w (w.alloc (.cells #[.int .i64 0, .int .u64 0, .int .u64 0, .int .u64 0, .int .u64 0, .slice none 0 0, .int .i64 0, .int .i64 0, .int .i64 0] 28)) := (Below.refl _ _).alloc (Nat.le_refl _) _
  have HB0 := Lib.hid hb0
  have HR0 := Lib.hid (heap_alloc_new w (.cells #[.int .i64 0, .int .u64 0, .int .u64 0, .int .u64 0, .int .u64 0, .slice none 0 0, .int .i64 0, .int .i64 0, .int .i64 0] 28))
  have HZ0 := Lib.hid (show (w.alloc (.cells #[.int .i64 0, .int .u64 0, .int .u64 0, .int .u64 0, .int .u64 0, .slice none 0 0, .int .i64 0, .int .i64 0, .int .i64 0] 28)).heap.size = w.heap.size + 1 from Array.size_push _)
  clear hb0 h
  go_enter Tryz.func10, Tryz.ntmps10
  go_wp2_with fail
  generalize w.alloc (.cells #[.int .i64 0, .int .u64 0, .int .u64 0, .int .u64 0, .int .u64 0, .slice none 0 0, .int .i64 0, .int .i64 0, .int .i64 0] 28) = W0 at *
  refine (HC.out W0).mono ?_
  rintro e W1 ⟨cs, rfl, hb1, hrd⟩
  obtain ⟨k, s0, s1, s2, s3, al, nl, cl, mn, mx, num, rfl⟩ := hrd.form
  have HB1 := Lib.hid (HB0.out.trans (hb1.mono HB0.out.size))
  have h1 := (hb1.block w.heap.size (by have := HZ0.out; omega)).trans HR0.out
  have H1 := Lib.hid h1
  have HRD := Lib.hid hrd
  have q0 : W1.cell? ⟨w.heap.size, 0, none⟩ = some (.int .i64 0) := cell_of h1 (j := 0) rfl
  have q1 : W1.cell? ⟨w.heap.size, 1, none⟩ = some (.int .u64 0) := cell_of h1 (j := 1) rfl
  have q2 : W1.cell? ⟨w.heap.size, 2, none⟩ = some (.int .u64 0) := cell_of h1 (j := 2) rfl
  have q3 : W1.cell? ⟨w.heap.size, 3, none⟩ = some (.int .u64 0) := cell_of h1 (j := 3) rfl
  have q4 : W1.cell? ⟨w.heap.size, 4, none⟩ = some (.int .u64 0) := cell_of h1 (j := 4) rfl
  have q5 : W1.cell? ⟨w.heap.size, 5, none⟩ = some (.slice none 0 0) := cell_of h1 (j := 5) rfl
  have q6 : W1.cell? ⟨w.heap.size, 6, none⟩ = some (.int .i64 0) := cell_of h1 (j := 6) rfl
  have q7 : W1.cell? ⟨w.heap.size, 7, none⟩ = some (.int .i64 0) := cell_of h1 (j := 7) rfl
  have q8 : W1.cell? ⟨w.heap.size, 8, none⟩ = some (.int .i64 0) := cell_of h1 (j := 8) rfl
  have f0 := frozen_of_row W1 (w.heap.size) 0 _ _ h1
  have f1 := frozen_of_row W1 (w.heap.size) 1 _ _ h1
  have f2 := frozen_of_row W1 (w.heap.size) 2 _ _ h1
  have f3 := frozen_of_row W1 (w.heap.size) 3 _ _ h1
  have f4 := frozen_of_row W1 (w.heap.size) 4 _ _ h1
  have f5 := frozen_of_row W1 (w.heap.size) 5 _ _ h1
  have f6 := frozen_of_row W1 (w.heap.size) 6 _ _ h1
  have f7 := frozen_of_row W1 (w.heap.size) 7 _ _ h1
  have f8 := frozen_of_row W1 (w.heap.size) 8 _ _ h1
  clear hb1 h1 hrd
  go_wp2_with fail
  clear q0 q1 q2 q3 q4 q5 q6 q7 q8 f0 f1 f2 f3 f4 f5 f6 f7 f8
  obtain ⟨k5, o5, b5⟩ := put9 H1.out (.int .i64 k) (.int .u64 s0) (.int .u64 s1) (.int .u64 s2) (.int .u64 s3) (.slice al nl cl) (.int .i64 mn) (.int .i64 mx) (.int .i64 num)
  have HBF := Lib.hid (b5 _ _ HB1.out (Nat.le_refl _))
  have HO5 := Lib.hid o5
  have HZ9 := Lib.hid (show (((((((((W1.setCell ⟨w.heap.size, 0, none⟩ (.int .i64 k)).setCell ⟨w.heap.size, 1, none⟩ (.int .u64 s0)).setCell ⟨w.heap.size, 2, none⟩ (.int .u64 s1)).setCell ⟨w.heap.size, 3, none⟩ (.int .u64 s2)).setCell ⟨w.heap.size, 4, none⟩ (.int .u64 s3)).setCell ⟨w.heap.size, 5, none⟩ (.slice al nl cl)).setCell ⟨w.heap.size, 6, none⟩ (.int .i64 mn)).setCell ⟨w.heap.size, 7, none⟩ (.int .i64 mx)).setCell ⟨w.heap.size, 8, none⟩ (.int .i64 num)).heap.size = W1.heap.size by simp [World.setCell])
  generalize (((((((((W1.setCell ⟨w.heap.size, 0, none⟩ (.int .i64 k)).setCell ⟨w.heap.size, 1, none⟩ (.int .u64 s0)).setCell ⟨w.heap.size, 2, none⟩ (.int .u64 s1)).setCell ⟨w.heap.size, 3, none⟩ (.int .u64 s2)).setCell ⟨w.heap.size, 4, none⟩ (.int .u64 s3)).setCell ⟨w.heap.size, 5, none⟩ (.slice al nl cl)).setCell ⟨w.heap.size, 6, none⟩ (.int .i64 mn)).setCell ⟨w.heap.size, 7, none⟩ (.int .i64 mx)).setCell ⟨w.heap.size, 8, none⟩ (.int .i64 num)) = W9 at *
  have q0 : W9.cell? ⟨w.heap.size, 0, none⟩ = some (.int .i64 k) := cell_of k5 (j := 0) rfl
  have q1 : W9.cell? ⟨w.heap.size, 1, none⟩ = some (.int .u64 s0) := cell_of k5 (j := 1) rfl
  have q2 : W9.cell? ⟨w.heap.size, 2, none⟩ = some (.int .u64 s1) := cell_of k5 (j := 2) rfl
  have q3 : W9.cell? ⟨w.heap.size, 3, none⟩ = some (.int .u64 s2) := cell_of k5 (j := 3) rfl
  have q4 : W9.cell? ⟨w.heap.size, 4, none⟩ = some (.int .u64 s3) := cell_of k5 (j := 4) rfl
  have q5 : W9.cell? ⟨w.heap.size, 5, none⟩ = some (.slice al nl cl) := cell_of k5 (j := 5) rfl
  have q6 : W9.cell? ⟨w.heap.size, 6, none⟩ = some (.int .i64 mn) := cell_of k5 (j := 6) rfl
  have q7 : W9.cell? ⟨w.heap.size, 7, none⟩ = some (.int .i64 mx) := cell_of k5 (j := 7) rfl
  have q8 : W9.cell? ⟨w.heap.size, 8, none⟩ = some (.int .i64 num) := cell_of k5 (j := 8) rfl
  clear k5 o5 b5
  refine bodyPost_ret (v := .tuple #[.agg #[.int .i64 k, .int .u64 s0, .int .u64 s1, .int .u64 s2, .int .u64 s3, .slice al nl cl, .int .i64 mn, .int .i64 mx, .int .i64 num], .slice none 0 0, .int .i64 0, .int .i64 0]) (by simp [results, Tryz.results10, go_sem, q0, q1, q2, q3, q4, q5, q6, q7, q8]) rfl ⟨[.int .i64 k, .int .u64 s0, .int .u64 s1, .int .u64 s2, .int .u64 s3, .slice al nl cl, .int .i64 mn, .int .i64 mx, .int .i64 num], rfl, HBF.out, ?_⟩
  refine Rd.mono (show W1.heap.size ≤ W9.heap.size by have := HZ9.out; omega) _ _ (Rd.masked (w' := W9) (fun b hb hp => ?_) HRD.out)
  simp only [above, decide_eq_true_eq] at hp ⊢
  exact ⟨by have := HZ0.out; omega, HO5.out b (by have := HZ0.out; omega)⟩
end Go.Proofs.YtkaoegdfgoojdaaGreatDoor
