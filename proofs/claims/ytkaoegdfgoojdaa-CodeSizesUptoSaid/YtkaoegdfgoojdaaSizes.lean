/- CodeSizes: the walk. -/
import Derived.Test.YtkaoegdfgoojdaaIns
import Derived.Deep.DeepCutAuto
namespace Go.Proofs.Ytkaoegdfgoojdaa
open Go Go.RowKit Go.Maps

set_option maxRecDepth 100000 in
set_option maxHeartbeats 1600000 in
theorem codeSizes_any (t : RT) (hbig : rsize t ≤ 1048576) (w : World) (N : Nat) (cs : List Value) (hN : N ≤ w.heap.size) (h : Rd w N t cs) :
    Calls Try.prog 5 #[.agg cs.toArray] w (Says w (.bool true)) := by
  have H := Lib.hid h
  match t, h with
  | .mk k s0 s1 s2 s3 ps mn mx num, ⟨a, c, e, hl, hor⟩ =>
    subst e
    clear hor
    obtain ⟨t, ht⟩ : ∃ t, t = RT.mk k s0 s1 s2 s3 ps mn mx num := ⟨_, rfl⟩
    rw [← ht] at hbig H
    clear ht h
    have HB0 := Lib.hid (show Below w.heap.size w (w.alloc (.cells #[.int .i64 k, .int .u64 s0, .int .u64 s1, .int .u64 s2, .int .u64 s3, .slice a ps.length c, .int .i64 mn, .int .i64 mx, .int .i64 num] 27)) from (Below.refl _ _).alloc (Nat.le_refl _) _)
    have HZ0 := Lib.hid (show (w.alloc (.cells #[.int .i64 k, .int .u64 s0, .int .u64 s1, .int .u64 s2, .int .u64 s3, .slice a ps.length c, .int .i64 mn, .int .i64 mx, .int .i64 num] 27)).heap.size = w.heap.size + 1 from Array.size_push _)
    have HR0 := Lib.hid (heap_alloc_new w (.cells #[.int .i64 k, .int .u64 s0, .int .u64 s1, .int .u64 s2, .int .u64 s3, .slice a ps.length c, .int .i64 mn, .int .i64 mx, .int .i64 num] 27))
    go_enter Try.func5, Try.ntmps5
    go_wp2_with fail
    generalize w.alloc (.cells #[.int .i64 k, .int .u64 s0, .int .u64 s1, .int .u64 s2, .int .u64 s3, .slice a ps.length c, .int .i64 mn, .int .i64 mx, .int .i64 num] 27) = W0 at *
    refine (awake_any W0).mono ?_
    rintro e w1 ⟨rfl, hb1⟩
    have HB1 := Lib.hid (HB0.out.trans (hb1.mono HB0.out.size))
    have q : w1.heap[w.heap.size]? = _ := (hb1.block w.heap.size (by have := HZ0.out; omega)).trans HR0.out
    have HZ1 := Lib.hid (Nat.lt_of_lt_of_le (show w.heap.size < W0.heap.size by have := HZ0.out; omega) hb1.size)
    have q0 := cell_of q (j := 0) rfl
    have q1 := cell_of q (j := 1) rfl
    have q2 := cell_of q (j := 2) rfl
    have q3 := cell_of q (j := 3) rfl
    have q4 := cell_of q (j := 4) rfl
    have q5 := cell_of q (j := 5) rfl
    have q6 := cell_of q (j := 6) rfl
    have q7 := cell_of q (j := 7) rfl
    have q8 := cell_of q (j := 8) rfl
    have HQ := Lib.hid q
    clear q hb1 HZ0 HR0 HB0
    go_wp2_with fail
    refine (few_any t hbig w1 N _ (Nat.le_trans hN HB1.out.size) (Rd.below (HB1.out.mono hN) t _ H.out)).mono ?_
    rintro e w2 ⟨rfl, hb2⟩
    have HB2 := Lib.hid (HB1.out.trans (hb2.mono HB1.out.size))
    have q : w2.heap[w.heap.size]? = _ := (hb2.block w.heap.size HZ1.out).trans HQ.out
    have HZ2 := Lib.hid (Nat.lt_of_lt_of_le HZ1.out hb2.size)
    clear q0 q1 q2 q3 q4 q5 q6 q7 q8 HQ hb2 HZ1 HB1
    have q0 := cell_of q (j := 0) rfl
    have q1 := cell_of q (j := 1) rfl
    have q2 := cell_of q (j := 2) rfl
    have q3 := cell_of q (j := 3) rfl
    have q4 := cell_of q (j := 4) rfl
    have q5 := cell_of q (j := 5) rfl
    have q6 := cell_of q (j := 6) rfl
    have q7 := cell_of q (j := 7) rfl
    have q8 := cell_of q (j := 8) rfl
    have HQ := Lib.hid q
    clear q
    cases hfew : (decide (rsize t ≤ 100) && knownR t) with
    | false =>
      clear hfew
      go_wp2_with fail
      refine (awake_any w2).mono ?_
      rintro e w3 ⟨rfl, hb3⟩
      have HB3 := Lib.hid (HB2.out.trans (hb3.mono HB2.out.size))
      clear hb3
      go_wp2_with fail
      go_ret
      exact ⟨rfl, HB3.out⟩
    | true =>
      simp only [Bool.and_eq_true, decide_eq_true_eq] at hfew
      have HFW := Lib.hid hfew
      have HSZ := Lib.hid (show sizeT (realT t) ≤ 200 by have := realT_size t; omega)
      clear hfew
      go_wp2_with fail
      refine (Rright_any t HFW.out.1 HFW.out.2 w2 N _ (Nat.le_trans hN HB2.out.size) (Rd.below (HB2.out.mono hN) t _ H.out)).mono ?_
      rintro e w3 ⟨rfl, hb3⟩
      have HB3 := Lib.hid (HB2.out.trans (hb3.mono HB2.out.size))
      have q : w3.heap[w.heap.size]? = _ := (hb3.block w.heap.size HZ2.out).trans HQ.out
      have HZ3 := Lib.hid (Nat.lt_of_lt_of_le HZ2.out hb3.size)
      clear q0 q1 q2 q3 q4 q5 q6 q7 q8 HQ hb3 HZ2 HB2
      have q0 := cell_of q (j := 0) rfl
      have q1 := cell_of q (j := 1) rfl
      have q2 := cell_of q (j := 2) rfl
      have q3 := cell_of q (j := 3) rfl
      have q4 := cell_of q (j := 4) rfl
      have q5 := cell_of q (j := 5) rfl
      have q6 := cell_of q (j := 6) rfl
      have q7 := cell_of q (j := 7) rfl
      have q8 := cell_of q (j := 8) rfl
      have HQ := Lib.hid q
      clear q
      cases hrb : rightB (realT t) with
      | false =>
        clear hrb
        go_wp2_with fail
        refine (awake_any w3).mono ?_
        rintro e w4 ⟨rfl, hb4⟩
        have HB4 := Lib.hid (HB3.out.trans (hb4.mono HB3.out.size))
        clear hb4
        go_wp2_with fail
        go_ret
        exact ⟨rfl, HB4.out⟩
      | true =>
        have HRB := Lib.hid hrb
        clear hrb
        go_wp2_with fail
        refine (ins_any (mu t) t (Nat.le_refl _) HFW.out.1 HFW.out.2 w3 N _ (Nat.le_trans hN HB3.out.size) (Rd.below (HB3.out.mono hN) t _ H.out)).mono ?_
        rintro e w4 ⟨hb4, rfl⟩
        have HB4 := Lib.hid (HB3.out.trans (hb4.mono HB3.out.size))
        have q : w4.heap[w.heap.size]? = _ := (hb4.block w.heap.size HZ3.out).trans HQ.out
        have HZ4 := Lib.hid (Nat.lt_of_lt_of_le HZ3.out hb4.size)
        clear q0 q1 q2 q3 q4 q5 q6 q7 q8 HQ hb4 HZ3 HB3
        have q0 := cell_of q (j := 0) rfl
        have q1 := cell_of q (j := 1) rfl
        have q2 := cell_of q (j := 2) rfl
        have q3 := cell_of q (j := 3) rfl
        have q4 := cell_of q (j := 4) rfl
        have q5 := cell_of q (j := 5) rfl
        have q6 := cell_of q (j := 6) rfl
        have q7 := cell_of q (j := 7) rfl
        have q8 := cell_of q (j := 8) rfl
        clear q
        cases hic : icT (realT t) with
        | none =>
          clear hic
          simp only [Option.getD_none, Option.isSome_none]
          go_wp2_with fail
          go_ret
          exact ⟨rfl, HB4.out⟩
        | some m =>
          have hmb := icT_bound _ _ hic
          have hsz := HSZ.out
          have hm1 : m ≤ 800 := by omega
          have hm2 : -400 ≤ m := by omega
          have HLAW := Lib.hid (sizes_law (realT t) m HRB.out HSZ.out hic)
          clear hmb hsz hic
          simp only [Option.getD_some, Option.isSome_some]
          go_wp2_with fail
          refine (real_any (mu t) t (Nat.le_refl _) hbig w4 N _ (Nat.le_trans hN HB4.out.size) (Rd.below (HB4.out.mono hN) t _ H.out)).mono ?_
          rintro e w5 ⟨v, rfl, hb5, hnd⟩
          have HND := Lib.hid (Nd.unmask hnd)
          obtain ⟨T, z, rfl⟩ := HND.out.form
          have HB5 := Lib.hid (HB4.out.trans (hb5.mono HB4.out.size))
          clear q0 q1 q2 q3 q4 q5 q6 q7 q8 hb5 HB4 hnd
          go_wp2_with fail
          refine (Compile_any w5 w5.heap.size (Nat.le_refl _) (realT t) _ HND.out (by have := HSZ.out; omega)).mono ?_
          rintro e w6 ⟨hb6, hc⟩
          have HB6 := Lib.hid (HB5.out.trans (hb6.mono HB5.out.size))
          clear hb6 HB5 HND
          obtain ⟨l1, l2, l3⟩ := HLAW.out
          rw [HRB.out, if_pos rfl, l1] at hc
          simp only [Bool.false_eq_true, if_false] at hc
          obtain ⟨x, rfl, ho, hlen⟩ := hc
          have hpos := final_pos (realT t) l1
          rw [l3]
          clear l1 l3 HLAW
          generalize finalB (realT t) = S at *
          obtain ⟨g, cap, rfl, hg, hlt⟩ := ho.form hpos
          obtain ⟨L, hL⟩ : ∃ L, S.insts.length = L := ⟨_, rfl⟩
          rw [hL] at l2 hlen ⊢
          have hmm : ((L : Int) == m + 3) = true := by simp [l2]
          clear ho hL hg hlt hpos
          go_wp2_with fail
          go_ret
          exact ⟨rfl, HB6.out.alloc HB6.out.size _⟩
end Go.Proofs.Ytkaoegdfgoojdaa
