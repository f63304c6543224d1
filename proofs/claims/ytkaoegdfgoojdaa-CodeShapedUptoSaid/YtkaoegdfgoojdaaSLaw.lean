/- CodeShaped: the walk. -/
import Derived.Test.YtkaoegdfgoojdaaSLawP
import Derived.Deep.RegionHeld3
import Derived.Deep.DeepCutAuto
namespace Go.Proofs.Ytkaoegdfgoojdaa
open Go Go.RowKit Go.Maps

set_option maxRecDepth 100000 in
set_option maxHeartbeats 1600000 in
theorem codeShaped_any (t : RT) (hbig : rsize t ≤ 1048576) (w : World) (N : Nat) (cs : List Value) (hN : N ≤ w.heap.size) (h : Rd w N t cs) :
    Calls Try.prog 3 #[.agg cs.toArray] w (Says w (.bool true)) := by
  have H := Lib.hid h
  match t, h with
  | .mk k s0 s1 s2 s3 ps mn mx num, ⟨a, c, e, hl, hor⟩ =>
    subst e
    clear hor
    obtain ⟨t, ht⟩ : ∃ t, t = RT.mk k s0 s1 s2 s3 ps mn mx num := ⟨_, rfl⟩
    rw [← ht] at hbig H
    clear ht h
    have hmm := @run_makeMap Try.prog
    have HB0 := Lib.hid (show Below w.heap.size w (w.alloc (.cells #[.int .i64 k, .int .u64 s0, .int .u64 s1, .int .u64 s2, .int .u64 s3, .slice a ps.length c, .int .i64 mn, .int .i64 mx, .int .i64 num] 27)) from (Below.refl _ _).alloc (Nat.le_refl _) _)
    have HZ0 := Lib.hid (show (w.alloc (.cells #[.int .i64 k, .int .u64 s0, .int .u64 s1, .int .u64 s2, .int .u64 s3, .slice a ps.length c, .int .i64 mn, .int .i64 mx, .int .i64 num] 27)).heap.size = w.heap.size + 1 from Array.size_push _)
    have HR0 := Lib.hid (heap_alloc_new w (.cells #[.int .i64 k, .int .u64 s0, .int .u64 s1, .int .u64 s2, .int .u64 s3, .slice a ps.length c, .int .i64 mn, .int .i64 mx, .int .i64 num] 27))
    go_enter Try.func3, Try.ntmps3
    go_wp2_with fail
    generalize w.alloc (.cells #[.int .i64 k, .int .u64 s0, .int .u64 s1, .int .u64 s2, .int .u64 s3, .slice a ps.length c, .int .i64 mn, .int .i64 mx, .int .i64 num] 27) = W0 at *
    refine (awake_any W0).mono ?_
    rintro e w1 ⟨rfl, hb1⟩
    have HB1 := Lib.hid (HB0.out.trans (hb1.mono HB0.out.size))
    have q : w1.heap[w.heap.size]? = _ := (hb1.block w.heap.size (by have := HZ0.out; omega)).trans HR0.out
    have HZ1 := Lib.hid (Nat.lt_of_lt_of_le (show w.heap.size < W0.heap.size by have := HZ0.out; omega) hb1.size)
    have q0 := cell_of q (j := 0) rfl
    have q1 := cell_of q (j := 1) rfl
    have q2 := cell_of q (j := 2) rfl
    have q3 := cell_of q (j := 3) rfl
    have q4 := cell_of q (j := 4) rfl
    have q5 := cell_of q (j := 5) rfl
    have q6 := cell_of q (j := 6) rfl
    have q7 := cell_of q (j := 7) rfl
    have q8 := cell_of q (j := 8) rfl
    have HQ := Lib.hid q
    clear q hb1 HZ0 HR0 HB0
    go_wp2_with fail
    refine (few_any t hbig w1 N _ (Nat.le_trans hN HB1.out.size) (Rd.below (HB1.out.mono hN) t _ H.out)).mono ?_
    rintro e w2 ⟨rfl, hb2⟩
    have HB2 := Lib.hid (HB1.out.trans (hb2.mono HB1.out.size))
    have q : w2.heap[w.heap.size]? = _ := (hb2.block w.heap.size HZ1.out).trans HQ.out
    have HZ2 := Lib.hid (Nat.lt_of_lt_of_le HZ1.out hb2.size)
    clear q0 q1 q2 q3 q4 q5 q6 q7 q8 HQ hb2 HZ1 HB1
    have q0 := cell_of q (j := 0) rfl
    have q1 := cell_of q (j := 1) rfl
    have q2 := cell_of q (j := 2) rfl
    have q3 := cell_of q (j := 3) rfl
    have q4 := cell_of q (j := 4) rfl
    have q5 := cell_of q (j := 5) rfl
    have q6 := cell_of q (j := 6) rfl
    have q7 := cell_of q (j := 7) rfl
    have q8 := cell_of q (j := 8) rfl
    have HQ := Lib.hid q
    clear q
    cases hfew : (decide (rsize t ≤ 100) && knownR t) with
    | false =>
      clear hfew
      go_wp2_with fail
      refine (awake_any w2).mono ?_
      rintro e w3 ⟨rfl, hb3⟩
      have HB3 := Lib.hid (HB2.out.trans (hb3.mono HB2.out.size))
      clear hb3
      go_wp2_with fail
      go_ret
      exact ⟨rfl, HB3.out⟩
    | true =>
      have hsz : rsize t ≤ 100 := by simp only [Bool.and_eq_true, decide_eq_true_eq] at hfew; exact hfew.1
      have HSZ := Lib.hid (show sizeT (realT t) ≤ 200 by have := realT_size t; omega)
      clear hfew hsz
      go_wp2_with fail
      refine (real_any (mu t) t (Nat.le_refl _) hbig w2 N _ (Nat.le_trans hN HB2.out.size) (Rd.below (HB2.out.mono hN) t _ H.out)).mono ?_
      rintro e w3 ⟨v, rfl, hb3, hnd⟩
      have HND := Lib.hid (Nd.unmask hnd)
      obtain ⟨T, z, rfl⟩ := HND.out.form
      have HB3 := Lib.hid (HB2.out.trans (hb3.mono HB2.out.size))
      have q : w3.heap[w.heap.size]? = _ := (hb3.block w.heap.size HZ2.out).trans HQ.out
      have HZ3 := Lib.hid (Nat.lt_of_lt_of_le HZ2.out hb3.size)
      clear q0 q1 q2 q3 q4 q5 q6 q7 q8 HQ hb3 HZ2 HB2 hnd
      have HQ := Lib.hid q
      clear q
      go_wp2_with fail
      refine (Compile_any w3 w3.heap.size (Nat.le_refl _) (realT t) _ HND.out (by have := HSZ.out; omega)).mono ?_
      rintro e w4 ⟨hb4, hc⟩
      have HB4 := Lib.hid (HB3.out.trans (hb4.mono HB3.out.size))
      have q : w4.heap[w.heap.size]? = _ := (hb4.block w.heap.size HZ3.out).trans HQ.out
      have HZ4 := Lib.hid (Nat.lt_of_lt_of_le HZ3.out hb4.size)
      have HZ34 := Lib.hid hb4.size
      clear HQ hb4 HZ3 HND
      have HQ := Lib.hid q
      clear q
      cases hrb : rightB (realT t) with
      | false =>
        rw [hrb] at hc
        simp only [Bool.false_eq_true, if_false] at hc
        obtain rfl := hc
        clear hrb
        go_wp2_with fail
        go_ret
        exact ⟨rfl, HB4.out.alloc HB4.out.size _⟩
      | true =>
        rw [hrb, if_pos rfl] at hc
        cases hfu : (finalB (realT t)).full with
        | true =>
          rw [hfu, if_pos rfl] at hc
          obtain rfl := hc
          clear hrb hfu
          go_wp2_with fail
          go_ret
          exact ⟨rfl, HB4.out.alloc HB4.out.size _⟩
        | false =>
          rw [hfu] at hc
          simp only [Bool.false_eq_true, if_false] at hc
          obtain ⟨x, rfl, ho, hlen⟩ := hc
          have hlaw := final_law (realT t) hrb (by have := HSZ.out; omega) hfu
          have hpos := final_pos (realT t) hfu
          have hgn := Nat.le_trans (groupsN_size (realT t)) HSZ.out
          clear hrb hfu
          generalize finalB (realT t) = S at *
          obtain ⟨L, G, E, B, F⟩ := S
          simp only at hlaw hpos hlen ho
          obtain ⟨hfine, rfl, rfl, rfl⟩ := hlaw
          have HF := Lib.hid hfine
          clear hfine
          obtain ⟨g, cap, rfl, hg, hlt⟩ := ho.form hpos
          have HO := Lib.hid ho
          clear ho
          obtain ⟨G, hG⟩ : ∃ G, groupsN (realT t) = G := ⟨_, rfl⟩
          obtain ⟨B, hB⟩ : ∃ B, backsT (realT t) = B := ⟨_, rfl⟩
          rw [hG] at hgn HF
          rw [hB] at HF
          rw [hG, hB]
          have HG := Lib.hid hG
          clear hG hB
          -- the program's own block
          have HP := Lib.hid (heap_alloc_new w4 (.cells #[.slice (some ⟨g, 0, none⟩) L.length cap, .int .i64 (G : Nat), .int .i64 (enters L : Nat), .bool B] 32))
          have HB5 := Lib.hid (show Below w4.heap.size w4 (w4.alloc (.cells #[.slice (some ⟨g, 0, none⟩) L.length cap, .int .i64 (G : Nat), .int .i64 (enters L : Nat), .bool B] 32)) from (Below.refl _ _).alloc (Nat.le_refl _) _)
          have HZ5 := Lib.hid (show (w4.alloc (.cells #[.slice (some ⟨g, 0, none⟩) L.length cap, .int .i64 (G : Nat), .int .i64 (enters L : Nat), .bool B] 32)).heap.size = w4.heap.size + 1 from Array.size_push _)
          go_wp2_with fail
          generalize w4.alloc (.cells #[.slice (some ⟨g, 0, none⟩) L.length cap, .int .i64 (G : Nat), .int .i64 (enters L : Nat), .bool B] 32) = W5 at *
          -- what is in W5, behind w4
          have p0 : W5.cell? ⟨w4.heap.size, 0, none⟩ = some (.slice (some ⟨g, 0, none⟩) L.length cap) := cell_of HP.out (j := 0) rfl
          have p1 : W5.cell? ⟨w4.heap.size, 1, none⟩ = some (.int .i64 (G : Nat)) := cell_of HP.out (j := 1) rfl
          have p2 : W5.cell? ⟨w4.heap.size, 2, none⟩ = some (.int .i64 (enters L : Nat)) := cell_of HP.out (j := 2) rfl
          have p3 : W5.cell? ⟨w4.heap.size, 3, none⟩ = some (.bool B) := cell_of HP.out (j := 3) rfl
          have HP0 := Lib.hid p0
          have HP1 := Lib.hid p1
          have HP2 := Lib.hid p2
          have HP3 := Lib.hid p3
          have HSV := Lib.hid (fun (k : Nat) (hk : k < L.length) => (seven HO.out k hk).below HB5.out hlt)
          have HQ5 := Lib.hid ((HB5.out.block w.heap.size HZ4.out).trans HQ.out)
          have HB := Lib.hid (HB4.out.trans (HB5.out.mono HB4.out.size))
          have hz := HZ5.out
          have hz4 := HZ4.out
          have hgW : g < w4.heap.size + 1 := by omega
          have hpW : w4.heap.size < w4.heap.size + 1 := by omega
          have hbW : w.heap.size < w4.heap.size + 1 := by omega
          clear p0 p1 p2 p3 HO HP HB5 HQ HB4 HZ4 HB3 HZ34 hz hz4 hg hlt
          generalize w4.heap.size = P4 at *
          go_loopw [33] (fun i wr => ShRel W5 (P4 + 1) L i wr) (fun i _ => L.length - (intOf i).toNat)
          case atStart => exact ShRel.start _ _ _ HZ5.out
          case round =>
            obtain ⟨j, hj, rfl, hown, hnx⟩ := hrel
            have r0 := (hnx.cell (p := ⟨P4, 0, none⟩) hpW).trans HP0.out
            have r1 := (hnx.cell (p := ⟨P4, 1, none⟩) hpW).trans HP1.out
            have r2 := (hnx.cell (p := ⟨P4, 2, none⟩) hpW).trans HP2.out
            have r3 := (hnx.cell (p := ⟨P4, 3, none⟩) hpW).trans HP3.out
            have HNX := Lib.hid hnx
            have hzr : P4 + 1 < wr.heap.size := hown.lt
            have hz1 : P4 < wr.heap.size := by omega
            have hz2 : w.heap.size < wr.heap.size := by omega
            have HOW := Lib.hid hown
            clear hnx
            by_cases hlt : j < L.length
            · obtain ⟨i, hi⟩ : ∃ i, L[j] = i := ⟨_, rfl⟩
              have HFI := Lib.hid (HF.out j hlt)
              have HS7 := Lib.hid ((HSV.out j hlt).below HNX.out hgW)
              have HE := Lib.hid (enters_take L j hlt)
              rw [hi] at HFI HS7 HE
              clear hi
              have hej := enters_le (L.take j)
              rw [List.length_take] at hej
              obtain ⟨e, he⟩ : ∃ e, enters (L.take j) = e := ⟨_, rfl⟩
              rw [he] at HFI HE HOW hown hej
              clear he
              have hE := enters_le L
              have HWF := Lib.hid (show (Lit.int .i64 (e : Int)).wf = true from WalkArith.wf_i64 (by omega))
              obtain ⟨op, t0, t1, t2, t3, X, Y⟩ := i
              obtain ⟨f9, f1, f2, f3, f4, f7, f8⟩ := HFI.out
              obtain ⟨c0, c1, c2, c3, c4, c5, c6⟩ := HS7.out
              simp only at f9 f1 f2 f3 f4 f7 f8 c0 c1 c2 c3 c4 c5 c6
              clear HFI HS7
              have hrel2 : ∀ (o : Obj), isE ⟨op, t0, t1, t2, t3, X, Y⟩ = 0 → ShRel W5 (P4 + 1) L (.int .i64 ((j + 1 : Nat) : Int)) (wr.alloc o) := fun o hz => by
                have h := HE.out
                rw [hz, Nat.add_zero] at h
                exact ⟨j + 1, by omega, rfl, by rw [h]; exact HOW.out.alloc o, HNX.out.alloc (Nat.le_of_lt hzr) o⟩
              have HREL := Lib.hid hrel2
              clear hrel2
              by_cases hlast : j + 1 = L.length
              · have := f9.2 hlast
                subst this
                have el : ((j : Int) == (L.length : Int) - 1) = true := by simp; omega
                clear f9 f1 f2 f3 f4 f7 f8
                go_wp2_with fail
                go_roundw
                case rel => exact HREL.out _ rfl
                case measure => simp [intOf]; omega
              have el : ((j : Int) == (L.length : Int) - 1) = false := by simp; omega
              have e9 : (op == 9) = false := by simp; intro h; exact hlast (f9.1 h)
              clear f9
              by_cases k1 : op = 1
              · subst k1
                obtain ⟨rfl, hy1, hy2⟩ := f1 rfl
                have hy3 : ¬ Y ≤ (j : Int) := by omega
                have hy4 : ¬ (L.length : Int) ≤ Y := by omega
                clear f1 f2 f3 f4 f7 f8 e9
                go_wp2_with fail
                go_roundw
                case rel => exact HREL.out _ rfl
                case measure => simp [intOf]; omega
              by_cases k2 : op = 2
              · subst k2
                obtain ⟨hx1, hx2, hx3⟩ := f2 rfl
                have hy1 : ¬ X < 0 := by omega
                have hy2 : ¬ (L.length : Int) ≤ X := by omega
                have hy3 : (X == (j : Int)) = false := by simp; exact hx3
                clear f1 f2 f3 f4 f7 f8 e9 k1
                go_wp2_with fail
                go_roundw
                case rel => exact HREL.out _ rfl
                case measure => simp [intOf]; omega
              by_cases k3 : op = 3
              · subst k3
                obtain ⟨hx1, hx2⟩ := f3 rfl
                have hy1 : ¬ X < 0 := by omega
                have hy2 : ¬ 2 * (G : Int) + 1 < X := by omega
                clear f1 f2 f3 f4 f7 f8 e9 k1 k2
                go_wp2_with fail
                go_roundw
                case rel => exact HREL.out _ rfl
                case measure => simp [intOf]; omega
              by_cases k4 : op = 4
              · subst k4
                obtain ⟨hx1, hx2, rfl⟩ := f4 rfl
                have hy1 : ¬ X < 1 := by omega
                have hy2 : ¬ (G : Int) < X := by omega
                clear f1 f2 f3 f4 f7 f8 e9 k1 k2 k3
                go_wp2_with fail
                go_roundw
                case rel => exact HREL.out _ rfl
                case measure => simp [intOf]; omega
              by_cases k7 : op = 7
              · subst k7
                obtain rfl := f7 rfl
                clear f1 f2 f3 f4 f7 f8 e9 k1 k2 k3 k4
                go_wp2_with (first
                  | (at_lookup; refine wpList_lookup_own_int _ rfl _ _ 39 rfl 3 3 .i64 law_int Try.underlying39 Try.underlying3 (zero_int _) (P4 + 1) e _ rfl (hown.alloc _) _ _ rfl (keyOf_int_mk Try.underlying3 HWF.out) ?_
                     intro c hat hwc; obtain rfl := look_new hat; clear hat hwc)
                  | (at_mapUpdate; refine wpList_mapUpdate_own _ rfl _ _ _ 39 rfl 3 3 law_int Try.underlying39 _ (P4 + 1) e _ rfl (hown.alloc _) (by unfold maxLen; omega) _ _ _ rfl rfl (keyOf_int_mk Try.underlying3 HWF.out) _ [] (plainElem_int Try.underlying3 (by first | exact wrap64_wf _ | decide)) ?_
                     intro w1 hown1 hgrow1
                     have d5 : w1.cell? ⟨wr.heap.size, 5, none⟩ = some (.int .i64 (e : Nat)) := (hgrow1.cell_far ⟨wr.heap.size, 5, none⟩ (by simp) (by simp; omega)).trans (cell_of (heap_alloc_new wr _) (j := 5) rfl)
                     have HO1 := Lib.hid (show w1.ownsMap Try.prog 3 (plainElem (H := Unit) Try.prog 3) (P4 + 1) (e + 1) (Dn (e + 1)) from hown1)
                     have HG1 := Lib.hid hgrow1
                     clear hown1 hgrow1 hown)
                  | (at_len; refine wpList_len_own _ rfl _ 39 rfl 3 3 Try.underlying39 _ (P4 + 1) (e + 1) _ rfl HO1.out ?_; rw [Dn_size])
                  | go_in)
                go_roundw
                case rel =>
                  have h := HE.out
                  rw [show isE ⟨7, t0, t1, t2, t3, e, Y⟩ = 1 from rfl] at h
                  exact ⟨j + 1, by omega, rfl, by rw [h]; exact HO1.out, (HNX.out.alloc (Nat.le_of_lt hzr) _).grown HG1.out (by simp; omega) (fun k h => by cases h; exact Nat.le_refl _)⟩
                case measure => simp [intOf]; omega
              by_cases k8 : op = 8
              · subst k8
                obtain ⟨hx1, hx2⟩ := f8 rfl
                obtain ⟨m, rfl⟩ := Int.eq_ofNat_of_zero_le hx1
                have hme : m < e := by omega
                have HWM := Lib.hid (show (Lit.int .i64 (m : Int)).wf = true from WalkArith.wf_i64 (by omega))
                clear f1 f2 f3 f4 f7 f8 e9 k1 k2 k3 k4 k7
                go_wp2_with (first
                  | (at_lookup; refine wpList_lookup_own_int _ rfl _ _ 39 rfl 3 3 .i64 law_int Try.underlying39 Try.underlying3 (zero_int _) (P4 + 1) e _ rfl (hown.alloc _) _ _ rfl (keyOf_int_mk Try.underlying3 HWM.out) ?_
                     intro c hat hwc; obtain rfl := look_old hme hat; clear hat hwc)
                  | go_in)
                go_roundw
                case rel => exact HREL.out _ rfl
                case measure => simp [intOf]; omega
              have e1 : (op == 1) = false := by simp [k1]
              have e2 : (op == 2) = false := by simp [k2]
              have e3 : (op == 3) = false := by simp [k3]
              have e4 : (op == 4) = false := by simp [k4]
              have e7 : (op == 7) = false := by simp [k7]
              have e8 : (op == 8) = false := by simp [k8]
              have HI := Lib.hid (show isE ⟨op, t0, t1, t2, t3, X, Y⟩ = 0 by simp [isE, k7])
              clear f1 f2 f3 f4 f7 f8 k1 k2 k3 k4 k7 k8
              go_wp2_with fail
              go_roundw
              case rel => exact HREL.out _ HI.out
              case measure => simp [intOf]; omega
            · obtain rfl : j = L.length := by omega
              rw [List.take_length] at hown HOW
              have q : wr.heap[w.heap.size]? = _ := (HNX.out.block w.heap.size hbW).trans HQ5.out
              have q0 := cell_of q (j := 0) rfl
              have q1 := cell_of q (j := 1) rfl
              have q2 := cell_of q (j := 2) rfl
              have q3 := cell_of q (j := 3) rfl
              have q4 := cell_of q (j := 4) rfl
              have q5 := cell_of q (j := 5) rfl
              have q6 := cell_of q (j := 6) rfl
              have q7 := cell_of q (j := 7) rfl
              have q8 := cell_of q (j := 8) rfl
              have HALL := Lib.hid (HB.out.trans (HNX.out.mono (Nat.le_of_lt hbW)))
              have HK := Lib.hid (show ∀ w', Below wr.heap.size wr w' →
                  (w'.cell? ⟨P4, 1, none⟩ = some (.int .i64 (G : Nat)) ∧ w'.cell? ⟨P4, 2, none⟩ = some (.int .i64 (enters L : Nat)) ∧
                  w'.cell? ⟨w.heap.size, 0, none⟩ = some (.int .i64 k) ∧ w'.cell? ⟨w.heap.size, 1, none⟩ = some (.int .u64 s0) ∧ w'.cell? ⟨w.heap.size, 2, none⟩ = some (.int .u64 s1) ∧
                  w'.cell? ⟨w.heap.size, 3, none⟩ = some (.int .u64 s2) ∧ w'.cell? ⟨w.heap.size, 4, none⟩ = some (.int .u64 s3) ∧ w'.cell? ⟨w.heap.size, 5, none⟩ = some (.slice a ps.length c) ∧
                  w'.cell? ⟨w.heap.size, 6, none⟩ = some (.int .i64 mn) ∧ w'.cell? ⟨w.heap.size, 7, none⟩ = some (.int .i64 mx) ∧ w'.cell? ⟨w.heap.size, 8, none⟩ = some (.int .i64 num) ∧
                  (∀ ty, (Builtin.len_ #[39] ty #[.map (some (P4 + 1))]).run Try.prog w' = .ok (.int .i64 (enters L : Nat)) w')) from fun w' hb => by
                refine ⟨(hb.cell (p := ⟨P4, 1, none⟩) hz1).trans r1, (hb.cell (p := ⟨P4, 2, none⟩) hz1).trans r2, (hb.cell (p := ⟨w.heap.size, 0, none⟩) hz2).trans q0, (hb.cell (p := ⟨w.heap.size, 1, none⟩) hz2).trans q1,
                  (hb.cell (p := ⟨w.heap.size, 2, none⟩) hz2).trans q2, (hb.cell (p := ⟨w.heap.size, 3, none⟩) hz2).trans q3, (hb.cell (p := ⟨w.heap.size, 4, none⟩) hz2).trans q4, (hb.cell (p := ⟨w.heap.size, 5, none⟩) hz2).trans q5,
                  (hb.cell (p := ⟨w.heap.size, 6, none⟩) hz2).trans q6, (hb.cell (p := ⟨w.heap.size, 7, none⟩) hz2).trans q7, (hb.cell (p := ⟨w.heap.size, 8, none⟩) hz2).trans q8, fun ty => ?_⟩
                have hk : w'.ownsMap Try.prog 3 (plainElem (H := Unit) Try.prog 3) (P4 + 1) (enters L) (Dn (enters L)) := HOW.out.kept (row := none) ⟨hb.os, hb.tape, hb.output, hb.size, fun k hk _ => hb.block k hk⟩ (by simp)
                have := hk.len Try.underlying39 ty
                rw [Dn_size] at this
                exact this)
              have HRE := Lib.hid (show ∀ w', Below wr.heap.size wr w' → Calls Try.prog 9 #[.agg #[.int .i64 k, .int .u64 s0, .int .u64 s1, .int .u64 s2, .int .u64 s3, .slice a ps.length c, .int .i64 mn, .int .i64 mx, .int .i64 num]] w'
                  (fun e w'' => ∃ T z, e = .returned (.iface T (.agg z)) ∧ Below wr.heap.size wr w'' ∧ Nd w'' w''.heap.size (realT t) (.iface T (.agg z))) from fun w' hb => by
                have hb2 := HALL.out.trans (hb.mono (Nat.le_of_lt hz2))
                refine (real_any (mu t) t (Nat.le_refl _) hbig w' N _ (Nat.le_trans hN hb2.size) (Rd.below (hb2.mono hN) t _ H.out)).mono ?_
                rintro e w'' ⟨v, rfl, hb3, hnd⟩
                obtain ⟨T, z, rfl⟩ := (Nd.unmask hnd).form
                exact ⟨T, z, rfl, hb.trans (hb3.mono hb.size), Nd.unmask hnd⟩)
              have HGR := Lib.hid (show ∀ w' T z, Below wr.heap.size wr w' → Nd w' w'.heap.size (realT t) (.iface T (.agg z)) → Calls Try.prog 10 #[.iface T (.agg z)] w'
                  (fun e w'' => e = .returned (.int .i64 (G : Nat)) ∧ Below wr.heap.size wr w'') from fun w' T z hb hnd => by
                refine (groups_any (sizeT (realT t)) (realT t) (Nat.le_refl _) w' _ _ (Nat.le_refl _) hnd (by rw [HG.out]; omega)).mono ?_
                rintro e w'' ⟨rfl, hb3⟩
                exact ⟨by rw [HG.out], hb.trans (hb3.mono hb.size)⟩)
              clear hown q q0 q1 q2 q3 q4 q5 q6 q7 q8 HOW HNX r0 r1 r2 r3 HF HSV HP0 HP1 HP2 HP3 HQ5 HB HG H HSZ hmm
              go_wp2_with fail
              go_region_held3 (fun w' => (w'.cell? ⟨P4, 1, none⟩ = some (.int .i64 (G : Nat)) ∧ w'.cell? ⟨P4, 2, none⟩ = some (.int .i64 (enters L : Nat)) ∧
                  w'.cell? ⟨w.heap.size, 0, none⟩ = some (.int .i64 k) ∧ w'.cell? ⟨w.heap.size, 1, none⟩ = some (.int .u64 s0) ∧ w'.cell? ⟨w.heap.size, 2, none⟩ = some (.int .u64 s1) ∧
                  w'.cell? ⟨w.heap.size, 3, none⟩ = some (.int .u64 s2) ∧ w'.cell? ⟨w.heap.size, 4, none⟩ = some (.int .u64 s3) ∧ w'.cell? ⟨w.heap.size, 5, none⟩ = some (.slice a ps.length c) ∧
                  w'.cell? ⟨w.heap.size, 6, none⟩ = some (.int .i64 mn) ∧ w'.cell? ⟨w.heap.size, 7, none⟩ = some (.int .i64 mx) ∧ w'.cell? ⟨w.heap.size, 8, none⟩ = some (.int .i64 num) ∧
                  (∀ ty, (Builtin.len_ #[39] ty #[.map (some (P4 + 1))]).run Try.prog w' = .ok (.int .i64 (enters L : Nat)) w')))
                (first | exact HK.out _ (Below.drew (Below.refl _ _)) | exact HK.out _ (by assumption))
                (first
                  | (go_at_call 9; refine (HRE.out _ (by first | exact Below.drew (Below.refl _ _) | assumption)).mono ?_; rintro e w' ⟨T1, z1, rfl, hB1, hN1⟩)
                  | (go_at_call 10; refine (HGR.out _ _ _ (by assumption) (by assumption)).mono ?_; rintro e w'' ⟨rfl, hB2⟩))
              go_wp2_with fail
              go_ret
              exact ⟨rfl, HALL.out.trans (hB2.mono (Nat.le_of_lt hz2))⟩
end Go.Proofs.Ytkaoegdfgoojdaa
