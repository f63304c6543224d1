/- rep: the walk. -/
import Derived.Test.YtkaoegdfgoojdaaGreatDoorAlt
import Derived.Deep.DeepCutAuto
import Derived.Deep.CutBlock
namespace Go.Proofs.YtkaoegdfgoojdaaGreatDoor
open Go Go.RowKit

/-- What holds at the head of the loop over the copies that must be. -/
def RepRel (W0 : World) (base B : Nat) (v : Value) (f : BS → BS) (n : Nat) (s : BS) (i : Value) (wr : World) : Prop :=
  ∃ k v1 S, k ≤ n ∧ i = .int .i64 (k : Nat) ∧ Bd wr base B v1 S ∧ repMin f (n - k) S = repMin f n s ∧ Mv W0 wr B v v1
/-- What holds behind it. -/
def At (W0 : World) (base B : Nat) (v : Value) (S : BS) (wr : World) : Prop := ∃ v1, Bd wr base B v1 S ∧ Mv W0 wr B v v1

/-- What holds at the head of the loop over the copies that may be. -/
def MaxRel (W0 : World) (N base B : Nat) (v : Value) (f : BS → BS) (min : Int) (n : Nat) (b : BS) (J i : Value) (wr : World) : Prop :=
  ∃ k v1 S l, k ≤ n ∧ i = .int .i64 (min + (k : Nat)) ∧ Bd wr base B v1 S ∧ Ints wr N J l B v1 ∧ Within l S ∧ l.length ≤ k ∧ repMax f (n - k) S l = repMax f n b [] ∧ Mv W0 wr B v v1
/-- What holds behind it. -/
def MaxAt (W0 : World) (N base B : Nat) (v : Value) (r : BS × List Nat) (J : Value) (wr : World) : Prop :=
  ∃ v1, Bd wr base B v1 r.1 ∧ Ints wr N J r.2 B v1 ∧ Within r.2 r.1 ∧ Mv W0 wr B v v1

theorem info_node : (Tryz.prog.info? 52).map (fun i => (i.zero, i.size, i.bytes)) = some (some .nilIface, 1, 16) := by kernel_rfl
theorem und_nodes : Tryz.prog.underlying 76 = some (.slice 52) := by kernel_rfl

set_option maxRecDepth 100000 in
set_option maxHeartbeats 800000 in
theorem rep_any (w0 : World) (base B : Nat) (nv : Value) (f : BS → BS) (hf : NodeAt w0 base B nv f) (hg : Grows f) (min max : Int) (hmin : min ≤ 1048576) (hmax : max ≤ 1048576) (hmin0 : 0 ≤ min)
    (w : World) (v : Value) (s : BS) (hw : Below base w0 w) (h : Bd w base B v s) :
    Calls Tryz.prog 41 #[.pointer (some ⟨B, 0, none⟩), .agg #[nv, .int .i64 min, .int .i64 max]] w
      (BPost w base B v (.tuple #[]) (repS f min max s)) := by
  have H := Lib.hid h
  have HF := Lib.hid hf
  have HG := Lib.hid hg
  have HW := Lib.hid hw
  have hB := h.lt
  clear h hf hg hw
  go_enter Tryz.func41, Tryz.ntmps41
  go_upto_block 0 with (fail)
  have HB0 := Lib.hid (H.out.alloc (.cells #[nv, .int .i64 min, .int .i64 max] 84))
  have HC0 := Lib.hid (show (w.alloc (.cells #[nv, .int .i64 min, .int .i64 max] 84)).heap[w.heap.size]? = some (.cells #[nv, .int .i64 min, .int .i64 max] 84) from heap_alloc_new w _)
  have HBl0 := Lib.hid (show Below w.heap.size w (w.alloc (.cells #[nv, .int .i64 min, .int .i64 max] 84)) from (Below.refl _ _).alloc (Nat.le_refl _) _)
  have HZ := Lib.hid (show w.heap.size < (w.alloc (.cells #[nv, .int .i64 min, .int .i64 max] 84)).heap.size from by rw [show (w.alloc (.cells #[nv, .int .i64 min, .int .i64 max] 84)).heap.size = w.heap.size + 1 from Array.size_push _]; omega)
  generalize w.alloc (.cells #[nv, .int .i64 min, .int .i64 max] 84) = W0 at *
  go_cut [4] (fun _ wx => At W0 base B v (repMin f min.toNat s) wx)
  case first =>
    have q1 := cell_of HC0.out (j := 1) (u := .int .i64 min) rfl
    go_wp2_with fail
    clear q1
    go_loopw [12] (fun i wr => RepRel W0 base B v f min.toNat s i wr) (fun i _ => min.toNat - (intOf i).toNat)
    case atStart => exact ⟨0, v, s, Nat.zero_le _, rfl, HB0.out, rfl, Mv.refl _ _ _⟩
    case round =>
      obtain ⟨k, v1, S, hk, rfl, hb1, hr1, hm1⟩ := hrel
      have HB1 := Lib.hid hb1
      have HR1 := Lib.hid hr1
      have HM1 := Lib.hid hm1
      clear hb1 hr1 hm1
      by_cases hlt : k < min.toNat
      · have hlt' : (k : Int) < min := by omega
        have q0 := cell_of ((Mv.kept H.out HZ.out HM1.out).trans HC0.out) (j := 0) (u := nv) rfl
        go_wp2_with fail
        refine (next_any _ base B v1 S HB1.out).mono ?_
        rintro e w' ⟨rfl, rfl⟩
        go_wp2_with fail
        clear q0
        refine (HF.out _ v1 _ (HW.out.trans ((HBl0.out.mono (by have := H.out.hB; omega)).trans (HB0.out.below_of HM1.out))) HB1.out).mono ?_
        rintro e w2 ⟨v2, rfl, hb, hm⟩
        have HB2 := Lib.hid hb
        have HM2 := Lib.hid hm
        clear hb hm
        go_wp2_with fail
        refine (next_any _ base B v2 _ HB2.out).mono ?_
        rintro e w' ⟨rfl, rfl⟩
        by_cases he : (f S).insts.length = S.insts.length
        · have he' : (((f S).insts.length : Int) == (S.insts.length : Int)) = true := by rw [beq_iff_eq]; omega
          have HE := Lib.hid he
          clear he
          go_wp2_with fail
          go_meet
          exact ⟨v2, by rw [← HR1.out, repMin_stop hlt HE.out]; exact HB2.out, HM1.out.trans HM2.out⟩
        · have he' : (((f S).insts.length : Int) == (S.insts.length : Int)) = false := by rw [beq_eq_false_iff_ne]; omega
          have HE := Lib.hid he
          clear he
          go_wp2_with fail
          go_roundw
          case rel => exact ⟨k + 1, v2, f S, by omega, by go_num, HB2.out, (repMin_go hlt HE.out).trans HR1.out, HM1.out.trans HM2.out⟩
          case measure => simp [intOf]; omega
      · have hlt' : ¬ (k : Int) < min := by omega
        go_wp2_with fail
        go_meet
        exact ⟨v1, by rw [← HR1.out, repMin_done hlt]; exact HB1.out, HM1.out⟩
  case rest =>
    obtain ⟨v1, hb1, hm1⟩ := hcut
    obtain ⟨S1, hS1⟩ : ∃ S1, repMin f min.toNat s = S1 := ⟨_, rfl⟩
    rw [hS1] at hb1
    have HS1 := Lib.hid hS1
    have HB1 := Lib.hid hb1
    have HM1 := Lib.hid hm1
    clear hb1 hm1 hS1
    have HWb := Lib.hid (HW.out.trans ((HBl0.out.mono (by have := H.out.hB; omega)).trans (HB0.out.below_of HM1.out)))
    have q2 := cell_of ((Mv.kept H.out HZ.out HM1.out).trans HC0.out) (j := 2) (u := .int .i64 max) rfl
    by_cases hmx : max < 0
    · have eS : repS f min max s = setY (putS (roundS f (splitS S1)) (inst 2 (putN S1))) (putN S1).toNat (putS (roundS f (splitS S1)) (inst 2 (putN S1))).insts.length := by
        unfold repS; simp only [HS1.out, if_pos hmx]
      have HES := Lib.hid eS
      clear eS
      go_wp2_with fail
      clear q2
      refine (split_any _ base B v1 _ HB1.out).mono ?_
      rintro e w2 ⟨v2, rfl, hb, hm⟩
      have HB2 := Lib.hid hb
      have HM2 := Lib.hid hm
      clear hb hm
      have q0 := cell_of ((Mv.kept H.out HZ.out (HM1.out.trans HM2.out)).trans HC0.out) (j := 0) (u := nv) rfl
      obtain ⟨p, hp⟩ : ∃ p : Nat, putN S1 = (p : Int) := ⟨(putN S1).toNat, by have := putN_nn S1; omega⟩
      rw [hp]
      have HP := Lib.hid hp
      clear hp
      go_wp2_with fail
      clear q0
      refine (round_any w0 base B nv f HF.out _ v2 _ (HWb.out.trans (HB1.out.below_of HM2.out)) HB2.out).mono ?_
      rintro e w3 ⟨v3, rfl, hb, hm⟩
      have HB3 := Lib.hid hb
      have HM3 := Lib.hid hm
      clear hb hm
      go_wp2_with fail
      refine (put_raw _ base B v3 _ _ _ _ _ _ _ _ HB3.out).mono ?_
      rintro e w4 ⟨v4, rfl, hb, hm⟩
      obtain ⟨S4, hS4⟩ : ∃ S4, putS (roundS f (splitS S1)) (inst 2 (putN S1)) = S4 := ⟨_, rfl⟩
      have hb : Bd w4 base B v4 S4 := by rw [← hS4, HP.out]; exact hb
      have hpl : p < S4.insts.length := by
        have h1 := putN_lt S1 (inst 1 (S1.insts.length + 1))
        have h2 : (splitS S1).insts.length ≤ (roundS f (splitS S1)).insts.length := roundS_grows HG.out _
        have h3 : (roundS f (splitS S1)).insts.length ≤ (putS (roundS f (splitS S1)) (inst 2 (putN S1))).insts.length := putS_grows _ _
        rw [hS4] at h3
        rw [HP.out, Int.toNat_natCast] at h1
        exact Nat.lt_of_lt_of_le h1 (Nat.le_trans h2 h3)
      have HS4 := Lib.hid hS4
      have HM4 := Lib.hid hm
      obtain ⟨g4, c4, rfl, hl1, hl2⟩ := hb.some_form (by omega)
      have hl3 : S4.insts.length ≤ 3000 := hb.short
      have c0 := hb.c0
      obtain ⟨u6, cY⟩ := hb.cellAt p 6 hpl (by omega)
      have fY := hb.frozenAt (p * 7 + 6)
      have hst := Lib.hid (hb.storedY p S4.insts.length hpl)
      have HB4 := Lib.hid hb
      clear hb hm hS4
      go_wp2_with fail
      refine wp_region_still_tail 10 (by kernel_rfl) (by kernel_rfl) ?_
      simp only [List.take_succ_cons, List.take_zero, List.drop_succ_cons, List.drop_zero]
      iterate 7 still_step
      still_call ((next_any _ base B _ _ HB4.out.drew).mono (fun _ _ h => ⟨h.1, h.2.symm⟩))
      iterate 2 still_step
      refine wpStill_nil ?_
      change wpList _ _ _ _ _ w4.drew
      go_wp2_with fail
      go_end0
      exact ⟨_, rfl, by rw [HES.out, HS4.out, HP.out, Int.toNat_natCast]; exact hst.out.1.drew, ((Mv.of_below HBl0.out).trans ((((HM1.out.trans HM2.out).trans HM3.out).trans HM4.out).trans hst.out.2)).drew⟩
    · have q1 := cell_of ((Mv.kept H.out HZ.out HM1.out).trans HC0.out) (j := 1) (u := .int .i64 min) rfl
      have eS : repS f min max s = setsY (repMax f (max - min).toNat S1 []).1 (repMax f (max - min).toNat S1 []).2 := by
        unfold repS; simp only [HS1.out, if_neg hmx]
      have HES := Lib.hid eS
      clear eS
      go_upto_block 2 with (fail)
      clear q1 q2
      obtain ⟨R, hR⟩ : ∃ R, repMax f (max - min).toNat S1 [] = R := ⟨_, rfl⟩
      rw [hR] at HES
      have HR := Lib.hid hR
      clear hR
      go_cut [6, 7] (fun J _ wx => MaxAt W0 W0.heap.size base B v R J wx)
      case first =>
        go_wp2_with fail
        go_loopw [6, 7] (fun J i wr => MaxRel W0 W0.heap.size base B v f min (max - min).toNat S1 J i wr) (fun _ i _ => (max - intOf i).toNat)
        case atStart => exact ⟨0, v1, S1, [], Nat.zero_le _, by simp, HB1.out, Ints.nil _ _ _ _, (fun j hj => by cases hj), Nat.le_refl _, rfl, HM1.out⟩
        case round =>
          obtain ⟨k, v5, S5, l5, hk, rfl, hb5, hi5, hw5, hl5, hr5, hm5⟩ := hrel
          have HB5 := Lib.hid hb5
          have HI5 := Lib.hid hi5
          have HW5 := Lib.hid hw5
          have HR5 := Lib.hid hr5
          have HM5 := Lib.hid hm5
          have q2 := cell_of ((Mv.kept H.out HZ.out hm5).trans HC0.out) (j := 2) (u := .int .i64 max) rfl
          have c4 := hb5.c4
          clear hb5 hi5 hw5 hr5 hm5
          have hk' : (k : Int) ≤ max - min ∨ k = 0 := by omega
          by_cases hlt : k < (max - min).toNat
          · have hlt' : min + (k : Int) < max := by omega
            cases hfull : S5.full with
            | true =>
              rw [hfull] at c4
              have HFu := Lib.hid hfull
              clear hfull
              go_wp2_with fail
              go_meet
              have e5 : (S5, l5) = R := by rw [← HR.out, ← HR5.out, repMax_stop (.inr HFu.out)]
              exact ⟨v5, by rw [← e5]; exact HB5.out, by rw [← e5]; exact HI5.out, by rw [← e5]; exact HW5.out, HM5.out⟩
            | false =>
              rw [hfull] at c4
              have HFu := Lib.hid hfull
              clear hfull
              go_wp2_with fail
              clear q2 c4
              refine (split_any _ base B v5 _ HB5.out).mono ?_
              rintro e w2 ⟨v2, rfl, hb, hm⟩
              have HB2 := Lib.hid hb
              have HM2 := Lib.hid hm
              clear hb hm
              obtain ⟨i0, hi, hz0, hz1, hz2⟩ := info_parts info_int
              have HI := Lib.hid hi
              have HZ0 := Lib.hid hz0
              have HZ1 := Lib.hid hz1
              have HZ2 := Lib.hid hz2
              clear hi hz0 hz1 hz2
              have HI2 := Lib.hid (HI5.out.move HM2.out)
              go_wp2_with (at_builtin; (refine wpList_append_lies _ rfl (.tmp 63) (.tmp 66) 34 rfl W0.heap.size 3 i0 _ 1 8 und_ints HI.out HZ0.out HZ1.out HZ2.out rfl (by decide) _ _ _ rfl (HI2.out.own.alloc _) _ 1 1 [.int .i64 (putN S5)] rfl rfl (news1 _ _ _) (by intro u hu; rw [List.mem_singleton.1 hu]; rfl) (by decide) (by unfold maxLen; omega) (by omega) ?hbase _ rfl ?_))
              case hbase => exact Nat.le_trans (HM5.out.trans HM2.out).size (Nat.le_trans (Nat.le_succ _) (Nat.le_of_eq (Array.size_push _).symm))
              intro g cap w6 hown hgrow hat hlt6
              obtain ⟨p, hp⟩ : ∃ p : Nat, putN S5 = (p : Int) := ⟨(putN S5).toNat, by have := putN_nn S5; omega⟩
              rw [hp] at hown
              rw [hp]
              obtain ⟨hi6, hb6, hm6⟩ := (HI2.out.move (Mv.alloc _)).appended (HB2.out.alloc _) ((HM5.out.trans HM2.out).trans (Mv.alloc _)) rfl hown hgrow (hat.imp_right fun h => h.trans (Array.size_push _).symm)
              have HP := Lib.hid hp
              have HB6 := Lib.hid hb6
              have HI6 := Lib.hid hi6
              have HM6 := Lib.hid hm6
              have q0 := cell_of ((Mv.kept H.out HZ.out hm6).trans HC0.out) (j := 0) (u := nv) rfl
              clear hp hb6 hi6 hm6 hown hgrow hat hlt6
              go_wp2_with fail
              clear q0
              refine (round_any w0 base B nv f HF.out _ v2 _ (HW.out.trans ((HBl0.out.mono (by have := H.out.hB; omega)).trans (HB0.out.below_of HM6.out))) HB6.out).mono ?_
              rintro e w7 ⟨v7, rfl, hb, hm⟩
              have HB7 := Lib.hid hb
              have HM7 := Lib.hid hm
              clear hb hm
              go_wp2_with fail
              go_roundw
              case rel =>
                refine ⟨k + 1, v7, _, l5 ++ [p], by omega, by simp; omega, HB7.out, HI6.out.move HM7.out, ?_, by simp; omega, (repMax_go hlt HFu.out HP.out).trans HR5.out, HM6.out.trans HM7.out⟩
                intro j hj
                rcases List.mem_append.1 hj with hj | hj
                · exact Nat.lt_of_lt_of_le (HW5.out j hj) (Nat.le_trans (splitS_grows _) (roundS_grows HG.out _))
                · have h1 := putN_lt S5 (inst 1 (S5.insts.length + 1))
                  rw [HP.out, Int.toNat_natCast] at h1
                  rw [List.mem_singleton.1 hj]
                  exact Nat.lt_of_lt_of_le h1 (roundS_grows HG.out _)
              case measure => simp [intOf]; omega
          · have hlt' : ¬ min + (k : Int) < max := by omega
            go_wp2_with fail
            go_meet
            have e5 : (S5, l5) = R := by rw [← HR.out, ← HR5.out, repMax_stop (.inl (by omega))]
            exact ⟨v5, by rw [← e5]; exact HB5.out, by rw [← e5]; exact HI5.out, by rw [← e5]; exact HW5.out, HM5.out⟩
      case rest =>
        obtain ⟨v5, hb5, hi5, hw5, hm5⟩ := hcut
        obtain ⟨S, l⟩ := R
        simp only at hb5 hi5 hw5 HES
        have HB5 := Lib.hid hb5
        have HI5 := Lib.hid hi5
        have HW5 := Lib.hid hw5
        have HM5 := Lib.hid hm5
        clear hb5 hi5 hw5 hm5
        obtain ⟨aj, cj, hJ, hjl⟩ := HI5.out.form
        rw [hJ] at HI5 ⊢
        clear hJ
        go_wp2_with fail
        go_loopw [74] (fun i wr => SetRel W0 W0.heap.size base B v (.slice aj l.length cj) (setsY S) l i wr) (fun i _ => l.length - (intOf i).toNat)
        case atStart => exact ⟨0, v5, Nat.zero_le _, rfl, HB5.out, HI5.out, HM5.out⟩
        case round =>
          obtain ⟨m, v3, hm, rfl, hb3, hi3, hm3⟩ := hrel
          have HB3 := Lib.hid hb3
          have HI3 := Lib.hid hi3
          have HM3 := Lib.hid hm3
          clear hb3 hi3 hm3
          by_cases hlt : m < l.length
          · obtain ⟨gj, rfl, hcj⟩ := HI3.out.at m hlt
            have hpl : l[m] < (setsY S (l.take m)).insts.length := by rw [setsY_length]; exact HW5.out _ (List.getElem_mem hlt)
            have HTS := Lib.hid (take_snoc' l m hlt)
            obtain ⟨p, hp⟩ : ∃ p, l[m] = p := ⟨_, rfl⟩
            rw [hp] at hcj hpl HTS
            clear hp
            obtain ⟨S3, hS3⟩ : ∃ S3, setsY S (l.take m) = S3 := ⟨_, rfl⟩
            rw [hS3] at hpl HB3
            have HS3 := Lib.hid hS3
            clear hS3
            have hb3 := HB3.out
            obtain ⟨g4, c4, rfl, hl1, hl2⟩ := hb3.some_form (by omega)
            have hl3 : S3.insts.length ≤ 3000 := hb3.short
            have c0 := hb3.c0
            obtain ⟨u6, cY⟩ := hb3.cellAt p 6 hpl (by omega)
            have fY := hb3.frozenAt (p * 7 + 6)
            have hst := Lib.hid (hb3.storedY p S3.insts.length hpl)
            clear hb3
            go_wp2_with fail
            refine wp_region_still_tail 10 (by kernel_rfl) (by kernel_rfl) ?_
            simp only [List.take_succ_cons, List.take_zero, List.drop_succ_cons, List.drop_zero]
            iterate 7 still_step
            still_call ((next_any _ base B _ _ HB3.out.drew).mono (fun _ _ h => ⟨h.1, h.2.symm⟩))
            iterate 2 still_step
            refine wpStill_nil ?_
            change wpList _ _ _ _ _ wr.drew
            go_wp2_with fail
            have e : setsY S (l.take (m + 1)) = setY S3 p S3.insts.length := by rw [HTS.out, setsY_snoc, HS3.out]
            have HE := Lib.hid e
            clear e
            go_roundw
            case rel => exact ⟨m + 1, .slice (some ⟨g4, 0, none⟩) S3.insts.length c4, by omega, by go_num, by rw [HE.out]; exact hst.out.1.drew, HI3.out.move (hst.out.2.drew), (HM3.out.trans hst.out.2).drew⟩
            case measure => simp [intOf]; omega
          · obtain rfl : m = l.length := by omega
            go_wp2_with fail
            go_end0
            exact ⟨_, rfl, by rw [HES.out]; have hh := HB3.out; rwa [List.take_length] at hh, (Mv.of_below HBl0.out).trans HM3.out⟩
end Go.Proofs.YtkaoegdfgoojdaaGreatDoor
