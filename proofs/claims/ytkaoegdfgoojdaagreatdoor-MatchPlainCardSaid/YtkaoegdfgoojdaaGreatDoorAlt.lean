/- alt: the walk. -/
import Derived.Test.YtkaoegdfgoojdaaGreatDoorSplit
import Derived.Test.YtkaoegdfgoojdaaGreatDoorHeap2
import Derived.StillTailTactics
import Derived.BigQuiet
import Derived.Deep.QuietTactic
import Derived.Deep.LoopGhost
namespace Go.Proofs.YtkaoegdfgoojdaaGreatDoor
open Go Go.RowKit

/-- The parts of a node: n values from a cell on, each a node that the builder can lay. -/
structure Parts (w0 : World) (base B b off n : Nat) (V : Nat → Value) (fs : Nat → BS → BS) : Prop where
  lt : b < base
  cell : ∀ j, j < n → w0.cell? ⟨b, off + j, none⟩ = some (V j)
  node : ∀ j, j < n → NodeAt w0 base B (V j) (fs j)
  grows : ∀ j, j < n → Grows (fs j)

/-- What holds at the head of alt's first loop behind k rounds. -/
def AltRel (w : World) (base B : Nat) (v : Value) (s : BS) (fs : Nat → BS → BS) (n : Nat) (J i : Value) (wr : World) : Prop :=
  ∃ k v1, k ≤ n ∧ i = .int .i64 (k : Nat) ∧ Bd wr base B v1 (altK fs k (s, [])).1 ∧ Ints wr w.heap.size J (altK fs k (s, [])).2 B v1 ∧ Mv w wr B v v1

/-- What holds at the head of the loop over the places. -/
def SetRel (W0 : World) (N base B : Nat) (v : Value) (J : Value) (f : List Nat → BS) (l : List Nat) (i : Value) (wr : World) : Prop :=
  ∃ k v2, k ≤ l.length ∧ i = .int .i64 (k : Nat) ∧ Bd wr base B v2 (f (l.take k)) ∧ Ints wr N J l B v2 ∧ Mv W0 wr B v v2

theorem take_snoc' (l : List Nat) (k : Nat) (h : k < l.length) : l.take (k + 1) = l.take k ++ [l[k]] := List.take_succ_eq_append_getElem h

set_option maxRecDepth 100000 in
set_option maxHeartbeats 800000 in
theorem alt_any (w0 : World) (base B b off n c : Nat) (V : Nat → Value) (fs : Nat → BS → BS) (hp : Parts w0 base B b off (n + 1) V fs) (hc : n + 1 ≤ c) (hcm : c ≤ 9223372036854775807) (hsm : n ≤ 1048576)
    (w : World) (v : Value) (s : BS) (hw : Below base w0 w) (h : Bd w base B v s) :
    Calls Tryz.prog 40 #[.pointer (some ⟨B, 0, none⟩), .agg #[.slice (some ⟨b, off, none⟩) (n + 1) c]] w
      (BPost w base B v (.tuple #[]) (setsX (fs n (altK fs n (s, [])).1) (altK fs n (s, [])).2)) := by
  have H := Lib.hid h
  have HP := Lib.hid hp
  have HW := Lib.hid hw
  have hB := h.lt
  have hsz : (n : Int) + 1 ≤ 9223372036854775807 := by omega
  have hnc : n ≤ c := by omega
  clear h hp hw
  go_enter Tryz.func40, Tryz.ntmps40
  go_wp2_with fail
  have HB0 := Lib.hid (H.out.alloc (.cells #[.slice (some ⟨b, off, none⟩) (n + 1) c] 82))
  have HC0 := Lib.hid (show (w.alloc (.cells #[.slice (some ⟨b, off, none⟩) (n + 1) c] 82)).cell? ⟨w.heap.size, 0, none⟩ = some (.slice (some ⟨b, off, none⟩) (n + 1) c) by rw [cell_of_row _ _ _ _ _ _ (heap_alloc_new w _)]; rfl)
  have HBl0 := Lib.hid (show Below w.heap.size w (w.alloc (.cells #[.slice (some ⟨b, off, none⟩) (n + 1) c] 82)) from (Below.refl _ _).alloc (Nat.le_refl _) _)
  have HZ := Lib.hid (show w.heap.size < (w.alloc (.cells #[.slice (some ⟨b, off, none⟩) (n + 1) c] 82)).heap.size from by rw [show (w.alloc (.cells #[.slice (some ⟨b, off, none⟩) (n + 1) c] 82)).heap.size = w.heap.size + 1 from Array.size_push _]; omega)
  generalize w.alloc (.cells #[.slice (some ⟨b, off, none⟩) (n + 1) c] 82) = W0 at *
  go_loopw [4, 20] (fun J i wr => AltRel W0 base B v s fs n J i wr) (fun _ i _ => n - (intOf i).toNat)
  case atStart => exact ⟨0, v, Nat.zero_le _, rfl, HB0.out, Ints.nil _ _ _ _, Mv.refl _ _ _⟩
  case round =>
    obtain ⟨k, v1, hk, rfl, hb1, hi1, hm1⟩ := hrel
    have HB1 := Lib.hid hb1
    have HI1 := Lib.hid hi1
    have HM1 := Lib.hid hm1
    clear hb1 hi1 hm1
    by_cases hlt : k < n
    · have hbb := Lib.hid (show Below base w0 wr from HW.out.trans ((HBl0.out.mono (by have := H.out.hB; omega)).trans (HB0.out.below_of HM1.out)))
      have hcell : wr.cell? ⟨b, off + k, none⟩ = some (V k) := by
        rw [hbb.out.cell HP.out.lt]
        exact HP.out.cell k (by omega)
      go_wp2_with fail
      refine (split_any _ base B v1 _ HB1.out).mono ?_
      rintro e w2 ⟨v2, rfl, hb, hm⟩
      have HB2 := Lib.hid hb
      have HM2 := Lib.hid hm
      clear hb hm hcell
      go_wp2_with fail
      refine (HP.out.node k (by omega) _ v2 _ (hbb.out.trans (HB1.out.below_of HM2.out)) HB2.out).mono ?_
      rintro e w3 ⟨v3, rfl, hb, hm⟩
      have HB3 := Lib.hid hb
      have HM3 := Lib.hid hm
      clear hb hm
      go_wp2_with fail
      refine (put_raw _ base B v3 _ _ _ _ _ _ _ _ HB3.out).mono ?_
      rintro e w4 ⟨v4, rfl, hb, hm⟩
      obtain ⟨S4, hS4⟩ : ∃ S4, putS (fs k (splitS (altK fs k (s, [])).1)) (inst 2 0) = S4 := ⟨_, rfl⟩
      replace hb : Bd w4 base B v4 S4 := hS4 ▸ hb
      have HS4 := Lib.hid hS4
      clear hS4
      have HB4 := Lib.hid hb
      have HM4 := Lib.hid hm
      clear hb hm
      obtain ⟨i0, hi, hz0, hz1, hz2⟩ := info_parts info_int
      have HI := Lib.hid hi
      have HZ0 := Lib.hid hz0
      have HZ1 := Lib.hid hz1
      have HZ2 := Lib.hid hz2
      clear hi hz0 hz1 hz2
      have hL := altK_length fs k s
      have HI4 := Lib.hid (((HI1.out.move HM2.out).move HM3.out).move HM4.out)
      have hL1 : (altK fs k (s, [])).2.length ≤ 1048576 := by rw [hL]; omega
      have HL := Lib.hid hL
      clear hL
      go_wp2_with (at_builtin; (refine wpList_append_lies _ rfl (.tmp 29) (.tmp 33) 34 rfl W0.heap.size 3 i0 _ 1 8 und_ints HI.out HZ0.out HZ1.out HZ2.out rfl (by decide) _ _ _ rfl (HI4.out.own.alloc _) _ 1 1 [.int .i64 (putN (fs k (splitS (altK fs k (s, [])).1)))] rfl rfl (news1 _ _ _) (by intro u hu; rw [List.mem_singleton.1 hu]; rfl) (by decide) (by unfold maxLen; omega) (by omega) ?hbase _ rfl ?_))
      case hbase => exact Nat.le_trans (((HM1.out.trans HM2.out).trans HM3.out).trans HM4.out).size (Nat.le_trans (Nat.le_succ _) (Nat.le_of_eq (Array.size_push _).symm))
      intro g cap w5 hown hgrow hat hlt5
      obtain ⟨p, hp⟩ : ∃ p : Nat, putN (altK fs k (s, [])).1 = (p : Int) := ⟨(putN (altK fs k (s, [])).1).toNat, by have := putN_nn (altK fs k (s, [])).1; omega⟩
      obtain ⟨q, hq⟩ : ∃ q : Nat, putN (fs k (splitS (altK fs k (s, [])).1)) = (q : Int) := ⟨(putN (fs k (splitS (altK fs k (s, [])).1))).toNat, by have := putN_nn (fs k (splitS (altK fs k (s, [])).1)); omega⟩
      rw [hq] at hown
      rw [hp, hq]
      obtain ⟨hi5, hb5, hm5⟩ := (HI4.out.move (Mv.alloc _)).appended (HB4.out.alloc _) (((((HM1.out.trans HM2.out).trans HM3.out).trans HM4.out).trans (Mv.alloc _))) rfl hown hgrow (hat.imp_right fun h => h.trans (Array.size_push _).symm)
      have hpl : p < S4.insts.length := by
        have h1 := altStep_lt (HP.out.grows k (by omega)) (altK fs k (s, [])).1
        rw [hp, HS4.out] at h1
        exact h1
      obtain ⟨g4, c4, rfl, hl1, hl2⟩ := hb5.some_form (by omega)
      have hl3 : S4.insts.length ≤ 3000 := hb5.short
      have c0 := hb5.c0
      obtain ⟨u6, cY⟩ := hb5.cellAt p 6 hpl (by omega)
      have fY := hb5.frozenAt (p * 7 + 6)
      have hst := Lib.hid (hb5.storedY p S4.insts.length hpl)
      have HB5 := Lib.hid hb5
      have HI5 := Lib.hid hi5
      have HM5 := Lib.hid hm5
      have HP' := Lib.hid hp
      have HQ' := Lib.hid hq
      clear hb5 hi5 hm5 hp hq hown hgrow hat hlt5
      go_wp2_with fail
      refine wp_region_still_tail 10 (by kernel_rfl) (by kernel_rfl) ?_
      simp only [List.take_succ_cons, List.take_zero, List.drop_succ_cons, List.drop_zero]
      iterate 7 still_step
      still_call ((next_any _ base B _ _ HB5.out.drew).mono (fun _ _ h => ⟨h.1, h.2.symm⟩))
      iterate 2 still_step
      refine wpStill_nil ?_
      change wpList _ _ _ _ _ w5.drew
      go_wp2_with fail
      have e : altK fs (k + 1) (s, []) = (setY S4 p S4.insts.length, (altK fs k (s, [])).2 ++ [q]) := by
        rw [altK]
        simp only [altStep, HS4.out, HP'.out, HQ'.out, Int.toNat_natCast]
      have HE := Lib.hid e
      clear e
      go_roundw
      case rel => exact ⟨k + 1, .slice (some ⟨g4, 0, none⟩) S4.insts.length c4, by omega, by go_num, by rw [HE.out]; exact hst.out.1.drew, by rw [HE.out]; exact HI5.out.move (hst.out.2.drew), (HM5.out.trans hst.out.2).drew⟩
      case measure => simp [intOf]; omega
    · obtain rfl : k = n := by omega
      have hcell : wr.cell? ⟨b, off + k, none⟩ = some (V k) := by
        rw [Below.cell (HW.out.trans ((HBl0.out.mono (by have := H.out.hB; omega)).trans (HB0.out.below_of HM1.out))) HP.out.lt]
        exact HP.out.cell k (by omega)
      have hc0 : wr.cell? ⟨w.heap.size, 0, none⟩ = some (.slice (some ⟨b, off, none⟩) (k + 1) c) :=
        (World.cell?_of_block (a := ⟨w.heap.size, 0, none⟩) (HM1.out.block w.heap.size HZ.out (by omega) (fun e => by have := (H.out.ob _ e.symm).2; omega))).trans HC0.out
      go_wp2_with fail
      refine (HP.out.node k (by omega) _ v1 _ (HW.out.trans ((HBl0.out.mono (by have := H.out.hB; omega)).trans (HB0.out.below_of HM1.out))) HB1.out).mono ?_
      rintro e w2 ⟨v2, rfl, hb, hm⟩
      have HB2 := Lib.hid hb
      have HI2 := Lib.hid (HI1.out.move hm)
      have HM2 := Lib.hid (HM1.out.trans hm)
      have HWn := Lib.hid ((altK_within k (fun j hj => HP.out.grows j (by omega)) (s, []) (fun j hj => by cases hj)).mono (HP.out.grows k (by omega) _))
      clear hb hm hcell hc0 HB1 HI1 HM1
      obtain ⟨S, hS⟩ : ∃ S, fs k (altK fs k (s, [])).1 = S := ⟨_, rfl⟩
      obtain ⟨l, hl⟩ : ∃ l, (altK fs k (s, [])).2 = l := ⟨_, rfl⟩
      rw [hS, hl]
      rw [hS] at HB2 HWn
      rw [hl] at HI2 HWn
      have HS := Lib.hid hS
      have HL := Lib.hid hl
      clear hS hl
      obtain ⟨aj, cj, hJ, hjl⟩ := HI2.out.form
      rw [hJ] at HI2 ⊢
      clear hJ
      go_wp2_with fail
      go_loopw [55] (fun i wr => SetRel W0 W0.heap.size base B v (.slice aj l.length cj) (setsX S) l i wr) (fun i _ => l.length - (intOf i).toNat)
      case atStart => exact ⟨0, v2, Nat.zero_le _, rfl, HB2.out, HI2.out, HM2.out⟩
      case round =>
        obtain ⟨m, v3, hm, rfl, hb3, hi3, hm3⟩ := hrel
        have HB3 := Lib.hid hb3
        have HI3 := Lib.hid hi3
        have HM3 := Lib.hid hm3
        clear hb3 hi3 hm3
        by_cases hlt : m < l.length
        · obtain ⟨gj, rfl, hcj⟩ := HI3.out.at m hlt
          have hpl : l[m] < (setsX S (l.take m)).insts.length := by rw [setsX_length]; exact HWn.out _ (List.getElem_mem hlt)
          have HTS := Lib.hid (take_snoc' l m hlt)
          obtain ⟨p, hp⟩ : ∃ p, l[m] = p := ⟨_, rfl⟩
          rw [hp] at hcj hpl HTS
          clear hp
          obtain ⟨S3, hS3⟩ : ∃ S3, setsX S (l.take m) = S3 := ⟨_, rfl⟩
          rw [hS3] at hpl HB3
          have HS3 := Lib.hid hS3
          clear hS3
          have hb3 := HB3.out
          obtain ⟨g4, c4, rfl, hl1, hl2⟩ := hb3.some_form (by omega)
          have hl3 : S3.insts.length ≤ 3000 := hb3.short
          have c0 := hb3.c0
          obtain ⟨u6, cY⟩ := hb3.cellAt p 5 hpl (by omega)
          have fY := hb3.frozenAt (p * 7 + 5)
          have hst := Lib.hid (hb3.storedX p S3.insts.length hpl)
          clear hb3
          go_wp2_with fail
          refine wp_region_still_tail 10 (by kernel_rfl) (by kernel_rfl) ?_
          simp only [List.take_succ_cons, List.take_zero, List.drop_succ_cons, List.drop_zero]
          iterate 7 still_step
          still_call ((next_any _ base B _ _ HB3.out.drew).mono (fun _ _ h => ⟨h.1, h.2.symm⟩))
          iterate 2 still_step
          refine wpStill_nil ?_
          change wpList _ _ _ _ _ wr.drew
          go_wp2_with fail
          have e : setsX S (l.take (m + 1)) = setX S3 p S3.insts.length := by rw [HTS.out, setsX_snoc, HS3.out]
          have HE := Lib.hid e
          clear e
          go_roundw
          case rel => exact ⟨m + 1, .slice (some ⟨g4, 0, none⟩) S3.insts.length c4, by omega, by go_num, by rw [HE.out]; exact hst.out.1.drew, HI3.out.move (hst.out.2.drew), (HM3.out.trans hst.out.2).drew⟩
          case measure => simp [intOf]; omega
        · obtain rfl : m = l.length := by omega
          go_wp2_with fail
          go_end0
          exact ⟨_, rfl, by rw [HS.out, HL.out]; have hh := HB3.out; rwa [List.take_length] at hh, (Mv.of_below HBl0.out).trans HM3.out⟩
end Go.Proofs.YtkaoegdfgoojdaaGreatDoor
