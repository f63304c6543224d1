/- MatchPlain: the walk (seat 2). -/
import Derived.Test.YtkaoegdfgoojdaaGreatDoorLawP
namespace Go.Proofs.YtkaoegdfgoojdaaGreatDoor
open Go Go.RowKit
set_option maxRecDepth 100000

theorem bytes_size (l : List UInt8) : rsizeL (l.map fun c => byteR c.toNat) = l.length := by
  induction l with
  | nil => rfl
  | cons c r ih => rw [List.map_cons, rsizeL, ih]; simp [byteR, rsize, rsizeL]; omega
theorem join_size (l : List RT) : rsize (joinR l) ≤ 1 + rsizeL l := by
  match l with
  | [] => simp [joinR, RT.zero, rsize, rsizeL]
  | [t] => simp [joinR, rsizeL]
  | t :: u :: r => simp [joinR, rsize]
theorem ones_size (l : List UInt8) : sizeL (l.map oneT) = l.length := by
  induction l with
  | nil => rfl
  | cons c r ih => rw [List.map_cons, sizeL, ih]; simp [oneT, sizeT]; omega
theorem word_size (l : List UInt8) : sizeT (wordT l) ≤ 1 + l.length := by
  match l with
  | [] => simp [wordT, sizeT]
  | [c] => simp [wordT, oneT, sizeT]
  | c :: d :: r => rw [wordT, sizeT, ones_size]; omega
theorem find_at (wd s : List UInt8) (n at_ : Nat) (o : Option (List Int)) (hn : s.length = n) (h : findF (plainP wd) s (wd.length + 4) 2 (n + 1 - at_) at_ = some o) (hle : at_ + wd.length ≤ n) :
    (wd.isPrefixOf (s.drop at_) = true ∧ o = some [(at_ : Int), ((at_ + wd.length : Nat) : Int)]) ∨ (wd.isPrefixOf (s.drop at_) = false ∧ findF (plainP wd) s (wd.length + 4) 2 (n + 1 - (at_ + 1)) (at_ + 1) = some o) := by
  rw [show n + 1 - at_ = (n - at_) + 1 by omega, findF_step] at h
  by_cases hp : wd.isPrefixOf (s.drop at_) = true
  · rw [if_pos hp] at h
    exact .inl ⟨hp, (Option.some.inj h).symm⟩
  · rw [if_neg hp] at h
    exact .inr ⟨Bool.eq_false_iff.2 hp, by rw [show n + 1 - (at_ + 1) = n - at_ by omega]; exact h⟩
theorem find_end (wd s : List UInt8) (n at_ : Nat) (o : Option (List Int)) (hn : s.length = n) (h : findF (plainP wd) s (wd.length + 4) 2 (n + 1 - at_) at_ = some o) (hle : ¬ at_ + wd.length ≤ n) : o = none := by
  rw [findF_none wd s (n + 1 - at_) at_ (fun j h1 h2 => prefix_long wd s j (by omega) (by omega))] at h
  exact (Option.some.inj h).symm
theorem byte_list (s : ByteArray) : s.data.toList.length = s.size := by rw [Array.length_toList]; rfl

set_option maxHeartbeats 16000000 in
theorem matchPlain_any (word s : ByteArray) (c : Nat) (hc : c < 256) (w : World) :
    Calls Tryz.prog 3 #[.string word, .string s, .int .u8 (c : Int)] w (Says w (.bool true)) := by
  have HWK := Lib.hid wake_any
  by_cases h12 : 12 < word.size
  · have g12 : (12 : Int) < (word.size : Int) := by omega
    go_enter Tryz.func3, Tryz.ntmps3
    go_wp2_with fail
    refine (HWK.out w).mono ?_
    rintro e w1 ⟨rfl, hb1⟩
    have HB1 := Lib.hid hb1
    clear hb1
    go_wp2_with fail
    refine (HWK.out w1).mono ?_
    rintro e w2 ⟨rfl, hb2⟩
    have HB2 := Lib.hid (HB1.out.trans (hb2.mono HB1.out.size))
    clear hb2
    go_wp2_with fail
    go_ret
    exact ⟨rfl, HB2.out⟩
  have g12 : ¬ (12 : Int) < (word.size : Int) := by omega
  by_cases h60 : 60 < s.size
  · have g60 : (60 : Int) < (s.size : Int) := by omega
    go_enter Tryz.func3, Tryz.ntmps3
    go_wp2_with fail
    refine (HWK.out w).mono ?_
    rintro e w1 ⟨rfl, hb1⟩
    have HB1 := Lib.hid hb1
    clear hb1
    go_wp2_with fail
    refine (HWK.out w1).mono ?_
    rintro e w2 ⟨rfl, hb2⟩
    have HB2 := Lib.hid (HB1.out.trans (hb2.mono HB1.out.size))
    clear hb2
    go_wp2_with fail
    go_ret
    exact ⟨rfl, HB2.out⟩
  have g60 : ¬ (60 : Int) < (s.size : Int) := by omega
  have e1 : IntKind.i64.wrap (c : Int) = (c : Int) := IntWalk.i64_in _ (by omega)
  obtain ⟨ts, hts⟩ : ∃ ts, ts = word.data.toList.map fun c => byteR c.toNat := ⟨_, rfl⟩
  have htl : ts.length = word.size := by rw [hts, List.length_map, byte_list]
  have HTS := Lib.hid hts
  have HTL := Lib.hid htl
  have hm1 : ∀ t ∈ ts, t.kind ≠ 0 ∧ t.kind ≠ 2 := by
    rw [hts]
    intro t ht
    obtain ⟨x, _, rfl⟩ := List.mem_map.1 ht
    exact ⟨(by show (1 : Int) ≠ 0; decide), (by show (1 : Int) ≠ 2; decide)⟩
  have HK := Lib.hid hm1
  obtain ⟨i0, hi0, hz0, hz1, hz2⟩ := info_parts info_T
  have HI := Lib.hid hi0
  have HI0 := Lib.hid hz0
  have HI1 := Lib.hid hz1
  have HI2 := Lib.hid hz2
  clear hi0 hz0 hz1 hz2 hm1 hts htl
  go_enter Tryz.func3, Tryz.ntmps3
  go_wp2_with fail
  refine (HWK.out w).mono ?_
  rintro e w1 ⟨rfl, hb1⟩
  have HB1 := Lib.hid hb1
  clear hb1
  go_wp2_with fail
  go_loopw [7, 29] (fun v i wr => ∃ j : Nat, j ≤ word.size ∧ i = .int .i64 j ∧ PartsR (above w1.heap.size) w1.heap.size wr v (ts.take j) ∧ Below w1.heap.size w1 wr) (fun _ i _ => word.size - (intOf i).toNat)
  case atStart => exact ⟨0, Nat.zero_le _, rfl, PartsR.nil _ _ _, Below.refl _ _⟩
  case round =>
    obtain ⟨j, hj, rfl, hpr, hb⟩ := hrel
    have HPR := Lib.hid hpr
    have HB := Lib.hid hb
    clear hpr hb
    by_cases hlt : j < word.size
    · have hji : (j : Int) < (word.size : Int) := by omega
      obtain ⟨us, hus⟩ : ∃ us, ts.take j = us := ⟨_, rfl⟩
      have hul : us.length = j := by rw [← hus]; have := HTL.out; simp; omega
      have HTK := Lib.hid (show ts.take (j + 1) = us ++ [byteR (word[j]'hlt).toNat] by
        rw [List.take_succ_eq_append_getElem (by have := HTL.out; omega), hus]
        congr 2
        have h := HTS.out
        subst h
        rw [List.getElem_map, Array.getElem_toList]
        rfl)
      rw [hus] at HPR
      have HBY := Lib.hid (fun w' => byte_any w' (word[j]'hlt).toNat (UInt8.toNat_lt _))
      clear hus
      go_wp2_with fail
      refine (HBY.out wr).mono ?_
      rintro e w2 ⟨rfl, hb2⟩
      have HB2 := Lib.hid hb2
      clear hb2
      unfold byteCells
      subst hul
      obtain ⟨av, cv, rfl, _⟩ := (HPR.out).form
      have hpr2 := HPR.out.below HB2.out
      have hrb := (Below.refl w2.heap.size w2).alloc (Nat.le_refl _) (.cells (byteCells (word[us.length]'hlt).toNat).toArray 28)
      unfold byteCells at hrb
      have HRB := Lib.hid hrb
      obtain ⟨css, hcl, hc9, hco, hcn⟩ := hpr2.below hrb
      have HCL := Lib.hid hcl
      have HC9 := Lib.hid hc9
      have HCO := Lib.hid hco
      have HCN := Lib.hid hcn
      have hle : w1.heap.size ≤ w2.heap.size := Nat.le_trans HB.out.size HB2.out.size
      clear hpr2 hrb hcl hc9 hco hcn
      go_wp2_with (at_builtin; (refine wpList_append_lies _ rfl (.tmp 32) (.tmp 37) 23 rfl w1.heap.size 28 i0 _ 9 88 und_Ts HI.out HI0.out HI1.out HI2.out rfl (by decide) _ _ css.flatten rfl HCO.out _ 1 1 (byteCells (word[us.length]'hlt).toNat) rfl rfl (news1 _ _ _) (by intro u hu; simp only [byteCells, List.mem_cons, List.not_mem_nil, or_false] at hu; rcases hu with rfl | rfl | rfl | rfl | rfl | rfl | rfl | rfl | rfl <;> rfl) (by decide) (by unfold maxLen; omega) (by omega) (Nat.le_trans hle HRB.out.size) _ rfl ?_))
      intro g cap w6 hown hgrow hat6 hlt6
      have hpr6 := PartsR.appended HCL.out HC9.out rfl HCN.out (rd_byte _ _ _) hown hgrow (hat6.imp_right fun h => h.trans (Array.size_push _).symm)
      have hb6 : Below w1.heap.size w1 w6 := by
        have h1 := HB.out.trans (HB2.out.mono HB.out.size)
        have h2 := h1.trans (HRB.out.mono h1.size)
        exact h2.grown hgrow h2.size fun k hk => (HPR.out.lt k hk).1
      have HPR6 := Lib.hid hpr6
      have HB6 := Lib.hid hb6
      clear hpr6 hb6 hown hgrow hat6 hlt6
      go_wp2_with fail
      go_roundw
      case rel => exact ⟨us.length + 1, by omega, by go_num, by rw [HTK.out]; exact HPR6.out, HB6.out⟩
      case measure => simp [intOf]; omega
    · obtain rfl : j = word.size := by omega
      rw [List.take_of_length_le (by rw [HTL.out]; exact Nat.le_refl _)] at HPR
      have HJN := Lib.hid (join_any wr w1.heap.size wr.heap.size HB.out.size (Nat.le_refl _) ts _ (HPR.out.rsl (fun b hb => (by simp only [above, decide_eq_true_eq]; exact hb))) (by rw [HTL.out]; omega) HK.out)
      obtain ⟨tr, htr⟩ : ∃ tr, joinR ts = tr := ⟨_, rfl⟩
      have hrt : realT tr = wordT word.data.toList := by rw [← htr, HTS.out]; exact real_word _
      have hfw := final_word word.data.toList (by rw [byte_list]; omega)
      have hsz1 : rsize tr ≤ 1048576 := by
        have h := join_size ts
        have h2 : rsizeL ts = word.size := by rw [HTS.out, bytes_size, byte_list]
        rw [htr] at h
        omega
      have hsz2 : sizeT (realT tr) ≤ 1048576 := by
        rw [hrt]
        have h := word_size word.data.toList
        rw [byte_list] at h
        omega
      have HMD := Lib.hid (fun (w : World) (N : Nat) (cs : List Value) (hN : N ≤ w.heap.size) (h : Rd w N tr cs) => made_any tr w N cs hN h hsz1 hsz2 (by rw [hrt]; exact right_word _) (by rw [hrt, hfw]) (by rw [hrt, hfw]; simp [plainP]) (by rw [hrt, hfw]))
      rw [htr] at HJN
      rw [hrt, hfw] at HMD
      obtain ⟨o, ho⟩ := findF_total word.data.toList s.data.toList (s.size + 1 - c) c
      have HFO := Lib.hid ho
      have HFD := Lib.hid (fun (w : World) R gi icap (h : Rx w R gi icap (plainP word.data.toList) ((0 : Nat) : Int) 0) => find_any w R gi icap (plainP word.data.toList) 0 0 s (word.data.toList.length + 4) c o (by simp [plainP, byte_list]; have := byte_list word; omega) (by omega) (plain_words _) (.inl rfl) (by omega) h ho)
      clear hrt hfw hsz1 hsz2 htr ho
      go_wp2_with fail
      refine HJN.out.mono ?_
      rintro e w2 ⟨cs, rfl, hb2, hrd⟩
      obtain ⟨k, s0, s1, s2, s3, al, nl, cl, mn, mx, num, rfl⟩ := hrd.form
      have HM := Lib.hid (HMD.out w2 w2.heap.size _ (Nat.le_refl _) hrd.unmask)
      have HB2 := Lib.hid (HB1.out.trans ((HB.out.trans (hb2.mono HB.out.size)).mono HB1.out.size))
      clear hb2 hrd
      go_wp2_with fail
      refine HM.out.mono ?_
      rintro e w3 ⟨R, gi, icap, rfl, hb3, hrx⟩
      have HRX := Lib.hid (show Rx w3 R gi icap (plainP word.data.toList) ((0 : Nat) : Int) 0 from hrx)
      have HB3 := Lib.hid (HB2.out.trans (hb3.mono HB2.out.size))
      clear hb3 hrx
      go_wp2_with fail
      refine (HFD.out w3 R gi icap HRX.out).mono ?_
      rintro e w4 ⟨hb4, hres⟩
      have HB4 := Lib.hid (HB3.out.trans (hb4.mono HB3.out.size))
      clear hb4
      cases o with
      | none =>
        simp only at hres
        subst hres
        have w1e : IntKind.i64.wrap ((s.size : Int) - (word.size : Int)) = (s.size : Int) - (word.size : Int) := IntWalk.i64_in _ (by omega)
        go_wp2_with fail
        go_loopw [13] (fun v wr => ∃ at_ : Nat, v = .int .i64 at_ ∧ at_ ≤ 1000 ∧ findF (plainP word.data.toList) s.data.toList (word.data.toList.length + 4) 2 (s.size + 1 - at_) at_ = some none ∧ Below w4.heap.size w4 wr) (fun v _ => s.size + 1 - (intOf v).toNat)
        case atStart => exact ⟨c, rfl, by omega, HFO.out, Below.refl _ _⟩
        case round =>
          obtain ⟨at_, rfl, hat, hfo, hbl⟩ := hrel
          have HF1 := Lib.hid hfo
          have HBL := Lib.hid hbl
          clear hfo hbl
          by_cases hle : at_ + word.size ≤ s.size
          · have c1 : (at_ : Int) ≤ (s.size : Int) - (word.size : Int) := by omega
            have e3 : IntKind.i64.wrap ((at_ : Int) + (word.size : Int)) = ((at_ + word.size : Nat) : Int) := by rw [IntWalk.i64_in _ (by omega)]; omega
            have e4 : IntKind.i64.wrap ((at_ : Int) + 1) = (at_ : Int) + 1 := IntWalk.i64_in _ (by omega)
            have c3 : ((at_ + word.size : Nat) : Int) ≤ (s.size : Int) := by omega
            have hpc := piece_is word s at_ hle
            rcases find_at _ _ s.size at_ _ (byte_list s) HF1.out (by rw [byte_list]; exact hle) with ⟨hp, ho⟩ | ⟨hp, hnx⟩
            · cases ho
            · rw [hp] at hpc
              have HNX := Lib.hid hnx
              clear hp hnx
              go_wp2_with fail
              go_roundw
              case rel => exact ⟨at_ + 1, by go_num, by omega, HNX.out, HBL.out⟩
              case measure => simp [intOf]; omega
          · have c1 : ¬ (at_ : Int) ≤ (s.size : Int) - (word.size : Int) := by omega
            go_wp2_with fail
            go_ret
            exact ⟨rfl, HB4.out.trans (HBL.out.mono HB4.out.size)⟩
      | some l =>
        obtain ⟨g, cc, rfl, hg, hl1, hl2, hin⟩ := hres
        have HIN := Lib.hid (show IntsIn w4 g l from hin)
        have HG := Lib.hid hg
        have HL2 := Lib.hid hl2
        clear hin hg
        have w1e : IntKind.i64.wrap ((s.size : Int) - (word.size : Int)) = (s.size : Int) - (word.size : Int) := IntWalk.i64_in _ (by omega)
        go_wp2_with fail
        go_loopw [13] (fun v wr => ∃ at_ : Nat, v = .int .i64 at_ ∧ at_ ≤ 1000 ∧ findF (plainP word.data.toList) s.data.toList (word.data.toList.length + 4) 2 (s.size + 1 - at_) at_ = some (some l) ∧ Below w4.heap.size w4 wr) (fun v _ => s.size + 1 - (intOf v).toNat)
        case atStart => exact ⟨c, rfl, by omega, HFO.out, Below.refl _ _⟩
        case round =>
          obtain ⟨at_, rfl, hat, hfo, hbl⟩ := hrel
          have HF1 := Lib.hid hfo
          have HBL := Lib.hid hbl
          clear hfo hbl
          by_cases hle : at_ + word.size ≤ s.size
          · have c1 : (at_ : Int) ≤ (s.size : Int) - (word.size : Int) := by omega
            have e3 : IntKind.i64.wrap ((at_ : Int) + (word.size : Int)) = ((at_ + word.size : Nat) : Int) := by rw [IntWalk.i64_in _ (by omega)]; omega
            have e4 : IntKind.i64.wrap ((at_ : Int) + 1) = (at_ : Int) + 1 := IntWalk.i64_in _ (by omega)
            have c3 : ((at_ + word.size : Nat) : Int) ≤ (s.size : Int) := by omega
            have hpc := piece_is word s at_ hle
            rcases find_at _ _ s.size at_ _ (byte_list s) HF1.out (by rw [byte_list]; exact hle) with ⟨hp, ho⟩ | ⟨hp, hnx⟩
            · rw [hp] at hpc
              simp only [Option.some.injEq] at ho
              rw [byte_list] at ho
              subst ho
              rw [Int.natCast_add] at HIN
              have hba : Below wr.heap.size wr (wr.alloc (.cells #[.int .i64 at_, .int .i64 ((at_ : Int) + (word.size : Int))] 3)) := (Below.refl _ _).alloc (Nat.le_refl _) _
              have hgr : g < wr.heap.size := Nat.lt_of_lt_of_le HG.out HBL.out.size
              have HSL := Lib.hid (slots_any (wr.alloc (.cells #[.int .i64 at_, .int .i64 ((at_ : Int) + (word.size : Int))] 3)) g wr.heap.size cc 2 [(at_ : Int), (at_ : Int) + (word.size : Int)] [(at_ : Int), (at_ : Int) + (word.size : Int)] (by simp) (by simp)
                (fun j u hu => (hba.cell (p := ⟨g, j, none⟩) hgr).trans ((HBL.out.cell (p := ⟨g, j, none⟩) HG.out).trans (HIN.out j u hu))) (ints_new wr [(at_ : Int), (at_ : Int) + (word.size : Int)] 3) (Nat.lt_of_lt_of_le hgr hba.size) (by simp))
              have HBA := Lib.hid hba
              clear hp hba hgr
              go_wp2_with fail
              refine HSL.out.mono ?_
              rintro e w5 ⟨rfl, hb5⟩
              have HB5 := Lib.hid ((HB4.out.trans (HBL.out.mono HB4.out.size)).trans ((HBA.out.trans (hb5.mono HBA.out.size)).mono (HB4.out.trans (HBL.out.mono HB4.out.size)).size))
              clear hb5
              simp only [decide_true]
              go_wp2_with fail
              go_ret
              exact ⟨rfl, HB5.out⟩
            · rw [hp] at hpc
              have HNX := Lib.hid hnx
              clear hp hnx
              go_wp2_with fail
              go_roundw
              case rel => exact ⟨at_ + 1, by go_num, by omega, HNX.out, HBL.out⟩
              case measure => simp [intOf]; omega
          · have := find_end _ _ s.size at_ _ (byte_list s) HF1.out (by rw [byte_list]; exact hle)
            cases this
end Go.Proofs.YtkaoegdfgoojdaaGreatDoor
