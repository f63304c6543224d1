/- awake of placketlaw08: the walk (seat 2). -/
import Derived.Test.YtkaoegdfgoojdaaGreatDoorParse
namespace Go.Proofs.YtkaoegdfgoojdaaGreatDoor
open Go Go.RowKit
set_option maxRecDepth 100000

theorem ints_new (w : World) (cs : List Int) (t : TypeId) : IntsIn (w.alloc (.cells (cs.map (Value.int .i64)).toArray t)) w.heap.size cs := fun j u hu => by
  rw [cell_of_row _ _ _ _ _ _ (heap_alloc_new w _)]
  simpa using hu

set_option maxHeartbeats 8000000 in
theorem wake_any (w : World) : Calls Tryz.prog 4 #[] w (Says w (.bool true)) := by
  obtain ⟨a1, a2, a3, a4, a5, a6⟩ := awake_final
  obtain ⟨z1, z2⟩ := awake_size
  have HP := Lib.hid (fun w => parse5_any awakeS (by decide) 40 _ _ awake_parse w)
  have HMD := Lib.hid (fun (w : World) (N : Nat) (cs : List Value) (hN : N ≤ w.heap.size) (h : Rd w N awakeT cs) => made_any awakeT w N cs hN h z1 z2 awake_right a1 a6 a4)
  obtain ⟨B, hB⟩ : ∃ B, finalB (realT awakeT) = B := ⟨_, rfl⟩
  have hf := awake_find
  have hh := awake_has
  have hn := awake_hasnt
  have hw := awake_words
  rw [hB] at a2 a5 hf hh hn hw HMD
  have HG := Lib.hid (show B.groups = ((2 : Nat) : Int) from a2)
  have HFD := Lib.hid (fun (w : World) R gi icap (h : Rx w R gi icap B.insts ((2 : Nat) : Int) B.loops) => (show Calls Tryz.prog 8 #[.pointer (some ⟨R, 0, none⟩), .string ⟨#[120, 97, 98, 99, 100]⟩, .int .i64 0] w (FindPost w (some [1, 5, 1, 2, 2, 5])) from find_any w R gi icap B.insts 2 B.loops ⟨#[120, 97, 98, 99, 100]⟩ 60 0 _ a5 (by decide) hw (.inr rfl) (Nat.zero_le _) h hf))
  have HHS := Lib.hid (fun (w : World) R gi icap (h : Rx w R gi icap B.insts ((2 : Nat) : Int) B.loops) => (show Calls Tryz.prog 11 #[.pointer (some ⟨R, 0, none⟩), .string ⟨#[97, 98, 99]⟩] w (Says w (.bool true)) from hasRe_any w R gi icap B.insts 2 B.loops ⟨#[97, 98, 99]⟩ 60 _ a5 (by decide) hw (.inr rfl) h hh))
  have HHN := Lib.hid (fun (w : World) R gi icap (h : Rx w R gi icap B.insts ((2 : Nat) : Int) B.loops) => (show Calls Tryz.prog 11 #[.pointer (some ⟨R, 0, none⟩), .string ⟨#[97, 98]⟩] w (Says w (.bool false)) from hasRe_any w R gi icap B.insts 2 B.loops ⟨#[97, 98]⟩ 60 _ a5 (by decide) hw (.inr rfl) h hn))
  unfold awakeS at HP
  clear a1 a2 a3 a4 a5 a6 z1 z2 hf hh hn hw hB
  go_enter Tryz.func4, Tryz.ntmps4
  go_wp2_with fail
  refine (HP.out w).mono ?_
  rintro e w1 ⟨cs, rfl, hb1, hrd⟩
  obtain ⟨k, s0, s1, s2, s3, al, nl, cl, mn, mx, num, rfl⟩ := hrd.form
  have hba : Below w1.heap.size w1 (w1.alloc (.cells #[.int .i64 k, .int .u64 s0, .int .u64 s1, .int .u64 s2, .int .u64 s3, .slice al nl cl, .int .i64 mn, .int .i64 mx, .int .i64 num] 28)) := (Below.refl _ _).alloc (Nat.le_refl _) _
  have HM := Lib.hid (HMD.out _ w1.heap.size _ hba.size (Rd.below hba _ _ hrd.unmask))
  have HB1 := Lib.hid (hb1.trans (hba.mono hb1.size))
  clear hb1 hrd hba
  go_wp2_with fail
  refine HM.out.mono ?_
  rintro e w2 ⟨R, gi, icap, rfl, hb2, hrx⟩
  rw [HG.out] at hrx
  have HRX := Lib.hid hrx
  have HB2 := Lib.hid (HB1.out.trans (hb2.mono HB1.out.size))
  clear hb2 hrx
  go_wp2_with fail
  refine (HFD.out w2 R gi icap HRX.out).mono ?_
  rintro e w3 ⟨hb3, g, c, rfl, hg, _, _, hin⟩
  have HB3 := Lib.hid (HB2.out.trans (hb3.mono HB2.out.size))
  have HRX3 := Lib.hid (HRX.out.below hb3)
  have HIN := Lib.hid (show IntsIn w3 g [1, 5, 1, 2, 2, 5] from hin)
  have HG3 := Lib.hid hg
  clear hb3 hin hg
  go_wp2_with fail
  have hba : Below w3.heap.size w3 (w3.alloc (.cells #[.int .i64 1, .int .i64 5, .int .i64 1, .int .i64 2, .int .i64 2, .int .i64 5] 3)) := (Below.refl _ _).alloc (Nat.le_refl _) _
  refine (slots_any _ g w3.heap.size c 6 [1, 5, 1, 2, 2, 5] [1, 5, 1, 2, 2, 5] (by decide) (by decide) (fun j u hu => (hba.cell (p := ⟨g, j, none⟩) HG3.out).trans (HIN.out j u hu)) (ints_new w3 [1, 5, 1, 2, 2, 5] 3) (Nat.lt_of_lt_of_le HG3.out hba.size) (by simp)).mono ?_
  rintro e w4 ⟨rfl, hb4⟩
  have hb34 := hba.trans (hb4.mono hba.size)
  have HRX4 := Lib.hid (HRX3.out.below hb34)
  have HB4 := Lib.hid (HB3.out.trans (hb34.mono HB3.out.size))
  clear hba hb4 hb34
  go_wp2_with fail
  refine (HHS.out w4 R gi icap HRX4.out).mono ?_
  rintro e w5 ⟨rfl, hb5⟩
  have HRX5 := Lib.hid (HRX4.out.below hb5)
  have HB5 := Lib.hid (HB4.out.trans (hb5.mono HB4.out.size))
  clear hb5
  go_wp2_with fail
  refine (HHN.out w5 R gi icap HRX5.out).mono ?_
  rintro e w6 ⟨rfl, hb6⟩
  have HRX6 := Lib.hid (HRX5.out.below hb6)
  have HB6 := Lib.hid (HB5.out.trans (hb6.mono HB5.out.size))
  clear hb6
  go_wp2_with fail
  refine (groupsRe_any w6 R gi icap B.insts _ B.loops HRX6.out).mono ?_
  rintro e w7 ⟨rfl, hb7⟩
  have HB7 := Lib.hid (HB6.out.trans (hb7.mono HB6.out.size))
  clear hb7
  go_wp2_with fail
  go_ret
  exact ⟨rfl, HB7.out⟩
end Go.Proofs.YtkaoegdfgoojdaaGreatDoor

/- MatchPlain: what Find answers at a plain word, in plain Lean (seat 2). -/
namespace Go.Proofs.YtkaoegdfgoojdaaGreatDoor
open Go Go.RowKit
set_option maxRecDepth 100000

theorem findF_step (wd s : List UInt8) (k at_ : Nat) : findF (plainP wd) s (wd.length + 4) 2 (k + 1) at_ = if wd.isPrefixOf (s.drop at_) then some (some [(at_ : Int), ((at_ + wd.length : Nat) : Int)]) else findF (plainP wd) s (wd.length + 4) 2 k (at_ + 1) := by
  rw [findF]
  have h := runF_plain wd s at_
  have e : List.replicate 2 (-1 : Int) = [-1, -1] := rfl
  rw [e, h, Option.bind_some]
  by_cases hp : wd.isPrefixOf (s.drop at_) = true
  · simp [hp]
  · simp [hp]
theorem findF_total (wd s : List UInt8) : ∀ k at_, ∃ o, findF (plainP wd) s (wd.length + 4) 2 k at_ = some o := by
  intro k
  induction k with
  | zero => intro at_; exact ⟨none, rfl⟩
  | succ k ih =>
    intro at_
    rw [findF_step]
    split
    · exact ⟨_, rfl⟩
    · exact ih _
theorem findF_none (wd s : List UInt8) : ∀ k at_, (∀ j, at_ ≤ j → j < at_ + k → wd.isPrefixOf (s.drop j) = false) → findF (plainP wd) s (wd.length + 4) 2 k at_ = some none := by
  intro k
  induction k with
  | zero => intro at_ _; rfl
  | succ k ih =>
    intro at_ h
    rw [findF_step, if_neg (by rw [h at_ (Nat.le_refl _) (by omega)]; simp)]
    exact ih _ (fun j hj hj2 => h j (by omega) (by omega))
theorem prefix_long (wd s : List UInt8) (j : Nat) (hj : j ≤ s.length) (h : s.length < j + wd.length) : wd.isPrefixOf (s.drop j) = false := by
  rw [Bool.eq_false_iff]
  intro e
  have := (List.isPrefixOf_iff_prefix.1 e).length_le
  rw [List.length_drop] at this
  omega
theorem real_word (wd : List UInt8) : realT (joinR (wd.map fun c => byteR c.toNat)) = wordT wd := by
  match wd with
  | [] => rfl
  | [c] => rfl
  | c :: d :: r =>
    have h1 : ∀ c : UInt8, realT (byteR c.toNat) = oneT c := fun c => rfl
    simp [joinR, realT, wordT, realL_map, h1]
theorem plain_words (wd : List UInt8) : ∀ i ∈ plainP wd, ∀ c, 0 ≤ wordOf i c ∧ wordOf i c ≤ 18446744073709551615 := by
  apply words_of
  have hb : ∀ c : UInt8, (0 ≤ (byteI c.toNat).s0 ∧ (byteI c.toNat).s0 ≤ 18446744073709551615) ∧ (0 ≤ (byteI c.toNat).s1 ∧ (byteI c.toNat).s1 ≤ 18446744073709551615) ∧ (0 ≤ (byteI c.toNat).s2 ∧ (byteI c.toNat).s2 ≤ 18446744073709551615) ∧ (0 ≤ (byteI c.toNat).s3 ∧ (byteI c.toNat).s3 ≤ 18446744073709551615) := by
    have h : ∀ n : Fin 256, (0 ≤ (byteI n.val).s0 ∧ (byteI n.val).s0 ≤ 18446744073709551615) ∧ (0 ≤ (byteI n.val).s1 ∧ (byteI n.val).s1 ≤ 18446744073709551615) ∧ (0 ≤ (byteI n.val).s2 ∧ (byteI n.val).s2 ≤ 18446744073709551615) ∧ (0 ≤ (byteI n.val).s3 ∧ (byteI n.val).s3 ≤ 18446744073709551615) := by decide +kernel
    exact fun c => h ⟨c.toNat, UInt8.toNat_lt _⟩
  intro i hi
  rcases List.mem_cons.1 hi with rfl | hi
  · simp [inst]
  · rcases List.mem_append.1 hi with hi | hi
    · obtain ⟨c, _, rfl⟩ := List.mem_map.1 hi
      exact hb c
    · simp only [List.mem_cons, List.not_mem_nil, or_false] at hi
      rcases hi with rfl | rfl <;> simp [inst]
/-- The word stands at a place just if the piece is the word. -/
theorem piece_is (wd s : ByteArray) (j : Nat) (h : j + wd.size ≤ s.size) : ((s.extract j (j + wd.size)).toList == wd.toList) = wd.data.toList.isPrefixOf (s.data.toList.drop j) := by
  rw [ByteArray.toList_eq, ByteArray.toList_eq, ByteArray.data_extract]
  have hs : s.data.size = s.size := rfl
  have hw : wd.data.toList.length = wd.size := by rw [Array.length_toList]; rfl
  have e : (s.data.extract j (j + wd.size)).toList = (s.data.toList.drop j).take wd.size := by
    rw [Array.toList_extract, List.extract_eq_take_drop]
    congr 1
    omega
  rw [e, Bool.eq_iff_iff, beq_iff_eq, List.isPrefixOf_iff_prefix, List.prefix_iff_eq_take, hw]
  exact eq_comm
end Go.Proofs.YtkaoegdfgoojdaaGreatDoor
