/- one; the reading of an atom: the walks (seat 2; printed by parse.py). -/
import Derived.Test.YtkaoegdfgoojdaaGreatDoorParseP
import Derived.Deep.DeepCutAuto
import Derived.Deep.CutBlock
import Derived.Deep.RegionHeld3
namespace Go.Proofs.YtkaoegdfgoojdaaGreatDoor
open Go Go.RowKit
set_option maxRecDepth 100000

set_option maxHeartbeats 1600000 in
theorem one_any (w : World) (c : Nat) : Calls Tryz.prog 96 #[byteS c] w (Says w (.agg (byteCells c).toArray)) := by
  unfold byteS
  go_enter Tryz.func96, Tryz.ntmps96
  go_wp2_with fail
  refine bodyPost_ret (v := .agg (byteCells c).toArray) (by simp [byteCells, results, Tryz.results96, go_sem]) rfl ⟨rfl, ?_⟩
  first
    | exact (Below.refl _ _).alloc (Nat.le_refl _) _
    | exact ((Below.refl _ _).alloc (Nat.le_refl _) _).alloc (by simp) _

/-- The groups that were closed. -/
def CL (w : World) (a : Option Addr) (n c : Nat) (cl : List Int) : Prop :=
  (cl = [] ∧ a = none ∧ n = 0 ∧ c = 0) ∨ ∃ g, a = some ⟨g, 0, none⟩ ∧ n = cl.length ∧ 0 < n ∧ n ≤ 1048576 ∧ g < w.heap.size ∧ IntsIn w g cl
theorem CL.below {w w' : World} {a : Option Addr} {n c : Nat} {cl : List Int} (h : CL w a n c cl) (hb : Below w.heap.size w w') : CL w' a n c cl := by
  rcases h with h | ⟨g, h1, h2, h3, h4, h5, h6⟩
  · exact .inl h
  · exact .inr ⟨g, h1, h2, h3, h4, Nat.lt_of_lt_of_le h5 hb.size, fun j u hu => (hb.cell (p := ⟨g, j, none⟩) h5).trans (h6 j u hu)⟩

/-- What a part of the reading leaves. -/
def ParsePost (w : World) (S : ByteArray) (a0 : Option Addr) (r : PS) (t : RT) (e : Ending) (w' : World) : Prop :=
  ∃ a n c cs, e = .returned (.tuple #[rVal S r.at_ r.opn a n c, .agg cs.toArray]) ∧ Below w.heap.size w w' ∧ Rd (mask (above w.heap.size) w') w'.heap.size t cs ∧ CL w' a n c r.cl ∧ (a = a0 ∨ ∃ g, a = some ⟨g, 0, none⟩ ∧ w.heap.size ≤ g)

def ChoiceC (S : ByteArray) (f : Nat) : Prop := ∀ r deep r' t, choiceF S.data.toList f r deep = some (r', t) → ∀ w a n c, CL w a n c r.cl → deep ≤ 12 → r.opn ≤ 1001 →
  Calls Tryz.prog 36 #[rVal S r.at_ r.opn a n c, .int .i64 deep] w (ParsePost w S a r' t)
def AtomC (S : ByteArray) (f : Nat) : Prop := ∀ r deep r' t, atomF S.data.toList f r deep = some (r', t) → ∀ w a n c, CL w a n c r.cl →
  Calls Tryz.prog 80 #[rVal S r.at_ r.opn a n c, .int .i64 deep] w (ParsePost w S a r' t)
def BranchC (S : ByteArray) (f : Nat) : Prop := ∀ r deep r' t, branchF S.data.toList f r deep [] = some (r', t) → ∀ w a n c, CL w a n c r.cl → deep ≤ 12 →
  Calls Tryz.prog 52 #[rVal S r.at_ r.opn a n c, .int .i64 deep] w (ParsePost w S a r' t)

theorem byte_at {S : ByteArray} {i : Nat} {c : UInt8} (h : S.data.toList[i]? = some c) : ∃ hi : i < S.size, S[i]'hi = c := by
  obtain ⟨h1, h2⟩ := List.getElem?_eq_some_iff.1 h
  rw [Array.length_toList] at h1
  rw [Array.getElem_toList] at h2
  exact ⟨h1, h2⟩
theorem no_byte {S : ByteArray} {i : Nat} (h : S.data.toList[i]? = none) : ¬ i < S.size := fun hi => by
  have h2 := List.getElem?_eq_none_iff.1 h
  rw [Array.length_toList] at h2
  exact absurd hi (by show ¬ i < S.data.size; omega)
theorem one_ne (c d : UInt8) (h : c ≠ d) : ((ByteArray.mk #[c]).toList == [d]) = false := by
  rw [toList_one]
  simp [h]
theorem one_eq (c : UInt8) : ((ByteArray.mk #[c]).toList == [c]) = true := by
  rw [toList_one]
  simp

set_option maxHeartbeats 8000000 in
/-- An atom of one byte. -/
theorem atom_byte (S : ByteArray) (hS : S.size ≤ 1048576) (r : PS) (deep : Nat) (ch : UInt8) (hi : r.at_ < S.size) (hch : S[r.at_]'hi = ch) (h40 : ch ≠ 40) (h41 : ch ≠ 41) (h91 : ch ≠ 91) (h46 : ch ≠ 46) (h92 : ch ≠ 92) (w : World) (a : Option Addr) (n c : Nat) (hcl : CL w a n c r.cl) :
    Calls Tryz.prog 80 #[rVal S r.at_ r.opn a n c, .int .i64 deep] w (ParsePost w S a ⟨r.at_ + 1, r.opn, r.cl⟩ (byteR ch.toNat)) := by
  have hsig : ∀ w', Calls Tryz.prog 53 #[rVal S r.at_ r.opn a n c, .int .i64 r.at_] w' (Says w' (.string ⟨#[ch]⟩)) := fun w' => by
    rw [← hch]
    exact sign_byte w' S r.at_ r.opn a n c r.at_ hi hS (by rw [hch]; intro e; exact h92 (UInt8.toNat_inj.1 e))
  have HCL := Lib.hid hcl
  have HSIG := Lib.hid hsig
  have HOP := Lib.hid (fun (w' : World) (b : ByteArray) => op_any w' S r.at_ r.opn a n c b)
  have c40 : (ch == 40) = false := by simp [h40]
  have c41 : (ch == 41) = false := by simp [h41]
  have c91 : (ch == 91) = false := by simp [h91]
  have c46 : (ch == 46) = false := by simp [h46]
  have c92 : (ch == 92) = false := by simp [h92]
  have hsz : (ByteArray.mk #[ch]).size = 1 := rfl
  have HSP := Lib.hid (fun w' => span_any w' ch.toNat (UInt8.toNat_lt _))
  have HON := Lib.hid (fun w' => one_any w' ch.toNat)
  have e1 : IntKind.i64.wrap ((r.at_ : Int) + 1) = (r.at_ : Int) + 1 := IntWalk.i64_in _ (by omega)
  obtain ⟨b0, z0, g2, g4, g5⟩ := alloc3 w (.cells #[.string S, .bool true, .int .i64 r.at_, .int .i64 r.opn, .slice a n c, .slice none 0 0, .int .i64 0, .int .i64 0] 105) (.cells #[.string ⟨#[]⟩, .bool false, .int .i64 0, .int .i64 0, .slice none 0 0, .slice none 0 0, .int .i64 0, .int .i64 0] 105) (.cells #[.int .i64 0, .int .u64 0, .int .u64 0, .int .u64 0, .int .u64 0, .slice none 0 0, .int .i64 0, .int .i64 0, .int .i64 0] 28)
  have HB0 := Lib.hid b0
  have HSZ0 := Lib.hid (Nat.le_of_eq z0.symm)
  have H20 := Lib.hid g2
  have H40 := Lib.hid g4
  have H50 := Lib.hid g5
  clear hcl hsig b0 z0 g2 g4 g5 hch
  unfold rVal
  go_enter Tryz.func80, Tryz.ntmps80
  go_wp2_with fail
  generalize ((w.alloc (.cells #[.string S, .bool true, .int .i64 r.at_, .int .i64 r.opn, .slice a n c, .slice none 0 0, .int .i64 0, .int .i64 0] 105)).alloc (.cells #[.string ⟨#[]⟩, .bool false, .int .i64 0, .int .i64 0, .slice none 0 0, .slice none 0 0, .int .i64 0, .int .i64 0] 105)).alloc (.cells #[.int .i64 0, .int .u64 0, .int .u64 0, .int .u64 0, .int .u64 0, .slice none 0 0, .int .i64 0, .int .i64 0, .int .i64 0] 28) = W0 at *
  refine (HSIG.out _).mono ?_
  rintro e W1 ⟨rfl, hb⟩
  have H21 := Lib.hid ((hb.block (w.heap.size) (by have := HSZ0.out; omega)).trans H20.out)
  have H41 := Lib.hid ((hb.block (w.heap.size + 1) (by have := HSZ0.out; omega)).trans H40.out)
  have H51 := Lib.hid ((hb.block (w.heap.size + 1 + 1) (by have := HSZ0.out; omega)).trans H50.out)
  have HSZ1 := Lib.hid (show w.heap.size + 3 ≤ W1.heap.size by have := HSZ0.out; have := hb.size; omega)
  have HB1 := Lib.hid (HB0.out.trans (hb.mono HB0.out.size))
  clear hb
  have p0 : W1.cell? ⟨w.heap.size, 0, none⟩ = some (.string S) := cell_of H21.out (j := 0) rfl
  have p1 : W1.cell? ⟨w.heap.size, 1, none⟩ = some (.bool true) := cell_of H21.out (j := 1) rfl
  have p2 : W1.cell? ⟨w.heap.size, 2, none⟩ = some (.int .i64 r.at_) := cell_of H21.out (j := 2) rfl
  have p3 : W1.cell? ⟨w.heap.size, 3, none⟩ = some (.int .i64 r.opn) := cell_of H21.out (j := 3) rfl
  have p4 : W1.cell? ⟨w.heap.size, 4, none⟩ = some (.slice a n c) := cell_of H21.out (j := 4) rfl
  have p5 : W1.cell? ⟨w.heap.size, 5, none⟩ = some (.slice none 0 0) := cell_of H21.out (j := 5) rfl
  have p6 : W1.cell? ⟨w.heap.size, 6, none⟩ = some (.int .i64 0) := cell_of H21.out (j := 6) rfl
  have p7 : W1.cell? ⟨w.heap.size, 7, none⟩ = some (.int .i64 0) := cell_of H21.out (j := 7) rfl
  go_wp2_with fail
  refine (HOP.out _ _).mono ?_
  rintro e W2 ⟨rfl, hb⟩
  clear p0 p1 p2 p3 p4 p5 p6 p7
  have H22 := Lib.hid ((hb.block (w.heap.size) (by have := HSZ1.out; omega)).trans H21.out)
  have H42 := Lib.hid ((hb.block (w.heap.size + 1) (by have := HSZ1.out; omega)).trans H41.out)
  have H52 := Lib.hid ((hb.block (w.heap.size + 1 + 1) (by have := HSZ1.out; omega)).trans H51.out)
  have HSZ2 := Lib.hid (show w.heap.size + 3 ≤ W2.heap.size by have := HSZ1.out; have := hb.size; omega)
  have HB2 := Lib.hid (HB1.out.trans (hb.mono HB1.out.size))
  clear hb
  have p0 : W2.cell? ⟨w.heap.size, 0, none⟩ = some (.string S) := cell_of H22.out (j := 0) rfl
  have p1 : W2.cell? ⟨w.heap.size, 1, none⟩ = some (.bool true) := cell_of H22.out (j := 1) rfl
  have p2 : W2.cell? ⟨w.heap.size, 2, none⟩ = some (.int .i64 r.at_) := cell_of H22.out (j := 2) rfl
  have p3 : W2.cell? ⟨w.heap.size, 3, none⟩ = some (.int .i64 r.opn) := cell_of H22.out (j := 3) rfl
  have p4 : W2.cell? ⟨w.heap.size, 4, none⟩ = some (.slice a n c) := cell_of H22.out (j := 4) rfl
  have p5 : W2.cell? ⟨w.heap.size, 5, none⟩ = some (.slice none 0 0) := cell_of H22.out (j := 5) rfl
  have p6 : W2.cell? ⟨w.heap.size, 6, none⟩ = some (.int .i64 0) := cell_of H22.out (j := 6) rfl
  have p7 : W2.cell? ⟨w.heap.size, 7, none⟩ = some (.int .i64 0) := cell_of H22.out (j := 7) rfl
  go_wp2_with fail
  refine (HOP.out _ _).mono ?_
  rintro e W3 ⟨rfl, hb⟩
  clear p0 p1 p2 p3 p4 p5 p6 p7
  have H23 := Lib.hid ((hb.block (w.heap.size) (by have := HSZ2.out; omega)).trans H22.out)
  have H43 := Lib.hid ((hb.block (w.heap.size + 1) (by have := HSZ2.out; omega)).trans H42.out)
  have H53 := Lib.hid ((hb.block (w.heap.size + 1 + 1) (by have := HSZ2.out; omega)).trans H52.out)
  have HSZ3 := Lib.hid (show w.heap.size + 3 ≤ W3.heap.size by have := HSZ2.out; have := hb.size; omega)
  have HB3 := Lib.hid (HB2.out.trans (hb.mono HB2.out.size))
  clear hb
  have p0 : W3.cell? ⟨w.heap.size, 0, none⟩ = some (.string S) := cell_of H23.out (j := 0) rfl
  have p1 : W3.cell? ⟨w.heap.size, 1, none⟩ = some (.bool true) := cell_of H23.out (j := 1) rfl
  have p2 : W3.cell? ⟨w.heap.size, 2, none⟩ = some (.int .i64 r.at_) := cell_of H23.out (j := 2) rfl
  have p3 : W3.cell? ⟨w.heap.size, 3, none⟩ = some (.int .i64 r.opn) := cell_of H23.out (j := 3) rfl
  have p4 : W3.cell? ⟨w.heap.size, 4, none⟩ = some (.slice a n c) := cell_of H23.out (j := 4) rfl
  have p5 : W3.cell? ⟨w.heap.size, 5, none⟩ = some (.slice none 0 0) := cell_of H23.out (j := 5) rfl
  have p6 : W3.cell? ⟨w.heap.size, 6, none⟩ = some (.int .i64 0) := cell_of H23.out (j := 6) rfl
  have p7 : W3.cell? ⟨w.heap.size, 7, none⟩ = some (.int .i64 0) := cell_of H23.out (j := 7) rfl
  have f2 := frozen_of_row W3 w.heap.size 2 _ _ H23.out
  go_upto_region 33 with (fail)
  have hb : Below w.heap.size w (W3.setCell ⟨w.heap.size, 2, none⟩ (.int .i64 ((r.at_ : Int) + 1))) := HB3.out.setCell (Nat.le_refl _) _
  have h24 : (W3.setCell ⟨w.heap.size, 2, none⟩ (.int .i64 ((r.at_ : Int) + 1))).heap[w.heap.size]? = some (.cells #[.string S, .bool true, .int .i64 ((r.at_ : Int) + 1), .int .i64 r.opn, .slice a n c, .slice none 0 0, .int .i64 0, .int .i64 0] 105 (0, 0)) := heap_setCell_same _ _ 2 _ _ _ H23.out
  have h44 := (Below.heap_setCell (W3) ⟨w.heap.size, 2, none⟩ (.int .i64 ((r.at_ : Int) + 1)) (w.heap.size + 1) (by simp)).trans H43.out
  have h54 := (Below.heap_setCell (W3) ⟨w.heap.size, 2, none⟩ (.int .i64 ((r.at_ : Int) + 1)) (w.heap.size + 1 + 1) (by simp; omega)).trans H53.out
  have hz4 : w.heap.size + 3 ≤ (W3.setCell ⟨w.heap.size, 2, none⟩ (.int .i64 ((r.at_ : Int) + 1))).heap.size := by simpa [World.setCell] using HSZ3.out
  have HB4 := Lib.hid hb
  have H24 := Lib.hid h24
  have H44 := Lib.hid h44
  have H54 := Lib.hid h54
  have HSZ4 := Lib.hid hz4
  clear hb h24 h44 h54 hz4 f2 p0 p1 p2 p3 p4 p5 p6 p7
  generalize W3.setCell ⟨w.heap.size, 2, none⟩ (.int .i64 ((r.at_ : Int) + 1)) = W4 at *
  have p0 : W4.cell? ⟨w.heap.size, 0, none⟩ = some (.string S) := cell_of H24.out (j := 0) rfl
  have p1 : W4.cell? ⟨w.heap.size, 1, none⟩ = some (.bool true) := cell_of H24.out (j := 1) rfl
  have p2 : W4.cell? ⟨w.heap.size, 2, none⟩ = some (.int .i64 ((r.at_ : Int) + 1)) := cell_of H24.out (j := 2) rfl
  have p3 : W4.cell? ⟨w.heap.size, 3, none⟩ = some (.int .i64 r.opn) := cell_of H24.out (j := 3) rfl
  have p4 : W4.cell? ⟨w.heap.size, 4, none⟩ = some (.slice a n c) := cell_of H24.out (j := 4) rfl
  have p5 : W4.cell? ⟨w.heap.size, 5, none⟩ = some (.slice none 0 0) := cell_of H24.out (j := 5) rfl
  have p6 : W4.cell? ⟨w.heap.size, 6, none⟩ = some (.int .i64 0) := cell_of H24.out (j := 6) rfl
  have p7 : W4.cell? ⟨w.heap.size, 7, none⟩ = some (.int .i64 0) := cell_of H24.out (j := 7) rfl
  unfold byteCells at HON
  go_region_held3 (fun w' => w'.cell? ⟨w.heap.size, 0, none⟩ = some (.string S) ∧ w'.cell? ⟨w.heap.size, 1, none⟩ = some (.bool true) ∧ w'.cell? ⟨w.heap.size, 2, none⟩ = some (.int .i64 ((r.at_ : Int) + 1)) ∧ w'.cell? ⟨w.heap.size, 3, none⟩ = some (.int .i64 r.opn) ∧ w'.cell? ⟨w.heap.size, 4, none⟩ = some (.slice a n c) ∧ w'.cell? ⟨w.heap.size, 5, none⟩ = some (.slice none 0 0) ∧ w'.cell? ⟨w.heap.size, 6, none⟩ = some (.int .i64 0) ∧ w'.cell? ⟨w.heap.size, 7, none⟩ = some (.int .i64 0))
    (first | with_reducible exact HK9.out | with_reducible exact HK8.out | with_reducible exact HK6.out | with_reducible exact HK5.out | go_keep)
    (first | (go_at_call 13; refine (HSP.out _).mono ?_; rintro e W5 ⟨rfl, hb5⟩; have hbb := (Below.drew (Below.refl W4.heap.size W4)).trans hb5; have H25 := Lib.hid ((hbb.block (w.heap.size) (by have := HSZ4.out; omega)).trans H24.out); have H45 := Lib.hid ((hbb.block (w.heap.size + 1) (by have := HSZ4.out; omega)).trans H44.out); have H55 := Lib.hid ((hbb.block (w.heap.size + 1 + 1) (by have := HSZ4.out; omega)).trans H54.out); have HSZ5 := Lib.hid (show w.heap.size + 3 ≤ W5.heap.size by have := HSZ4.out; have := hbb.size; omega); have HB5 := Lib.hid (HB4.out.trans (hbb.mono HB4.out.size)); have HK5 := Lib.hid (show W5.cell? ⟨w.heap.size, 0, none⟩ = some (.string S) ∧ W5.cell? ⟨w.heap.size, 1, none⟩ = some (.bool true) ∧ W5.cell? ⟨w.heap.size, 2, none⟩ = some (.int .i64 ((r.at_ : Int) + 1)) ∧ W5.cell? ⟨w.heap.size, 3, none⟩ = some (.int .i64 r.opn) ∧ W5.cell? ⟨w.heap.size, 4, none⟩ = some (.slice a n c) ∧ W5.cell? ⟨w.heap.size, 5, none⟩ = some (.slice none 0 0) ∧ W5.cell? ⟨w.heap.size, 6, none⟩ = some (.int .i64 0) ∧ W5.cell? ⟨w.heap.size, 7, none⟩ = some (.int .i64 0) from ⟨cell_of H25.out (j := 0) rfl, cell_of H25.out (j := 1) rfl, cell_of H25.out (j := 2) rfl, cell_of H25.out (j := 3) rfl, cell_of H25.out (j := 4) rfl, cell_of H25.out (j := 5) rfl, cell_of H25.out (j := 6) rfl, cell_of H25.out (j := 7) rfl⟩); clear hb5 hbb) | (go_at_call 96; refine (HON.out _).mono ?_; rintro e W6 ⟨rfl, hb6⟩; have H26 := Lib.hid ((hb6.block (w.heap.size) (by have := HSZ5.out; omega)).trans H25.out); have H46 := Lib.hid ((hb6.block (w.heap.size + 1) (by have := HSZ5.out; omega)).trans H45.out); have H56 := Lib.hid ((hb6.block (w.heap.size + 1 + 1) (by have := HSZ5.out; omega)).trans H55.out); have HSZ6 := Lib.hid (show w.heap.size + 3 ≤ W6.heap.size by have := HSZ5.out; have := hb6.size; omega); have HB6 := Lib.hid (HB5.out.trans (hb6.mono HB5.out.size)); have HK6 := Lib.hid (show W6.cell? ⟨w.heap.size, 0, none⟩ = some (.string S) ∧ W6.cell? ⟨w.heap.size, 1, none⟩ = some (.bool true) ∧ W6.cell? ⟨w.heap.size, 2, none⟩ = some (.int .i64 ((r.at_ : Int) + 1)) ∧ W6.cell? ⟨w.heap.size, 3, none⟩ = some (.int .i64 r.opn) ∧ W6.cell? ⟨w.heap.size, 4, none⟩ = some (.slice a n c) ∧ W6.cell? ⟨w.heap.size, 5, none⟩ = some (.slice none 0 0) ∧ W6.cell? ⟨w.heap.size, 6, none⟩ = some (.int .i64 0) ∧ W6.cell? ⟨w.heap.size, 7, none⟩ = some (.int .i64 0) from ⟨cell_of H26.out (j := 0) rfl, cell_of H26.out (j := 1) rfl, cell_of H26.out (j := 2) rfl, cell_of H26.out (j := 3) rfl, cell_of H26.out (j := 4) rfl, cell_of H26.out (j := 5) rfl, cell_of H26.out (j := 6) rfl, cell_of H26.out (j := 7) rfl⟩); obtain ⟨k4, o4, b4⟩ := put8 H46.out (.string S) (.bool true) (.int .i64 ((r.at_ : Int) + 1)) (.int .i64 r.opn) (.slice a n c) (.slice none 0 0) (.int .i64 0) (.int .i64 0); obtain ⟨k5, o5, b5⟩ := put9 ((o4 (w.heap.size + 1 + 1) (by omega)).trans H56.out) (.int .i64 1) (.int .u64 (byteI ch.toNat).s0) (.int .u64 (byteI ch.toNat).s1) (.int .u64 (byteI ch.toNat).s2) (.int .u64 (byteI ch.toNat).s3) (.slice none 0 0) (.int .i64 0) (.int .i64 0) (.int .i64 0); have hr8 := (o4 w.heap.size (by omega)).trans H26.out; have hr9 := (o5 w.heap.size (by omega)).trans hr8; have HK8 := Lib.hid (show ((((((((W6.setCell ⟨w.heap.size + 1, 0, none⟩ (.string S)).setCell ⟨w.heap.size + 1, 1, none⟩ (.bool true)).setCell ⟨w.heap.size + 1, 2, none⟩ (.int .i64 ((r.at_ : Int) + 1))).setCell ⟨w.heap.size + 1, 3, none⟩ (.int .i64 r.opn)).setCell ⟨w.heap.size + 1, 4, none⟩ (.slice a n c)).setCell ⟨w.heap.size + 1, 5, none⟩ (.slice none 0 0)).setCell ⟨w.heap.size + 1, 6, none⟩ (.int .i64 0)).setCell ⟨w.heap.size + 1, 7, none⟩ (.int .i64 0)).cell? ⟨w.heap.size, 0, none⟩ = some (.string S) ∧ ((((((((W6.setCell ⟨w.heap.size + 1, 0, none⟩ (.string S)).setCell ⟨w.heap.size + 1, 1, none⟩ (.bool true)).setCell ⟨w.heap.size + 1, 2, none⟩ (.int .i64 ((r.at_ : Int) + 1))).setCell ⟨w.heap.size + 1, 3, none⟩ (.int .i64 r.opn)).setCell ⟨w.heap.size + 1, 4, none⟩ (.slice a n c)).setCell ⟨w.heap.size + 1, 5, none⟩ (.slice none 0 0)).setCell ⟨w.heap.size + 1, 6, none⟩ (.int .i64 0)).setCell ⟨w.heap.size + 1, 7, none⟩ (.int .i64 0)).cell? ⟨w.heap.size, 1, none⟩ = some (.bool true) ∧ ((((((((W6.setCell ⟨w.heap.size + 1, 0, none⟩ (.string S)).setCell ⟨w.heap.size + 1, 1, none⟩ (.bool true)).setCell ⟨w.heap.size + 1, 2, none⟩ (.int .i64 ((r.at_ : Int) + 1))).setCell ⟨w.heap.size + 1, 3, none⟩ (.int .i64 r.opn)).setCell ⟨w.heap.size + 1, 4, none⟩ (.slice a n c)).setCell ⟨w.heap.size + 1, 5, none⟩ (.slice none 0 0)).setCell ⟨w.heap.size + 1, 6, none⟩ (.int .i64 0)).setCell ⟨w.heap.size + 1, 7, none⟩ (.int .i64 0)).cell? ⟨w.heap.size, 2, none⟩ = some (.int .i64 ((r.at_ : Int) + 1)) ∧ ((((((((W6.setCell ⟨w.heap.size + 1, 0, none⟩ (.string S)).setCell ⟨w.heap.size + 1, 1, none⟩ (.bool true)).setCell ⟨w.heap.size + 1, 2, none⟩ (.int .i64 ((r.at_ : Int) + 1))).setCell ⟨w.heap.size + 1, 3, none⟩ (.int .i64 r.opn)).setCell ⟨w.heap.size + 1, 4, none⟩ (.slice a n c)).setCell ⟨w.heap.size + 1, 5, none⟩ (.slice none 0 0)).setCell ⟨w.heap.size + 1, 6, none⟩ (.int .i64 0)).setCell ⟨w.heap.size + 1, 7, none⟩ (.int .i64 0)).cell? ⟨w.heap.size, 3, none⟩ = some (.int .i64 r.opn) ∧ ((((((((W6.setCell ⟨w.heap.size + 1, 0, none⟩ (.string S)).setCell ⟨w.heap.size + 1, 1, none⟩ (.bool true)).setCell ⟨w.heap.size + 1, 2, none⟩ (.int .i64 ((r.at_ : Int) + 1))).setCell ⟨w.heap.size + 1, 3, none⟩ (.int .i64 r.opn)).setCell ⟨w.heap.size + 1, 4, none⟩ (.slice a n c)).setCell ⟨w.heap.size + 1, 5, none⟩ (.slice none 0 0)).setCell ⟨w.heap.size + 1, 6, none⟩ (.int .i64 0)).setCell ⟨w.heap.size + 1, 7, none⟩ (.int .i64 0)).cell? ⟨w.heap.size, 4, none⟩ = some (.slice a n c) ∧ ((((((((W6.setCell ⟨w.heap.size + 1, 0, none⟩ (.string S)).setCell ⟨w.heap.size + 1, 1, none⟩ (.bool true)).setCell ⟨w.heap.size + 1, 2, none⟩ (.int .i64 ((r.at_ : Int) + 1))).setCell ⟨w.heap.size + 1, 3, none⟩ (.int .i64 r.opn)).setCell ⟨w.heap.size + 1, 4, none⟩ (.slice a n c)).setCell ⟨w.heap.size + 1, 5, none⟩ (.slice none 0 0)).setCell ⟨w.heap.size + 1, 6, none⟩ (.int .i64 0)).setCell ⟨w.heap.size + 1, 7, none⟩ (.int .i64 0)).cell? ⟨w.heap.size, 5, none⟩ = some (.slice none 0 0) ∧ ((((((((W6.setCell ⟨w.heap.size + 1, 0, none⟩ (.string S)).setCell ⟨w.heap.size + 1, 1, none⟩ (.bool true)).setCell ⟨w.heap.size + 1, 2, none⟩ (.int .i64 ((r.at_ : Int) + 1))).setCell ⟨w.heap.size + 1, 3, none⟩ (.int .i64 r.opn)).setCell ⟨w.heap.size + 1, 4, none⟩ (.slice a n c)).setCell ⟨w.heap.size + 1, 5, none⟩ (.slice none 0 0)).setCell ⟨w.heap.size + 1, 6, none⟩ (.int .i64 0)).setCell ⟨w.heap.size + 1, 7, none⟩ (.int .i64 0)).cell? ⟨w.heap.size, 6, none⟩ = some (.int .i64 0) ∧ ((((((((W6.setCell ⟨w.heap.size + 1, 0, none⟩ (.string S)).setCell ⟨w.heap.size + 1, 1, none⟩ (.bool true)).setCell ⟨w.heap.size + 1, 2, none⟩ (.int .i64 ((r.at_ : Int) + 1))).setCell ⟨w.heap.size + 1, 3, none⟩ (.int .i64 r.opn)).setCell ⟨w.heap.size + 1, 4, none⟩ (.slice a n c)).setCell ⟨w.heap.size + 1, 5, none⟩ (.slice none 0 0)).setCell ⟨w.heap.size + 1, 6, none⟩ (.int .i64 0)).setCell ⟨w.heap.size + 1, 7, none⟩ (.int .i64 0)).cell? ⟨w.heap.size, 7, none⟩ = some (.int .i64 0) from ⟨cell_of hr8 (j := 0) rfl, cell_of hr8 (j := 1) rfl, cell_of hr8 (j := 2) rfl, cell_of hr8 (j := 3) rfl, cell_of hr8 (j := 4) rfl, cell_of hr8 (j := 5) rfl, cell_of hr8 (j := 6) rfl, cell_of hr8 (j := 7) rfl⟩); have HK9 := Lib.hid (show (((((((((((((((((W6.setCell ⟨w.heap.size + 1, 0, none⟩ (.string S)).setCell ⟨w.heap.size + 1, 1, none⟩ (.bool true)).setCell ⟨w.heap.size + 1, 2, none⟩ (.int .i64 ((r.at_ : Int) + 1))).setCell ⟨w.heap.size + 1, 3, none⟩ (.int .i64 r.opn)).setCell ⟨w.heap.size + 1, 4, none⟩ (.slice a n c)).setCell ⟨w.heap.size + 1, 5, none⟩ (.slice none 0 0)).setCell ⟨w.heap.size + 1, 6, none⟩ (.int .i64 0)).setCell ⟨w.heap.size + 1, 7, none⟩ (.int .i64 0)).setCell ⟨w.heap.size + 1 + 1, 0, none⟩ (.int .i64 1)).setCell ⟨w.heap.size + 1 + 1, 1, none⟩ (.int .u64 (byteI ch.toNat).s0)).setCell ⟨w.heap.size + 1 + 1, 2, none⟩ (.int .u64 (byteI ch.toNat).s1)).setCell ⟨w.heap.size + 1 + 1, 3, none⟩ (.int .u64 (byteI ch.toNat).s2)).setCell ⟨w.heap.size + 1 + 1, 4, none⟩ (.int .u64 (byteI ch.toNat).s3)).setCell ⟨w.heap.size + 1 + 1, 5, none⟩ (.slice none 0 0)).setCell ⟨w.heap.size + 1 + 1, 6, none⟩ (.int .i64 0)).setCell ⟨w.heap.size + 1 + 1, 7, none⟩ (.int .i64 0)).setCell ⟨w.heap.size + 1 + 1, 8, none⟩ (.int .i64 0)).cell? ⟨w.heap.size, 0, none⟩ = some (.string S) ∧ (((((((((((((((((W6.setCell ⟨w.heap.size + 1, 0, none⟩ (.string S)).setCell ⟨w.heap.size + 1, 1, none⟩ (.bool true)).setCell ⟨w.heap.size + 1, 2, none⟩ (.int .i64 ((r.at_ : Int) + 1))).setCell ⟨w.heap.size + 1, 3, none⟩ (.int .i64 r.opn)).setCell ⟨w.heap.size + 1, 4, none⟩ (.slice a n c)).setCell ⟨w.heap.size + 1, 5, none⟩ (.slice none 0 0)).setCell ⟨w.heap.size + 1, 6, none⟩ (.int .i64 0)).setCell ⟨w.heap.size + 1, 7, none⟩ (.int .i64 0)).setCell ⟨w.heap.size + 1 + 1, 0, none⟩ (.int .i64 1)).setCell ⟨w.heap.size + 1 + 1, 1, none⟩ (.int .u64 (byteI ch.toNat).s0)).setCell ⟨w.heap.size + 1 + 1, 2, none⟩ (.int .u64 (byteI ch.toNat).s1)).setCell ⟨w.heap.size + 1 + 1, 3, none⟩ (.int .u64 (byteI ch.toNat).s2)).setCell ⟨w.heap.size + 1 + 1, 4, none⟩ (.int .u64 (byteI ch.toNat).s3)).setCell ⟨w.heap.size + 1 + 1, 5, none⟩ (.slice none 0 0)).setCell ⟨w.heap.size + 1 + 1, 6, none⟩ (.int .i64 0)).setCell ⟨w.heap.size + 1 + 1, 7, none⟩ (.int .i64 0)).setCell ⟨w.heap.size + 1 + 1, 8, none⟩ (.int .i64 0)).cell? ⟨w.heap.size, 1, none⟩ = some (.bool true) ∧ (((((((((((((((((W6.setCell ⟨w.heap.size + 1, 0, none⟩ (.string S)).setCell ⟨w.heap.size + 1, 1, none⟩ (.bool true)).setCell ⟨w.heap.size + 1, 2, none⟩ (.int .i64 ((r.at_ : Int) + 1))).setCell ⟨w.heap.size + 1, 3, none⟩ (.int .i64 r.opn)).setCell ⟨w.heap.size + 1, 4, none⟩ (.slice a n c)).setCell ⟨w.heap.size + 1, 5, none⟩ (.slice none 0 0)).setCell ⟨w.heap.size + 1, 6, none⟩ (.int .i64 0)).setCell ⟨w.heap.size + 1, 7, none⟩ (.int .i64 0)).setCell ⟨w.heap.size + 1 + 1, 0, none⟩ (.int .i64 1)).setCell ⟨w.heap.size + 1 + 1, 1, none⟩ (.int .u64 (byteI ch.toNat).s0)).setCell ⟨w.heap.size + 1 + 1, 2, none⟩ (.int .u64 (byteI ch.toNat).s1)).setCell ⟨w.heap.size + 1 + 1, 3, none⟩ (.int .u64 (byteI ch.toNat).s2)).setCell ⟨w.heap.size + 1 + 1, 4, none⟩ (.int .u64 (byteI ch.toNat).s3)).setCell ⟨w.heap.size + 1 + 1, 5, none⟩ (.slice none 0 0)).setCell ⟨w.heap.size + 1 + 1, 6, none⟩ (.int .i64 0)).setCell ⟨w.heap.size + 1 + 1, 7, none⟩ (.int .i64 0)).setCell ⟨w.heap.size + 1 + 1, 8, none⟩ (.int .i64 0)).cell? ⟨w.heap.size, 2, none⟩ = some (.int .i64 ((r.at_ : Int) + 1)) ∧ (((((((((((((((((W6.setCell ⟨w.heap.size + 1, 0, none⟩ (.string S)).setCell ⟨w.heap.size + 1, 1, none⟩ (.bool true)).setCell ⟨w.heap.size + 1, 2, none⟩ (.int .i64 ((r.at_ : Int) + 1))).setCell ⟨w.heap.size + 1, 3, none⟩ (.int .i64 r.opn)).setCell ⟨w.heap.size + 1, 4, none⟩ (.slice a n c)).setCell ⟨w.heap.size + 1, 5, none⟩ (.slice none 0 0)).setCell ⟨w.heap.size + 1, 6, none⟩ (.int .i64 0)).setCell ⟨w.heap.size + 1, 7, none⟩ (.int .i64 0)).setCell ⟨w.heap.size + 1 + 1, 0, none⟩ (.int .i64 1)).setCell ⟨w.heap.size + 1 + 1, 1, none⟩ (.int .u64 (byteI ch.toNat).s0)).setCell ⟨w.heap.size + 1 + 1, 2, none⟩ (.int .u64 (byteI ch.toNat).s1)).setCell ⟨w.heap.size + 1 + 1, 3, none⟩ (.int .u64 (byteI ch.toNat).s2)).setCell ⟨w.heap.size + 1 + 1, 4, none⟩ (.int .u64 (byteI ch.toNat).s3)).setCell ⟨w.heap.size + 1 + 1, 5, none⟩ (.slice none 0 0)).setCell ⟨w.heap.size + 1 + 1, 6, none⟩ (.int .i64 0)).setCell ⟨w.heap.size + 1 + 1, 7, none⟩ (.int .i64 0)).setCell ⟨w.heap.size + 1 + 1, 8, none⟩ (.int .i64 0)).cell? ⟨w.heap.size, 3, none⟩ = some (.int .i64 r.opn) ∧ (((((((((((((((((W6.setCell ⟨w.heap.size + 1, 0, none⟩ (.string S)).setCell ⟨w.heap.size + 1, 1, none⟩ (.bool true)).setCell ⟨w.heap.size + 1, 2, none⟩ (.int .i64 ((r.at_ : Int) + 1))).setCell ⟨w.heap.size + 1, 3, none⟩ (.int .i64 r.opn)).setCell ⟨w.heap.size + 1, 4, none⟩ (.slice a n c)).setCell ⟨w.heap.size + 1, 5, none⟩ (.slice none 0 0)).setCell ⟨w.heap.size + 1, 6, none⟩ (.int .i64 0)).setCell ⟨w.heap.size + 1, 7, none⟩ (.int .i64 0)).setCell ⟨w.heap.size + 1 + 1, 0, none⟩ (.int .i64 1)).setCell ⟨w.heap.size + 1 + 1, 1, none⟩ (.int .u64 (byteI ch.toNat).s0)).setCell ⟨w.heap.size + 1 + 1, 2, none⟩ (.int .u64 (byteI ch.toNat).s1)).setCell ⟨w.heap.size + 1 + 1, 3, none⟩ (.int .u64 (byteI ch.toNat).s2)).setCell ⟨w.heap.size + 1 + 1, 4, none⟩ (.int .u64 (byteI ch.toNat).s3)).setCell ⟨w.heap.size + 1 + 1, 5, none⟩ (.slice none 0 0)).setCell ⟨w.heap.size + 1 + 1, 6, none⟩ (.int .i64 0)).setCell ⟨w.heap.size + 1 + 1, 7, none⟩ (.int .i64 0)).setCell ⟨w.heap.size + 1 + 1, 8, none⟩ (.int .i64 0)).cell? ⟨w.heap.size, 4, none⟩ = some (.slice a n c) ∧ (((((((((((((((((W6.setCell ⟨w.heap.size + 1, 0, none⟩ (.string S)).setCell ⟨w.heap.size + 1, 1, none⟩ (.bool true)).setCell ⟨w.heap.size + 1, 2, none⟩ (.int .i64 ((r.at_ : Int) + 1))).setCell ⟨w.heap.size + 1, 3, none⟩ (.int .i64 r.opn)).setCell ⟨w.heap.size + 1, 4, none⟩ (.slice a n c)).setCell ⟨w.heap.size + 1, 5, none⟩ (.slice none 0 0)).setCell ⟨w.heap.size + 1, 6, none⟩ (.int .i64 0)).setCell ⟨w.heap.size + 1, 7, none⟩ (.int .i64 0)).setCell ⟨w.heap.size + 1 + 1, 0, none⟩ (.int .i64 1)).setCell ⟨w.heap.size + 1 + 1, 1, none⟩ (.int .u64 (byteI ch.toNat).s0)).setCell ⟨w.heap.size + 1 + 1, 2, none⟩ (.int .u64 (byteI ch.toNat).s1)).setCell ⟨w.heap.size + 1 + 1, 3, none⟩ (.int .u64 (byteI ch.toNat).s2)).setCell ⟨w.heap.size + 1 + 1, 4, none⟩ (.int .u64 (byteI ch.toNat).s3)).setCell ⟨w.heap.size + 1 + 1, 5, none⟩ (.slice none 0 0)).setCell ⟨w.heap.size + 1 + 1, 6, none⟩ (.int .i64 0)).setCell ⟨w.heap.size + 1 + 1, 7, none⟩ (.int .i64 0)).setCell ⟨w.heap.size + 1 + 1, 8, none⟩ (.int .i64 0)).cell? ⟨w.heap.size, 5, none⟩ = some (.slice none 0 0) ∧ (((((((((((((((((W6.setCell ⟨w.heap.size + 1, 0, none⟩ (.string S)).setCell ⟨w.heap.size + 1, 1, none⟩ (.bool true)).setCell ⟨w.heap.size + 1, 2, none⟩ (.int .i64 ((r.at_ : Int) + 1))).setCell ⟨w.heap.size + 1, 3, none⟩ (.int .i64 r.opn)).setCell ⟨w.heap.size + 1, 4, none⟩ (.slice a n c)).setCell ⟨w.heap.size + 1, 5, none⟩ (.slice none 0 0)).setCell ⟨w.heap.size + 1, 6, none⟩ (.int .i64 0)).setCell ⟨w.heap.size + 1, 7, none⟩ (.int .i64 0)).setCell ⟨w.heap.size + 1 + 1, 0, none⟩ (.int .i64 1)).setCell ⟨w.heap.size + 1 + 1, 1, none⟩ (.int .u64 (byteI ch.toNat).s0)).setCell ⟨w.heap.size + 1 + 1, 2, none⟩ (.int .u64 (byteI ch.toNat).s1)).setCell ⟨w.heap.size + 1 + 1, 3, none⟩ (.int .u64 (byteI ch.toNat).s2)).setCell ⟨w.heap.size + 1 + 1, 4, none⟩ (.int .u64 (byteI ch.toNat).s3)).setCell ⟨w.heap.size + 1 + 1, 5, none⟩ (.slice none 0 0)).setCell ⟨w.heap.size + 1 + 1, 6, none⟩ (.int .i64 0)).setCell ⟨w.heap.size + 1 + 1, 7, none⟩ (.int .i64 0)).setCell ⟨w.heap.size + 1 + 1, 8, none⟩ (.int .i64 0)).cell? ⟨w.heap.size, 6, none⟩ = some (.int .i64 0) ∧ (((((((((((((((((W6.setCell ⟨w.heap.size + 1, 0, none⟩ (.string S)).setCell ⟨w.heap.size + 1, 1, none⟩ (.bool true)).setCell ⟨w.heap.size + 1, 2, none⟩ (.int .i64 ((r.at_ : Int) + 1))).setCell ⟨w.heap.size + 1, 3, none⟩ (.int .i64 r.opn)).setCell ⟨w.heap.size + 1, 4, none⟩ (.slice a n c)).setCell ⟨w.heap.size + 1, 5, none⟩ (.slice none 0 0)).setCell ⟨w.heap.size + 1, 6, none⟩ (.int .i64 0)).setCell ⟨w.heap.size + 1, 7, none⟩ (.int .i64 0)).setCell ⟨w.heap.size + 1 + 1, 0, none⟩ (.int .i64 1)).setCell ⟨w.heap.size + 1 + 1, 1, none⟩ (.int .u64 (byteI ch.toNat).s0)).setCell ⟨w.heap.size + 1 + 1, 2, none⟩ (.int .u64 (byteI ch.toNat).s1)).setCell ⟨w.heap.size + 1 + 1, 3, none⟩ (.int .u64 (byteI ch.toNat).s2)).setCell ⟨w.heap.size + 1 + 1, 4, none⟩ (.int .u64 (byteI ch.toNat).s3)).setCell ⟨w.heap.size + 1 + 1, 5, none⟩ (.slice none 0 0)).setCell ⟨w.heap.size + 1 + 1, 6, none⟩ (.int .i64 0)).setCell ⟨w.heap.size + 1 + 1, 7, none⟩ (.int .i64 0)).setCell ⟨w.heap.size + 1 + 1, 8, none⟩ (.int .i64 0)).cell? ⟨w.heap.size, 7, none⟩ = some (.int .i64 0) from ⟨cell_of hr9 (j := 0) rfl, cell_of hr9 (j := 1) rfl, cell_of hr9 (j := 2) rfl, cell_of hr9 (j := 3) rfl, cell_of hr9 (j := 4) rfl, cell_of hr9 (j := 5) rfl, cell_of hr9 (j := 6) rfl, cell_of hr9 (j := 7) rfl⟩); have HBF := Lib.hid (b5 _ _ (b4 _ _ HB6.out (by omega)) (by omega)); have K4 := Lib.hid ((o5 (w.heap.size + 1) (by omega)).trans k4); have K5 := Lib.hid k5; have r0 : W6.cell? ⟨w.heap.size + 1, 0, none⟩ = some (.string ⟨#[]⟩) := cell_of H46.out (j := 0) rfl; have r1 : W6.cell? ⟨w.heap.size + 1, 1, none⟩ = some (.bool false) := cell_of H46.out (j := 1) rfl; have r2 : W6.cell? ⟨w.heap.size + 1, 2, none⟩ = some (.int .i64 0) := cell_of H46.out (j := 2) rfl; have r3 : W6.cell? ⟨w.heap.size + 1, 3, none⟩ = some (.int .i64 0) := cell_of H46.out (j := 3) rfl; have r4 : W6.cell? ⟨w.heap.size + 1, 4, none⟩ = some (.slice none 0 0) := cell_of H46.out (j := 4) rfl; have r5 : W6.cell? ⟨w.heap.size + 1, 5, none⟩ = some (.slice none 0 0) := cell_of H46.out (j := 5) rfl; have r6 : W6.cell? ⟨w.heap.size + 1, 6, none⟩ = some (.int .i64 0) := cell_of H46.out (j := 6) rfl; have r7 : W6.cell? ⟨w.heap.size + 1, 7, none⟩ = some (.int .i64 0) := cell_of H46.out (j := 7) rfl; have t0 : W6.cell? ⟨w.heap.size + 1 + 1, 0, none⟩ = some (.int .i64 0) := cell_of H56.out (j := 0) rfl; have t1 : W6.cell? ⟨w.heap.size + 1 + 1, 1, none⟩ = some (.int .u64 0) := cell_of H56.out (j := 1) rfl; have t2 : W6.cell? ⟨w.heap.size + 1 + 1, 2, none⟩ = some (.int .u64 0) := cell_of H56.out (j := 2) rfl; have t3 : W6.cell? ⟨w.heap.size + 1 + 1, 3, none⟩ = some (.int .u64 0) := cell_of H56.out (j := 3) rfl; have t4 : W6.cell? ⟨w.heap.size + 1 + 1, 4, none⟩ = some (.int .u64 0) := cell_of H56.out (j := 4) rfl; have t5 : W6.cell? ⟨w.heap.size + 1 + 1, 5, none⟩ = some (.slice none 0 0) := cell_of H56.out (j := 5) rfl; have t6 : W6.cell? ⟨w.heap.size + 1 + 1, 6, none⟩ = some (.int .i64 0) := cell_of H56.out (j := 6) rfl; have t7 : W6.cell? ⟨w.heap.size + 1 + 1, 7, none⟩ = some (.int .i64 0) := cell_of H56.out (j := 7) rfl; have t8 : W6.cell? ⟨w.heap.size + 1 + 1, 8, none⟩ = some (.int .i64 0) := cell_of H56.out (j := 8) rfl; have f0 := frozen_of_row W6 (w.heap.size + 1) 0 _ _ H46.out; have f1 := frozen_of_row W6 (w.heap.size + 1) 1 _ _ H46.out; have f2 := frozen_of_row W6 (w.heap.size + 1) 2 _ _ H46.out; have f3 := frozen_of_row W6 (w.heap.size + 1) 3 _ _ H46.out; have f4 := frozen_of_row W6 (w.heap.size + 1) 4 _ _ H46.out; have f5 := frozen_of_row W6 (w.heap.size + 1) 5 _ _ H46.out; have f6 := frozen_of_row W6 (w.heap.size + 1) 6 _ _ H46.out; have f7 := frozen_of_row W6 (w.heap.size + 1) 7 _ _ H46.out; have g0 := frozen_of_row W6 (w.heap.size + 1 + 1) 0 _ _ H56.out; have g1 := frozen_of_row W6 (w.heap.size + 1 + 1) 1 _ _ H56.out; have g2 := frozen_of_row W6 (w.heap.size + 1 + 1) 2 _ _ H56.out; have g3 := frozen_of_row W6 (w.heap.size + 1 + 1) 3 _ _ H56.out; have g4 := frozen_of_row W6 (w.heap.size + 1 + 1) 4 _ _ H56.out; have g5 := frozen_of_row W6 (w.heap.size + 1 + 1) 5 _ _ H56.out; have g6 := frozen_of_row W6 (w.heap.size + 1 + 1) 6 _ _ H56.out; have g7 := frozen_of_row W6 (w.heap.size + 1 + 1) 7 _ _ H56.out; have g8 := frozen_of_row W6 (w.heap.size + 1 + 1) 8 _ _ H56.out; clear hb6 k4 o4 b4 k5 o5 b5 hr8 hr9))
  all_goals
    clear r0 r1 r2 r3 r4 r5 r6 r7 t0 t1 t2 t3 t4 t5 t6 t7 t8 f0 f1 f2 f3 f4 f5 f6 f7 g0 g1 g2 g3 g4 g5 g6 g7 g8 HK9 HK8 HK6 HK5
    generalize (((((((((((((((((W6.setCell ⟨w.heap.size + 1, 0, none⟩ (.string S)).setCell ⟨w.heap.size + 1, 1, none⟩ (.bool true)).setCell ⟨w.heap.size + 1, 2, none⟩ (.int .i64 ((r.at_ : Int) + 1))).setCell ⟨w.heap.size + 1, 3, none⟩ (.int .i64 r.opn)).setCell ⟨w.heap.size + 1, 4, none⟩ (.slice a n c)).setCell ⟨w.heap.size + 1, 5, none⟩ (.slice none 0 0)).setCell ⟨w.heap.size + 1, 6, none⟩ (.int .i64 0)).setCell ⟨w.heap.size + 1, 7, none⟩ (.int .i64 0)).setCell ⟨w.heap.size + 1 + 1, 0, none⟩ (.int .i64 1)).setCell ⟨w.heap.size + 1 + 1, 1, none⟩ (.int .u64 (byteI ch.toNat).s0)).setCell ⟨w.heap.size + 1 + 1, 2, none⟩ (.int .u64 (byteI ch.toNat).s1)).setCell ⟨w.heap.size + 1 + 1, 3, none⟩ (.int .u64 (byteI ch.toNat).s2)).setCell ⟨w.heap.size + 1 + 1, 4, none⟩ (.int .u64 (byteI ch.toNat).s3)).setCell ⟨w.heap.size + 1 + 1, 5, none⟩ (.slice none 0 0)).setCell ⟨w.heap.size + 1 + 1, 6, none⟩ (.int .i64 0)).setCell ⟨w.heap.size + 1 + 1, 7, none⟩ (.int .i64 0)).setCell ⟨w.heap.size + 1 + 1, 8, none⟩ (.int .i64 0)) = WF at *
    have r0 : WF.cell? ⟨w.heap.size + 1, 0, none⟩ = some (.string S) := cell_of K4.out (j := 0) rfl
    have r1 : WF.cell? ⟨w.heap.size + 1, 1, none⟩ = some (.bool true) := cell_of K4.out (j := 1) rfl
    have r2 : WF.cell? ⟨w.heap.size + 1, 2, none⟩ = some (.int .i64 ((r.at_ : Int) + 1)) := cell_of K4.out (j := 2) rfl
    have r3 : WF.cell? ⟨w.heap.size + 1, 3, none⟩ = some (.int .i64 r.opn) := cell_of K4.out (j := 3) rfl
    have r4 : WF.cell? ⟨w.heap.size + 1, 4, none⟩ = some (.slice a n c) := cell_of K4.out (j := 4) rfl
    have r5 : WF.cell? ⟨w.heap.size + 1, 5, none⟩ = some (.slice none 0 0) := cell_of K4.out (j := 5) rfl
    have r6 : WF.cell? ⟨w.heap.size + 1, 6, none⟩ = some (.int .i64 0) := cell_of K4.out (j := 6) rfl
    have r7 : WF.cell? ⟨w.heap.size + 1, 7, none⟩ = some (.int .i64 0) := cell_of K4.out (j := 7) rfl
    have t0 : WF.cell? ⟨w.heap.size + 1 + 1, 0, none⟩ = some (.int .i64 1) := cell_of K5.out (j := 0) rfl
    have t1 : WF.cell? ⟨w.heap.size + 1 + 1, 1, none⟩ = some (.int .u64 (byteI ch.toNat).s0) := cell_of K5.out (j := 1) rfl
    have t2 : WF.cell? ⟨w.heap.size + 1 + 1, 2, none⟩ = some (.int .u64 (byteI ch.toNat).s1) := cell_of K5.out (j := 2) rfl
    have t3 : WF.cell? ⟨w.heap.size + 1 + 1, 3, none⟩ = some (.int .u64 (byteI ch.toNat).s2) := cell_of K5.out (j := 3) rfl
    have t4 : WF.cell? ⟨w.heap.size + 1 + 1, 4, none⟩ = some (.int .u64 (byteI ch.toNat).s3) := cell_of K5.out (j := 4) rfl
    have t5 : WF.cell? ⟨w.heap.size + 1 + 1, 5, none⟩ = some (.slice none 0 0) := cell_of K5.out (j := 5) rfl
    have t6 : WF.cell? ⟨w.heap.size + 1 + 1, 6, none⟩ = some (.int .i64 0) := cell_of K5.out (j := 6) rfl
    have t7 : WF.cell? ⟨w.heap.size + 1 + 1, 7, none⟩ = some (.int .i64 0) := cell_of K5.out (j := 7) rfl
    have t8 : WF.cell? ⟨w.heap.size + 1 + 1, 8, none⟩ = some (.int .i64 0) := cell_of K5.out (j := 8) rfl
    go_wp2_with fail
    refine bodyPost_ret (v := .tuple #[.agg #[.string S, .bool true, .int .i64 ((r.at_ : Int) + 1), .int .i64 r.opn, .slice a n c, .slice none 0 0, .int .i64 0, .int .i64 0], .agg #[.int .i64 1, .int .u64 (byteI ch.toNat).s0, .int .u64 (byteI ch.toNat).s1, .int .u64 (byteI ch.toNat).s2, .int .u64 (byteI ch.toNat).s3, .slice none 0 0, .int .i64 0, .int .i64 0, .int .i64 0]]) (by simp [results, Tryz.results80, go_sem, r0, r1, r2, r3, r4, r5, r6, r7, t0, t1, t2, t3, t4, t5, t6, t7, t8]) rfl ⟨a, n, c, byteCells ch.toNat, rfl, HBF.out, rd_byte _ _ _, HCL.out.below HBF.out, .inl rfl⟩
end Go.Proofs.YtkaoegdfgoojdaaGreatDoor
