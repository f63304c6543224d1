/- The reading of a choice: the walk (seat 2; printed by parse.py). -/
import Derived.Test.YtkaoegdfgoojdaaGreatDoorBranch
namespace Go.Proofs.YtkaoegdfgoojdaaGreatDoor
open Go Go.RowKit
set_option maxRecDepth 100000

/-- A row of one node, as 'l := []T{t}' makes it. -/
theorem PartsR.one {q : Nat → Bool} {M : Nat} {w : World} {t : RT} {cs : List Value} (hM : M ≤ w.heap.size) (hc : cs.length = 9) (h : Rd (mask q w) w.heap.size t cs) : PartsR q M (w.alloc (.cells cs.toArray 28)) (.slice (some ⟨w.heap.size, 0, none⟩) 1 1) [t] := by
  have hb : Below w.heap.size w (w.alloc (.cells cs.toArray 28)) := (Below.refl _ _).alloc (Nat.le_refl _) _
  refine ⟨[cs], rfl, fun x hx => by rw [List.mem_singleton.1 hx]; exact hc, ⟨by simp [hc], .inr ⟨w.heap.size, 1, cs.toArray, rfl, hM, heap_alloc_new w _, Nat.le_refl _, by unfold maxLen; omega, by simp [hc], by simpa using List.take_of_length_le (Nat.le_of_eq hc)⟩⟩, fun i hi => ?_⟩
  obtain rfl : i = 0 := by simpa using hi
  refine ⟨cs, rfl, Rd.mono hb.size _ _ (Rd.masked (fun b hb' hp => ⟨?_, hb.block b hb'⟩) h)⟩
  simp only [butQ, Bool.and_eq_true, Value.ownBlock]
  exact ⟨hp, decide_eq_true (fun e => by injection e with e; omega)⟩

/-- The loop's relation. -/
def ChRel (w : World) (S : ByteArray) (a : Option Addr) (deep f : Nat) (r' : PS) (t : RT) (g : Nat) (v7 : Value) (wr : World) : Prop :=
  ∃ (r1 : PS) (acc : List RT) (a1 : Option Addr) (n1 c1 : Nat), g ≤ f ∧ choiceL S.data.toList g r1 deep acc = some (r', t) ∧ PartsR (above (w.heap.size + 3)) (w.heap.size + 3) wr v7 acc ∧ (∀ t ∈ acc, t.kind ≠ 3) ∧ acc.length ≤ 100 ∧
    Blk wr w.heap.size S r1 a1 n1 c1 ∧ CL wr a1 n1 c1 r1.cl ∧ Below w.heap.size w wr ∧ From w.heap.size a a1 ∧ ∀ g, a1 = some ⟨g, 0, none⟩ → v7.ownBlock ≠ some g
/-- Behind the loop. -/
def ChEnd (w : World) (S : ByteArray) (a : Option Addr) (r' : PS) (t : RT) (v7 : Value) (wr : World) : Prop :=
  ∃ (acc : List RT) (a1 : Option Addr) (n1 c1 : Nat), t = chooseR acc ∧ PartsR (above (w.heap.size + 3)) (w.heap.size + 3) wr v7 acc ∧ (∀ t ∈ acc, t.kind ≠ 3) ∧ acc.length ≤ 100 ∧
    Blk wr w.heap.size S r' a1 n1 c1 ∧ CL wr a1 n1 c1 r'.cl ∧ Below w.heap.size w wr ∧ From w.heap.size a a1

set_option maxHeartbeats 16000000 in
theorem choice_any (S : ByteArray) (hS : S.size ≤ 1048576) (f : Nat) (hbc : ∀ g, g < f → BranchC S g) : ChoiceC S f := by
  intro r deep r' t hcf w a n c hcl hd ho
  obtain ⟨f, rfl⟩ : ∃ f', f = f' + 1 := by
    cases f with
    | zero => simp [choiceF] at hcf
    | succ f => exact ⟨f, rfl⟩
  rw [choiceF] at hcf
  cases hbf : branchF S.data.toList f r deep [] with
  | none => rw [hbf] at hcf; simp at hcf
  | some x =>
  obtain ⟨r1, t1⟩ := x
  rw [hbf] at hcf
  simp only at hcf
  split at hcf
  rotate_left
  · cases hcf
  rename_i hk1
  have HBC := Lib.hid hbc
  have HK1 := Lib.hid hk1
  have HCF := Lib.hid hcf
  have HCL := Lib.hid hcl
  have HBF := Lib.hid (hbc f (by omega) r deep r1 t1 hbf)
  have HLA := Lib.hid (show ∀ g, a = some ⟨g, 0, none⟩ → g < w.heap.size by
    rcases hcl with ⟨_, h, _⟩ | ⟨g, h, _, _, _, h5, _⟩
    · intro g e; rw [h] at e; cases e
    · intro g' e; rw [h] at e; injection e with e; injection e with e; omega)
  obtain ⟨b0, z0, g2, g4, g5⟩ := alloc3 w (.cells #[.string S, .bool true, .int .i64 r.at_, .int .i64 r.opn, .slice a n c, .slice none 0 0, .int .i64 0, .int .i64 0] 105) (.cells #[.string ⟨#[]⟩, .bool false, .int .i64 0, .int .i64 0, .slice none 0 0, .slice none 0 0, .int .i64 0, .int .i64 0] 105) (.cells #[.int .i64 0, .int .u64 0, .int .u64 0, .int .u64 0, .int .u64 0, .slice none 0 0, .int .i64 0, .int .i64 0, .int .i64 0] 28)
  have HBK0 := Lib.hid (show Blk ((((w.alloc (.cells #[.string S, .bool true, .int .i64 r.at_, .int .i64 r.opn, .slice a n c, .slice none 0 0, .int .i64 0, .int .i64 0] 105)).alloc (.cells #[.string ⟨#[]⟩, .bool false, .int .i64 0, .int .i64 0, .slice none 0 0, .slice none 0 0, .int .i64 0, .int .i64 0] 105)).alloc (.cells #[.int .i64 0, .int .u64 0, .int .u64 0, .int .u64 0, .int .u64 0, .slice none 0 0, .int .i64 0, .int .i64 0, .int .i64 0] 28))) w.heap.size S r a n c from ⟨g2, g4, g5, Nat.le_of_eq z0.symm⟩)
  have HB0 := Lib.hid b0
  clear hbc hcf hcl hbf hk1 b0 z0 g2 g4 g5
  unfold rVal
  go_enter Tryz.func36, Tryz.ntmps36
  go_wp2_with fail
  generalize ((w.alloc (.cells #[.string S, .bool true, .int .i64 r.at_, .int .i64 r.opn, .slice a n c, .slice none 0 0, .int .i64 0, .int .i64 0] 105)).alloc (.cells #[.string ⟨#[]⟩, .bool false, .int .i64 0, .int .i64 0, .slice none 0 0, .slice none 0 0, .int .i64 0, .int .i64 0] 105)).alloc (.cells #[.int .i64 0, .int .u64 0, .int .u64 0, .int .u64 0, .int .u64 0, .slice none 0 0, .int .i64 0, .int .i64 0, .int .i64 0] 28) = W0 at *
  refine (HBF.out W0 a n c (HCL.out.below HB0.out) hd).mono ?_
  rintro e VA ⟨a2, n2, c2, cs, rfl, hb, hrd, hcl2, hor2⟩
  obtain ⟨k2, s02, s12, s22, s32, al2, nl2, cl2, mn2, mx2, num2, rfl⟩ := hrd.form
  have HVA := Lib.hid (HB0.out.trans (hb.mono HB0.out.size))
  have HZA := Lib.hid (show w.heap.size + 3 ≤ W0.heap.size from HBK0.out.2.2.2)
  have HRD := Lib.hid hrd
  have HCL2 := Lib.hid hcl2
  have HOR2 := Lib.hid hor2
  have HBKA := Lib.hid (HBK0.out.below hb)
  have HSZA := Lib.hid hb.size
  clear hb hrd hcl2 hor2
  have h2 := HBKA.out.1
  have cp0 : VA.cell? ⟨w.heap.size, 0, none⟩ = some (.string S) := cell_of h2 (j := 0) rfl
  have cp1 : VA.cell? ⟨w.heap.size, 1, none⟩ = some (.bool true) := cell_of h2 (j := 1) rfl
  have cp2 : VA.cell? ⟨w.heap.size, 2, none⟩ = some (.int .i64 r.at_) := cell_of h2 (j := 2) rfl
  have cp3 : VA.cell? ⟨w.heap.size, 3, none⟩ = some (.int .i64 r.opn) := cell_of h2 (j := 3) rfl
  have cp4 : VA.cell? ⟨w.heap.size, 4, none⟩ = some (.slice a n c) := cell_of h2 (j := 4) rfl
  have cp5 : VA.cell? ⟨w.heap.size, 5, none⟩ = some (.slice none 0 0) := cell_of h2 (j := 5) rfl
  have cp6 : VA.cell? ⟨w.heap.size, 6, none⟩ = some (.int .i64 0) := cell_of h2 (j := 6) rfl
  have cp7 : VA.cell? ⟨w.heap.size, 7, none⟩ = some (.int .i64 0) := cell_of h2 (j := 7) rfl
  have cf0 := frozen_of_row VA (w.heap.size) 0 _ _ h2
  have cf1 := frozen_of_row VA (w.heap.size) 1 _ _ h2
  have cf2 := frozen_of_row VA (w.heap.size) 2 _ _ h2
  have cf3 := frozen_of_row VA (w.heap.size) 3 _ _ h2
  have cf4 := frozen_of_row VA (w.heap.size) 4 _ _ h2
  have cf5 := frozen_of_row VA (w.heap.size) 5 _ _ h2
  have cf6 := frozen_of_row VA (w.heap.size) 6 _ _ h2
  have cf7 := frozen_of_row VA (w.heap.size) 7 _ _ h2
  have hnA : w.heap.size < VA.heap.size := by have := HBKA.out.2.2.2; omega
  clear h2
  unfold rVal
  go_upto_block 0 with (fail)
  obtain ⟨k4, o4, b4⟩ := put8 HBKA.out.1 (.string S) (.bool true) (.int .i64 r1.at_) (.int .i64 r1.opn) (.slice a2 n2 c2) (.slice none 0 0) (.int .i64 0) (.int .i64 0)
  have hz : ((((((((VA.setCell ⟨w.heap.size, 0, none⟩ (.string S)).setCell ⟨w.heap.size, 1, none⟩ (.bool true)).setCell ⟨w.heap.size, 2, none⟩ (.int .i64 r1.at_)).setCell ⟨w.heap.size, 3, none⟩ (.int .i64 r1.opn)).setCell ⟨w.heap.size, 4, none⟩ (.slice a2 n2 c2)).setCell ⟨w.heap.size, 5, none⟩ (.slice none 0 0)).setCell ⟨w.heap.size, 6, none⟩ (.int .i64 0)).setCell ⟨w.heap.size, 7, none⟩ (.int .i64 0)).heap.size = VA.heap.size := by simp [World.setCell]
  obtain ⟨b0, z0, h6, h7⟩ := alloc2 ((((((((VA.setCell ⟨w.heap.size, 0, none⟩ (.string S)).setCell ⟨w.heap.size, 1, none⟩ (.bool true)).setCell ⟨w.heap.size, 2, none⟩ (.int .i64 r1.at_)).setCell ⟨w.heap.size, 3, none⟩ (.int .i64 r1.opn)).setCell ⟨w.heap.size, 4, none⟩ (.slice a2 n2 c2)).setCell ⟨w.heap.size, 5, none⟩ (.slice none 0 0)).setCell ⟨w.heap.size, 6, none⟩ (.int .i64 0)).setCell ⟨w.heap.size, 7, none⟩ (.int .i64 0)) (.cells #[.int .i64 k2, .int .u64 s02, .int .u64 s12, .int .u64 s22, .int .u64 s32, .slice al2 nl2 cl2, .int .i64 mn2, .int .i64 mx2, .int .i64 num2] 28) (.cells #[.int .i64 k2, .int .u64 s02, .int .u64 s12, .int .u64 s22, .int .u64 s32, .slice al2 nl2 cl2, .int .i64 mn2, .int .i64 mx2, .int .i64 num2] 28)
  have HQB := Lib.hid (show Bar (fun k => k = w.heap.size) VA ((((((((((VA.setCell ⟨w.heap.size, 0, none⟩ (.string S)).setCell ⟨w.heap.size, 1, none⟩ (.bool true)).setCell ⟨w.heap.size, 2, none⟩ (.int .i64 r1.at_)).setCell ⟨w.heap.size, 3, none⟩ (.int .i64 r1.opn)).setCell ⟨w.heap.size, 4, none⟩ (.slice a2 n2 c2)).setCell ⟨w.heap.size, 5, none⟩ (.slice none 0 0)).setCell ⟨w.heap.size, 6, none⟩ (.int .i64 0)).setCell ⟨w.heap.size, 7, none⟩ (.int .i64 0)).alloc (.cells #[.int .i64 k2, .int .u64 s02, .int .u64 s12, .int .u64 s22, .int .u64 s32, .slice al2 nl2 cl2, .int .i64 mn2, .int .i64 mx2, .int .i64 num2] 28)).alloc (.cells #[.int .i64 k2, .int .u64 s02, .int .u64 s12, .int .u64 s22, .int .u64 s32, .slice al2 nl2 cl2, .int .i64 mn2, .int .i64 mx2, .int .i64 num2] 28)) from ((((((((((Bar.refl (fun k => k = w.heap.size) VA).set ⟨w.heap.size, 0, none⟩ (.string S) (.inl rfl)).set ⟨w.heap.size, 1, none⟩ (.bool true) (.inl rfl)).set ⟨w.heap.size, 2, none⟩ (.int .i64 r1.at_) (.inl rfl)).set ⟨w.heap.size, 3, none⟩ (.int .i64 r1.opn) (.inl rfl)).set ⟨w.heap.size, 4, none⟩ (.slice a2 n2 c2) (.inl rfl)).set ⟨w.heap.size, 5, none⟩ (.slice none 0 0) (.inl rfl)).set ⟨w.heap.size, 6, none⟩ (.int .i64 0) (.inl rfl)).set ⟨w.heap.size, 7, none⟩ (.int .i64 0) (.inl rfl))).trans (Bar.of_below b0))
  have hz1 : (((((((((VA.setCell ⟨w.heap.size, 0, none⟩ (.string S)).setCell ⟨w.heap.size, 1, none⟩ (.bool true)).setCell ⟨w.heap.size, 2, none⟩ (.int .i64 r1.at_)).setCell ⟨w.heap.size, 3, none⟩ (.int .i64 r1.opn)).setCell ⟨w.heap.size, 4, none⟩ (.slice a2 n2 c2)).setCell ⟨w.heap.size, 5, none⟩ (.slice none 0 0)).setCell ⟨w.heap.size, 6, none⟩ (.int .i64 0)).setCell ⟨w.heap.size, 7, none⟩ (.int .i64 0)).alloc (.cells #[.int .i64 k2, .int .u64 s02, .int .u64 s12, .int .u64 s22, .int .u64 s32, .slice al2 nl2 cl2, .int .i64 mn2, .int .i64 mx2, .int .i64 num2] 28)).heap.size = ((((((((VA.setCell ⟨w.heap.size, 0, none⟩ (.string S)).setCell ⟨w.heap.size, 1, none⟩ (.bool true)).setCell ⟨w.heap.size, 2, none⟩ (.int .i64 r1.at_)).setCell ⟨w.heap.size, 3, none⟩ (.int .i64 r1.opn)).setCell ⟨w.heap.size, 4, none⟩ (.slice a2 n2 c2)).setCell ⟨w.heap.size, 5, none⟩ (.slice none 0 0)).setCell ⟨w.heap.size, 6, none⟩ (.int .i64 0)).setCell ⟨w.heap.size, 7, none⟩ (.int .i64 0)).heap.size + 1 := Array.size_push _
  have hba1 : Below ((((((((VA.setCell ⟨w.heap.size, 0, none⟩ (.string S)).setCell ⟨w.heap.size, 1, none⟩ (.bool true)).setCell ⟨w.heap.size, 2, none⟩ (.int .i64 r1.at_)).setCell ⟨w.heap.size, 3, none⟩ (.int .i64 r1.opn)).setCell ⟨w.heap.size, 4, none⟩ (.slice a2 n2 c2)).setCell ⟨w.heap.size, 5, none⟩ (.slice none 0 0)).setCell ⟨w.heap.size, 6, none⟩ (.int .i64 0)).setCell ⟨w.heap.size, 7, none⟩ (.int .i64 0)).heap.size ((((((((VA.setCell ⟨w.heap.size, 0, none⟩ (.string S)).setCell ⟨w.heap.size, 1, none⟩ (.bool true)).setCell ⟨w.heap.size, 2, none⟩ (.int .i64 r1.at_)).setCell ⟨w.heap.size, 3, none⟩ (.int .i64 r1.opn)).setCell ⟨w.heap.size, 4, none⟩ (.slice a2 n2 c2)).setCell ⟨w.heap.size, 5, none⟩ (.slice none 0 0)).setCell ⟨w.heap.size, 6, none⟩ (.int .i64 0)).setCell ⟨w.heap.size, 7, none⟩ (.int .i64 0)) (((((((((VA.setCell ⟨w.heap.size, 0, none⟩ (.string S)).setCell ⟨w.heap.size, 1, none⟩ (.bool true)).setCell ⟨w.heap.size, 2, none⟩ (.int .i64 r1.at_)).setCell ⟨w.heap.size, 3, none⟩ (.int .i64 r1.opn)).setCell ⟨w.heap.size, 4, none⟩ (.slice a2 n2 c2)).setCell ⟨w.heap.size, 5, none⟩ (.slice none 0 0)).setCell ⟨w.heap.size, 6, none⟩ (.int .i64 0)).setCell ⟨w.heap.size, 7, none⟩ (.int .i64 0)).alloc (.cells #[.int .i64 k2, .int .u64 s02, .int .u64 s12, .int .u64 s22, .int .u64 s32, .slice al2 nl2 cl2, .int .i64 mn2, .int .i64 mx2, .int .i64 num2] 28)) := (Below.refl _ _).alloc (Nat.le_refl _) _
  have hpr := PartsR.one (q := above (w.heap.size + 3)) (M := w.heap.size + 3) (w := (((((((((VA.setCell ⟨w.heap.size, 0, none⟩ (.string S)).setCell ⟨w.heap.size, 1, none⟩ (.bool true)).setCell ⟨w.heap.size, 2, none⟩ (.int .i64 r1.at_)).setCell ⟨w.heap.size, 3, none⟩ (.int .i64 r1.opn)).setCell ⟨w.heap.size, 4, none⟩ (.slice a2 n2 c2)).setCell ⟨w.heap.size, 5, none⟩ (.slice none 0 0)).setCell ⟨w.heap.size, 6, none⟩ (.int .i64 0)).setCell ⟨w.heap.size, 7, none⟩ (.int .i64 0)).alloc (.cells #[.int .i64 k2, .int .u64 s02, .int .u64 s12, .int .u64 s22, .int .u64 s32, .slice al2 nl2 cl2, .int .i64 mn2, .int .i64 mx2, .int .i64 num2] 28))) (t := t1) (cs := [.int .i64 k2, .int .u64 s02, .int .u64 s12, .int .u64 s22, .int .u64 s32, .slice al2 nl2 cl2, .int .i64 mn2, .int .i64 mx2, .int .i64 num2]) (by rw [hz1, hz]; have := HBKA.out.2.2.2; omega) rfl (Rd.mono (by rw [hz1, hz]; omega) _ _ (Rd.masked (fun b hb hp => (by
    simp only [above, decide_eq_true_eq] at hp ⊢
    have := HZA.out
    exact ⟨by omega, (hba1.block b (by rw [hz]; exact hb)).trans (o4 b (by omega))⟩)) HRD.out))
  rw [hz1, hz] at hpr
  rw [hz] at z0 h6 h7
  have HPR0 := Lib.hid hpr
  have HBKB := Lib.hid (show Blk ((((((((((VA.setCell ⟨w.heap.size, 0, none⟩ (.string S)).setCell ⟨w.heap.size, 1, none⟩ (.bool true)).setCell ⟨w.heap.size, 2, none⟩ (.int .i64 r1.at_)).setCell ⟨w.heap.size, 3, none⟩ (.int .i64 r1.opn)).setCell ⟨w.heap.size, 4, none⟩ (.slice a2 n2 c2)).setCell ⟨w.heap.size, 5, none⟩ (.slice none 0 0)).setCell ⟨w.heap.size, 6, none⟩ (.int .i64 0)).setCell ⟨w.heap.size, 7, none⟩ (.int .i64 0)).alloc (.cells #[.int .i64 k2, .int .u64 s02, .int .u64 s12, .int .u64 s22, .int .u64 s32, .slice al2 nl2 cl2, .int .i64 mn2, .int .i64 mx2, .int .i64 num2] 28)).alloc (.cells #[.int .i64 k2, .int .u64 s02, .int .u64 s12, .int .u64 s22, .int .u64 s32, .slice al2 nl2 cl2, .int .i64 mn2, .int .i64 mx2, .int .i64 num2] 28)) w.heap.size S r1 a2 n2 c2 from ⟨(b0.block _ (by rw [hz]; exact hnA)).trans k4, (b0.block _ (by rw [hz]; have := HBKA.out.2.2.2; omega)).trans ((o4 (w.heap.size + 1) (by omega)).trans HBKA.out.2.1), (b0.block _ (by rw [hz]; have := HBKA.out.2.2.2; omega)).trans ((o4 (w.heap.size + 1 + 1) (by omega)).trans HBKA.out.2.2.1), by have := HBKA.out.2.2.2; omega⟩)
  have hlow : ∀ g, a2 = some ⟨g, 0, none⟩ → g < VA.heap.size ∧ g ≠ w.heap.size := by
    intro g hg
    have hlt : g < VA.heap.size := by
      rcases HCL2.out with ⟨_, h, _⟩ | ⟨g', h, _, _, _, h5, _⟩
      · rw [h] at hg; cases hg
      · rw [h] at hg; injection hg with hg; injection hg with hg; omega
    have hz3 := HZA.out
    rcases HOR2.out with e | ⟨g', e, hge⟩
    · rw [e] at hg; have := HLA.out g hg; exact ⟨hlt, by omega⟩
    · rw [e] at hg; injection hg with hg; injection hg with hg; exact ⟨hlt, by omega⟩
  have HCLB := Lib.hid (HCL2.out.far (X := fun k => k = w.heap.size) (fun g hg => (hlow g hg).2) HQB.out)
  have HSPB := Lib.hid (show ∀ g, a2 = some ⟨g, 0, none⟩ → (Value.slice (some ⟨VA.heap.size + 1, 0, none⟩) 1 1).ownBlock ≠ some g from fun g hg e => by
    simp only [Value.ownBlock, Option.some.injEq] at e
    have := (hlow g hg).1
    omega)
  have HFRB := Lib.hid (show From w.heap.size a a2 by
    rcases HOR2.out with e | ⟨g', e, hge⟩
    · exact .inl e
    · exact .inr ⟨g', e, by have := HZA.out; omega⟩)
  have HBLB := Lib.hid (HQB.out.below (N := w.heap.size) (fun k e => Nat.le_of_eq e.symm) HVA.out (Nat.le_refl _))
  clear k4 o4 b4 hz b0 z0 h6 h7 hz1 hba1 hpr hlow hnA cp0 cp1 cp2 cp3 cp4 cp5 cp6 cp7 cf0 cf1 cf2 cf3 cf4 cf5 cf6 cf7
  generalize ((((((((((VA.setCell ⟨w.heap.size, 0, none⟩ (.string S)).setCell ⟨w.heap.size, 1, none⟩ (.bool true)).setCell ⟨w.heap.size, 2, none⟩ (.int .i64 r1.at_)).setCell ⟨w.heap.size, 3, none⟩ (.int .i64 r1.opn)).setCell ⟨w.heap.size, 4, none⟩ (.slice a2 n2 c2)).setCell ⟨w.heap.size, 5, none⟩ (.slice none 0 0)).setCell ⟨w.heap.size, 6, none⟩ (.int .i64 0)).setCell ⟨w.heap.size, 7, none⟩ (.int .i64 0)).alloc (.cells #[.int .i64 k2, .int .u64 s02, .int .u64 s12, .int .u64 s22, .int .u64 s32, .slice al2 nl2 cl2, .int .i64 mn2, .int .i64 mx2, .int .i64 num2] 28)).alloc (.cells #[.int .i64 k2, .int .u64 s02, .int .u64 s12, .int .u64 s22, .int .u64 s32, .slice al2 nl2 cl2, .int .i64 mn2, .int .i64 mx2, .int .i64 num2] 28)) = VB at *
  go_cut [7] (fun v7 wx => ChEnd w S a r' t v7 wx)
  case first =>
    go_wp2_with fail
    go_loopg [7] f (fun g v7 wr => ChRel w S a deep f r' t g v7 wr)
    case atStart => exact ⟨r1, [t1], a2, n2, c2, Nat.le_refl _, HCF.out, HPR0.out, fun t ht => by rw [List.mem_singleton.1 ht]; exact HK1.out, (by simp), HBKB.out, HCLB.out, HBLB.out, HFRB.out, HSPB.out⟩
    case round =>
      clear HBF HK1 HCF HRD HCL2 HOR2 HPR0 HBKB HCLB HSPB HFRB HBLB HQB HBKA HSZA HZA HVA
      obtain ⟨r1, acc, a1, n1, c1, hgf, hcf, hpr, hkk, hal, hbk, hcl1, hbl, hfr, hsp⟩ := hrel
      obtain ⟨av, cv, rfl, _⟩ := hpr.form
      have HGF := Lib.hid hgf
      have HCF := Lib.hid hcf
      have HPR := Lib.hid hpr
      have HKK := Lib.hid hkk
      have HAL := Lib.hid hal
      have HBK1 := Lib.hid hbk
      have HCL1 := Lib.hid hcl1
      have HBL := Lib.hid hbl
      have HFR := Lib.hid hfr
      have HSP := Lib.hid hsp
      have h2 := hbk.1
      have cp0 : wr.cell? ⟨w.heap.size, 0, none⟩ = some (.string S) := cell_of h2 (j := 0) rfl
      have cp1 : wr.cell? ⟨w.heap.size, 1, none⟩ = some (.bool true) := cell_of h2 (j := 1) rfl
      have cp2 : wr.cell? ⟨w.heap.size, 2, none⟩ = some (.int .i64 r1.at_) := cell_of h2 (j := 2) rfl
      have cp3 : wr.cell? ⟨w.heap.size, 3, none⟩ = some (.int .i64 r1.opn) := cell_of h2 (j := 3) rfl
      have cp4 : wr.cell? ⟨w.heap.size, 4, none⟩ = some (.slice a1 n1 c1) := cell_of h2 (j := 4) rfl
      have cp5 : wr.cell? ⟨w.heap.size, 5, none⟩ = some (.slice none 0 0) := cell_of h2 (j := 5) rfl
      have cp6 : wr.cell? ⟨w.heap.size, 6, none⟩ = some (.int .i64 0) := cell_of h2 (j := 6) rfl
      have cp7 : wr.cell? ⟨w.heap.size, 7, none⟩ = some (.int .i64 0) := cell_of h2 (j := 7) rfl
      have hnr : w.heap.size < wr.heap.size := by have := hbk.2.2.2; omega
      have SX := Lib.hid (show ∀ w', Below wr.heap.size wr w' → (Below wr.heap.size wr w' ∧ w'.cell? ⟨w.heap.size, 0, none⟩ = some (.string S) ∧ w'.cell? ⟨w.heap.size, 1, none⟩ = some (.bool true) ∧ w'.cell? ⟨w.heap.size, 2, none⟩ = some (.int .i64 r1.at_) ∧ w'.cell? ⟨w.heap.size, 3, none⟩ = some (.int .i64 r1.opn) ∧ w'.cell? ⟨w.heap.size, 4, none⟩ = some (.slice a1 n1 c1) ∧ w'.cell? ⟨w.heap.size, 5, none⟩ = some (.slice none 0 0) ∧ w'.cell? ⟨w.heap.size, 6, none⟩ = some (.int .i64 0) ∧ w'.cell? ⟨w.heap.size, 7, none⟩ = some (.int .i64 0)) from fun w' hb => ⟨hb, (hb.cell (p := ⟨w.heap.size, 0, none⟩) hnr).trans cp0, (hb.cell (p := ⟨w.heap.size, 1, none⟩) hnr).trans cp1, (hb.cell (p := ⟨w.heap.size, 2, none⟩) hnr).trans cp2, (hb.cell (p := ⟨w.heap.size, 3, none⟩) hnr).trans cp3, (hb.cell (p := ⟨w.heap.size, 4, none⟩) hnr).trans cp4, (hb.cell (p := ⟨w.heap.size, 5, none⟩) hnr).trans cp5, (hb.cell (p := ⟨w.heap.size, 6, none⟩) hnr).trans cp6, (hb.cell (p := ⟨w.heap.size, 7, none⟩) hnr).trans cp7⟩)
      clear h2 hgf hcf hpr hkk hal hbk hcl1 hbl hfr hsp
      obtain ⟨g', rfl⟩ : ∃ g', gk = g' + 1 := by
        cases gk with
        | zero => have := HCF.out; simp [choiceL] at this
        | succ g' => exact ⟨g', rfl⟩
      have hcf := HCF.out
      rw [choiceL] at hcf
      have HOP := Lib.hid (fun (w' : World) (b : ByteArray) => op_any w' S r1.at_ r1.opn a1 n1 c1 b)
      cases hs : S.data.toList[r1.at_]? with
      | none =>
        rw [hs] at hcf
        simp only [Option.some.injEq, Prod.mk.injEq] at hcf
        obtain ⟨rfl, ht⟩ := hcf
        have HT := Lib.hid ht
        have HSG := Lib.hid (fun w' => sign_end w' S r1.at_ r1.opn a1 n1 c1 r1.at_ (no_byte hs))
        clear hs ht
        go_upto_region 3 with (fail)
        go_region_held3 (fun w' => Below wr.heap.size wr w' ∧ w'.cell? ⟨w.heap.size, 0, none⟩ = some (.string S) ∧ w'.cell? ⟨w.heap.size, 1, none⟩ = some (.bool true) ∧ w'.cell? ⟨w.heap.size, 2, none⟩ = some (.int .i64 r1.at_) ∧ w'.cell? ⟨w.heap.size, 3, none⟩ = some (.int .i64 r1.opn) ∧ w'.cell? ⟨w.heap.size, 4, none⟩ = some (.slice a1 n1 c1) ∧ w'.cell? ⟨w.heap.size, 5, none⟩ = some (.slice none 0 0) ∧ w'.cell? ⟨w.heap.size, 6, none⟩ = some (.int .i64 0) ∧ w'.cell? ⟨w.heap.size, 7, none⟩ = some (.int .i64 0))
          (first | exact SX.out _ ((Below.refl _ _).drew) | exact SX.out _ HBW.out)
          (first | (go_at_call 53; refine (HSG.out _).mono ?_; rintro e V1 ⟨rfl, hb6⟩; have HBW := Lib.hid (show Below wr.heap.size wr V1 from (by first | exact ((Below.refl wr.heap.size wr).drew).trans hb6 | exact HBW.out.trans (hb6.mono HBW.out.size))); clear hb6)
                 | (go_at_call 54; refine (HOP.out _ _).mono ?_; rintro e V1 ⟨rfl, hb6⟩; have HBW := Lib.hid (show Below wr.heap.size wr V1 from (by first | exact ((Below.refl wr.heap.size wr).drew).trans hb6 | exact HBW.out.trans (hb6.mono HBW.out.size))); clear hb6))
        all_goals
          go_wp2_with fail
          go_meet
          exact ⟨acc, a1, n1, c1, HT.out.symm, HPR.out.below HBW.out, HKK.out, HAL.out, HBK1.out.below HBW.out, HCL1.out.below HBW.out, HBL.out.trans (HBW.out.mono HBL.out.size), HFR.out⟩
      | some ch =>
        rw [hs] at hcf
        simp only at hcf
        obtain ⟨hi, hc⟩ := byte_at hs
        have h92 : ch ≠ 92 := by
          rintro rfl
          simp at hcf
        have HSG := Lib.hid (fun w' => (show Calls Tryz.prog 53 #[rVal S r1.at_ r1.opn a1 n1 c1, .int .i64 r1.at_] w' (Says w' (.string ⟨#[ch]⟩)) from by
          rw [← hc]
          exact sign_byte w' S r1.at_ r1.opn a1 n1 c1 r1.at_ hi hS (by rw [hc]; intro e; exact h92 (UInt8.toNat_inj.1 e))))
        by_cases h124 : ch = 124
        rotate_left
        · rw [if_neg h124, if_neg h92] at hcf
          simp only [Option.some.injEq, Prod.mk.injEq] at hcf
          obtain ⟨rfl, ht⟩ := hcf
          have HT := Lib.hid ht
          have c124 : (ch == 124) = false := by simp [h124]
          clear hs ht hc h92
          go_upto_region 3 with (fail)
          go_region_held3 (fun w' => Below wr.heap.size wr w' ∧ w'.cell? ⟨w.heap.size, 0, none⟩ = some (.string S) ∧ w'.cell? ⟨w.heap.size, 1, none⟩ = some (.bool true) ∧ w'.cell? ⟨w.heap.size, 2, none⟩ = some (.int .i64 r1.at_) ∧ w'.cell? ⟨w.heap.size, 3, none⟩ = some (.int .i64 r1.opn) ∧ w'.cell? ⟨w.heap.size, 4, none⟩ = some (.slice a1 n1 c1) ∧ w'.cell? ⟨w.heap.size, 5, none⟩ = some (.slice none 0 0) ∧ w'.cell? ⟨w.heap.size, 6, none⟩ = some (.int .i64 0) ∧ w'.cell? ⟨w.heap.size, 7, none⟩ = some (.int .i64 0))
            (first | exact SX.out _ ((Below.refl _ _).drew) | exact SX.out _ HBW.out)
            (first | (go_at_call 53; refine (HSG.out _).mono ?_; rintro e V1 ⟨rfl, hb6⟩; have HBW := Lib.hid (show Below wr.heap.size wr V1 from (by first | exact ((Below.refl wr.heap.size wr).drew).trans hb6 | exact HBW.out.trans (hb6.mono HBW.out.size))); clear hb6)
                   | (go_at_call 54; refine (HOP.out _ _).mono ?_; rintro e V1 ⟨rfl, hb6⟩; have HBW := Lib.hid (show Below wr.heap.size wr V1 from (by first | exact ((Below.refl wr.heap.size wr).drew).trans hb6 | exact HBW.out.trans (hb6.mono HBW.out.size))); clear hb6))
          all_goals
            go_wp2_with fail
            go_meet
            exact ⟨acc, a1, n1, c1, HT.out.symm, HPR.out.below HBW.out, HKK.out, HAL.out, HBK1.out.below HBW.out, HCL1.out.below HBW.out, HBL.out.trans (HBW.out.mono HBL.out.size), HFR.out⟩
        · subst h124
          rw [if_pos rfl] at hcf
          cases hbf2 : branchF S.data.toList g' ⟨r1.at_ + 1, r1.opn, r1.cl⟩ deep [] with
          | none => rw [hbf2] at hcf; simp at hcf
          | some x =>
          obtain ⟨r2, t2⟩ := x
          rw [hbf2] at hcf
          simp only at hcf
          split at hcf
          rotate_left
          · cases hcf
          rename_i hok
          have HOK := Lib.hid hok
          have HNX := Lib.hid hcf
          have HBRX := Lib.hid (HBC.out g' (by have := HGF.out; omega) ⟨r1.at_ + 1, r1.opn, r1.cl⟩ deep r2 t2 hbf2)
          have hnX := Lib.hid (show ∀ g, a1 = some ⟨g, 0, none⟩ → g ≠ w.heap.size by
            intro g hg
            rcases HFR.out with e1 | ⟨g', e1, h3⟩
            · rw [e1] at hg; have := HLA.out g hg; omega
            · rw [e1] at hg; injection hg with hg; injection hg with hg; omega)
          have e1 : IntKind.i64.wrap ((r1.at_ : Int) + 1) = (r1.at_ : Int) + 1 := IntWalk.i64_in _ (by omega)
          have hsz1 : (ByteArray.mk #[124]).size = 1 := rfl
          clear hs hc h92 hcf hbf2 hok
          go_upto_region 3 with (fail)
          go_region_held3 (fun w' => Below wr.heap.size wr w' ∧ w'.cell? ⟨w.heap.size, 0, none⟩ = some (.string S) ∧ w'.cell? ⟨w.heap.size, 1, none⟩ = some (.bool true) ∧ w'.cell? ⟨w.heap.size, 2, none⟩ = some (.int .i64 r1.at_) ∧ w'.cell? ⟨w.heap.size, 3, none⟩ = some (.int .i64 r1.opn) ∧ w'.cell? ⟨w.heap.size, 4, none⟩ = some (.slice a1 n1 c1) ∧ w'.cell? ⟨w.heap.size, 5, none⟩ = some (.slice none 0 0) ∧ w'.cell? ⟨w.heap.size, 6, none⟩ = some (.int .i64 0) ∧ w'.cell? ⟨w.heap.size, 7, none⟩ = some (.int .i64 0))
            (first | exact SX.out _ ((Below.refl _ _).drew) | exact SX.out _ HBW.out)
            (first | (go_at_call 53; refine (HSG.out _).mono ?_; rintro e V1 ⟨rfl, hb6⟩; have HBW := Lib.hid (show Below wr.heap.size wr V1 from (by first | exact ((Below.refl wr.heap.size wr).drew).trans hb6 | exact HBW.out.trans (hb6.mono HBW.out.size))); clear hb6)
                   | (go_at_call 54; refine (HOP.out _ _).mono ?_; rintro e V1 ⟨rfl, hb6⟩; have HBW := Lib.hid (show Below wr.heap.size wr V1 from (by first | exact ((Below.refl wr.heap.size wr).drew).trans hb6 | exact HBW.out.trans (hb6.mono HBW.out.size))); clear hb6))
          go_upto_region 6 with (fail)
          have hbkv := HBK1.out.below HBW.out
          have HBKV := Lib.hid hbkv
          have h2 := hbkv.1
          have hn1 : w.heap.size < V1.heap.size := by have := hbkv.2.2.2; omega
          clear hbkv cp0 cp1 cp2 cp3 cp4 cp5 cp6 cp7
          have cp0 : V1.cell? ⟨w.heap.size, 0, none⟩ = some (.string S) := cell_of h2 (j := 0) rfl
          have cp1 : V1.cell? ⟨w.heap.size, 1, none⟩ = some (.bool true) := cell_of h2 (j := 1) rfl
          have cp2 : V1.cell? ⟨w.heap.size, 2, none⟩ = some (.int .i64 r1.at_) := cell_of h2 (j := 2) rfl
          have cp3 : V1.cell? ⟨w.heap.size, 3, none⟩ = some (.int .i64 r1.opn) := cell_of h2 (j := 3) rfl
          have cp4 : V1.cell? ⟨w.heap.size, 4, none⟩ = some (.slice a1 n1 c1) := cell_of h2 (j := 4) rfl
          have cp5 : V1.cell? ⟨w.heap.size, 5, none⟩ = some (.slice none 0 0) := cell_of h2 (j := 5) rfl
          have cp6 : V1.cell? ⟨w.heap.size, 6, none⟩ = some (.int .i64 0) := cell_of h2 (j := 6) rfl
          have cp7 : V1.cell? ⟨w.heap.size, 7, none⟩ = some (.int .i64 0) := cell_of h2 (j := 7) rfl
          have f2 := frozen_of_row V1 w.heap.size 2 _ _ h2
          clear h2
          go_cut [7] from 18 to 52 (fun v7 wx => v7 = .slice av acc.length cv ∧ Blk wx w.heap.size S ⟨r1.at_ + 1, r1.opn, r1.cl⟩ a1 n1 c1 ∧ Bar (fun k => k = w.heap.size) wr wx)
          case first =>
            go_region_law (first | (go_simp; go_at_call 54; refine (HOP.out _ _).mono ?_; rintro e V2 ⟨rfl, hb7⟩; have HB7 := Lib.hid ((Below.drew (Below.refl V1.heap.size V1)).trans hb7); have hbk7 := HBKV.out.below HB7.out; have HBK7 := Lib.hid hbk7; have k2 : V2.cell? ⟨w.heap.size, 2, none⟩ = some (.int .i64 r1.at_) := cell_of hbk7.1 (j := 2) rfl; have kf2 := frozen_of_row V2 w.heap.size 2 _ _ hbk7.1; clear hb7 hbk7))
            all_goals
              go_wp2_with fail
              go_meet
              refine ⟨rfl, ⟨(heap_setCell_same _ _ 2 _ _ _ HBK7.out.1).trans rfl, (Below.heap_setCell _ _ _ _ (by simp)).trans HBK7.out.2.1, (Below.heap_setCell _ _ _ _ (by simp; omega)).trans HBK7.out.2.2.1, by simpa [World.setCell] using HBK7.out.2.2.2⟩, ((Bar.of_below HBW.out).trans (Bar.of_below HB7.out)).set _ _ (.inl rfl)⟩
          case rest =>
            obtain ⟨rfl, hbk2, hq2⟩ := hcut
            have HBK2 := Lib.hid hbk2
            have HQ2 := Lib.hid hq2
            have h2 := hbk2.1
            have cp0 : wc.cell? ⟨w.heap.size, 0, none⟩ = some (.string S) := cell_of h2 (j := 0) rfl
            have cp1 : wc.cell? ⟨w.heap.size, 1, none⟩ = some (.bool true) := cell_of h2 (j := 1) rfl
            have cp2 : wc.cell? ⟨w.heap.size, 2, none⟩ = some (.int .i64 ((r1.at_ + 1 : Nat) : Int)) := cell_of h2 (j := 2) rfl
            have cp3 : wc.cell? ⟨w.heap.size, 3, none⟩ = some (.int .i64 r1.opn) := cell_of h2 (j := 3) rfl
            have cp4 : wc.cell? ⟨w.heap.size, 4, none⟩ = some (.slice a1 n1 c1) := cell_of h2 (j := 4) rfl
            have cp5 : wc.cell? ⟨w.heap.size, 5, none⟩ = some (.slice none 0 0) := cell_of h2 (j := 5) rfl
            have cp6 : wc.cell? ⟨w.heap.size, 6, none⟩ = some (.int .i64 0) := cell_of h2 (j := 6) rfl
            have cp7 : wc.cell? ⟨w.heap.size, 7, none⟩ = some (.int .i64 0) := cell_of h2 (j := 7) rfl
            have HCLc := Lib.hid (HCL1.out.far (X := fun k => k = w.heap.size) hnX.out hq2)
            clear h2 hbk2 hq2
            go_wp2_with fail
            refine (HBRX.out wc a1 n1 c1 HCLc.out hd).mono ?_
            rintro e VA ⟨a2, n2, c2, cs, rfl, hb, hrd, hcl2, hor2⟩
            obtain ⟨k2, s02, s12, s22, s32, al2, nl2, cl2, mn2, mx2, num2, rfl⟩ := hrd.form
            have HZA := Lib.hid hb.size
            have HVA := Lib.hid hb
            have HRD := Lib.hid hrd
            have HCL2 := Lib.hid hcl2
            have HOR2 := Lib.hid hor2
            have HBKA := Lib.hid (HBK2.out.below hb)
            clear hb hrd hcl2 hor2 cp0 cp1 cp2 cp3 cp4 cp5 cp6 cp7
            have h2 := HBKA.out.1
            have cp0 : VA.cell? ⟨w.heap.size, 0, none⟩ = some (.string S) := cell_of h2 (j := 0) rfl
            have cp1 : VA.cell? ⟨w.heap.size, 1, none⟩ = some (.bool true) := cell_of h2 (j := 1) rfl
            have cp2 : VA.cell? ⟨w.heap.size, 2, none⟩ = some (.int .i64 ((r1.at_ + 1 : Nat) : Int)) := cell_of h2 (j := 2) rfl
            have cp3 : VA.cell? ⟨w.heap.size, 3, none⟩ = some (.int .i64 r1.opn) := cell_of h2 (j := 3) rfl
            have cp4 : VA.cell? ⟨w.heap.size, 4, none⟩ = some (.slice a1 n1 c1) := cell_of h2 (j := 4) rfl
            have cp5 : VA.cell? ⟨w.heap.size, 5, none⟩ = some (.slice none 0 0) := cell_of h2 (j := 5) rfl
            have cp6 : VA.cell? ⟨w.heap.size, 6, none⟩ = some (.int .i64 0) := cell_of h2 (j := 6) rfl
            have cp7 : VA.cell? ⟨w.heap.size, 7, none⟩ = some (.int .i64 0) := cell_of h2 (j := 7) rfl
            have cf0 := frozen_of_row VA (w.heap.size) 0 _ _ h2
            have cf1 := frozen_of_row VA (w.heap.size) 1 _ _ h2
            have cf2 := frozen_of_row VA (w.heap.size) 2 _ _ h2
            have cf3 := frozen_of_row VA (w.heap.size) 3 _ _ h2
            have cf4 := frozen_of_row VA (w.heap.size) 4 _ _ h2
            have cf5 := frozen_of_row VA (w.heap.size) 5 _ _ h2
            have cf6 := frozen_of_row VA (w.heap.size) 6 _ _ h2
            have cf7 := frozen_of_row VA (w.heap.size) 7 _ _ h2
            have hnA : w.heap.size < VA.heap.size := by have := HBKA.out.2.2.2; omega
            clear h2
            unfold rVal
            go_upto_region 9 with (fail)
            obtain ⟨k4, o4, b4⟩ := put8 HBKA.out.1 (.string S) (.bool true) (.int .i64 r2.at_) (.int .i64 r2.opn) (.slice a2 n2 c2) (.slice none 0 0) (.int .i64 0) (.int .i64 0)
            have hz : ((((((((VA.setCell ⟨w.heap.size, 0, none⟩ (.string S)).setCell ⟨w.heap.size, 1, none⟩ (.bool true)).setCell ⟨w.heap.size, 2, none⟩ (.int .i64 r2.at_)).setCell ⟨w.heap.size, 3, none⟩ (.int .i64 r2.opn)).setCell ⟨w.heap.size, 4, none⟩ (.slice a2 n2 c2)).setCell ⟨w.heap.size, 5, none⟩ (.slice none 0 0)).setCell ⟨w.heap.size, 6, none⟩ (.int .i64 0)).setCell ⟨w.heap.size, 7, none⟩ (.int .i64 0)).heap.size = VA.heap.size := by simp [World.setCell]
            obtain ⟨b0, z0, h6, h7⟩ := alloc2 ((((((((VA.setCell ⟨w.heap.size, 0, none⟩ (.string S)).setCell ⟨w.heap.size, 1, none⟩ (.bool true)).setCell ⟨w.heap.size, 2, none⟩ (.int .i64 r2.at_)).setCell ⟨w.heap.size, 3, none⟩ (.int .i64 r2.opn)).setCell ⟨w.heap.size, 4, none⟩ (.slice a2 n2 c2)).setCell ⟨w.heap.size, 5, none⟩ (.slice none 0 0)).setCell ⟨w.heap.size, 6, none⟩ (.int .i64 0)).setCell ⟨w.heap.size, 7, none⟩ (.int .i64 0)) (.cells #[.string S, .bool true, .int .i64 r2.at_, .int .i64 r2.opn, .slice a2 n2 c2, .slice none 0 0, .int .i64 0, .int .i64 0] 105) (.cells #[.int .i64 k2, .int .u64 s02, .int .u64 s12, .int .u64 s22, .int .u64 s32, .slice al2 nl2 cl2, .int .i64 mn2, .int .i64 mx2, .int .i64 num2] 28)
            have HQB := Lib.hid (show Bar (fun k => k = w.heap.size) VA ((((((((((VA.setCell ⟨w.heap.size, 0, none⟩ (.string S)).setCell ⟨w.heap.size, 1, none⟩ (.bool true)).setCell ⟨w.heap.size, 2, none⟩ (.int .i64 r2.at_)).setCell ⟨w.heap.size, 3, none⟩ (.int .i64 r2.opn)).setCell ⟨w.heap.size, 4, none⟩ (.slice a2 n2 c2)).setCell ⟨w.heap.size, 5, none⟩ (.slice none 0 0)).setCell ⟨w.heap.size, 6, none⟩ (.int .i64 0)).setCell ⟨w.heap.size, 7, none⟩ (.int .i64 0)).alloc (.cells #[.string S, .bool true, .int .i64 r2.at_, .int .i64 r2.opn, .slice a2 n2 c2, .slice none 0 0, .int .i64 0, .int .i64 0] 105)).alloc (.cells #[.int .i64 k2, .int .u64 s02, .int .u64 s12, .int .u64 s22, .int .u64 s32, .slice al2 nl2 cl2, .int .i64 mn2, .int .i64 mx2, .int .i64 num2] 28)) from ((((((((((Bar.refl (fun k => k = w.heap.size) VA).set ⟨w.heap.size, 0, none⟩ (.string S) (.inl rfl)).set ⟨w.heap.size, 1, none⟩ (.bool true) (.inl rfl)).set ⟨w.heap.size, 2, none⟩ (.int .i64 r2.at_) (.inl rfl)).set ⟨w.heap.size, 3, none⟩ (.int .i64 r2.opn) (.inl rfl)).set ⟨w.heap.size, 4, none⟩ (.slice a2 n2 c2) (.inl rfl)).set ⟨w.heap.size, 5, none⟩ (.slice none 0 0) (.inl rfl)).set ⟨w.heap.size, 6, none⟩ (.int .i64 0) (.inl rfl)).set ⟨w.heap.size, 7, none⟩ (.int .i64 0) (.inl rfl))).trans (Bar.of_below b0))
            rw [hz] at z0 h6 h7
            have HBKB := Lib.hid (show Blk ((((((((((VA.setCell ⟨w.heap.size, 0, none⟩ (.string S)).setCell ⟨w.heap.size, 1, none⟩ (.bool true)).setCell ⟨w.heap.size, 2, none⟩ (.int .i64 r2.at_)).setCell ⟨w.heap.size, 3, none⟩ (.int .i64 r2.opn)).setCell ⟨w.heap.size, 4, none⟩ (.slice a2 n2 c2)).setCell ⟨w.heap.size, 5, none⟩ (.slice none 0 0)).setCell ⟨w.heap.size, 6, none⟩ (.int .i64 0)).setCell ⟨w.heap.size, 7, none⟩ (.int .i64 0)).alloc (.cells #[.string S, .bool true, .int .i64 r2.at_, .int .i64 r2.opn, .slice a2 n2 c2, .slice none 0 0, .int .i64 0, .int .i64 0] 105)).alloc (.cells #[.int .i64 k2, .int .u64 s02, .int .u64 s12, .int .u64 s22, .int .u64 s32, .slice al2 nl2 cl2, .int .i64 mn2, .int .i64 mx2, .int .i64 num2] 28)) w.heap.size S r2 a2 n2 c2 from ⟨(b0.block _ (by rw [hz]; exact hnA)).trans k4, (b0.block _ (by rw [hz]; have := HBKA.out.2.2.2; omega)).trans ((o4 (w.heap.size + 1) (by omega)).trans HBKA.out.2.1), (b0.block _ (by rw [hz]; have := HBKA.out.2.2.2; omega)).trans ((o4 (w.heap.size + 1 + 1) (by omega)).trans HBKA.out.2.2.1), by have := HBKA.out.2.2.2; omega⟩)
            have HXB := Lib.hid h7
            clear hz b0 z0 h6 h7 k4 o4 b4 hnA cp0 cp1 cp2 cp3 cp4 cp5 cp6 cp7 cf0 cf1 cf2 cf3 cf4 cf5 cf6 cf7
            generalize ((((((((((VA.setCell ⟨w.heap.size, 0, none⟩ (.string S)).setCell ⟨w.heap.size, 1, none⟩ (.bool true)).setCell ⟨w.heap.size, 2, none⟩ (.int .i64 r2.at_)).setCell ⟨w.heap.size, 3, none⟩ (.int .i64 r2.opn)).setCell ⟨w.heap.size, 4, none⟩ (.slice a2 n2 c2)).setCell ⟨w.heap.size, 5, none⟩ (.slice none 0 0)).setCell ⟨w.heap.size, 6, none⟩ (.int .i64 0)).setCell ⟨w.heap.size, 7, none⟩ (.int .i64 0)).alloc (.cells #[.string S, .bool true, .int .i64 r2.at_, .int .i64 r2.opn, .slice a2 n2 c2, .slice none 0 0, .int .i64 0, .int .i64 0] 105)).alloc (.cells #[.int .i64 k2, .int .u64 s02, .int .u64 s12, .int .u64 s22, .int .u64 s32, .slice al2 nl2 cl2, .int .i64 mn2, .int .i64 mx2, .int .i64 num2] 28)) = VB at *
            have h3 := HXB.out
            have cq0 : VB.cell? ⟨(VA.heap.size + 1), 0, none⟩ = some (.int .i64 k2) := cell_of h3 (j := 0) rfl
            have cq1 : VB.cell? ⟨(VA.heap.size + 1), 1, none⟩ = some (.int .u64 s02) := cell_of h3 (j := 1) rfl
            have cq2 : VB.cell? ⟨(VA.heap.size + 1), 2, none⟩ = some (.int .u64 s12) := cell_of h3 (j := 2) rfl
            have cq3 : VB.cell? ⟨(VA.heap.size + 1), 3, none⟩ = some (.int .u64 s22) := cell_of h3 (j := 3) rfl
            have cq4 : VB.cell? ⟨(VA.heap.size + 1), 4, none⟩ = some (.int .u64 s32) := cell_of h3 (j := 4) rfl
            have cq5 : VB.cell? ⟨(VA.heap.size + 1), 5, none⟩ = some (.slice al2 nl2 cl2) := cell_of h3 (j := 5) rfl
            have cq6 : VB.cell? ⟨(VA.heap.size + 1), 6, none⟩ = some (.int .i64 mn2) := cell_of h3 (j := 6) rfl
            have cq7 : VB.cell? ⟨(VA.heap.size + 1), 7, none⟩ = some (.int .i64 mx2) := cell_of h3 (j := 7) rfl
            have cq8 : VB.cell? ⟨(VA.heap.size + 1), 8, none⟩ = some (.int .i64 num2) := cell_of h3 (j := 8) rfl
            clear h3
            have hqd : Bar (fun k => k < w.heap.size + 3) wr VB := (HQ2.out.mono fun k _ e => (by show k < w.heap.size + 3; omega)).trans ((Bar.of_below HVA.out).trans (HQB.out.mono fun k _ e => (by show k < w.heap.size + 3; omega)))
            have hprd := HPR.out.far hqd
            have hrb := (Below.refl VB.heap.size VB).alloc (Nat.le_refl _) (.cells #[.int .i64 k2, .int .u64 s02, .int .u64 s12, .int .u64 s22, .int .u64 s32, .slice al2 nl2 cl2, .int .i64 mn2, .int .i64 mx2, .int .i64 num2] 28)
            have HRB := Lib.hid hrb
            obtain ⟨css, hcl, hc9, hco, hcn⟩ := hprd.below hrb
            have HCSL := Lib.hid hcl
            have HC9 := Lib.hid hc9
            have HCO := Lib.hid hco
            have HCN := Lib.hid hcn
            have hle3 : w.heap.size + 3 ≤ VB.heap.size := HBKB.out.2.2.2
            have HAL1 := Lib.hid (show acc.length < 100 from HOK.out.2)
            clear hqd hprd hrb hcl hc9 hco hcn
            obtain ⟨i0, hi0, hz0, hz1, hz2⟩ := info_parts info_T
            have HI := Lib.hid hi0
            have HI0 := Lib.hid hz0
            have HI1 := Lib.hid hz1
            have HI2 := Lib.hid hz2
            clear hi0 hz0 hz1 hz2
            go_wp2_with (at_builtin; (refine wpList_append_lies _ rfl (.tmp 49) (.tmp 51) 23 rfl (w.heap.size + 3) 28 i0 _ 9 88 und_Ts HI.out HI0.out HI1.out HI2.out rfl (by decide) _ _ css.flatten rfl HCO.out _ 1 1 [.int .i64 k2, .int .u64 s02, .int .u64 s12, .int .u64 s22, .int .u64 s32, .slice al2 nl2 cl2, .int .i64 mn2, .int .i64 mx2, .int .i64 num2] rfl rfl (news1 _ _ _) (by intro u hu; simp only [List.mem_cons, List.not_mem_nil, or_false] at hu; rcases hu with rfl | rfl | rfl | rfl | rfl | rfl | rfl | rfl | rfl <;> rfl) (by decide) (by have := HAL1.out; unfold maxLen; omega) (by have := HAL1.out; omega) (Nat.le_trans hle3 HRB.out.size) _ rfl ?_))
            intro g6 cap6 w6 hown hgrow hat6 hlt6
            have hown6 : ∀ k, (Value.slice av acc.length cv).ownBlock = some k → w.heap.size + 3 ≤ k ∧ k < wr.heap.size := HPR.out.lt
            have hpr6 := PartsR.appended (t := t2) HCSL.out HC9.out rfl HCN.out (Rd.mono (by have := HQB.out.size; have := HRB.out.size; omega) _ _ (Rd.masked (fun b hb hp => (by
              simp only [above, butQ, Bool.and_eq_true, decide_eq_true_eq] at hp ⊢
              have h1 := HQ2.out.size
              have h2 := HBK2.out.2.2.2
              refine ⟨⟨by omega, fun e => by have := (hown6 b e.symm).2; omega⟩, (HRB.out.block b (by have := HQB.out.size; omega)).trans (HQB.out.block b hb (by omega))⟩)) HRD.out)) hown hgrow (hat6.imp_right fun h => h.trans (Array.size_push _).symm)
            have hbk6 := (HBKB.out.below HRB.out).grown hgrow (fun k hk => (hown6 k hk).1)
            have hz6 : g6 = (VB.alloc (.cells #[.int .i64 k2, .int .u64 s02, .int .u64 s12, .int .u64 s22, .int .u64 s32, .slice al2 nl2 cl2, .int .i64 mn2, .int .i64 mx2, .int .i64 num2] 28)).heap.size ∨ (Value.slice av acc.length cv).ownBlock = some g6 := hat6.symm.imp_left fun h => h.trans (Array.size_push _).symm
            have hlow : ∀ g, a2 = some ⟨g, 0, none⟩ → g < VA.heap.size ∧ g ≠ w.heap.size ∧ (Value.slice av acc.length cv).ownBlock ≠ some g := by
              intro g hg
              have hlt : g < VA.heap.size := by
                rcases HCL2.out with ⟨_, h, _⟩ | ⟨g', h, _, _, _, h5, _⟩
                · rw [h] at hg; cases hg
                · rw [h] at hg; injection hg with hg; injection hg with hg; omega
              have h1 := HQ2.out.size
              have h2 := HBK2.out.2.2.2
              rcases HOR2.out with e | ⟨g', e, hge⟩
              · rw [e] at hg
                exact ⟨hlt, hnX.out g hg, HSP.out g hg⟩
              · rw [e] at hg
                injection hg with hg
                injection hg with hg
                subst hg
                exact ⟨hlt, by omega, fun e2 => by have := (hown6 _ e2).2; omega⟩
            have hcl6 := ((HCL2.out.far (X := fun k => k = w.heap.size) (fun g hg => (hlow g hg).2.1) HQB.out).below HRB.out).far (X := fun k => some k = (Value.slice av acc.length cv).ownBlock) (fun g hg e => (hlow g hg).2.2 e.symm) (Bar.grown hgrow)
            have hfr6 : From w.heap.size a a2 := by
              rcases HOR2.out with e | ⟨g', e, hge⟩
              · rw [e]; exact HFR.out
              · have h2 := HBK2.out.2.2.2
                exact .inr ⟨g', e, by omega⟩
            have hsp6 : ∀ g, a2 = some ⟨g, 0, none⟩ → (Value.slice (some ⟨g6, 0, none⟩) (acc.length + 1) cap6).ownBlock ≠ some g := by
              intro g hg e
              simp only [Value.ownBlock, Option.some.injEq] at e
              subst e
              obtain ⟨h1, h2, h3⟩ := hlow _ hg
              rcases hz6 with h | h
              · have := HQB.out.size; have := HRB.out.size; omega
              · exact h3 h
            have hbl6 : Below w.heap.size w w6 := by
              have h0 := HQ2.out.below (N := w.heap.size) (fun k e => Nat.le_of_eq e.symm) HBL.out (Nat.le_refl _)
              have h1 := h0.trans (HVA.out.mono h0.size)
              have h2 := HQB.out.below (N := w.heap.size) (fun k e => Nat.le_of_eq e.symm) h1 (Nat.le_refl _)
              have h3 := h2.trans (HRB.out.mono h2.size)
              exact h3.grown hgrow h3.size (fun k hk => by have := (hown6 k hk).1; omega)
            have HPR6 := Lib.hid hpr6
            have HBK6 := Lib.hid hbk6
            have HCL6 := Lib.hid hcl6
            have HFR6 := Lib.hid hfr6
            have HSP6 := Lib.hid hsp6
            have HBL6 := Lib.hid hbl6
            clear hown hgrow hat6 hlt6 hown6 hpr6 hbk6 hz6 hlow hcl6 hfr6 hsp6 hbl6 cq0 cq1 cq2 cq3 cq4 cq5 cq6 cq7 cq8
            go_wp2_with fail
            go_roundg g'
            case measure => omega
            case rel =>
              refine ⟨r2, acc ++ [t2], a2, n2, c2, by have := HGF.out; omega, HNX.out, HPR6.out, fun t ht => ?_, by have := HAL1.out; simp; omega, HBK6.out, HCL6.out, HBL6.out, HFR6.out, HSP6.out⟩
              rcases List.mem_append.1 ht with h | h
              · exact HKK.out t h
              · rw [List.mem_singleton.1 h]; exact HOK.out.1
  case rest =>
    obtain ⟨acc, a1, n1, c1, rfl, hpr, hkk, hal, hbk, hcl, hbl, hfr⟩ := hcut
    obtain ⟨av, cv, rfl, _⟩ := hpr.form
    have hrs := RSl.masked (p' := above (w.heap.size + 3)) (w := wc) (w' := wc.drew) (fun b _ hp => ⟨hp, rfl⟩) (hpr.rsl (fun b hb => (by simp only [above, decide_eq_true_eq]; exact hb)))
    have HJN := Lib.hid (choose_any wc.drew (w.heap.size + 3) wc.heap.size (by have := hbk.2.2.2; show w.heap.size + 3 ≤ wc.heap.size; omega) (Nat.le_refl _) acc _ hrs (by omega) hkk)
    have HBK := Lib.hid hbk
    have HCLX := Lib.hid hcl
    have HBL := Lib.hid hbl
    have HFR := Lib.hid hfr
    have h2 := hbk.1
    have p0 : wc.cell? ⟨w.heap.size, 0, none⟩ = some (.string S) := cell_of h2 (j := 0) rfl
    have p1 : wc.cell? ⟨w.heap.size, 1, none⟩ = some (.bool true) := cell_of h2 (j := 1) rfl
    have p2 : wc.cell? ⟨w.heap.size, 2, none⟩ = some (.int .i64 r'.at_) := cell_of h2 (j := 2) rfl
    have p3 : wc.cell? ⟨w.heap.size, 3, none⟩ = some (.int .i64 r'.opn) := cell_of h2 (j := 3) rfl
    have p4 : wc.cell? ⟨w.heap.size, 4, none⟩ = some (.slice a1 n1 c1) := cell_of h2 (j := 4) rfl
    have p5 : wc.cell? ⟨w.heap.size, 5, none⟩ = some (.slice none 0 0) := cell_of h2 (j := 5) rfl
    have p6 : wc.cell? ⟨w.heap.size, 6, none⟩ = some (.int .i64 0) := cell_of h2 (j := 6) rfl
    have p7 : wc.cell? ⟨w.heap.size, 7, none⟩ = some (.int .i64 0) := cell_of h2 (j := 7) rfl
    clear hpr hkk hal hbk hcl hbl hfr h2 hrs
    go_upto_region 10 with (fail)
    go_region_held3 (fun w' => w'.cell? ⟨w.heap.size, 0, none⟩ = some (.string S) ∧ w'.cell? ⟨w.heap.size, 1, none⟩ = some (.bool true) ∧ w'.cell? ⟨w.heap.size, 2, none⟩ = some (.int .i64 r'.at_) ∧ w'.cell? ⟨w.heap.size, 3, none⟩ = some (.int .i64 r'.opn) ∧ w'.cell? ⟨w.heap.size, 4, none⟩ = some (.slice a1 n1 c1) ∧ w'.cell? ⟨w.heap.size, 5, none⟩ = some (.slice none 0 0) ∧ w'.cell? ⟨w.heap.size, 6, none⟩ = some (.int .i64 0) ∧ w'.cell? ⟨w.heap.size, 7, none⟩ = some (.int .i64 0))
      (first | with_reducible exact HK9.out | with_reducible exact HK8.out | with_reducible exact HK6.out | go_keep)
      (first | (go_at_call 56; refine HJN.out.mono ?_; rintro e V1 ⟨cs, rfl, hb1, hrd⟩; obtain ⟨k3, s03, s13, s23, s33, al3, nl3, cl3, mn3, mx3, num3, rfl⟩ := hrd.form; have hbb := (Below.drew (Below.refl wc.heap.size wc)).trans hb1; have hbk1 := HBK.out.below hbb; have hk1 := hbk1.1; have hk4 := hbk1.2.1; have hk5 := hbk1.2.2.1; have HK6 := Lib.hid (show V1.cell? ⟨w.heap.size, 0, none⟩ = some (.string S) ∧ V1.cell? ⟨w.heap.size, 1, none⟩ = some (.bool true) ∧ V1.cell? ⟨w.heap.size, 2, none⟩ = some (.int .i64 r'.at_) ∧ V1.cell? ⟨w.heap.size, 3, none⟩ = some (.int .i64 r'.opn) ∧ V1.cell? ⟨w.heap.size, 4, none⟩ = some (.slice a1 n1 c1) ∧ V1.cell? ⟨w.heap.size, 5, none⟩ = some (.slice none 0 0) ∧ V1.cell? ⟨w.heap.size, 6, none⟩ = some (.int .i64 0) ∧ V1.cell? ⟨w.heap.size, 7, none⟩ = some (.int .i64 0) from ⟨cell_of hk1 (j := 0) rfl, cell_of hk1 (j := 1) rfl, cell_of hk1 (j := 2) rfl, cell_of hk1 (j := 3) rfl, cell_of hk1 (j := 4) rfl, cell_of hk1 (j := 5) rfl, cell_of hk1 (j := 6) rfl, cell_of hk1 (j := 7) rfl⟩); obtain ⟨k4, o4, b4⟩ := put8 hk4 (.string S) (.bool true) (.int .i64 r'.at_) (.int .i64 r'.opn) (.slice a1 n1 c1) (.slice none 0 0) (.int .i64 0) (.int .i64 0); obtain ⟨k5, o5, b5⟩ := put9 ((o4 (w.heap.size + 1 + 1) (by omega)).trans hk5) (.int .i64 k3) (.int .u64 s03) (.int .u64 s13) (.int .u64 s23) (.int .u64 s33) (.slice al3 nl3 cl3) (.int .i64 mn3) (.int .i64 mx3) (.int .i64 num3); have hr8 := (o4 w.heap.size (by omega)).trans hk1; have hr9 := (o5 w.heap.size (by omega)).trans hr8; have HK8 := Lib.hid (show ((((((((V1.setCell ⟨w.heap.size + 1, 0, none⟩ (.string S)).setCell ⟨w.heap.size + 1, 1, none⟩ (.bool true)).setCell ⟨w.heap.size + 1, 2, none⟩ (.int .i64 r'.at_)).setCell ⟨w.heap.size + 1, 3, none⟩ (.int .i64 r'.opn)).setCell ⟨w.heap.size + 1, 4, none⟩ (.slice a1 n1 c1)).setCell ⟨w.heap.size + 1, 5, none⟩ (.slice none 0 0)).setCell ⟨w.heap.size + 1, 6, none⟩ (.int .i64 0)).setCell ⟨w.heap.size + 1, 7, none⟩ (.int .i64 0)).cell? ⟨w.heap.size, 0, none⟩ = some (.string S) ∧ ((((((((V1.setCell ⟨w.heap.size + 1, 0, none⟩ (.string S)).setCell ⟨w.heap.size + 1, 1, none⟩ (.bool true)).setCell ⟨w.heap.size + 1, 2, none⟩ (.int .i64 r'.at_)).setCell ⟨w.heap.size + 1, 3, none⟩ (.int .i64 r'.opn)).setCell ⟨w.heap.size + 1, 4, none⟩ (.slice a1 n1 c1)).setCell ⟨w.heap.size + 1, 5, none⟩ (.slice none 0 0)).setCell ⟨w.heap.size + 1, 6, none⟩ (.int .i64 0)).setCell ⟨w.heap.size + 1, 7, none⟩ (.int .i64 0)).cell? ⟨w.heap.size, 1, none⟩ = some (.bool true) ∧ ((((((((V1.setCell ⟨w.heap.size + 1, 0, none⟩ (.string S)).setCell ⟨w.heap.size + 1, 1, none⟩ (.bool true)).setCell ⟨w.heap.size + 1, 2, none⟩ (.int .i64 r'.at_)).setCell ⟨w.heap.size + 1, 3, none⟩ (.int .i64 r'.opn)).setCell ⟨w.heap.size + 1, 4, none⟩ (.slice a1 n1 c1)).setCell ⟨w.heap.size + 1, 5, none⟩ (.slice none 0 0)).setCell ⟨w.heap.size + 1, 6, none⟩ (.int .i64 0)).setCell ⟨w.heap.size + 1, 7, none⟩ (.int .i64 0)).cell? ⟨w.heap.size, 2, none⟩ = some (.int .i64 r'.at_) ∧ ((((((((V1.setCell ⟨w.heap.size + 1, 0, none⟩ (.string S)).setCell ⟨w.heap.size + 1, 1, none⟩ (.bool true)).setCell ⟨w.heap.size + 1, 2, none⟩ (.int .i64 r'.at_)).setCell ⟨w.heap.size + 1, 3, none⟩ (.int .i64 r'.opn)).setCell ⟨w.heap.size + 1, 4, none⟩ (.slice a1 n1 c1)).setCell ⟨w.heap.size + 1, 5, none⟩ (.slice none 0 0)).setCell ⟨w.heap.size + 1, 6, none⟩ (.int .i64 0)).setCell ⟨w.heap.size + 1, 7, none⟩ (.int .i64 0)).cell? ⟨w.heap.size, 3, none⟩ = some (.int .i64 r'.opn) ∧ ((((((((V1.setCell ⟨w.heap.size + 1, 0, none⟩ (.string S)).setCell ⟨w.heap.size + 1, 1, none⟩ (.bool true)).setCell ⟨w.heap.size + 1, 2, none⟩ (.int .i64 r'.at_)).setCell ⟨w.heap.size + 1, 3, none⟩ (.int .i64 r'.opn)).setCell ⟨w.heap.size + 1, 4, none⟩ (.slice a1 n1 c1)).setCell ⟨w.heap.size + 1, 5, none⟩ (.slice none 0 0)).setCell ⟨w.heap.size + 1, 6, none⟩ (.int .i64 0)).setCell ⟨w.heap.size + 1, 7, none⟩ (.int .i64 0)).cell? ⟨w.heap.size, 4, none⟩ = some (.slice a1 n1 c1) ∧ ((((((((V1.setCell ⟨w.heap.size + 1, 0, none⟩ (.string S)).setCell ⟨w.heap.size + 1, 1, none⟩ (.bool true)).setCell ⟨w.heap.size + 1, 2, none⟩ (.int .i64 r'.at_)).setCell ⟨w.heap.size + 1, 3, none⟩ (.int .i64 r'.opn)).setCell ⟨w.heap.size + 1, 4, none⟩ (.slice a1 n1 c1)).setCell ⟨w.heap.size + 1, 5, none⟩ (.slice none 0 0)).setCell ⟨w.heap.size + 1, 6, none⟩ (.int .i64 0)).setCell ⟨w.heap.size + 1, 7, none⟩ (.int .i64 0)).cell? ⟨w.heap.size, 5, none⟩ = some (.slice none 0 0) ∧ ((((((((V1.setCell ⟨w.heap.size + 1, 0, none⟩ (.string S)).setCell ⟨w.heap.size + 1, 1, none⟩ (.bool true)).setCell ⟨w.heap.size + 1, 2, none⟩ (.int .i64 r'.at_)).setCell ⟨w.heap.size + 1, 3, none⟩ (.int .i64 r'.opn)).setCell ⟨w.heap.size + 1, 4, none⟩ (.slice a1 n1 c1)).setCell ⟨w.heap.size + 1, 5, none⟩ (.slice none 0 0)).setCell ⟨w.heap.size + 1, 6, none⟩ (.int .i64 0)).setCell ⟨w.heap.size + 1, 7, none⟩ (.int .i64 0)).cell? ⟨w.heap.size, 6, none⟩ = some (.int .i64 0) ∧ ((((((((V1.setCell ⟨w.heap.size + 1, 0, none⟩ (.string S)).setCell ⟨w.heap.size + 1, 1, none⟩ (.bool true)).setCell ⟨w.heap.size + 1, 2, none⟩ (.int .i64 r'.at_)).setCell ⟨w.heap.size + 1, 3, none⟩ (.int .i64 r'.opn)).setCell ⟨w.heap.size + 1, 4, none⟩ (.slice a1 n1 c1)).setCell ⟨w.heap.size + 1, 5, none⟩ (.slice none 0 0)).setCell ⟨w.heap.size + 1, 6, none⟩ (.int .i64 0)).setCell ⟨w.heap.size + 1, 7, none⟩ (.int .i64 0)).cell? ⟨w.heap.size, 7, none⟩ = some (.int .i64 0) from ⟨cell_of hr8 (j := 0) rfl, cell_of hr8 (j := 1) rfl, cell_of hr8 (j := 2) rfl, cell_of hr8 (j := 3) rfl, cell_of hr8 (j := 4) rfl, cell_of hr8 (j := 5) rfl, cell_of hr8 (j := 6) rfl, cell_of hr8 (j := 7) rfl⟩); have HK9 := Lib.hid (show (((((((((((((((((V1.setCell ⟨w.heap.size + 1, 0, none⟩ (.string S)).setCell ⟨w.heap.size + 1, 1, none⟩ (.bool true)).setCell ⟨w.heap.size + 1, 2, none⟩ (.int .i64 r'.at_)).setCell ⟨w.heap.size + 1, 3, none⟩ (.int .i64 r'.opn)).setCell ⟨w.heap.size + 1, 4, none⟩ (.slice a1 n1 c1)).setCell ⟨w.heap.size + 1, 5, none⟩ (.slice none 0 0)).setCell ⟨w.heap.size + 1, 6, none⟩ (.int .i64 0)).setCell ⟨w.heap.size + 1, 7, none⟩ (.int .i64 0)).setCell ⟨w.heap.size + 1 + 1, 0, none⟩ (.int .i64 k3)).setCell ⟨w.heap.size + 1 + 1, 1, none⟩ (.int .u64 s03)).setCell ⟨w.heap.size + 1 + 1, 2, none⟩ (.int .u64 s13)).setCell ⟨w.heap.size + 1 + 1, 3, none⟩ (.int .u64 s23)).setCell ⟨w.heap.size + 1 + 1, 4, none⟩ (.int .u64 s33)).setCell ⟨w.heap.size + 1 + 1, 5, none⟩ (.slice al3 nl3 cl3)).setCell ⟨w.heap.size + 1 + 1, 6, none⟩ (.int .i64 mn3)).setCell ⟨w.heap.size + 1 + 1, 7, none⟩ (.int .i64 mx3)).setCell ⟨w.heap.size + 1 + 1, 8, none⟩ (.int .i64 num3)).cell? ⟨w.heap.size, 0, none⟩ = some (.string S) ∧ (((((((((((((((((V1.setCell ⟨w.heap.size + 1, 0, none⟩ (.string S)).setCell ⟨w.heap.size + 1, 1, none⟩ (.bool true)).setCell ⟨w.heap.size + 1, 2, none⟩ (.int .i64 r'.at_)).setCell ⟨w.heap.size + 1, 3, none⟩ (.int .i64 r'.opn)).setCell ⟨w.heap.size + 1, 4, none⟩ (.slice a1 n1 c1)).setCell ⟨w.heap.size + 1, 5, none⟩ (.slice none 0 0)).setCell ⟨w.heap.size + 1, 6, none⟩ (.int .i64 0)).setCell ⟨w.heap.size + 1, 7, none⟩ (.int .i64 0)).setCell ⟨w.heap.size + 1 + 1, 0, none⟩ (.int .i64 k3)).setCell ⟨w.heap.size + 1 + 1, 1, none⟩ (.int .u64 s03)).setCell ⟨w.heap.size + 1 + 1, 2, none⟩ (.int .u64 s13)).setCell ⟨w.heap.size + 1 + 1, 3, none⟩ (.int .u64 s23)).setCell ⟨w.heap.size + 1 + 1, 4, none⟩ (.int .u64 s33)).setCell ⟨w.heap.size + 1 + 1, 5, none⟩ (.slice al3 nl3 cl3)).setCell ⟨w.heap.size + 1 + 1, 6, none⟩ (.int .i64 mn3)).setCell ⟨w.heap.size + 1 + 1, 7, none⟩ (.int .i64 mx3)).setCell ⟨w.heap.size + 1 + 1, 8, none⟩ (.int .i64 num3)).cell? ⟨w.heap.size, 1, none⟩ = some (.bool true) ∧ (((((((((((((((((V1.setCell ⟨w.heap.size + 1, 0, none⟩ (.string S)).setCell ⟨w.heap.size + 1, 1, none⟩ (.bool true)).setCell ⟨w.heap.size + 1, 2, none⟩ (.int .i64 r'.at_)).setCell ⟨w.heap.size + 1, 3, none⟩ (.int .i64 r'.opn)).setCell ⟨w.heap.size + 1, 4, none⟩ (.slice a1 n1 c1)).setCell ⟨w.heap.size + 1, 5, none⟩ (.slice none 0 0)).setCell ⟨w.heap.size + 1, 6, none⟩ (.int .i64 0)).setCell ⟨w.heap.size + 1, 7, none⟩ (.int .i64 0)).setCell ⟨w.heap.size + 1 + 1, 0, none⟩ (.int .i64 k3)).setCell ⟨w.heap.size + 1 + 1, 1, none⟩ (.int .u64 s03)).setCell ⟨w.heap.size + 1 + 1, 2, none⟩ (.int .u64 s13)).setCell ⟨w.heap.size + 1 + 1, 3, none⟩ (.int .u64 s23)).setCell ⟨w.heap.size + 1 + 1, 4, none⟩ (.int .u64 s33)).setCell ⟨w.heap.size + 1 + 1, 5, none⟩ (.slice al3 nl3 cl3)).setCell ⟨w.heap.size + 1 + 1, 6, none⟩ (.int .i64 mn3)).setCell ⟨w.heap.size + 1 + 1, 7, none⟩ (.int .i64 mx3)).setCell ⟨w.heap.size + 1 + 1, 8, none⟩ (.int .i64 num3)).cell? ⟨w.heap.size, 2, none⟩ = some (.int .i64 r'.at_) ∧ (((((((((((((((((V1.setCell ⟨w.heap.size + 1, 0, none⟩ (.string S)).setCell ⟨w.heap.size + 1, 1, none⟩ (.bool true)).setCell ⟨w.heap.size + 1, 2, none⟩ (.int .i64 r'.at_)).setCell ⟨w.heap.size + 1, 3, none⟩ (.int .i64 r'.opn)).setCell ⟨w.heap.size + 1, 4, none⟩ (.slice a1 n1 c1)).setCell ⟨w.heap.size + 1, 5, none⟩ (.slice none 0 0)).setCell ⟨w.heap.size + 1, 6, none⟩ (.int .i64 0)).setCell ⟨w.heap.size + 1, 7, none⟩ (.int .i64 0)).setCell ⟨w.heap.size + 1 + 1, 0, none⟩ (.int .i64 k3)).setCell ⟨w.heap.size + 1 + 1, 1, none⟩ (.int .u64 s03)).setCell ⟨w.heap.size + 1 + 1, 2, none⟩ (.int .u64 s13)).setCell ⟨w.heap.size + 1 + 1, 3, none⟩ (.int .u64 s23)).setCell ⟨w.heap.size + 1 + 1, 4, none⟩ (.int .u64 s33)).setCell ⟨w.heap.size + 1 + 1, 5, none⟩ (.slice al3 nl3 cl3)).setCell ⟨w.heap.size + 1 + 1, 6, none⟩ (.int .i64 mn3)).setCell ⟨w.heap.size + 1 + 1, 7, none⟩ (.int .i64 mx3)).setCell ⟨w.heap.size + 1 + 1, 8, none⟩ (.int .i64 num3)).cell? ⟨w.heap.size, 3, none⟩ = some (.int .i64 r'.opn) ∧ (((((((((((((((((V1.setCell ⟨w.heap.size + 1, 0, none⟩ (.string S)).setCell ⟨w.heap.size + 1, 1, none⟩ (.bool true)).setCell ⟨w.heap.size + 1, 2, none⟩ (.int .i64 r'.at_)).setCell ⟨w.heap.size + 1, 3, none⟩ (.int .i64 r'.opn)).setCell ⟨w.heap.size + 1, 4, none⟩ (.slice a1 n1 c1)).setCell ⟨w.heap.size + 1, 5, none⟩ (.slice none 0 0)).setCell ⟨w.heap.size + 1, 6, none⟩ (.int .i64 0)).setCell ⟨w.heap.size + 1, 7, none⟩ (.int .i64 0)).setCell ⟨w.heap.size + 1 + 1, 0, none⟩ (.int .i64 k3)).setCell ⟨w.heap.size + 1 + 1, 1, none⟩ (.int .u64 s03)).setCell ⟨w.heap.size + 1 + 1, 2, none⟩ (.int .u64 s13)).setCell ⟨w.heap.size + 1 + 1, 3, none⟩ (.int .u64 s23)).setCell ⟨w.heap.size + 1 + 1, 4, none⟩ (.int .u64 s33)).setCell ⟨w.heap.size + 1 + 1, 5, none⟩ (.slice al3 nl3 cl3)).setCell ⟨w.heap.size + 1 + 1, 6, none⟩ (.int .i64 mn3)).setCell ⟨w.heap.size + 1 + 1, 7, none⟩ (.int .i64 mx3)).setCell ⟨w.heap.size + 1 + 1, 8, none⟩ (.int .i64 num3)).cell? ⟨w.heap.size, 4, none⟩ = some (.slice a1 n1 c1) ∧ (((((((((((((((((V1.setCell ⟨w.heap.size + 1, 0, none⟩ (.string S)).setCell ⟨w.heap.size + 1, 1, none⟩ (.bool true)).setCell ⟨w.heap.size + 1, 2, none⟩ (.int .i64 r'.at_)).setCell ⟨w.heap.size + 1, 3, none⟩ (.int .i64 r'.opn)).setCell ⟨w.heap.size + 1, 4, none⟩ (.slice a1 n1 c1)).setCell ⟨w.heap.size + 1, 5, none⟩ (.slice none 0 0)).setCell ⟨w.heap.size + 1, 6, none⟩ (.int .i64 0)).setCell ⟨w.heap.size + 1, 7, none⟩ (.int .i64 0)).setCell ⟨w.heap.size + 1 + 1, 0, none⟩ (.int .i64 k3)).setCell ⟨w.heap.size + 1 + 1, 1, none⟩ (.int .u64 s03)).setCell ⟨w.heap.size + 1 + 1, 2, none⟩ (.int .u64 s13)).setCell ⟨w.heap.size + 1 + 1, 3, none⟩ (.int .u64 s23)).setCell ⟨w.heap.size + 1 + 1, 4, none⟩ (.int .u64 s33)).setCell ⟨w.heap.size + 1 + 1, 5, none⟩ (.slice al3 nl3 cl3)).setCell ⟨w.heap.size + 1 + 1, 6, none⟩ (.int .i64 mn3)).setCell ⟨w.heap.size + 1 + 1, 7, none⟩ (.int .i64 mx3)).setCell ⟨w.heap.size + 1 + 1, 8, none⟩ (.int .i64 num3)).cell? ⟨w.heap.size, 5, none⟩ = some (.slice none 0 0) ∧ (((((((((((((((((V1.setCell ⟨w.heap.size + 1, 0, none⟩ (.string S)).setCell ⟨w.heap.size + 1, 1, none⟩ (.bool true)).setCell ⟨w.heap.size + 1, 2, none⟩ (.int .i64 r'.at_)).setCell ⟨w.heap.size + 1, 3, none⟩ (.int .i64 r'.opn)).setCell ⟨w.heap.size + 1, 4, none⟩ (.slice a1 n1 c1)).setCell ⟨w.heap.size + 1, 5, none⟩ (.slice none 0 0)).setCell ⟨w.heap.size + 1, 6, none⟩ (.int .i64 0)).setCell ⟨w.heap.size + 1, 7, none⟩ (.int .i64 0)).setCell ⟨w.heap.size + 1 + 1, 0, none⟩ (.int .i64 k3)).setCell ⟨w.heap.size + 1 + 1, 1, none⟩ (.int .u64 s03)).setCell ⟨w.heap.size + 1 + 1, 2, none⟩ (.int .u64 s13)).setCell ⟨w.heap.size + 1 + 1, 3, none⟩ (.int .u64 s23)).setCell ⟨w.heap.size + 1 + 1, 4, none⟩ (.int .u64 s33)).setCell ⟨w.heap.size + 1 + 1, 5, none⟩ (.slice al3 nl3 cl3)).setCell ⟨w.heap.size + 1 + 1, 6, none⟩ (.int .i64 mn3)).setCell ⟨w.heap.size + 1 + 1, 7, none⟩ (.int .i64 mx3)).setCell ⟨w.heap.size + 1 + 1, 8, none⟩ (.int .i64 num3)).cell? ⟨w.heap.size, 6, none⟩ = some (.int .i64 0) ∧ (((((((((((((((((V1.setCell ⟨w.heap.size + 1, 0, none⟩ (.string S)).setCell ⟨w.heap.size + 1, 1, none⟩ (.bool true)).setCell ⟨w.heap.size + 1, 2, none⟩ (.int .i64 r'.at_)).setCell ⟨w.heap.size + 1, 3, none⟩ (.int .i64 r'.opn)).setCell ⟨w.heap.size + 1, 4, none⟩ (.slice a1 n1 c1)).setCell ⟨w.heap.size + 1, 5, none⟩ (.slice none 0 0)).setCell ⟨w.heap.size + 1, 6, none⟩ (.int .i64 0)).setCell ⟨w.heap.size + 1, 7, none⟩ (.int .i64 0)).setCell ⟨w.heap.size + 1 + 1, 0, none⟩ (.int .i64 k3)).setCell ⟨w.heap.size + 1 + 1, 1, none⟩ (.int .u64 s03)).setCell ⟨w.heap.size + 1 + 1, 2, none⟩ (.int .u64 s13)).setCell ⟨w.heap.size + 1 + 1, 3, none⟩ (.int .u64 s23)).setCell ⟨w.heap.size + 1 + 1, 4, none⟩ (.int .u64 s33)).setCell ⟨w.heap.size + 1 + 1, 5, none⟩ (.slice al3 nl3 cl3)).setCell ⟨w.heap.size + 1 + 1, 6, none⟩ (.int .i64 mn3)).setCell ⟨w.heap.size + 1 + 1, 7, none⟩ (.int .i64 mx3)).setCell ⟨w.heap.size + 1 + 1, 8, none⟩ (.int .i64 num3)).cell? ⟨w.heap.size, 7, none⟩ = some (.int .i64 0) from ⟨cell_of hr9 (j := 0) rfl, cell_of hr9 (j := 1) rfl, cell_of hr9 (j := 2) rfl, cell_of hr9 (j := 3) rfl, cell_of hr9 (j := 4) rfl, cell_of hr9 (j := 5) rfl, cell_of hr9 (j := 6) rfl, cell_of hr9 (j := 7) rfl⟩); have HBF := Lib.hid (b5 _ _ (b4 _ _ (HBL.out.trans (hbb.mono HBL.out.size)) (by omega)) (by omega)); have K4 := Lib.hid ((o5 (w.heap.size + 1) (by omega)).trans k4); have K5 := Lib.hid k5; have HOO := Lib.hid (fun k (h1 : k ≠ w.heap.size + 1) (h2 : k ≠ w.heap.size + 1 + 1) => (o5 k h2).trans (o4 k h1)); have HBR := Lib.hid (show Bar (fun k => k = w.heap.size + 1 ∨ k = w.heap.size + 1 + 1) V1 (((((((((((((((((V1.setCell ⟨w.heap.size + 1, 0, none⟩ (.string S)).setCell ⟨w.heap.size + 1, 1, none⟩ (.bool true)).setCell ⟨w.heap.size + 1, 2, none⟩ (.int .i64 r'.at_)).setCell ⟨w.heap.size + 1, 3, none⟩ (.int .i64 r'.opn)).setCell ⟨w.heap.size + 1, 4, none⟩ (.slice a1 n1 c1)).setCell ⟨w.heap.size + 1, 5, none⟩ (.slice none 0 0)).setCell ⟨w.heap.size + 1, 6, none⟩ (.int .i64 0)).setCell ⟨w.heap.size + 1, 7, none⟩ (.int .i64 0)).setCell ⟨w.heap.size + 1 + 1, 0, none⟩ (.int .i64 k3)).setCell ⟨w.heap.size + 1 + 1, 1, none⟩ (.int .u64 s03)).setCell ⟨w.heap.size + 1 + 1, 2, none⟩ (.int .u64 s13)).setCell ⟨w.heap.size + 1 + 1, 3, none⟩ (.int .u64 s23)).setCell ⟨w.heap.size + 1 + 1, 4, none⟩ (.int .u64 s33)).setCell ⟨w.heap.size + 1 + 1, 5, none⟩ (.slice al3 nl3 cl3)).setCell ⟨w.heap.size + 1 + 1, 6, none⟩ (.int .i64 mn3)).setCell ⟨w.heap.size + 1 + 1, 7, none⟩ (.int .i64 mx3)).setCell ⟨w.heap.size + 1 + 1, 8, none⟩ (.int .i64 num3)) from ((((((((((((((((((Bar.refl (fun k => k = w.heap.size + 1 ∨ k = w.heap.size + 1 + 1) V1).set ⟨(w.heap.size + 1), 0, none⟩ (.string S) (.inl (.inl rfl))).set ⟨(w.heap.size + 1), 1, none⟩ (.bool true) (.inl (.inl rfl))).set ⟨(w.heap.size + 1), 2, none⟩ (.int .i64 r'.at_) (.inl (.inl rfl))).set ⟨(w.heap.size + 1), 3, none⟩ (.int .i64 r'.opn) (.inl (.inl rfl))).set ⟨(w.heap.size + 1), 4, none⟩ (.slice a1 n1 c1) (.inl (.inl rfl))).set ⟨(w.heap.size + 1), 5, none⟩ (.slice none 0 0) (.inl (.inl rfl))).set ⟨(w.heap.size + 1), 6, none⟩ (.int .i64 0) (.inl (.inl rfl))).set ⟨(w.heap.size + 1), 7, none⟩ (.int .i64 0) (.inl (.inl rfl))).set ⟨(w.heap.size + 1 + 1), 0, none⟩ (.int .i64 k3) (.inl (.inr rfl))).set ⟨(w.heap.size + 1 + 1), 1, none⟩ (.int .u64 s03) (.inl (.inr rfl))).set ⟨(w.heap.size + 1 + 1), 2, none⟩ (.int .u64 s13) (.inl (.inr rfl))).set ⟨(w.heap.size + 1 + 1), 3, none⟩ (.int .u64 s23) (.inl (.inr rfl))).set ⟨(w.heap.size + 1 + 1), 4, none⟩ (.int .u64 s33) (.inl (.inr rfl))).set ⟨(w.heap.size + 1 + 1), 5, none⟩ (.slice al3 nl3 cl3) (.inl (.inr rfl))).set ⟨(w.heap.size + 1 + 1), 6, none⟩ (.int .i64 mn3) (.inl (.inr rfl))).set ⟨(w.heap.size + 1 + 1), 7, none⟩ (.int .i64 mx3) (.inl (.inr rfl))).set ⟨(w.heap.size + 1 + 1), 8, none⟩ (.int .i64 num3) (.inl (.inr rfl)))); have HRD := Lib.hid hrd; have HCL1 := Lib.hid (HCLX.out.below hbb); have r0 : V1.cell? ⟨w.heap.size + 1, 0, none⟩ = some (.string ⟨#[]⟩) := cell_of hk4 (j := 0) rfl; have r1 : V1.cell? ⟨w.heap.size + 1, 1, none⟩ = some (.bool false) := cell_of hk4 (j := 1) rfl; have r2 : V1.cell? ⟨w.heap.size + 1, 2, none⟩ = some (.int .i64 0) := cell_of hk4 (j := 2) rfl; have r3 : V1.cell? ⟨w.heap.size + 1, 3, none⟩ = some (.int .i64 0) := cell_of hk4 (j := 3) rfl; have r4 : V1.cell? ⟨w.heap.size + 1, 4, none⟩ = some (.slice none 0 0) := cell_of hk4 (j := 4) rfl; have r5 : V1.cell? ⟨w.heap.size + 1, 5, none⟩ = some (.slice none 0 0) := cell_of hk4 (j := 5) rfl; have r6 : V1.cell? ⟨w.heap.size + 1, 6, none⟩ = some (.int .i64 0) := cell_of hk4 (j := 6) rfl; have r7 : V1.cell? ⟨w.heap.size + 1, 7, none⟩ = some (.int .i64 0) := cell_of hk4 (j := 7) rfl; have t0 : V1.cell? ⟨w.heap.size + 1 + 1, 0, none⟩ = some (.int .i64 0) := cell_of hk5 (j := 0) rfl; have t1 : V1.cell? ⟨w.heap.size + 1 + 1, 1, none⟩ = some (.int .u64 0) := cell_of hk5 (j := 1) rfl; have t2 : V1.cell? ⟨w.heap.size + 1 + 1, 2, none⟩ = some (.int .u64 0) := cell_of hk5 (j := 2) rfl; have t3 : V1.cell? ⟨w.heap.size + 1 + 1, 3, none⟩ = some (.int .u64 0) := cell_of hk5 (j := 3) rfl; have t4 : V1.cell? ⟨w.heap.size + 1 + 1, 4, none⟩ = some (.int .u64 0) := cell_of hk5 (j := 4) rfl; have t5 : V1.cell? ⟨w.heap.size + 1 + 1, 5, none⟩ = some (.slice none 0 0) := cell_of hk5 (j := 5) rfl; have t6 : V1.cell? ⟨w.heap.size + 1 + 1, 6, none⟩ = some (.int .i64 0) := cell_of hk5 (j := 6) rfl; have t7 : V1.cell? ⟨w.heap.size + 1 + 1, 7, none⟩ = some (.int .i64 0) := cell_of hk5 (j := 7) rfl; have t8 : V1.cell? ⟨w.heap.size + 1 + 1, 8, none⟩ = some (.int .i64 0) := cell_of hk5 (j := 8) rfl; have f0 := frozen_of_row V1 (w.heap.size + 1) 0 _ _ hk4; have f1 := frozen_of_row V1 (w.heap.size + 1) 1 _ _ hk4; have f2 := frozen_of_row V1 (w.heap.size + 1) 2 _ _ hk4; have f3 := frozen_of_row V1 (w.heap.size + 1) 3 _ _ hk4; have f4 := frozen_of_row V1 (w.heap.size + 1) 4 _ _ hk4; have f5 := frozen_of_row V1 (w.heap.size + 1) 5 _ _ hk4; have f6 := frozen_of_row V1 (w.heap.size + 1) 6 _ _ hk4; have f7 := frozen_of_row V1 (w.heap.size + 1) 7 _ _ hk4; have g0 := frozen_of_row V1 (w.heap.size + 1 + 1) 0 _ _ hk5; have g1 := frozen_of_row V1 (w.heap.size + 1 + 1) 1 _ _ hk5; have g2 := frozen_of_row V1 (w.heap.size + 1 + 1) 2 _ _ hk5; have g3 := frozen_of_row V1 (w.heap.size + 1 + 1) 3 _ _ hk5; have g4 := frozen_of_row V1 (w.heap.size + 1 + 1) 4 _ _ hk5; have g5 := frozen_of_row V1 (w.heap.size + 1 + 1) 5 _ _ hk5; have g6 := frozen_of_row V1 (w.heap.size + 1 + 1) 6 _ _ hk5; have g7 := frozen_of_row V1 (w.heap.size + 1 + 1) 7 _ _ hk5; have g8 := frozen_of_row V1 (w.heap.size + 1 + 1) 8 _ _ hk5; clear hb1 hbb hbk1 hk1 hk4 hk5 k4 o4 b4 k5 o5 b5 hr8 hr9 hrd))
    all_goals
      clear r0 r1 r2 r3 r4 r5 r6 r7 t0 t1 t2 t3 t4 t5 t6 t7 t8 f0 f1 f2 f3 f4 f5 f6 f7 g0 g1 g2 g3 g4 g5 g6 g7 g8 HK9 HK8 HK6
      generalize (((((((((((((((((V1.setCell ⟨w.heap.size + 1, 0, none⟩ (.string S)).setCell ⟨w.heap.size + 1, 1, none⟩ (.bool true)).setCell ⟨w.heap.size + 1, 2, none⟩ (.int .i64 r'.at_)).setCell ⟨w.heap.size + 1, 3, none⟩ (.int .i64 r'.opn)).setCell ⟨w.heap.size + 1, 4, none⟩ (.slice a1 n1 c1)).setCell ⟨w.heap.size + 1, 5, none⟩ (.slice none 0 0)).setCell ⟨w.heap.size + 1, 6, none⟩ (.int .i64 0)).setCell ⟨w.heap.size + 1, 7, none⟩ (.int .i64 0)).setCell ⟨w.heap.size + 1 + 1, 0, none⟩ (.int .i64 k3)).setCell ⟨w.heap.size + 1 + 1, 1, none⟩ (.int .u64 s03)).setCell ⟨w.heap.size + 1 + 1, 2, none⟩ (.int .u64 s13)).setCell ⟨w.heap.size + 1 + 1, 3, none⟩ (.int .u64 s23)).setCell ⟨w.heap.size + 1 + 1, 4, none⟩ (.int .u64 s33)).setCell ⟨w.heap.size + 1 + 1, 5, none⟩ (.slice al3 nl3 cl3)).setCell ⟨w.heap.size + 1 + 1, 6, none⟩ (.int .i64 mn3)).setCell ⟨w.heap.size + 1 + 1, 7, none⟩ (.int .i64 mx3)).setCell ⟨w.heap.size + 1 + 1, 8, none⟩ (.int .i64 num3)) = WF at *
      have r0 : WF.cell? ⟨w.heap.size + 1, 0, none⟩ = some (.string S) := cell_of K4.out (j := 0) rfl
      have r1 : WF.cell? ⟨w.heap.size + 1, 1, none⟩ = some (.bool true) := cell_of K4.out (j := 1) rfl
      have r2 : WF.cell? ⟨w.heap.size + 1, 2, none⟩ = some (.int .i64 r'.at_) := cell_of K4.out (j := 2) rfl
      have r3 : WF.cell? ⟨w.heap.size + 1, 3, none⟩ = some (.int .i64 r'.opn) := cell_of K4.out (j := 3) rfl
      have r4 : WF.cell? ⟨w.heap.size + 1, 4, none⟩ = some (.slice a1 n1 c1) := cell_of K4.out (j := 4) rfl
      have r5 : WF.cell? ⟨w.heap.size + 1, 5, none⟩ = some (.slice none 0 0) := cell_of K4.out (j := 5) rfl
      have r6 : WF.cell? ⟨w.heap.size + 1, 6, none⟩ = some (.int .i64 0) := cell_of K4.out (j := 6) rfl
      have r7 : WF.cell? ⟨w.heap.size + 1, 7, none⟩ = some (.int .i64 0) := cell_of K4.out (j := 7) rfl
      have t0 : WF.cell? ⟨w.heap.size + 1 + 1, 0, none⟩ = some (.int .i64 k3) := cell_of K5.out (j := 0) rfl
      have t1 : WF.cell? ⟨w.heap.size + 1 + 1, 1, none⟩ = some (.int .u64 s03) := cell_of K5.out (j := 1) rfl
      have t2 : WF.cell? ⟨w.heap.size + 1 + 1, 2, none⟩ = some (.int .u64 s13) := cell_of K5.out (j := 2) rfl
      have t3 : WF.cell? ⟨w.heap.size + 1 + 1, 3, none⟩ = some (.int .u64 s23) := cell_of K5.out (j := 3) rfl
      have t4 : WF.cell? ⟨w.heap.size + 1 + 1, 4, none⟩ = some (.int .u64 s33) := cell_of K5.out (j := 4) rfl
      have t5 : WF.cell? ⟨w.heap.size + 1 + 1, 5, none⟩ = some (.slice al3 nl3 cl3) := cell_of K5.out (j := 5) rfl
      have t6 : WF.cell? ⟨w.heap.size + 1 + 1, 6, none⟩ = some (.int .i64 mn3) := cell_of K5.out (j := 6) rfl
      have t7 : WF.cell? ⟨w.heap.size + 1 + 1, 7, none⟩ = some (.int .i64 mx3) := cell_of K5.out (j := 7) rfl
      have t8 : WF.cell? ⟨w.heap.size + 1 + 1, 8, none⟩ = some (.int .i64 num3) := cell_of K5.out (j := 8) rfl
      go_wp2_with fail
      refine bodyPost_ret (v := .tuple #[.agg #[.string S, .bool true, .int .i64 r'.at_, .int .i64 r'.opn, .slice a1 n1 c1, .slice none 0 0, .int .i64 0, .int .i64 0], .agg #[.int .i64 k3, .int .u64 s03, .int .u64 s13, .int .u64 s23, .int .u64 s33, .slice al3 nl3 cl3, .int .i64 mn3, .int .i64 mx3, .int .i64 num3]]) (by simp [results, Tryz.results36, go_sem, r0, r1, r2, r3, r4, r5, r6, r7, t0, t1, t2, t3, t4, t5, t6, t7, t8]) rfl ⟨a1, n1, c1, [.int .i64 k3, .int .u64 s03, .int .u64 s13, .int .u64 s23, .int .u64 s33, .slice al3 nl3 cl3, .int .i64 mn3, .int .i64 mx3, .int .i64 num3], rfl, HBF.out, ?_, ?_, ?_⟩
      · refine Rd.mono HBR.out.size _ _ (Rd.masked (fun b hb hp => ?_) HRD.out)
        simp only [above, decide_eq_true_eq] at hp ⊢
        exact ⟨by omega, HOO.out b (by omega) (by omega)⟩
      · refine HCL1.out.far (X := fun k => k = w.heap.size + 1 ∨ k = w.heap.size + 1 + 1) (fun g hg => ?_) HBR.out
        rintro (e | e)
        · rcases HFR.out with e1 | ⟨g', e1, h3⟩
          · rw [e1] at hg; have := HLA.out g hg; omega
          · rw [e1] at hg; injection hg with hg; injection hg with hg; omega
        · rcases HFR.out with e1 | ⟨g', e1, h3⟩
          · rw [e1] at hg; have := HLA.out g hg; omega
          · rw [e1] at hg; injection hg with hg; injection hg with hg; omega
      · rcases HFR.out with e1 | ⟨g', e1, h3⟩
        · exact .inl e1
        · exact .inr ⟨g', e1, by omega⟩
end Go.Proofs.YtkaoegdfgoojdaaGreatDoor
