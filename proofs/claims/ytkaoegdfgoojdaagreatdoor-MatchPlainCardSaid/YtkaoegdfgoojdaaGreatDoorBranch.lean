/- The reading of a branch: the walk (seat 2; printed by parse.py). -/
import Derived.Test.YtkaoegdfgoojdaaGreatDoorGroup
import Derived.Deep.LoopGhost
namespace Go.Proofs.YtkaoegdfgoojdaaGreatDoor
open Go Go.RowKit
set_option maxRecDepth 100000

theorem ratom_any (S : ByteArray) (hS : S.size ≤ 1048576) (f : Nat) (hch : ChoiceC S f) : AtomC S (f + 1) := by
  intro r deep r' t h w a n c hcl
  rw [atomF] at h
  cases hs : S.data.toList[r.at_]? with
  | none => rw [hs] at h; simp at h
  | some ch =>
    rw [hs] at h
    simp only at h
    obtain ⟨hi, hc⟩ := byte_at hs
    split at h
    · rename_i h40
      subst h40
      split at h
      · rename_i hd
        cases hcf : choiceF S.data.toList f ⟨r.at_ + 1, r.opn + 1, r.cl⟩ (deep + 1) with
        | none => rw [hcf] at h; simp at h
        | some x =>
          obtain ⟨r1, t1⟩ := x
          rw [hcf] at h
          simp only at h
          split at h
          · rename_i h41
            simp only [Option.some.injEq, Prod.mk.injEq] at h
            obtain ⟨rfl, rfl⟩ := h
            obtain ⟨hi1, hc1⟩ := byte_at h41.1
            exact atom_group S hS r r1 t1 deep hi hc hd.1 hd.2 hi1 hc1 w a n c hcl h41.2 (fun w a n c hcl => hch _ _ _ _ hcf w a n c hcl (by omega) (by show r.opn + 1 ≤ 1001; omega))
          · cases h
      · cases h
    · rename_i h40
      split at h
      · cases h
      · rename_i hx
        simp only [not_or] at hx
        simp only [Option.some.injEq, Prod.mk.injEq] at h
        obtain ⟨rfl, rfl⟩ := h
        exact atom_byte S hS r deep ch hi hc h40 hx.1 hx.2.1 hx.2.2.1 hx.2.2.2 w a n c hcl
theorem plain_sign (S : ByteArray) (hS : S.size ≤ 1048576) (i : Nat) (h : plainAfter S.data.toList i = true) : ∃ σ : ByteArray, σ.size ≤ 1 ∧ (∀ (at_ opn : Nat) (a : Option Addr) (n c : Nat) w', Calls Tryz.prog 53 #[rVal S at_ opn a n c, .int .i64 i] w' (Says w' (.string σ))) ∧
    (σ.toList == [42]) = false ∧ (σ.toList == [43]) = false ∧ (σ.toList == [63]) = false ∧ (σ.toList == [123]) = false := by
  unfold plainAfter at h
  cases hs : S.data.toList[i]? with
  | none => exact ⟨⟨#[]⟩, Nat.zero_le _, fun at_ opn a n c w' => sign_end w' S at_ opn a n c i (no_byte hs), by rw [toList_none]; rfl, by rw [toList_none]; rfl, by rw [toList_none]; rfl, by rw [toList_none]; rfl⟩
  | some ch =>
    rw [hs] at h
    simp only [Bool.and_eq_true, Bool.not_eq_true', beq_eq_false_iff_ne] at h
    obtain ⟨hi, hc⟩ := byte_at hs
    refine ⟨⟨#[ch]⟩, Nat.le_refl _, fun at_ opn a n c w' => ?_, one_ne _ _ h.1.1.1.1, one_ne _ _ h.1.1.1.2, one_ne _ _ h.1.1.2, one_ne _ _ h.1.2⟩
    have := sign_byte w' S at_ opn a n c i hi hS (by rw [hc]; intro e; exact h.2 (UInt8.toNat_inj.1 e))
    rw [hc] at this
    exact this

theorem PartsR.far {M : Nat} {w w' : World} {v : Value} {ts : List RT} (h : PartsR (above M) M w v ts) (hb : Bar (fun k => k < M) w w') : PartsR (above M) M w' v ts := by
  obtain ⟨css, hl, h9, ho, hn⟩ := h
  refine ⟨css, hl, h9, ⟨ho.1, ?_⟩, fun i hi => ?_⟩
  · rcases ho.2 with hnil | ⟨g, c, cur, hv, hbg, hg, rest⟩
    · exact .inl hnil
    · exact .inr ⟨g, c, cur, hv, hbg, (hb.block g (Array.getElem?_eq_some_iff.1 hg).1 (by omega)).trans hg, rest⟩
  · obtain ⟨x, h1, h2⟩ := hn i hi
    refine ⟨x, h1, Rd.mono hb.size _ _ (Rd.masked (fun b hb' hp => ⟨hp, hb.block b hb' ?_⟩) h2)⟩
    simp only [butQ, above, Bool.and_eq_true, decide_eq_true_eq] at hp
    omega
theorem CL.far {w w' : World} {a : Option Addr} {n c : Nat} {cl : List Int} {X : Nat → Prop} (h : CL w a n c cl) (hX : ∀ g, a = some ⟨g, 0, none⟩ → ¬ X g) (hb : Bar X w w') : CL w' a n c cl := by
  rcases h with h | ⟨g, h1, h2, h3, h4, h5, h6⟩
  · exact .inl h
  · exact .inr ⟨g, h1, h2, h3, h4, Nat.lt_of_lt_of_le h5 hb.size, fun j u hu => (hb.cell (p := ⟨g, j, none⟩) h5 (hX g h1)).trans (h6 j u hu)⟩

/-- Blocks N, N + 1, N + 2 of a part of the reading: the reading itself; what it answers. -/
def Blk (w : World) (N : Nat) (S : ByteArray) (r : PS) (a : Option Addr) (n c : Nat) : Prop :=
  w.heap[N]? = some (.cells #[.string S, .bool true, .int .i64 r.at_, .int .i64 r.opn, .slice a n c, .slice none 0 0, .int .i64 0, .int .i64 0] 105 (0, 0)) ∧ w.heap[N + 1]? = some (.cells #[.string ⟨#[]⟩, .bool false, .int .i64 0, .int .i64 0, .slice none 0 0, .slice none 0 0, .int .i64 0, .int .i64 0] 105 (0, 0)) ∧ w.heap[N + 1 + 1]? = some (.cells #[.int .i64 0, .int .u64 0, .int .u64 0, .int .u64 0, .int .u64 0, .slice none 0 0, .int .i64 0, .int .i64 0, .int .i64 0] 28 (0, 0)) ∧ N + 3 ≤ w.heap.size
theorem Blk.below {w w' : World} {N : Nat} {S : ByteArray} {r : PS} {a : Option Addr} {n c : Nat} (h : Blk w N S r a n c) (hb : Below w.heap.size w w') : Blk w' N S r a n c := by
  obtain ⟨h1, h2, h3, h4⟩ := h
  exact ⟨(hb.block _ (by omega)).trans h1, (hb.block _ (by omega)).trans h2, (hb.block _ (by omega)).trans h3, Nat.le_trans h4 hb.size⟩
theorem Blk.grown {w w' : World} {N : Nat} {S : ByteArray} {r : PS} {a : Option Addr} {n c : Nat} {row : Option Nat} (h : Blk w N S r a n c) (hg : w.grownBy w' row) (hr : ∀ k, row = some k → N + 3 ≤ k) : Blk w' N S r a n c := by
  obtain ⟨h1, h2, h3, h4⟩ := h
  have key : ∀ k, k < N + 3 → w'.heap[k]? = w.heap[k]? := fun k hk => hg.block k (by omega) (fun e => by have := hr k e.symm; omega)
  exact ⟨(key _ (by omega)).trans h1, (key _ (by omega)).trans h2, (key _ (by omega)).trans h3, Nat.le_trans h4 hg.size⟩
theorem Bar.grown {w w' : World} {row : Option Nat} (hg : w.grownBy w' row) : Bar (fun k => some k = row) w w' := ⟨hg.os, hg.tape, hg.output, hg.size, fun k hk hn => hg.block k hk hn⟩
/-- Where the closed groups of a reading lie. -/
def From (N : Nat) (a a1 : Option Addr) : Prop := a1 = a ∨ ∃ g, a1 = some ⟨g, 0, none⟩ ∧ N + 3 ≤ g

/-- The loop's relation. -/
def BrRel (w : World) (S : ByteArray) (a : Option Addr) (deep f : Nat) (r' : PS) (t : RT) (g : Nat) (v6 v8 : Value) (wr : World) : Prop :=
  ∃ (r1 : PS) (acc : List RT) (a1 : Option Addr) (n1 c1 : Nat) (fr : Bool), v8 = .bool fr ∧ g ≤ f ∧ branchF S.data.toList g r1 deep acc = some (r', t) ∧ PartsR (above (w.heap.size + 3)) (w.heap.size + 3) wr v6 acc ∧ (∀ t ∈ acc, t.kind ≠ 0 ∧ t.kind ≠ 2) ∧ acc.length ≤ 100 ∧
    Blk wr w.heap.size S r1 a1 n1 c1 ∧ CL wr a1 n1 c1 r1.cl ∧ Below w.heap.size w wr ∧ From w.heap.size a a1 ∧ ∀ g, a1 = some ⟨g, 0, none⟩ → v6.ownBlock ≠ some g
/-- Behind the loop. -/
def BrEnd (w : World) (S : ByteArray) (a : Option Addr) (r' : PS) (t : RT) (v6 : Value) (wr : World) : Prop :=
  ∃ (acc : List RT) (a1 : Option Addr) (n1 c1 : Nat), t = joinR acc ∧ PartsR (above (w.heap.size + 3)) (w.heap.size + 3) wr v6 acc ∧ (∀ t ∈ acc, t.kind ≠ 0 ∧ t.kind ≠ 2) ∧ acc.length ≤ 100 ∧
    Blk wr w.heap.size S r' a1 n1 c1 ∧ CL wr a1 n1 c1 r'.cl ∧ Below w.heap.size w wr ∧ From w.heap.size a a1

set_option maxHeartbeats 16000000 in
theorem branch_any (S : ByteArray) (hS : S.size ≤ 1048576) (f : Nat) (hat : ∀ g, g < f → AtomC S g) : BranchC S f := by
  intro r deep r' t hbr w a n c hcl hd
  have HAT := Lib.hid hat
  have HBR := Lib.hid hbr
  have HCL := Lib.hid hcl
  have HLA := Lib.hid (show ∀ g, a = some ⟨g, 0, none⟩ → g < w.heap.size by
    rcases hcl with ⟨_, h, _⟩ | ⟨g, h, _, _, _, h5, _⟩
    · intro g e; rw [h] at e; cases e
    · intro g' e; rw [h] at e; injection e with e; injection e with e; omega)
  obtain ⟨b0, z0, g2, g4, g5⟩ := alloc3 w (.cells #[.string S, .bool true, .int .i64 r.at_, .int .i64 r.opn, .slice a n c, .slice none 0 0, .int .i64 0, .int .i64 0] 105) (.cells #[.string ⟨#[]⟩, .bool false, .int .i64 0, .int .i64 0, .slice none 0 0, .slice none 0 0, .int .i64 0, .int .i64 0] 105) (.cells #[.int .i64 0, .int .u64 0, .int .u64 0, .int .u64 0, .int .u64 0, .slice none 0 0, .int .i64 0, .int .i64 0, .int .i64 0] 28)
  have HBK0 := Lib.hid (show Blk ((((w.alloc (.cells #[.string S, .bool true, .int .i64 r.at_, .int .i64 r.opn, .slice a n c, .slice none 0 0, .int .i64 0, .int .i64 0] 105)).alloc (.cells #[.string ⟨#[]⟩, .bool false, .int .i64 0, .int .i64 0, .slice none 0 0, .slice none 0 0, .int .i64 0, .int .i64 0] 105)).alloc (.cells #[.int .i64 0, .int .u64 0, .int .u64 0, .int .u64 0, .int .u64 0, .slice none 0 0, .int .i64 0, .int .i64 0, .int .i64 0] 28))) w.heap.size S r a n c from ⟨g2, g4, g5, Nat.le_of_eq z0.symm⟩)
  have HB0 := Lib.hid b0
  clear hat hbr hcl b0 z0 g2 g4 g5
  unfold rVal
  go_enter Tryz.func52, Tryz.ntmps52
  go_upto_block 0 with (fail)
  generalize ((w.alloc (.cells #[.string S, .bool true, .int .i64 r.at_, .int .i64 r.opn, .slice a n c, .slice none 0 0, .int .i64 0, .int .i64 0] 105)).alloc (.cells #[.string ⟨#[]⟩, .bool false, .int .i64 0, .int .i64 0, .slice none 0 0, .slice none 0 0, .int .i64 0, .int .i64 0] 105)).alloc (.cells #[.int .i64 0, .int .u64 0, .int .u64 0, .int .u64 0, .int .u64 0, .slice none 0 0, .int .i64 0, .int .i64 0, .int .i64 0] 28) = W0 at *
  go_cut [6] (fun v6 wx => BrEnd w S a r' t v6 wx)
  case first =>
    go_wp2_with fail
    go_loopg [6, 8] f (fun g v6 v8 wr => BrRel w S a deep f r' t g v6 v8 wr)
    case atStart => exact ⟨r, [], a, n, c, true, rfl, Nat.le_refl _, HBR.out, PartsR.nil _ _ _, fun t ht => (by simp at ht), Nat.zero_le _, HBK0.out, HCL.out.below HB0.out, HB0.out, .inl rfl, fun g _ => (by simp [Value.ownBlock])⟩
    case round =>
      obtain ⟨r1, acc, a1, n1, c1, fr, rfl, hgf, hbr, hpr, hkk, hal, hbk, hcl1, hbl, hfr, hsp⟩ := hrel
      obtain ⟨av, cv, rfl, _⟩ := hpr.form
      have HGF := Lib.hid hgf
      have HBR1 := Lib.hid hbr
      have HPR := Lib.hid hpr
      have HKK := Lib.hid hkk
      have HAL := Lib.hid hal
      have HBK1 := Lib.hid hbk
      have HCL1 := Lib.hid hcl1
      have HBL := Lib.hid hbl
      have HFR := Lib.hid hfr
      have HSP := Lib.hid hsp
      have HV0 := Lib.hid (Below.refl wr.heap.size wr)
      have h2 := hbk.1
      have cp0 : wr.cell? ⟨w.heap.size, 0, none⟩ = some (.string S) := cell_of h2 (j := 0) rfl
      have cp1 : wr.cell? ⟨w.heap.size, 1, none⟩ = some (.bool true) := cell_of h2 (j := 1) rfl
      have cp2 : wr.cell? ⟨w.heap.size, 2, none⟩ = some (.int .i64 r1.at_) := cell_of h2 (j := 2) rfl
      have cp3 : wr.cell? ⟨w.heap.size, 3, none⟩ = some (.int .i64 r1.opn) := cell_of h2 (j := 3) rfl
      have cp4 : wr.cell? ⟨w.heap.size, 4, none⟩ = some (.slice a1 n1 c1) := cell_of h2 (j := 4) rfl
      have cp5 : wr.cell? ⟨w.heap.size, 5, none⟩ = some (.slice none 0 0) := cell_of h2 (j := 5) rfl
      have cp6 : wr.cell? ⟨w.heap.size, 6, none⟩ = some (.int .i64 0) := cell_of h2 (j := 6) rfl
      have cp7 : wr.cell? ⟨w.heap.size, 7, none⟩ = some (.int .i64 0) := cell_of h2 (j := 7) rfl
      clear h2 hgf hbr hpr hkk hal hbk hcl1 hbl hfr hsp
      obtain ⟨g', rfl⟩ : ∃ g', gk = g' + 1 := by
        cases gk with
        | zero => have := HBR1.out; simp [branchF] at this
        | succ g' => exact ⟨g', rfl⟩
      have hbr := HBR1.out
      rw [branchF] at hbr
      have HOP := Lib.hid (fun (w' : World) (b : ByteArray) => op_any w' S r1.at_ r1.opn a1 n1 c1 b)
      cases hs : S.data.toList[r1.at_]? with
      | none =>
        rw [hs] at hbr
        simp only [Option.some.injEq, Prod.mk.injEq] at hbr
        obtain ⟨rfl, ht⟩ := hbr
        have HT := Lib.hid ht
        have HSG := Lib.hid (fun w' => sign_end w' S r1.at_ r1.opn a1 n1 c1 r1.at_ (no_byte hs))
        clear hs ht
        go_wp2_with fail
        refine (HSG.out _).mono ?_
        rintro e V1 ⟨rfl, hb⟩
        have HV1 := Lib.hid (HV0.out.trans (hb.mono HV0.out.size))
        clear hb cp0 cp1 cp2 cp3 cp4 cp5 cp6 cp7
        have h2 := (HBK1.out.below HV1.out).1
        have cp0 : V1.cell? ⟨w.heap.size, 0, none⟩ = some (.string S) := cell_of h2 (j := 0) rfl
        have cp1 : V1.cell? ⟨w.heap.size, 1, none⟩ = some (.bool true) := cell_of h2 (j := 1) rfl
        have cp2 : V1.cell? ⟨w.heap.size, 2, none⟩ = some (.int .i64 r1.at_) := cell_of h2 (j := 2) rfl
        have cp3 : V1.cell? ⟨w.heap.size, 3, none⟩ = some (.int .i64 r1.opn) := cell_of h2 (j := 3) rfl
        have cp4 : V1.cell? ⟨w.heap.size, 4, none⟩ = some (.slice a1 n1 c1) := cell_of h2 (j := 4) rfl
        have cp5 : V1.cell? ⟨w.heap.size, 5, none⟩ = some (.slice none 0 0) := cell_of h2 (j := 5) rfl
        have cp6 : V1.cell? ⟨w.heap.size, 6, none⟩ = some (.int .i64 0) := cell_of h2 (j := 6) rfl
        have cp7 : V1.cell? ⟨w.heap.size, 7, none⟩ = some (.int .i64 0) := cell_of h2 (j := 7) rfl
        clear h2
        go_wp2_with fail
        go_meet
        exact ⟨acc, a1, n1, c1, HT.out.symm, HPR.out.below HV1.out, HKK.out, HAL.out, HBK1.out.below HV1.out, HCL1.out.below HV1.out, HBL.out.trans (HV1.out.mono HBL.out.size), HFR.out⟩
      | some ch =>
        rw [hs] at hbr
        simp only at hbr
        obtain ⟨hi, hc⟩ := byte_at hs
        have h92 : ch ≠ 92 := by
          rintro rfl
          simp at hbr
        have HSG := Lib.hid (fun w' => (show Calls Tryz.prog 53 #[rVal S r1.at_ r1.opn a1 n1 c1, .int .i64 r1.at_] w' (Says w' (.string ⟨#[ch]⟩)) from by
          rw [← hc]
          exact sign_byte w' S r1.at_ r1.opn a1 n1 c1 r1.at_ hi hS (by rw [hc]; intro e; exact h92 (UInt8.toNat_inj.1 e))))
        by_cases h124 : ch = 124
        · subst h124
          rw [if_pos (.inl rfl)] at hbr
          simp only [Option.some.injEq, Prod.mk.injEq] at hbr
          obtain ⟨rfl, ht⟩ := hbr
          have HT := Lib.hid ht
          clear hs ht hc h92
          go_wp2_with fail
          refine (HSG.out _).mono ?_
          rintro e V1 ⟨rfl, hb⟩
          have HV1 := Lib.hid (HV0.out.trans (hb.mono HV0.out.size))
          clear hb cp0 cp1 cp2 cp3 cp4 cp5 cp6 cp7
          have h2 := (HBK1.out.below HV1.out).1
          have cp0 : V1.cell? ⟨w.heap.size, 0, none⟩ = some (.string S) := cell_of h2 (j := 0) rfl
          have cp1 : V1.cell? ⟨w.heap.size, 1, none⟩ = some (.bool true) := cell_of h2 (j := 1) rfl
          have cp2 : V1.cell? ⟨w.heap.size, 2, none⟩ = some (.int .i64 r1.at_) := cell_of h2 (j := 2) rfl
          have cp3 : V1.cell? ⟨w.heap.size, 3, none⟩ = some (.int .i64 r1.opn) := cell_of h2 (j := 3) rfl
          have cp4 : V1.cell? ⟨w.heap.size, 4, none⟩ = some (.slice a1 n1 c1) := cell_of h2 (j := 4) rfl
          have cp5 : V1.cell? ⟨w.heap.size, 5, none⟩ = some (.slice none 0 0) := cell_of h2 (j := 5) rfl
          have cp6 : V1.cell? ⟨w.heap.size, 6, none⟩ = some (.int .i64 0) := cell_of h2 (j := 6) rfl
          have cp7 : V1.cell? ⟨w.heap.size, 7, none⟩ = some (.int .i64 0) := cell_of h2 (j := 7) rfl
          clear h2
          go_wp2_with fail
          refine (HOP.out _ _).mono ?_
          rintro e V2 ⟨rfl, hb⟩
          have HV2 := Lib.hid (HV1.out.trans (hb.mono HV1.out.size))
          clear hb cp0 cp1 cp2 cp3 cp4 cp5 cp6 cp7
          have h2 := (HBK1.out.below HV2.out).1
          have cp0 : V2.cell? ⟨w.heap.size, 0, none⟩ = some (.string S) := cell_of h2 (j := 0) rfl
          have cp1 : V2.cell? ⟨w.heap.size, 1, none⟩ = some (.bool true) := cell_of h2 (j := 1) rfl
          have cp2 : V2.cell? ⟨w.heap.size, 2, none⟩ = some (.int .i64 r1.at_) := cell_of h2 (j := 2) rfl
          have cp3 : V2.cell? ⟨w.heap.size, 3, none⟩ = some (.int .i64 r1.opn) := cell_of h2 (j := 3) rfl
          have cp4 : V2.cell? ⟨w.heap.size, 4, none⟩ = some (.slice a1 n1 c1) := cell_of h2 (j := 4) rfl
          have cp5 : V2.cell? ⟨w.heap.size, 5, none⟩ = some (.slice none 0 0) := cell_of h2 (j := 5) rfl
          have cp6 : V2.cell? ⟨w.heap.size, 6, none⟩ = some (.int .i64 0) := cell_of h2 (j := 6) rfl
          have cp7 : V2.cell? ⟨w.heap.size, 7, none⟩ = some (.int .i64 0) := cell_of h2 (j := 7) rfl
          clear h2
          go_wp2_with fail
          go_meet
          exact ⟨acc, a1, n1, c1, HT.out.symm, HPR.out.below HV2.out, HKK.out, HAL.out, HBK1.out.below HV2.out, HCL1.out.below HV2.out, HBL.out.trans (HV2.out.mono HBL.out.size), HFR.out⟩
        by_cases h41 : ch = 41 ∧ 0 < deep
        · obtain ⟨rfl, hdp⟩ := h41
          rw [if_pos (.inr ⟨rfl, hdp⟩)] at hbr
          simp only [Option.some.injEq, Prod.mk.injEq] at hbr
          obtain ⟨rfl, ht⟩ := hbr
          have HT := Lib.hid ht
          have hdi : (0 : Int) < (deep : Int) := by omega
          clear hs ht hc h92 h124
          go_wp2_with fail
          refine (HSG.out _).mono ?_
          rintro e V1 ⟨rfl, hb⟩
          have HV1 := Lib.hid (HV0.out.trans (hb.mono HV0.out.size))
          clear hb cp0 cp1 cp2 cp3 cp4 cp5 cp6 cp7
          have h2 := (HBK1.out.below HV1.out).1
          have cp0 : V1.cell? ⟨w.heap.size, 0, none⟩ = some (.string S) := cell_of h2 (j := 0) rfl
          have cp1 : V1.cell? ⟨w.heap.size, 1, none⟩ = some (.bool true) := cell_of h2 (j := 1) rfl
          have cp2 : V1.cell? ⟨w.heap.size, 2, none⟩ = some (.int .i64 r1.at_) := cell_of h2 (j := 2) rfl
          have cp3 : V1.cell? ⟨w.heap.size, 3, none⟩ = some (.int .i64 r1.opn) := cell_of h2 (j := 3) rfl
          have cp4 : V1.cell? ⟨w.heap.size, 4, none⟩ = some (.slice a1 n1 c1) := cell_of h2 (j := 4) rfl
          have cp5 : V1.cell? ⟨w.heap.size, 5, none⟩ = some (.slice none 0 0) := cell_of h2 (j := 5) rfl
          have cp6 : V1.cell? ⟨w.heap.size, 6, none⟩ = some (.int .i64 0) := cell_of h2 (j := 6) rfl
          have cp7 : V1.cell? ⟨w.heap.size, 7, none⟩ = some (.int .i64 0) := cell_of h2 (j := 7) rfl
          clear h2
          go_wp2_with fail
          refine (HOP.out _ _).mono ?_
          rintro e V2 ⟨rfl, hb⟩
          have HV2 := Lib.hid (HV1.out.trans (hb.mono HV1.out.size))
          clear hb cp0 cp1 cp2 cp3 cp4 cp5 cp6 cp7
          have h2 := (HBK1.out.below HV2.out).1
          have cp0 : V2.cell? ⟨w.heap.size, 0, none⟩ = some (.string S) := cell_of h2 (j := 0) rfl
          have cp1 : V2.cell? ⟨w.heap.size, 1, none⟩ = some (.bool true) := cell_of h2 (j := 1) rfl
          have cp2 : V2.cell? ⟨w.heap.size, 2, none⟩ = some (.int .i64 r1.at_) := cell_of h2 (j := 2) rfl
          have cp3 : V2.cell? ⟨w.heap.size, 3, none⟩ = some (.int .i64 r1.opn) := cell_of h2 (j := 3) rfl
          have cp4 : V2.cell? ⟨w.heap.size, 4, none⟩ = some (.slice a1 n1 c1) := cell_of h2 (j := 4) rfl
          have cp5 : V2.cell? ⟨w.heap.size, 5, none⟩ = some (.slice none 0 0) := cell_of h2 (j := 5) rfl
          have cp6 : V2.cell? ⟨w.heap.size, 6, none⟩ = some (.int .i64 0) := cell_of h2 (j := 6) rfl
          have cp7 : V2.cell? ⟨w.heap.size, 7, none⟩ = some (.int .i64 0) := cell_of h2 (j := 7) rfl
          clear h2
          go_wp2_with fail
          refine (HOP.out _ _).mono ?_
          rintro e V3 ⟨rfl, hb⟩
          have HV3 := Lib.hid (HV2.out.trans (hb.mono HV2.out.size))
          clear hb cp0 cp1 cp2 cp3 cp4 cp5 cp6 cp7
          have h2 := (HBK1.out.below HV3.out).1
          have cp0 : V3.cell? ⟨w.heap.size, 0, none⟩ = some (.string S) := cell_of h2 (j := 0) rfl
          have cp1 : V3.cell? ⟨w.heap.size, 1, none⟩ = some (.bool true) := cell_of h2 (j := 1) rfl
          have cp2 : V3.cell? ⟨w.heap.size, 2, none⟩ = some (.int .i64 r1.at_) := cell_of h2 (j := 2) rfl
          have cp3 : V3.cell? ⟨w.heap.size, 3, none⟩ = some (.int .i64 r1.opn) := cell_of h2 (j := 3) rfl
          have cp4 : V3.cell? ⟨w.heap.size, 4, none⟩ = some (.slice a1 n1 c1) := cell_of h2 (j := 4) rfl
          have cp5 : V3.cell? ⟨w.heap.size, 5, none⟩ = some (.slice none 0 0) := cell_of h2 (j := 5) rfl
          have cp6 : V3.cell? ⟨w.heap.size, 6, none⟩ = some (.int .i64 0) := cell_of h2 (j := 6) rfl
          have cp7 : V3.cell? ⟨w.heap.size, 7, none⟩ = some (.int .i64 0) := cell_of h2 (j := 7) rfl
          clear h2
          go_wp2_with fail
          go_meet
          exact ⟨acc, a1, n1, c1, HT.out.symm, HPR.out.below HV3.out, HKK.out, HAL.out, HBK1.out.below HV3.out, HCL1.out.below HV3.out, HBL.out.trans (HV3.out.mono HBL.out.size), HFR.out⟩
        rw [if_neg (by rintro (e | e); exact h124 e; exact h41 e)] at hbr
        split at hbr
        · cases hbr
        rename_i hno
        simp only [not_or] at hno
        cases haf : atomF S.data.toList g' r1 deep with
        | none => rw [haf] at hbr; simp at hbr
        | some x =>
          obtain ⟨r2, t2⟩ := x
          rw [haf] at hbr
          simp only at hbr
          split at hbr
          rotate_left
          · cases hbr
          rename_i hok
          have h41' : ch ≠ 41 := by
            rintro rfl
            cases g' with
            | zero => simp [atomF] at haf
            | succ g' => rw [atomF, hs] at haf; simp at haf
          have HOK := Lib.hid hok
          have HNX := Lib.hid hbr
          have HATM := Lib.hid (HAT.out g' (by have := HGF.out; omega) r1 deep r2 t2 haf)
          obtain ⟨σ, hσ1, hσ2, hσ3, hσ4, hσ5, hσ6⟩ := plain_sign S hS r2.at_ hok.1
          have HRP := Lib.hid (fun (w' : World) (a : Option Addr) (n c : Nat) k s0 s1 s2 s3 al nl cl mn mx num => repeated_none w' S r2.at_ r2.opn a n c k s0 s1 s2 s3 al nl cl mn mx num σ (by have := hok.2.1; rw [Array.length_toList] at this; have h : S.data.size = S.size := rfl; omega) hσ1 (fun w' => hσ2 _ _ _ _ _ w') hσ3 hσ4 hσ5 hσ6)
          have c124 : (ch == 124) = false := by simp [h124]
          have c41 : (ch == 41) = false := by simp [h41']
          have c94 : (ch == 94) = false := by simp [hno.2.1]
          have c36 : (ch == 36) = false := by simp [hno.2.2.1]
          have c123 : (ch == 123) = false := by simp [hno.2.2.2.1]
          have c43 : (ch == 43) = false := by simp [hno.2.2.2.2.1]
          have c63 : (ch == 63) = false := by simp [hno.2.2.2.2.2.1]
          have c42 : (ch == 42) = false := by simp [hno.2.2.2.2.2.2]
          clear hs hc hbr haf hok hσ1 hσ2 hσ3 hσ4 hσ5 hσ6 hno h41 h92
          cases fr with
          | true =>
            go_wp2_with fail
            refine (HSG.out _).mono ?_
            rintro e V1 ⟨rfl, hb⟩
            have HV1 := Lib.hid (HV0.out.trans (hb.mono HV0.out.size))
            clear hb cp0 cp1 cp2 cp3 cp4 cp5 cp6 cp7
            have h2 := (HBK1.out.below HV1.out).1
            have cp0 : V1.cell? ⟨w.heap.size, 0, none⟩ = some (.string S) := cell_of h2 (j := 0) rfl
            have cp1 : V1.cell? ⟨w.heap.size, 1, none⟩ = some (.bool true) := cell_of h2 (j := 1) rfl
            have cp2 : V1.cell? ⟨w.heap.size, 2, none⟩ = some (.int .i64 r1.at_) := cell_of h2 (j := 2) rfl
            have cp3 : V1.cell? ⟨w.heap.size, 3, none⟩ = some (.int .i64 r1.opn) := cell_of h2 (j := 3) rfl
            have cp4 : V1.cell? ⟨w.heap.size, 4, none⟩ = some (.slice a1 n1 c1) := cell_of h2 (j := 4) rfl
            have cp5 : V1.cell? ⟨w.heap.size, 5, none⟩ = some (.slice none 0 0) := cell_of h2 (j := 5) rfl
            have cp6 : V1.cell? ⟨w.heap.size, 6, none⟩ = some (.int .i64 0) := cell_of h2 (j := 6) rfl
            have cp7 : V1.cell? ⟨w.heap.size, 7, none⟩ = some (.int .i64 0) := cell_of h2 (j := 7) rfl
            clear h2
            go_wp2_with fail
            refine (HOP.out _ _).mono ?_
            rintro e V2 ⟨rfl, hb⟩
            have HV2 := Lib.hid (HV1.out.trans (hb.mono HV1.out.size))
            clear hb cp0 cp1 cp2 cp3 cp4 cp5 cp6 cp7
            have h2 := (HBK1.out.below HV2.out).1
            have cp0 : V2.cell? ⟨w.heap.size, 0, none⟩ = some (.string S) := cell_of h2 (j := 0) rfl
            have cp1 : V2.cell? ⟨w.heap.size, 1, none⟩ = some (.bool true) := cell_of h2 (j := 1) rfl
            have cp2 : V2.cell? ⟨w.heap.size, 2, none⟩ = some (.int .i64 r1.at_) := cell_of h2 (j := 2) rfl
            have cp3 : V2.cell? ⟨w.heap.size, 3, none⟩ = some (.int .i64 r1.opn) := cell_of h2 (j := 3) rfl
            have cp4 : V2.cell? ⟨w.heap.size, 4, none⟩ = some (.slice a1 n1 c1) := cell_of h2 (j := 4) rfl
            have cp5 : V2.cell? ⟨w.heap.size, 5, none⟩ = some (.slice none 0 0) := cell_of h2 (j := 5) rfl
            have cp6 : V2.cell? ⟨w.heap.size, 6, none⟩ = some (.int .i64 0) := cell_of h2 (j := 6) rfl
            have cp7 : V2.cell? ⟨w.heap.size, 7, none⟩ = some (.int .i64 0) := cell_of h2 (j := 7) rfl
            clear h2
            go_wp2_with fail
            refine (HOP.out _ _).mono ?_
            rintro e V3 ⟨rfl, hb⟩
            have HV3 := Lib.hid (HV2.out.trans (hb.mono HV2.out.size))
            clear hb cp0 cp1 cp2 cp3 cp4 cp5 cp6 cp7
            have h2 := (HBK1.out.below HV3.out).1
            have cp0 : V3.cell? ⟨w.heap.size, 0, none⟩ = some (.string S) := cell_of h2 (j := 0) rfl
            have cp1 : V3.cell? ⟨w.heap.size, 1, none⟩ = some (.bool true) := cell_of h2 (j := 1) rfl
            have cp2 : V3.cell? ⟨w.heap.size, 2, none⟩ = some (.int .i64 r1.at_) := cell_of h2 (j := 2) rfl
            have cp3 : V3.cell? ⟨w.heap.size, 3, none⟩ = some (.int .i64 r1.opn) := cell_of h2 (j := 3) rfl
            have cp4 : V3.cell? ⟨w.heap.size, 4, none⟩ = some (.slice a1 n1 c1) := cell_of h2 (j := 4) rfl
            have cp5 : V3.cell? ⟨w.heap.size, 5, none⟩ = some (.slice none 0 0) := cell_of h2 (j := 5) rfl
            have cp6 : V3.cell? ⟨w.heap.size, 6, none⟩ = some (.int .i64 0) := cell_of h2 (j := 6) rfl
            have cp7 : V3.cell? ⟨w.heap.size, 7, none⟩ = some (.int .i64 0) := cell_of h2 (j := 7) rfl
            clear h2
            go_wp2_with fail
            refine (HOP.out _ _).mono ?_
            rintro e V4 ⟨rfl, hb⟩
            have HV4 := Lib.hid (HV3.out.trans (hb.mono HV3.out.size))
            clear hb cp0 cp1 cp2 cp3 cp4 cp5 cp6 cp7
            have h2 := (HBK1.out.below HV4.out).1
            have cp0 : V4.cell? ⟨w.heap.size, 0, none⟩ = some (.string S) := cell_of h2 (j := 0) rfl
            have cp1 : V4.cell? ⟨w.heap.size, 1, none⟩ = some (.bool true) := cell_of h2 (j := 1) rfl
            have cp2 : V4.cell? ⟨w.heap.size, 2, none⟩ = some (.int .i64 r1.at_) := cell_of h2 (j := 2) rfl
            have cp3 : V4.cell? ⟨w.heap.size, 3, none⟩ = some (.int .i64 r1.opn) := cell_of h2 (j := 3) rfl
            have cp4 : V4.cell? ⟨w.heap.size, 4, none⟩ = some (.slice a1 n1 c1) := cell_of h2 (j := 4) rfl
            have cp5 : V4.cell? ⟨w.heap.size, 5, none⟩ = some (.slice none 0 0) := cell_of h2 (j := 5) rfl
            have cp6 : V4.cell? ⟨w.heap.size, 6, none⟩ = some (.int .i64 0) := cell_of h2 (j := 6) rfl
            have cp7 : V4.cell? ⟨w.heap.size, 7, none⟩ = some (.int .i64 0) := cell_of h2 (j := 7) rfl
            clear h2
            go_wp2_with fail
            refine (HOP.out _ _).mono ?_
            rintro e V5 ⟨rfl, hb⟩
            have HV5 := Lib.hid (HV4.out.trans (hb.mono HV4.out.size))
            clear hb cp0 cp1 cp2 cp3 cp4 cp5 cp6 cp7
            have h2 := (HBK1.out.below HV5.out).1
            have cp0 : V5.cell? ⟨w.heap.size, 0, none⟩ = some (.string S) := cell_of h2 (j := 0) rfl
            have cp1 : V5.cell? ⟨w.heap.size, 1, none⟩ = some (.bool true) := cell_of h2 (j := 1) rfl
            have cp2 : V5.cell? ⟨w.heap.size, 2, none⟩ = some (.int .i64 r1.at_) := cell_of h2 (j := 2) rfl
            have cp3 : V5.cell? ⟨w.heap.size, 3, none⟩ = some (.int .i64 r1.opn) := cell_of h2 (j := 3) rfl
            have cp4 : V5.cell? ⟨w.heap.size, 4, none⟩ = some (.slice a1 n1 c1) := cell_of h2 (j := 4) rfl
            have cp5 : V5.cell? ⟨w.heap.size, 5, none⟩ = some (.slice none 0 0) := cell_of h2 (j := 5) rfl
            have cp6 : V5.cell? ⟨w.heap.size, 6, none⟩ = some (.int .i64 0) := cell_of h2 (j := 6) rfl
            have cp7 : V5.cell? ⟨w.heap.size, 7, none⟩ = some (.int .i64 0) := cell_of h2 (j := 7) rfl
            clear h2
            go_wp2_with fail
            refine (HOP.out _ _).mono ?_
            rintro e V6 ⟨rfl, hb⟩
            have HV6 := Lib.hid (HV5.out.trans (hb.mono HV5.out.size))
            clear hb cp0 cp1 cp2 cp3 cp4 cp5 cp6 cp7
            have h2 := (HBK1.out.below HV6.out).1
            have cp0 : V6.cell? ⟨w.heap.size, 0, none⟩ = some (.string S) := cell_of h2 (j := 0) rfl
            have cp1 : V6.cell? ⟨w.heap.size, 1, none⟩ = some (.bool true) := cell_of h2 (j := 1) rfl
            have cp2 : V6.cell? ⟨w.heap.size, 2, none⟩ = some (.int .i64 r1.at_) := cell_of h2 (j := 2) rfl
            have cp3 : V6.cell? ⟨w.heap.size, 3, none⟩ = some (.int .i64 r1.opn) := cell_of h2 (j := 3) rfl
            have cp4 : V6.cell? ⟨w.heap.size, 4, none⟩ = some (.slice a1 n1 c1) := cell_of h2 (j := 4) rfl
            have cp5 : V6.cell? ⟨w.heap.size, 5, none⟩ = some (.slice none 0 0) := cell_of h2 (j := 5) rfl
            have cp6 : V6.cell? ⟨w.heap.size, 6, none⟩ = some (.int .i64 0) := cell_of h2 (j := 6) rfl
            have cp7 : V6.cell? ⟨w.heap.size, 7, none⟩ = some (.int .i64 0) := cell_of h2 (j := 7) rfl
            clear h2
            go_wp2_with fail
            refine (HATM.out V6 a1 n1 c1 (HCL1.out.below HV6.out)).mono ?_
            rintro e VA ⟨a2, n2, c2, cs, rfl, hb, hrd, hcl2, hor2⟩
            obtain ⟨k2, s02, s12, s22, s32, al2, nl2, cl2, mn2, mx2, num2, rfl⟩ := hrd.form
            have HVA := Lib.hid (HV6.out.trans (hb.mono HV6.out.size))
            have HZA := Lib.hid hb.size
            have HRD := Lib.hid hrd
            have HCL2 := Lib.hid hcl2
            have HOR2 := Lib.hid hor2
            have HBKA := Lib.hid (HBK1.out.below HVA.out)
            clear hb hrd hcl2 hor2 cp0 cp1 cp2 cp3 cp4 cp5 cp6 cp7
            have h2 := HBKA.out.1
            have cp0 : VA.cell? ⟨w.heap.size, 0, none⟩ = some (.string S) := cell_of h2 (j := 0) rfl
            have cp1 : VA.cell? ⟨w.heap.size, 1, none⟩ = some (.bool true) := cell_of h2 (j := 1) rfl
            have cp2 : VA.cell? ⟨w.heap.size, 2, none⟩ = some (.int .i64 r1.at_) := cell_of h2 (j := 2) rfl
            have cp3 : VA.cell? ⟨w.heap.size, 3, none⟩ = some (.int .i64 r1.opn) := cell_of h2 (j := 3) rfl
            have cp4 : VA.cell? ⟨w.heap.size, 4, none⟩ = some (.slice a1 n1 c1) := cell_of h2 (j := 4) rfl
            have cp5 : VA.cell? ⟨w.heap.size, 5, none⟩ = some (.slice none 0 0) := cell_of h2 (j := 5) rfl
            have cp6 : VA.cell? ⟨w.heap.size, 6, none⟩ = some (.int .i64 0) := cell_of h2 (j := 6) rfl
            have cp7 : VA.cell? ⟨w.heap.size, 7, none⟩ = some (.int .i64 0) := cell_of h2 (j := 7) rfl
            have cf0 := frozen_of_row VA (w.heap.size) 0 _ _ h2
            have cf1 := frozen_of_row VA (w.heap.size) 1 _ _ h2
            have cf2 := frozen_of_row VA (w.heap.size) 2 _ _ h2
            have cf3 := frozen_of_row VA (w.heap.size) 3 _ _ h2
            have cf4 := frozen_of_row VA (w.heap.size) 4 _ _ h2
            have cf5 := frozen_of_row VA (w.heap.size) 5 _ _ h2
            have cf6 := frozen_of_row VA (w.heap.size) 6 _ _ h2
            have cf7 := frozen_of_row VA (w.heap.size) 7 _ _ h2
            have hnA : w.heap.size < VA.heap.size := by have := HBKA.out.2.2.2; omega
            clear h2
            unfold rVal
            go_upto_region 20 with (fail)
            obtain ⟨k4, o4, b4⟩ := put8 HBKA.out.1 (.string S) (.bool true) (.int .i64 r2.at_) (.int .i64 r2.opn) (.slice a2 n2 c2) (.slice none 0 0) (.int .i64 0) (.int .i64 0)
            have hz : ((((((((VA.setCell ⟨w.heap.size, 0, none⟩ (.string S)).setCell ⟨w.heap.size, 1, none⟩ (.bool true)).setCell ⟨w.heap.size, 2, none⟩ (.int .i64 r2.at_)).setCell ⟨w.heap.size, 3, none⟩ (.int .i64 r2.opn)).setCell ⟨w.heap.size, 4, none⟩ (.slice a2 n2 c2)).setCell ⟨w.heap.size, 5, none⟩ (.slice none 0 0)).setCell ⟨w.heap.size, 6, none⟩ (.int .i64 0)).setCell ⟨w.heap.size, 7, none⟩ (.int .i64 0)).heap.size = VA.heap.size := by simp [World.setCell]
            obtain ⟨b0, z0, h6, h7⟩ := alloc2 ((((((((VA.setCell ⟨w.heap.size, 0, none⟩ (.string S)).setCell ⟨w.heap.size, 1, none⟩ (.bool true)).setCell ⟨w.heap.size, 2, none⟩ (.int .i64 r2.at_)).setCell ⟨w.heap.size, 3, none⟩ (.int .i64 r2.opn)).setCell ⟨w.heap.size, 4, none⟩ (.slice a2 n2 c2)).setCell ⟨w.heap.size, 5, none⟩ (.slice none 0 0)).setCell ⟨w.heap.size, 6, none⟩ (.int .i64 0)).setCell ⟨w.heap.size, 7, none⟩ (.int .i64 0)) (.cells #[.string S, .bool true, .int .i64 r2.at_, .int .i64 r2.opn, .slice a2 n2 c2, .slice none 0 0, .int .i64 0, .int .i64 0] 105) (.cells #[.int .i64 k2, .int .u64 s02, .int .u64 s12, .int .u64 s22, .int .u64 s32, .slice al2 nl2 cl2, .int .i64 mn2, .int .i64 mx2, .int .i64 num2] 28)
            have HQB := Lib.hid (show Bar (fun k => k = w.heap.size) VA ((((((((((VA.setCell ⟨w.heap.size, 0, none⟩ (.string S)).setCell ⟨w.heap.size, 1, none⟩ (.bool true)).setCell ⟨w.heap.size, 2, none⟩ (.int .i64 r2.at_)).setCell ⟨w.heap.size, 3, none⟩ (.int .i64 r2.opn)).setCell ⟨w.heap.size, 4, none⟩ (.slice a2 n2 c2)).setCell ⟨w.heap.size, 5, none⟩ (.slice none 0 0)).setCell ⟨w.heap.size, 6, none⟩ (.int .i64 0)).setCell ⟨w.heap.size, 7, none⟩ (.int .i64 0)).alloc (.cells #[.string S, .bool true, .int .i64 r2.at_, .int .i64 r2.opn, .slice a2 n2 c2, .slice none 0 0, .int .i64 0, .int .i64 0] 105)).alloc (.cells #[.int .i64 k2, .int .u64 s02, .int .u64 s12, .int .u64 s22, .int .u64 s32, .slice al2 nl2 cl2, .int .i64 mn2, .int .i64 mx2, .int .i64 num2] 28)) from ((((((((((Bar.refl (fun k => k = w.heap.size) VA).set ⟨w.heap.size, 0, none⟩ (.string S) (.inl rfl)).set ⟨w.heap.size, 1, none⟩ (.bool true) (.inl rfl)).set ⟨w.heap.size, 2, none⟩ (.int .i64 r2.at_) (.inl rfl)).set ⟨w.heap.size, 3, none⟩ (.int .i64 r2.opn) (.inl rfl)).set ⟨w.heap.size, 4, none⟩ (.slice a2 n2 c2) (.inl rfl)).set ⟨w.heap.size, 5, none⟩ (.slice none 0 0) (.inl rfl)).set ⟨w.heap.size, 6, none⟩ (.int .i64 0) (.inl rfl)).set ⟨w.heap.size, 7, none⟩ (.int .i64 0) (.inl rfl))).trans (Bar.of_below b0))
            rw [hz] at z0 h6 h7
            have HBKB := Lib.hid (show Blk ((((((((((VA.setCell ⟨w.heap.size, 0, none⟩ (.string S)).setCell ⟨w.heap.size, 1, none⟩ (.bool true)).setCell ⟨w.heap.size, 2, none⟩ (.int .i64 r2.at_)).setCell ⟨w.heap.size, 3, none⟩ (.int .i64 r2.opn)).setCell ⟨w.heap.size, 4, none⟩ (.slice a2 n2 c2)).setCell ⟨w.heap.size, 5, none⟩ (.slice none 0 0)).setCell ⟨w.heap.size, 6, none⟩ (.int .i64 0)).setCell ⟨w.heap.size, 7, none⟩ (.int .i64 0)).alloc (.cells #[.string S, .bool true, .int .i64 r2.at_, .int .i64 r2.opn, .slice a2 n2 c2, .slice none 0 0, .int .i64 0, .int .i64 0] 105)).alloc (.cells #[.int .i64 k2, .int .u64 s02, .int .u64 s12, .int .u64 s22, .int .u64 s32, .slice al2 nl2 cl2, .int .i64 mn2, .int .i64 mx2, .int .i64 num2] 28)) w.heap.size S r2 a2 n2 c2 from ⟨(b0.block _ (by rw [hz]; exact hnA)).trans k4, (b0.block _ (by rw [hz]; have := HBKA.out.2.2.2; omega)).trans ((o4 (w.heap.size + 1) (by omega)).trans HBKA.out.2.1), (b0.block _ (by rw [hz]; have := HBKA.out.2.2.2; omega)).trans ((o4 (w.heap.size + 1 + 1) (by omega)).trans HBKA.out.2.2.1), by have := HBKA.out.2.2.2; omega⟩)
            have HXB := Lib.hid h7
            have HXZ := Lib.hid (show VA.heap.size + 1 < ((((((((((VA.setCell ⟨w.heap.size, 0, none⟩ (.string S)).setCell ⟨w.heap.size, 1, none⟩ (.bool true)).setCell ⟨w.heap.size, 2, none⟩ (.int .i64 r2.at_)).setCell ⟨w.heap.size, 3, none⟩ (.int .i64 r2.opn)).setCell ⟨w.heap.size, 4, none⟩ (.slice a2 n2 c2)).setCell ⟨w.heap.size, 5, none⟩ (.slice none 0 0)).setCell ⟨w.heap.size, 6, none⟩ (.int .i64 0)).setCell ⟨w.heap.size, 7, none⟩ (.int .i64 0)).alloc (.cells #[.string S, .bool true, .int .i64 r2.at_, .int .i64 r2.opn, .slice a2 n2 c2, .slice none 0 0, .int .i64 0, .int .i64 0] 105)).alloc (.cells #[.int .i64 k2, .int .u64 s02, .int .u64 s12, .int .u64 s22, .int .u64 s32, .slice al2 nl2 cl2, .int .i64 mn2, .int .i64 mx2, .int .i64 num2] 28)).heap.size by omega)
            clear hz
            clear b0 z0 h6 h7 k4 o4 b4 cp0 cp1 cp2 cp3 cp4 cp5 cp6 cp7 cf0 cf1 cf2 cf3 cf4 cf5 cf6 cf7
            generalize ((((((((((VA.setCell ⟨w.heap.size, 0, none⟩ (.string S)).setCell ⟨w.heap.size, 1, none⟩ (.bool true)).setCell ⟨w.heap.size, 2, none⟩ (.int .i64 r2.at_)).setCell ⟨w.heap.size, 3, none⟩ (.int .i64 r2.opn)).setCell ⟨w.heap.size, 4, none⟩ (.slice a2 n2 c2)).setCell ⟨w.heap.size, 5, none⟩ (.slice none 0 0)).setCell ⟨w.heap.size, 6, none⟩ (.int .i64 0)).setCell ⟨w.heap.size, 7, none⟩ (.int .i64 0)).alloc (.cells #[.string S, .bool true, .int .i64 r2.at_, .int .i64 r2.opn, .slice a2 n2 c2, .slice none 0 0, .int .i64 0, .int .i64 0] 105)).alloc (.cells #[.int .i64 k2, .int .u64 s02, .int .u64 s12, .int .u64 s22, .int .u64 s32, .slice al2 nl2 cl2, .int .i64 mn2, .int .i64 mx2, .int .i64 num2] 28)) = VB at *
            have h2 := HBKB.out.1
            have h3 := HXB.out
            have cp0 : VB.cell? ⟨w.heap.size, 0, none⟩ = some (.string S) := cell_of h2 (j := 0) rfl
            have cp1 : VB.cell? ⟨w.heap.size, 1, none⟩ = some (.bool true) := cell_of h2 (j := 1) rfl
            have cp2 : VB.cell? ⟨w.heap.size, 2, none⟩ = some (.int .i64 r2.at_) := cell_of h2 (j := 2) rfl
            have cp3 : VB.cell? ⟨w.heap.size, 3, none⟩ = some (.int .i64 r2.opn) := cell_of h2 (j := 3) rfl
            have cp4 : VB.cell? ⟨w.heap.size, 4, none⟩ = some (.slice a2 n2 c2) := cell_of h2 (j := 4) rfl
            have cp5 : VB.cell? ⟨w.heap.size, 5, none⟩ = some (.slice none 0 0) := cell_of h2 (j := 5) rfl
            have cp6 : VB.cell? ⟨w.heap.size, 6, none⟩ = some (.int .i64 0) := cell_of h2 (j := 6) rfl
            have cp7 : VB.cell? ⟨w.heap.size, 7, none⟩ = some (.int .i64 0) := cell_of h2 (j := 7) rfl
            have cq0 : VB.cell? ⟨(VA.heap.size + 1), 0, none⟩ = some (.int .i64 k2) := cell_of h3 (j := 0) rfl
            have cq1 : VB.cell? ⟨(VA.heap.size + 1), 1, none⟩ = some (.int .u64 s02) := cell_of h3 (j := 1) rfl
            have cq2 : VB.cell? ⟨(VA.heap.size + 1), 2, none⟩ = some (.int .u64 s12) := cell_of h3 (j := 2) rfl
            have cq3 : VB.cell? ⟨(VA.heap.size + 1), 3, none⟩ = some (.int .u64 s22) := cell_of h3 (j := 3) rfl
            have cq4 : VB.cell? ⟨(VA.heap.size + 1), 4, none⟩ = some (.int .u64 s32) := cell_of h3 (j := 4) rfl
            have cq5 : VB.cell? ⟨(VA.heap.size + 1), 5, none⟩ = some (.slice al2 nl2 cl2) := cell_of h3 (j := 5) rfl
            have cq6 : VB.cell? ⟨(VA.heap.size + 1), 6, none⟩ = some (.int .i64 mn2) := cell_of h3 (j := 6) rfl
            have cq7 : VB.cell? ⟨(VA.heap.size + 1), 7, none⟩ = some (.int .i64 mx2) := cell_of h3 (j := 7) rfl
            have cq8 : VB.cell? ⟨(VA.heap.size + 1), 8, none⟩ = some (.int .i64 num2) := cell_of h3 (j := 8) rfl
            clear h2 h3 hnA
            go_wp2_with fail
            refine (HRP.out _ a2 n2 c2 k2 s02 s12 s22 s32 al2 nl2 cl2 mn2 mx2 num2).mono ?_
            unfold rVal
            rintro e VC ⟨rfl, hb⟩
            have HBKC := Lib.hid (HBKB.out.below hb)
            have HXC := Lib.hid ((hb.block (VA.heap.size + 1) HXZ.out).trans HXB.out)
            have HQC := Lib.hid (HQB.out.trans (Bar.of_below hb))
            have HXZC := Lib.hid (Nat.lt_of_lt_of_le HXZ.out hb.size)
            clear hb cp0 cp1 cp2 cp3 cp4 cp5 cp6 cp7 cq0 cq1 cq2 cq3 cq4 cq5 cq6 cq7 cq8
            have h2 := HBKC.out.1
            have h3 := HXC.out
            have cp0 : VC.cell? ⟨w.heap.size, 0, none⟩ = some (.string S) := cell_of h2 (j := 0) rfl
            have cp1 : VC.cell? ⟨w.heap.size, 1, none⟩ = some (.bool true) := cell_of h2 (j := 1) rfl
            have cp2 : VC.cell? ⟨w.heap.size, 2, none⟩ = some (.int .i64 r2.at_) := cell_of h2 (j := 2) rfl
            have cp3 : VC.cell? ⟨w.heap.size, 3, none⟩ = some (.int .i64 r2.opn) := cell_of h2 (j := 3) rfl
            have cp4 : VC.cell? ⟨w.heap.size, 4, none⟩ = some (.slice a2 n2 c2) := cell_of h2 (j := 4) rfl
            have cp5 : VC.cell? ⟨w.heap.size, 5, none⟩ = some (.slice none 0 0) := cell_of h2 (j := 5) rfl
            have cp6 : VC.cell? ⟨w.heap.size, 6, none⟩ = some (.int .i64 0) := cell_of h2 (j := 6) rfl
            have cp7 : VC.cell? ⟨w.heap.size, 7, none⟩ = some (.int .i64 0) := cell_of h2 (j := 7) rfl
            have cq0 : VC.cell? ⟨(VA.heap.size + 1), 0, none⟩ = some (.int .i64 k2) := cell_of h3 (j := 0) rfl
            have cq1 : VC.cell? ⟨(VA.heap.size + 1), 1, none⟩ = some (.int .u64 s02) := cell_of h3 (j := 1) rfl
            have cq2 : VC.cell? ⟨(VA.heap.size + 1), 2, none⟩ = some (.int .u64 s12) := cell_of h3 (j := 2) rfl
            have cq3 : VC.cell? ⟨(VA.heap.size + 1), 3, none⟩ = some (.int .u64 s22) := cell_of h3 (j := 3) rfl
            have cq4 : VC.cell? ⟨(VA.heap.size + 1), 4, none⟩ = some (.int .u64 s32) := cell_of h3 (j := 4) rfl
            have cq5 : VC.cell? ⟨(VA.heap.size + 1), 5, none⟩ = some (.slice al2 nl2 cl2) := cell_of h3 (j := 5) rfl
            have cq6 : VC.cell? ⟨(VA.heap.size + 1), 6, none⟩ = some (.int .i64 mn2) := cell_of h3 (j := 6) rfl
            have cq7 : VC.cell? ⟨(VA.heap.size + 1), 7, none⟩ = some (.int .i64 mx2) := cell_of h3 (j := 7) rfl
            have cq8 : VC.cell? ⟨(VA.heap.size + 1), 8, none⟩ = some (.int .i64 num2) := cell_of h3 (j := 8) rfl
            have cf0 := frozen_of_row VC (w.heap.size) 0 _ _ h2
            have cf1 := frozen_of_row VC (w.heap.size) 1 _ _ h2
            have cf2 := frozen_of_row VC (w.heap.size) 2 _ _ h2
            have cf3 := frozen_of_row VC (w.heap.size) 3 _ _ h2
            have cf4 := frozen_of_row VC (w.heap.size) 4 _ _ h2
            have cf5 := frozen_of_row VC (w.heap.size) 5 _ _ h2
            have cf6 := frozen_of_row VC (w.heap.size) 6 _ _ h2
            have cf7 := frozen_of_row VC (w.heap.size) 7 _ _ h2
            have cg0 := frozen_of_row VC (VA.heap.size + 1) 0 _ _ h3
            have cg1 := frozen_of_row VC (VA.heap.size + 1) 1 _ _ h3
            have cg2 := frozen_of_row VC (VA.heap.size + 1) 2 _ _ h3
            have cg3 := frozen_of_row VC (VA.heap.size + 1) 3 _ _ h3
            have cg4 := frozen_of_row VC (VA.heap.size + 1) 4 _ _ h3
            have cg5 := frozen_of_row VC (VA.heap.size + 1) 5 _ _ h3
            have cg6 := frozen_of_row VC (VA.heap.size + 1) 6 _ _ h3
            have cg7 := frozen_of_row VC (VA.heap.size + 1) 7 _ _ h3
            have cg8 := frozen_of_row VC (VA.heap.size + 1) 8 _ _ h3
            have hx1 : ¬ VA.heap.size + 1 = w.heap.size := by have := HBKA.out.2.2.2; omega
            have hx2 : ¬ w.heap.size = VA.heap.size + 1 := by have := HBKA.out.2.2.2; omega
            clear h2 h3
            go_upto_region 21 with (fail)
            obtain ⟨k4, o4, b4⟩ := put8 HBKC.out.1 (.string S) (.bool true) (.int .i64 r2.at_) (.int .i64 r2.opn) (.slice a2 n2 c2) (.slice none 0 0) (.int .i64 0) (.int .i64 0)
            obtain ⟨k5, o5, b5⟩ := put9 ((o4 (VA.heap.size + 1) (by have := HBKA.out.2.2.2; omega)).trans HXC.out) (.int .i64 k2) (.int .u64 s02) (.int .u64 s12) (.int .u64 s22) (.int .u64 s32) (.slice al2 nl2 cl2) (.int .i64 mn2) (.int .i64 mx2) (.int .i64 num2)
            have HBKD := Lib.hid (show Blk (((((((((((((((((VC.setCell ⟨w.heap.size, 0, none⟩ (.string S)).setCell ⟨w.heap.size, 1, none⟩ (.bool true)).setCell ⟨w.heap.size, 2, none⟩ (.int .i64 r2.at_)).setCell ⟨w.heap.size, 3, none⟩ (.int .i64 r2.opn)).setCell ⟨w.heap.size, 4, none⟩ (.slice a2 n2 c2)).setCell ⟨w.heap.size, 5, none⟩ (.slice none 0 0)).setCell ⟨w.heap.size, 6, none⟩ (.int .i64 0)).setCell ⟨w.heap.size, 7, none⟩ (.int .i64 0)).setCell ⟨(VA.heap.size + 1), 0, none⟩ (.int .i64 k2)).setCell ⟨(VA.heap.size + 1), 1, none⟩ (.int .u64 s02)).setCell ⟨(VA.heap.size + 1), 2, none⟩ (.int .u64 s12)).setCell ⟨(VA.heap.size + 1), 3, none⟩ (.int .u64 s22)).setCell ⟨(VA.heap.size + 1), 4, none⟩ (.int .u64 s32)).setCell ⟨(VA.heap.size + 1), 5, none⟩ (.slice al2 nl2 cl2)).setCell ⟨(VA.heap.size + 1), 6, none⟩ (.int .i64 mn2)).setCell ⟨(VA.heap.size + 1), 7, none⟩ (.int .i64 mx2)).setCell ⟨(VA.heap.size + 1), 8, none⟩ (.int .i64 num2)) w.heap.size S r2 a2 n2 c2 from ⟨(o5 w.heap.size (by have := HBKA.out.2.2.2; omega)).trans k4, (o5 (w.heap.size + 1) (by have := HBKA.out.2.2.2; omega)).trans ((o4 (w.heap.size + 1) (by omega)).trans HBKC.out.2.1), (o5 (w.heap.size + 1 + 1) (by have := HBKA.out.2.2.2; omega)).trans ((o4 (w.heap.size + 1 + 1) (by omega)).trans HBKC.out.2.2.1), by
              have := HBKC.out.2.2.2
              have h : (((((((((((((((((VC.setCell ⟨w.heap.size, 0, none⟩ (.string S)).setCell ⟨w.heap.size, 1, none⟩ (.bool true)).setCell ⟨w.heap.size, 2, none⟩ (.int .i64 r2.at_)).setCell ⟨w.heap.size, 3, none⟩ (.int .i64 r2.opn)).setCell ⟨w.heap.size, 4, none⟩ (.slice a2 n2 c2)).setCell ⟨w.heap.size, 5, none⟩ (.slice none 0 0)).setCell ⟨w.heap.size, 6, none⟩ (.int .i64 0)).setCell ⟨w.heap.size, 7, none⟩ (.int .i64 0)).setCell ⟨(VA.heap.size + 1), 0, none⟩ (.int .i64 k2)).setCell ⟨(VA.heap.size + 1), 1, none⟩ (.int .u64 s02)).setCell ⟨(VA.heap.size + 1), 2, none⟩ (.int .u64 s12)).setCell ⟨(VA.heap.size + 1), 3, none⟩ (.int .u64 s22)).setCell ⟨(VA.heap.size + 1), 4, none⟩ (.int .u64 s32)).setCell ⟨(VA.heap.size + 1), 5, none⟩ (.slice al2 nl2 cl2)).setCell ⟨(VA.heap.size + 1), 6, none⟩ (.int .i64 mn2)).setCell ⟨(VA.heap.size + 1), 7, none⟩ (.int .i64 mx2)).setCell ⟨(VA.heap.size + 1), 8, none⟩ (.int .i64 num2)).heap.size = VC.heap.size := by simp [World.setCell]
              omega⟩)
            have HXD := Lib.hid k5
            have HQD := Lib.hid (show Bar (fun k => k = w.heap.size) VA (((((((((((((((((VC.setCell ⟨w.heap.size, 0, none⟩ (.string S)).setCell ⟨w.heap.size, 1, none⟩ (.bool true)).setCell ⟨w.heap.size, 2, none⟩ (.int .i64 r2.at_)).setCell ⟨w.heap.size, 3, none⟩ (.int .i64 r2.opn)).setCell ⟨w.heap.size, 4, none⟩ (.slice a2 n2 c2)).setCell ⟨w.heap.size, 5, none⟩ (.slice none 0 0)).setCell ⟨w.heap.size, 6, none⟩ (.int .i64 0)).setCell ⟨w.heap.size, 7, none⟩ (.int .i64 0)).setCell ⟨(VA.heap.size + 1), 0, none⟩ (.int .i64 k2)).setCell ⟨(VA.heap.size + 1), 1, none⟩ (.int .u64 s02)).setCell ⟨(VA.heap.size + 1), 2, none⟩ (.int .u64 s12)).setCell ⟨(VA.heap.size + 1), 3, none⟩ (.int .u64 s22)).setCell ⟨(VA.heap.size + 1), 4, none⟩ (.int .u64 s32)).setCell ⟨(VA.heap.size + 1), 5, none⟩ (.slice al2 nl2 cl2)).setCell ⟨(VA.heap.size + 1), 6, none⟩ (.int .i64 mn2)).setCell ⟨(VA.heap.size + 1), 7, none⟩ (.int .i64 mx2)).setCell ⟨(VA.heap.size + 1), 8, none⟩ (.int .i64 num2)) from (((((((((((((((((HQC.out.set ⟨w.heap.size, 0, none⟩ (.string S) (.inl rfl)).set ⟨w.heap.size, 1, none⟩ (.bool true) (.inl rfl)).set ⟨w.heap.size, 2, none⟩ (.int .i64 r2.at_) (.inl rfl)).set ⟨w.heap.size, 3, none⟩ (.int .i64 r2.opn) (.inl rfl)).set ⟨w.heap.size, 4, none⟩ (.slice a2 n2 c2) (.inl rfl)).set ⟨w.heap.size, 5, none⟩ (.slice none 0 0) (.inl rfl)).set ⟨w.heap.size, 6, none⟩ (.int .i64 0) (.inl rfl)).set ⟨w.heap.size, 7, none⟩ (.int .i64 0) (.inl rfl)).set ⟨(VA.heap.size + 1), 0, none⟩ (.int .i64 k2) (.inr (Nat.le_succ _))).set ⟨(VA.heap.size + 1), 1, none⟩ (.int .u64 s02) (.inr (Nat.le_succ _))).set ⟨(VA.heap.size + 1), 2, none⟩ (.int .u64 s12) (.inr (Nat.le_succ _))).set ⟨(VA.heap.size + 1), 3, none⟩ (.int .u64 s22) (.inr (Nat.le_succ _))).set ⟨(VA.heap.size + 1), 4, none⟩ (.int .u64 s32) (.inr (Nat.le_succ _))).set ⟨(VA.heap.size + 1), 5, none⟩ (.slice al2 nl2 cl2) (.inr (Nat.le_succ _))).set ⟨(VA.heap.size + 1), 6, none⟩ (.int .i64 mn2) (.inr (Nat.le_succ _))).set ⟨(VA.heap.size + 1), 7, none⟩ (.int .i64 mx2) (.inr (Nat.le_succ _))).set ⟨(VA.heap.size + 1), 8, none⟩ (.int .i64 num2) (.inr (Nat.le_succ _))))
            clear k4 o4 b4 k5 o5 b5 cp0 cp1 cp2 cp3 cp4 cp5 cp6 cp7 cq0 cq1 cq2 cq3 cq4 cq5 cq6 cq7 cq8 cf0 cf1 cf2 cf3 cf4 cf5 cf6 cf7 cg0 cg1 cg2 cg3 cg4 cg5 cg6 cg7 cg8
            generalize (((((((((((((((((VC.setCell ⟨w.heap.size, 0, none⟩ (.string S)).setCell ⟨w.heap.size, 1, none⟩ (.bool true)).setCell ⟨w.heap.size, 2, none⟩ (.int .i64 r2.at_)).setCell ⟨w.heap.size, 3, none⟩ (.int .i64 r2.opn)).setCell ⟨w.heap.size, 4, none⟩ (.slice a2 n2 c2)).setCell ⟨w.heap.size, 5, none⟩ (.slice none 0 0)).setCell ⟨w.heap.size, 6, none⟩ (.int .i64 0)).setCell ⟨w.heap.size, 7, none⟩ (.int .i64 0)).setCell ⟨(VA.heap.size + 1), 0, none⟩ (.int .i64 k2)).setCell ⟨(VA.heap.size + 1), 1, none⟩ (.int .u64 s02)).setCell ⟨(VA.heap.size + 1), 2, none⟩ (.int .u64 s12)).setCell ⟨(VA.heap.size + 1), 3, none⟩ (.int .u64 s22)).setCell ⟨(VA.heap.size + 1), 4, none⟩ (.int .u64 s32)).setCell ⟨(VA.heap.size + 1), 5, none⟩ (.slice al2 nl2 cl2)).setCell ⟨(VA.heap.size + 1), 6, none⟩ (.int .i64 mn2)).setCell ⟨(VA.heap.size + 1), 7, none⟩ (.int .i64 mx2)).setCell ⟨(VA.heap.size + 1), 8, none⟩ (.int .i64 num2)) = VD at *
            have h3 := HXD.out
            have cq0 : VD.cell? ⟨(VA.heap.size + 1), 0, none⟩ = some (.int .i64 k2) := cell_of h3 (j := 0) rfl
            have cq1 : VD.cell? ⟨(VA.heap.size + 1), 1, none⟩ = some (.int .u64 s02) := cell_of h3 (j := 1) rfl
            have cq2 : VD.cell? ⟨(VA.heap.size + 1), 2, none⟩ = some (.int .u64 s12) := cell_of h3 (j := 2) rfl
            have cq3 : VD.cell? ⟨(VA.heap.size + 1), 3, none⟩ = some (.int .u64 s22) := cell_of h3 (j := 3) rfl
            have cq4 : VD.cell? ⟨(VA.heap.size + 1), 4, none⟩ = some (.int .u64 s32) := cell_of h3 (j := 4) rfl
            have cq5 : VD.cell? ⟨(VA.heap.size + 1), 5, none⟩ = some (.slice al2 nl2 cl2) := cell_of h3 (j := 5) rfl
            have cq6 : VD.cell? ⟨(VA.heap.size + 1), 6, none⟩ = some (.int .i64 mn2) := cell_of h3 (j := 6) rfl
            have cq7 : VD.cell? ⟨(VA.heap.size + 1), 7, none⟩ = some (.int .i64 mx2) := cell_of h3 (j := 7) rfl
            have cq8 : VD.cell? ⟨(VA.heap.size + 1), 8, none⟩ = some (.int .i64 num2) := cell_of h3 (j := 8) rfl
            clear h3
            have hqd : Bar (fun k => k < w.heap.size + 3) wr VD := (Bar.of_below HVA.out).trans (HQD.out.mono fun k _ e => (by show k < w.heap.size + 3; omega))
            have hprd := HPR.out.far hqd
            have hrb := (Below.refl VD.heap.size VD).alloc (Nat.le_refl _) (.cells #[.int .i64 k2, .int .u64 s02, .int .u64 s12, .int .u64 s22, .int .u64 s32, .slice al2 nl2 cl2, .int .i64 mn2, .int .i64 mx2, .int .i64 num2] 28)
            have HRB := Lib.hid hrb
            obtain ⟨css, hcl, hc9, hco, hcn⟩ := hprd.below hrb
            have HCSL := Lib.hid hcl
            have HC9 := Lib.hid hc9
            have HCO := Lib.hid hco
            have HCN := Lib.hid hcn
            have hle3 : w.heap.size + 3 ≤ VD.heap.size := HBKD.out.2.2.2
            have HAL1 := Lib.hid (show acc.length < 100 from HOK.out.2.2.2.2)
            clear hqd hprd hrb hcl hc9 hco hcn
            obtain ⟨i0, hi0, hz0, hz1, hz2⟩ := info_parts info_T
            have HI := Lib.hid hi0
            have HI0 := Lib.hid hz0
            have HI1 := Lib.hid hz1
            have HI2 := Lib.hid hz2
            clear hi0 hz0 hz1 hz2
            go_wp2_with (at_builtin; (refine wpList_append_lies _ rfl (.tmp 128) (.tmp 130) 23 rfl (w.heap.size + 3) 28 i0 _ 9 88 und_Ts HI.out HI0.out HI1.out HI2.out rfl (by decide) _ _ css.flatten rfl HCO.out _ 1 1 [.int .i64 k2, .int .u64 s02, .int .u64 s12, .int .u64 s22, .int .u64 s32, .slice al2 nl2 cl2, .int .i64 mn2, .int .i64 mx2, .int .i64 num2] rfl rfl (news1 _ _ _) (by intro u hu; simp only [List.mem_cons, List.not_mem_nil, or_false] at hu; rcases hu with rfl | rfl | rfl | rfl | rfl | rfl | rfl | rfl | rfl <;> rfl) (by decide) (by have := HAL1.out; unfold maxLen; omega) (by have := HAL1.out; omega) (Nat.le_trans hle3 HRB.out.size) _ rfl ?_))
            intro g6 cap6 w6 hown hgrow hat6 hlt6
            have hown6 : ∀ k, (Value.slice av acc.length cv).ownBlock = some k → w.heap.size + 3 ≤ k ∧ k < wr.heap.size := HPR.out.lt
            have hpr6 := PartsR.appended (t := t2) HCSL.out HC9.out rfl HCN.out (Rd.mono (by have := HQD.out.size; have := HRB.out.size; omega) _ _ (Rd.masked (fun b hb hp => (by
              simp only [above, butQ, Bool.and_eq_true, decide_eq_true_eq] at hp ⊢
              have h1 := HV6.out.size
              have h2 := (HBK1.out.below HV6.out).2.2.2
              refine ⟨⟨by omega, fun e => by have := (hown6 b e.symm).2; omega⟩, (HRB.out.block b (by have := HQD.out.size; omega)).trans (HQD.out.block b hb (by omega))⟩)) HRD.out)) hown hgrow (hat6.imp_right fun h => h.trans (Array.size_push _).symm)
            have hbk6 := (HBKD.out.below HRB.out).grown hgrow (fun k hk => (hown6 k hk).1)
            have hz6 : g6 = (VD.alloc (.cells #[.int .i64 k2, .int .u64 s02, .int .u64 s12, .int .u64 s22, .int .u64 s32, .slice al2 nl2 cl2, .int .i64 mn2, .int .i64 mx2, .int .i64 num2] 28)).heap.size ∨ (Value.slice av acc.length cv).ownBlock = some g6 := hat6.symm.imp_left fun h => h.trans (Array.size_push _).symm
            have hlow : ∀ g, a2 = some ⟨g, 0, none⟩ → g < VA.heap.size ∧ g ≠ w.heap.size ∧ (Value.slice av acc.length cv).ownBlock ≠ some g := by
              intro g hg
              have hlt : g < VA.heap.size := by
                rcases HCL2.out with ⟨_, h, _⟩ | ⟨g', h, _, _, _, h5, _⟩
                · rw [h] at hg; cases hg
                · rw [h] at hg; injection hg with hg; injection hg with hg; omega
              have h1 := HV6.out.size
              have h2 := (HBK1.out.below HV6.out).2.2.2
              rcases HOR2.out with e | ⟨g', e, hge⟩
              · rw [e] at hg
                refine ⟨hlt, ?_, HSP.out g hg⟩
                rcases HFR.out with e1 | ⟨g', e1, h3⟩
                · rw [e1] at hg; have := HLA.out g hg; omega
                · rw [e1] at hg; injection hg with hg; injection hg with hg; omega
              · rw [e] at hg
                injection hg with hg
                injection hg with hg
                subst hg
                exact ⟨hlt, by omega, fun e2 => by have := (hown6 _ e2).2; omega⟩
            have hcl6 := ((HCL2.out.far (X := fun k => k = w.heap.size) (fun g hg => (hlow g hg).2.1) HQD.out).below HRB.out).far (X := fun k => some k = (Value.slice av acc.length cv).ownBlock) (fun g hg e => (hlow g hg).2.2 e.symm) (Bar.grown hgrow)
            have hfr6 : From w.heap.size a a2 := by
              rcases HOR2.out with e | ⟨g', e, hge⟩
              · rw [e]; exact HFR.out
              · have h1 := HV6.out.size
                have h2 := (HBK1.out.below HV6.out).2.2.2
                exact .inr ⟨g', e, by omega⟩
            have hsp6 : ∀ g, a2 = some ⟨g, 0, none⟩ → (Value.slice (some ⟨g6, 0, none⟩) (acc.length + 1) cap6).ownBlock ≠ some g := by
              intro g hg e
              simp only [Value.ownBlock, Option.some.injEq] at e
              subst e
              obtain ⟨h1, h2, h3⟩ := hlow _ hg
              rcases hz6 with h | h
              · have := HQD.out.size; have := HRB.out.size; omega
              · exact h3 h
            have hbl6 : Below w.heap.size w w6 := by
              have h1 := HBL.out.trans (HVA.out.mono HBL.out.size)
              have h2 := HQD.out.below (N := w.heap.size) (fun k e => (by show w.heap.size ≤ k; exact Nat.le_of_eq e.symm)) h1 (Nat.le_refl _)
              have h3 := h2.trans (HRB.out.mono h2.size)
              exact h3.grown hgrow h3.size (fun k hk => by have := (hown6 k hk).1; omega)
            have HPR6 := Lib.hid hpr6
            have HBK6 := Lib.hid hbk6
            have HCL6 := Lib.hid hcl6
            have HFR6 := Lib.hid hfr6
            have HSP6 := Lib.hid hsp6
            have HBL6 := Lib.hid hbl6
            clear hown hgrow hat6 hlt6 hown6 hpr6 hbk6 hz6 hlow hcl6 hfr6 hsp6 hbl6 cq0 cq1 cq2 cq3 cq4 cq5 cq6 cq7 cq8
            go_wp2_with fail
            go_roundg g'
            case measure => omega
            case rel =>
              refine ⟨r2, acc ++ [t2], a2, n2, c2, false, rfl, by have := HGF.out; omega, HNX.out, HPR6.out, fun t ht => ?_, by have := HAL1.out; simp; omega, HBK6.out, HCL6.out, HBL6.out, HFR6.out, HSP6.out⟩
              rcases List.mem_append.1 ht with h | h
              · exact HKK.out t h
              · rw [List.mem_singleton.1 h]; exact ⟨HOK.out.2.2.1, HOK.out.2.2.2.1⟩
          | false =>
            go_wp2_with fail
            refine (HSG.out _).mono ?_
            rintro e V1 ⟨rfl, hb⟩
            have HV1 := Lib.hid (HV0.out.trans (hb.mono HV0.out.size))
            clear hb cp0 cp1 cp2 cp3 cp4 cp5 cp6 cp7
            have h2 := (HBK1.out.below HV1.out).1
            have cp0 : V1.cell? ⟨w.heap.size, 0, none⟩ = some (.string S) := cell_of h2 (j := 0) rfl
            have cp1 : V1.cell? ⟨w.heap.size, 1, none⟩ = some (.bool true) := cell_of h2 (j := 1) rfl
            have cp2 : V1.cell? ⟨w.heap.size, 2, none⟩ = some (.int .i64 r1.at_) := cell_of h2 (j := 2) rfl
            have cp3 : V1.cell? ⟨w.heap.size, 3, none⟩ = some (.int .i64 r1.opn) := cell_of h2 (j := 3) rfl
            have cp4 : V1.cell? ⟨w.heap.size, 4, none⟩ = some (.slice a1 n1 c1) := cell_of h2 (j := 4) rfl
            have cp5 : V1.cell? ⟨w.heap.size, 5, none⟩ = some (.slice none 0 0) := cell_of h2 (j := 5) rfl
            have cp6 : V1.cell? ⟨w.heap.size, 6, none⟩ = some (.int .i64 0) := cell_of h2 (j := 6) rfl
            have cp7 : V1.cell? ⟨w.heap.size, 7, none⟩ = some (.int .i64 0) := cell_of h2 (j := 7) rfl
            clear h2
            go_wp2_with fail
            refine (HOP.out _ _).mono ?_
            rintro e V2 ⟨rfl, hb⟩
            have HV2 := Lib.hid (HV1.out.trans (hb.mono HV1.out.size))
            clear hb cp0 cp1 cp2 cp3 cp4 cp5 cp6 cp7
            have h2 := (HBK1.out.below HV2.out).1
            have cp0 : V2.cell? ⟨w.heap.size, 0, none⟩ = some (.string S) := cell_of h2 (j := 0) rfl
            have cp1 : V2.cell? ⟨w.heap.size, 1, none⟩ = some (.bool true) := cell_of h2 (j := 1) rfl
            have cp2 : V2.cell? ⟨w.heap.size, 2, none⟩ = some (.int .i64 r1.at_) := cell_of h2 (j := 2) rfl
            have cp3 : V2.cell? ⟨w.heap.size, 3, none⟩ = some (.int .i64 r1.opn) := cell_of h2 (j := 3) rfl
            have cp4 : V2.cell? ⟨w.heap.size, 4, none⟩ = some (.slice a1 n1 c1) := cell_of h2 (j := 4) rfl
            have cp5 : V2.cell? ⟨w.heap.size, 5, none⟩ = some (.slice none 0 0) := cell_of h2 (j := 5) rfl
            have cp6 : V2.cell? ⟨w.heap.size, 6, none⟩ = some (.int .i64 0) := cell_of h2 (j := 6) rfl
            have cp7 : V2.cell? ⟨w.heap.size, 7, none⟩ = some (.int .i64 0) := cell_of h2 (j := 7) rfl
            clear h2
            go_wp2_with fail
            refine (HOP.out _ _).mono ?_
            rintro e V3 ⟨rfl, hb⟩
            have HV3 := Lib.hid (HV2.out.trans (hb.mono HV2.out.size))
            clear hb cp0 cp1 cp2 cp3 cp4 cp5 cp6 cp7
            have h2 := (HBK1.out.below HV3.out).1
            have cp0 : V3.cell? ⟨w.heap.size, 0, none⟩ = some (.string S) := cell_of h2 (j := 0) rfl
            have cp1 : V3.cell? ⟨w.heap.size, 1, none⟩ = some (.bool true) := cell_of h2 (j := 1) rfl
            have cp2 : V3.cell? ⟨w.heap.size, 2, none⟩ = some (.int .i64 r1.at_) := cell_of h2 (j := 2) rfl
            have cp3 : V3.cell? ⟨w.heap.size, 3, none⟩ = some (.int .i64 r1.opn) := cell_of h2 (j := 3) rfl
            have cp4 : V3.cell? ⟨w.heap.size, 4, none⟩ = some (.slice a1 n1 c1) := cell_of h2 (j := 4) rfl
            have cp5 : V3.cell? ⟨w.heap.size, 5, none⟩ = some (.slice none 0 0) := cell_of h2 (j := 5) rfl
            have cp6 : V3.cell? ⟨w.heap.size, 6, none⟩ = some (.int .i64 0) := cell_of h2 (j := 6) rfl
            have cp7 : V3.cell? ⟨w.heap.size, 7, none⟩ = some (.int .i64 0) := cell_of h2 (j := 7) rfl
            clear h2
            go_wp2_with fail
            refine (HATM.out V3 a1 n1 c1 (HCL1.out.below HV3.out)).mono ?_
            rintro e VA ⟨a2, n2, c2, cs, rfl, hb, hrd, hcl2, hor2⟩
            obtain ⟨k2, s02, s12, s22, s32, al2, nl2, cl2, mn2, mx2, num2, rfl⟩ := hrd.form
            have HVA := Lib.hid (HV3.out.trans (hb.mono HV3.out.size))
            have HZA := Lib.hid hb.size
            have HRD := Lib.hid hrd
            have HCL2 := Lib.hid hcl2
            have HOR2 := Lib.hid hor2
            have HBKA := Lib.hid (HBK1.out.below HVA.out)
            clear hb hrd hcl2 hor2 cp0 cp1 cp2 cp3 cp4 cp5 cp6 cp7
            have h2 := HBKA.out.1
            have cp0 : VA.cell? ⟨w.heap.size, 0, none⟩ = some (.string S) := cell_of h2 (j := 0) rfl
            have cp1 : VA.cell? ⟨w.heap.size, 1, none⟩ = some (.bool true) := cell_of h2 (j := 1) rfl
            have cp2 : VA.cell? ⟨w.heap.size, 2, none⟩ = some (.int .i64 r1.at_) := cell_of h2 (j := 2) rfl
            have cp3 : VA.cell? ⟨w.heap.size, 3, none⟩ = some (.int .i64 r1.opn) := cell_of h2 (j := 3) rfl
            have cp4 : VA.cell? ⟨w.heap.size, 4, none⟩ = some (.slice a1 n1 c1) := cell_of h2 (j := 4) rfl
            have cp5 : VA.cell? ⟨w.heap.size, 5, none⟩ = some (.slice none 0 0) := cell_of h2 (j := 5) rfl
            have cp6 : VA.cell? ⟨w.heap.size, 6, none⟩ = some (.int .i64 0) := cell_of h2 (j := 6) rfl
            have cp7 : VA.cell? ⟨w.heap.size, 7, none⟩ = some (.int .i64 0) := cell_of h2 (j := 7) rfl
            have cf0 := frozen_of_row VA (w.heap.size) 0 _ _ h2
            have cf1 := frozen_of_row VA (w.heap.size) 1 _ _ h2
            have cf2 := frozen_of_row VA (w.heap.size) 2 _ _ h2
            have cf3 := frozen_of_row VA (w.heap.size) 3 _ _ h2
            have cf4 := frozen_of_row VA (w.heap.size) 4 _ _ h2
            have cf5 := frozen_of_row VA (w.heap.size) 5 _ _ h2
            have cf6 := frozen_of_row VA (w.heap.size) 6 _ _ h2
            have cf7 := frozen_of_row VA (w.heap.size) 7 _ _ h2
            have hnA : w.heap.size < VA.heap.size := by have := HBKA.out.2.2.2; omega
            clear h2
            unfold rVal
            go_upto_region 20 with (fail)
            obtain ⟨k4, o4, b4⟩ := put8 HBKA.out.1 (.string S) (.bool true) (.int .i64 r2.at_) (.int .i64 r2.opn) (.slice a2 n2 c2) (.slice none 0 0) (.int .i64 0) (.int .i64 0)
            have hz : ((((((((VA.setCell ⟨w.heap.size, 0, none⟩ (.string S)).setCell ⟨w.heap.size, 1, none⟩ (.bool true)).setCell ⟨w.heap.size, 2, none⟩ (.int .i64 r2.at_)).setCell ⟨w.heap.size, 3, none⟩ (.int .i64 r2.opn)).setCell ⟨w.heap.size, 4, none⟩ (.slice a2 n2 c2)).setCell ⟨w.heap.size, 5, none⟩ (.slice none 0 0)).setCell ⟨w.heap.size, 6, none⟩ (.int .i64 0)).setCell ⟨w.heap.size, 7, none⟩ (.int .i64 0)).heap.size = VA.heap.size := by simp [World.setCell]
            obtain ⟨b0, z0, h6, h7⟩ := alloc2 ((((((((VA.setCell ⟨w.heap.size, 0, none⟩ (.string S)).setCell ⟨w.heap.size, 1, none⟩ (.bool true)).setCell ⟨w.heap.size, 2, none⟩ (.int .i64 r2.at_)).setCell ⟨w.heap.size, 3, none⟩ (.int .i64 r2.opn)).setCell ⟨w.heap.size, 4, none⟩ (.slice a2 n2 c2)).setCell ⟨w.heap.size, 5, none⟩ (.slice none 0 0)).setCell ⟨w.heap.size, 6, none⟩ (.int .i64 0)).setCell ⟨w.heap.size, 7, none⟩ (.int .i64 0)) (.cells #[.string S, .bool true, .int .i64 r2.at_, .int .i64 r2.opn, .slice a2 n2 c2, .slice none 0 0, .int .i64 0, .int .i64 0] 105) (.cells #[.int .i64 k2, .int .u64 s02, .int .u64 s12, .int .u64 s22, .int .u64 s32, .slice al2 nl2 cl2, .int .i64 mn2, .int .i64 mx2, .int .i64 num2] 28)
            have HQB := Lib.hid (show Bar (fun k => k = w.heap.size) VA ((((((((((VA.setCell ⟨w.heap.size, 0, none⟩ (.string S)).setCell ⟨w.heap.size, 1, none⟩ (.bool true)).setCell ⟨w.heap.size, 2, none⟩ (.int .i64 r2.at_)).setCell ⟨w.heap.size, 3, none⟩ (.int .i64 r2.opn)).setCell ⟨w.heap.size, 4, none⟩ (.slice a2 n2 c2)).setCell ⟨w.heap.size, 5, none⟩ (.slice none 0 0)).setCell ⟨w.heap.size, 6, none⟩ (.int .i64 0)).setCell ⟨w.heap.size, 7, none⟩ (.int .i64 0)).alloc (.cells #[.string S, .bool true, .int .i64 r2.at_, .int .i64 r2.opn, .slice a2 n2 c2, .slice none 0 0, .int .i64 0, .int .i64 0] 105)).alloc (.cells #[.int .i64 k2, .int .u64 s02, .int .u64 s12, .int .u64 s22, .int .u64 s32, .slice al2 nl2 cl2, .int .i64 mn2, .int .i64 mx2, .int .i64 num2] 28)) from ((((((((((Bar.refl (fun k => k = w.heap.size) VA).set ⟨w.heap.size, 0, none⟩ (.string S) (.inl rfl)).set ⟨w.heap.size, 1, none⟩ (.bool true) (.inl rfl)).set ⟨w.heap.size, 2, none⟩ (.int .i64 r2.at_) (.inl rfl)).set ⟨w.heap.size, 3, none⟩ (.int .i64 r2.opn) (.inl rfl)).set ⟨w.heap.size, 4, none⟩ (.slice a2 n2 c2) (.inl rfl)).set ⟨w.heap.size, 5, none⟩ (.slice none 0 0) (.inl rfl)).set ⟨w.heap.size, 6, none⟩ (.int .i64 0) (.inl rfl)).set ⟨w.heap.size, 7, none⟩ (.int .i64 0) (.inl rfl))).trans (Bar.of_below b0))
            rw [hz] at z0 h6 h7
            have HBKB := Lib.hid (show Blk ((((((((((VA.setCell ⟨w.heap.size, 0, none⟩ (.string S)).setCell ⟨w.heap.size, 1, none⟩ (.bool true)).setCell ⟨w.heap.size, 2, none⟩ (.int .i64 r2.at_)).setCell ⟨w.heap.size, 3, none⟩ (.int .i64 r2.opn)).setCell ⟨w.heap.size, 4, none⟩ (.slice a2 n2 c2)).setCell ⟨w.heap.size, 5, none⟩ (.slice none 0 0)).setCell ⟨w.heap.size, 6, none⟩ (.int .i64 0)).setCell ⟨w.heap.size, 7, none⟩ (.int .i64 0)).alloc (.cells #[.string S, .bool true, .int .i64 r2.at_, .int .i64 r2.opn, .slice a2 n2 c2, .slice none 0 0, .int .i64 0, .int .i64 0] 105)).alloc (.cells #[.int .i64 k2, .int .u64 s02, .int .u64 s12, .int .u64 s22, .int .u64 s32, .slice al2 nl2 cl2, .int .i64 mn2, .int .i64 mx2, .int .i64 num2] 28)) w.heap.size S r2 a2 n2 c2 from ⟨(b0.block _ (by rw [hz]; exact hnA)).trans k4, (b0.block _ (by rw [hz]; have := HBKA.out.2.2.2; omega)).trans ((o4 (w.heap.size + 1) (by omega)).trans HBKA.out.2.1), (b0.block _ (by rw [hz]; have := HBKA.out.2.2.2; omega)).trans ((o4 (w.heap.size + 1 + 1) (by omega)).trans HBKA.out.2.2.1), by have := HBKA.out.2.2.2; omega⟩)
            have HXB := Lib.hid h7
            have HXZ := Lib.hid (show VA.heap.size + 1 < ((((((((((VA.setCell ⟨w.heap.size, 0, none⟩ (.string S)).setCell ⟨w.heap.size, 1, none⟩ (.bool true)).setCell ⟨w.heap.size, 2, none⟩ (.int .i64 r2.at_)).setCell ⟨w.heap.size, 3, none⟩ (.int .i64 r2.opn)).setCell ⟨w.heap.size, 4, none⟩ (.slice a2 n2 c2)).setCell ⟨w.heap.size, 5, none⟩ (.slice none 0 0)).setCell ⟨w.heap.size, 6, none⟩ (.int .i64 0)).setCell ⟨w.heap.size, 7, none⟩ (.int .i64 0)).alloc (.cells #[.string S, .bool true, .int .i64 r2.at_, .int .i64 r2.opn, .slice a2 n2 c2, .slice none 0 0, .int .i64 0, .int .i64 0] 105)).alloc (.cells #[.int .i64 k2, .int .u64 s02, .int .u64 s12, .int .u64 s22, .int .u64 s32, .slice al2 nl2 cl2, .int .i64 mn2, .int .i64 mx2, .int .i64 num2] 28)).heap.size by omega)
            clear hz
            clear b0 z0 h6 h7 k4 o4 b4 cp0 cp1 cp2 cp3 cp4 cp5 cp6 cp7 cf0 cf1 cf2 cf3 cf4 cf5 cf6 cf7
            generalize ((((((((((VA.setCell ⟨w.heap.size, 0, none⟩ (.string S)).setCell ⟨w.heap.size, 1, none⟩ (.bool true)).setCell ⟨w.heap.size, 2, none⟩ (.int .i64 r2.at_)).setCell ⟨w.heap.size, 3, none⟩ (.int .i64 r2.opn)).setCell ⟨w.heap.size, 4, none⟩ (.slice a2 n2 c2)).setCell ⟨w.heap.size, 5, none⟩ (.slice none 0 0)).setCell ⟨w.heap.size, 6, none⟩ (.int .i64 0)).setCell ⟨w.heap.size, 7, none⟩ (.int .i64 0)).alloc (.cells #[.string S, .bool true, .int .i64 r2.at_, .int .i64 r2.opn, .slice a2 n2 c2, .slice none 0 0, .int .i64 0, .int .i64 0] 105)).alloc (.cells #[.int .i64 k2, .int .u64 s02, .int .u64 s12, .int .u64 s22, .int .u64 s32, .slice al2 nl2 cl2, .int .i64 mn2, .int .i64 mx2, .int .i64 num2] 28)) = VB at *
            have h2 := HBKB.out.1
            have h3 := HXB.out
            have cp0 : VB.cell? ⟨w.heap.size, 0, none⟩ = some (.string S) := cell_of h2 (j := 0) rfl
            have cp1 : VB.cell? ⟨w.heap.size, 1, none⟩ = some (.bool true) := cell_of h2 (j := 1) rfl
            have cp2 : VB.cell? ⟨w.heap.size, 2, none⟩ = some (.int .i64 r2.at_) := cell_of h2 (j := 2) rfl
            have cp3 : VB.cell? ⟨w.heap.size, 3, none⟩ = some (.int .i64 r2.opn) := cell_of h2 (j := 3) rfl
            have cp4 : VB.cell? ⟨w.heap.size, 4, none⟩ = some (.slice a2 n2 c2) := cell_of h2 (j := 4) rfl
            have cp5 : VB.cell? ⟨w.heap.size, 5, none⟩ = some (.slice none 0 0) := cell_of h2 (j := 5) rfl
            have cp6 : VB.cell? ⟨w.heap.size, 6, none⟩ = some (.int .i64 0) := cell_of h2 (j := 6) rfl
            have cp7 : VB.cell? ⟨w.heap.size, 7, none⟩ = some (.int .i64 0) := cell_of h2 (j := 7) rfl
            have cq0 : VB.cell? ⟨(VA.heap.size + 1), 0, none⟩ = some (.int .i64 k2) := cell_of h3 (j := 0) rfl
            have cq1 : VB.cell? ⟨(VA.heap.size + 1), 1, none⟩ = some (.int .u64 s02) := cell_of h3 (j := 1) rfl
            have cq2 : VB.cell? ⟨(VA.heap.size + 1), 2, none⟩ = some (.int .u64 s12) := cell_of h3 (j := 2) rfl
            have cq3 : VB.cell? ⟨(VA.heap.size + 1), 3, none⟩ = some (.int .u64 s22) := cell_of h3 (j := 3) rfl
            have cq4 : VB.cell? ⟨(VA.heap.size + 1), 4, none⟩ = some (.int .u64 s32) := cell_of h3 (j := 4) rfl
            have cq5 : VB.cell? ⟨(VA.heap.size + 1), 5, none⟩ = some (.slice al2 nl2 cl2) := cell_of h3 (j := 5) rfl
            have cq6 : VB.cell? ⟨(VA.heap.size + 1), 6, none⟩ = some (.int .i64 mn2) := cell_of h3 (j := 6) rfl
            have cq7 : VB.cell? ⟨(VA.heap.size + 1), 7, none⟩ = some (.int .i64 mx2) := cell_of h3 (j := 7) rfl
            have cq8 : VB.cell? ⟨(VA.heap.size + 1), 8, none⟩ = some (.int .i64 num2) := cell_of h3 (j := 8) rfl
            clear h2 h3 hnA
            go_wp2_with fail
            refine (HRP.out _ a2 n2 c2 k2 s02 s12 s22 s32 al2 nl2 cl2 mn2 mx2 num2).mono ?_
            unfold rVal
            rintro e VC ⟨rfl, hb⟩
            have HBKC := Lib.hid (HBKB.out.below hb)
            have HXC := Lib.hid ((hb.block (VA.heap.size + 1) HXZ.out).trans HXB.out)
            have HQC := Lib.hid (HQB.out.trans (Bar.of_below hb))
            have HXZC := Lib.hid (Nat.lt_of_lt_of_le HXZ.out hb.size)
            clear hb cp0 cp1 cp2 cp3 cp4 cp5 cp6 cp7 cq0 cq1 cq2 cq3 cq4 cq5 cq6 cq7 cq8
            have h2 := HBKC.out.1
            have h3 := HXC.out
            have cp0 : VC.cell? ⟨w.heap.size, 0, none⟩ = some (.string S) := cell_of h2 (j := 0) rfl
            have cp1 : VC.cell? ⟨w.heap.size, 1, none⟩ = some (.bool true) := cell_of h2 (j := 1) rfl
            have cp2 : VC.cell? ⟨w.heap.size, 2, none⟩ = some (.int .i64 r2.at_) := cell_of h2 (j := 2) rfl
            have cp3 : VC.cell? ⟨w.heap.size, 3, none⟩ = some (.int .i64 r2.opn) := cell_of h2 (j := 3) rfl
            have cp4 : VC.cell? ⟨w.heap.size, 4, none⟩ = some (.slice a2 n2 c2) := cell_of h2 (j := 4) rfl
            have cp5 : VC.cell? ⟨w.heap.size, 5, none⟩ = some (.slice none 0 0) := cell_of h2 (j := 5) rfl
            have cp6 : VC.cell? ⟨w.heap.size, 6, none⟩ = some (.int .i64 0) := cell_of h2 (j := 6) rfl
            have cp7 : VC.cell? ⟨w.heap.size, 7, none⟩ = some (.int .i64 0) := cell_of h2 (j := 7) rfl
            have cq0 : VC.cell? ⟨(VA.heap.size + 1), 0, none⟩ = some (.int .i64 k2) := cell_of h3 (j := 0) rfl
            have cq1 : VC.cell? ⟨(VA.heap.size + 1), 1, none⟩ = some (.int .u64 s02) := cell_of h3 (j := 1) rfl
            have cq2 : VC.cell? ⟨(VA.heap.size + 1), 2, none⟩ = some (.int .u64 s12) := cell_of h3 (j := 2) rfl
            have cq3 : VC.cell? ⟨(VA.heap.size + 1), 3, none⟩ = some (.int .u64 s22) := cell_of h3 (j := 3) rfl
            have cq4 : VC.cell? ⟨(VA.heap.size + 1), 4, none⟩ = some (.int .u64 s32) := cell_of h3 (j := 4) rfl
            have cq5 : VC.cell? ⟨(VA.heap.size + 1), 5, none⟩ = some (.slice al2 nl2 cl2) := cell_of h3 (j := 5) rfl
            have cq6 : VC.cell? ⟨(VA.heap.size + 1), 6, none⟩ = some (.int .i64 mn2) := cell_of h3 (j := 6) rfl
            have cq7 : VC.cell? ⟨(VA.heap.size + 1), 7, none⟩ = some (.int .i64 mx2) := cell_of h3 (j := 7) rfl
            have cq8 : VC.cell? ⟨(VA.heap.size + 1), 8, none⟩ = some (.int .i64 num2) := cell_of h3 (j := 8) rfl
            have cf0 := frozen_of_row VC (w.heap.size) 0 _ _ h2
            have cf1 := frozen_of_row VC (w.heap.size) 1 _ _ h2
            have cf2 := frozen_of_row VC (w.heap.size) 2 _ _ h2
            have cf3 := frozen_of_row VC (w.heap.size) 3 _ _ h2
            have cf4 := frozen_of_row VC (w.heap.size) 4 _ _ h2
            have cf5 := frozen_of_row VC (w.heap.size) 5 _ _ h2
            have cf6 := frozen_of_row VC (w.heap.size) 6 _ _ h2
            have cf7 := frozen_of_row VC (w.heap.size) 7 _ _ h2
            have cg0 := frozen_of_row VC (VA.heap.size + 1) 0 _ _ h3
            have cg1 := frozen_of_row VC (VA.heap.size + 1) 1 _ _ h3
            have cg2 := frozen_of_row VC (VA.heap.size + 1) 2 _ _ h3
            have cg3 := frozen_of_row VC (VA.heap.size + 1) 3 _ _ h3
            have cg4 := frozen_of_row VC (VA.heap.size + 1) 4 _ _ h3
            have cg5 := frozen_of_row VC (VA.heap.size + 1) 5 _ _ h3
            have cg6 := frozen_of_row VC (VA.heap.size + 1) 6 _ _ h3
            have cg7 := frozen_of_row VC (VA.heap.size + 1) 7 _ _ h3
            have cg8 := frozen_of_row VC (VA.heap.size + 1) 8 _ _ h3
            have hx1 : ¬ VA.heap.size + 1 = w.heap.size := by have := HBKA.out.2.2.2; omega
            have hx2 : ¬ w.heap.size = VA.heap.size + 1 := by have := HBKA.out.2.2.2; omega
            clear h2 h3
            go_upto_region 21 with (fail)
            obtain ⟨k4, o4, b4⟩ := put8 HBKC.out.1 (.string S) (.bool true) (.int .i64 r2.at_) (.int .i64 r2.opn) (.slice a2 n2 c2) (.slice none 0 0) (.int .i64 0) (.int .i64 0)
            obtain ⟨k5, o5, b5⟩ := put9 ((o4 (VA.heap.size + 1) (by have := HBKA.out.2.2.2; omega)).trans HXC.out) (.int .i64 k2) (.int .u64 s02) (.int .u64 s12) (.int .u64 s22) (.int .u64 s32) (.slice al2 nl2 cl2) (.int .i64 mn2) (.int .i64 mx2) (.int .i64 num2)
            have HBKD := Lib.hid (show Blk (((((((((((((((((VC.setCell ⟨w.heap.size, 0, none⟩ (.string S)).setCell ⟨w.heap.size, 1, none⟩ (.bool true)).setCell ⟨w.heap.size, 2, none⟩ (.int .i64 r2.at_)).setCell ⟨w.heap.size, 3, none⟩ (.int .i64 r2.opn)).setCell ⟨w.heap.size, 4, none⟩ (.slice a2 n2 c2)).setCell ⟨w.heap.size, 5, none⟩ (.slice none 0 0)).setCell ⟨w.heap.size, 6, none⟩ (.int .i64 0)).setCell ⟨w.heap.size, 7, none⟩ (.int .i64 0)).setCell ⟨(VA.heap.size + 1), 0, none⟩ (.int .i64 k2)).setCell ⟨(VA.heap.size + 1), 1, none⟩ (.int .u64 s02)).setCell ⟨(VA.heap.size + 1), 2, none⟩ (.int .u64 s12)).setCell ⟨(VA.heap.size + 1), 3, none⟩ (.int .u64 s22)).setCell ⟨(VA.heap.size + 1), 4, none⟩ (.int .u64 s32)).setCell ⟨(VA.heap.size + 1), 5, none⟩ (.slice al2 nl2 cl2)).setCell ⟨(VA.heap.size + 1), 6, none⟩ (.int .i64 mn2)).setCell ⟨(VA.heap.size + 1), 7, none⟩ (.int .i64 mx2)).setCell ⟨(VA.heap.size + 1), 8, none⟩ (.int .i64 num2)) w.heap.size S r2 a2 n2 c2 from ⟨(o5 w.heap.size (by have := HBKA.out.2.2.2; omega)).trans k4, (o5 (w.heap.size + 1) (by have := HBKA.out.2.2.2; omega)).trans ((o4 (w.heap.size + 1) (by omega)).trans HBKC.out.2.1), (o5 (w.heap.size + 1 + 1) (by have := HBKA.out.2.2.2; omega)).trans ((o4 (w.heap.size + 1 + 1) (by omega)).trans HBKC.out.2.2.1), by
              have := HBKC.out.2.2.2
              have h : (((((((((((((((((VC.setCell ⟨w.heap.size, 0, none⟩ (.string S)).setCell ⟨w.heap.size, 1, none⟩ (.bool true)).setCell ⟨w.heap.size, 2, none⟩ (.int .i64 r2.at_)).setCell ⟨w.heap.size, 3, none⟩ (.int .i64 r2.opn)).setCell ⟨w.heap.size, 4, none⟩ (.slice a2 n2 c2)).setCell ⟨w.heap.size, 5, none⟩ (.slice none 0 0)).setCell ⟨w.heap.size, 6, none⟩ (.int .i64 0)).setCell ⟨w.heap.size, 7, none⟩ (.int .i64 0)).setCell ⟨(VA.heap.size + 1), 0, none⟩ (.int .i64 k2)).setCell ⟨(VA.heap.size + 1), 1, none⟩ (.int .u64 s02)).setCell ⟨(VA.heap.size + 1), 2, none⟩ (.int .u64 s12)).setCell ⟨(VA.heap.size + 1), 3, none⟩ (.int .u64 s22)).setCell ⟨(VA.heap.size + 1), 4, none⟩ (.int .u64 s32)).setCell ⟨(VA.heap.size + 1), 5, none⟩ (.slice al2 nl2 cl2)).setCell ⟨(VA.heap.size + 1), 6, none⟩ (.int .i64 mn2)).setCell ⟨(VA.heap.size + 1), 7, none⟩ (.int .i64 mx2)).setCell ⟨(VA.heap.size + 1), 8, none⟩ (.int .i64 num2)).heap.size = VC.heap.size := by simp [World.setCell]
              omega⟩)
            have HXD := Lib.hid k5
            have HQD := Lib.hid (show Bar (fun k => k = w.heap.size) VA (((((((((((((((((VC.setCell ⟨w.heap.size, 0, none⟩ (.string S)).setCell ⟨w.heap.size, 1, none⟩ (.bool true)).setCell ⟨w.heap.size, 2, none⟩ (.int .i64 r2.at_)).setCell ⟨w.heap.size, 3, none⟩ (.int .i64 r2.opn)).setCell ⟨w.heap.size, 4, none⟩ (.slice a2 n2 c2)).setCell ⟨w.heap.size, 5, none⟩ (.slice none 0 0)).setCell ⟨w.heap.size, 6, none⟩ (.int .i64 0)).setCell ⟨w.heap.size, 7, none⟩ (.int .i64 0)).setCell ⟨(VA.heap.size + 1), 0, none⟩ (.int .i64 k2)).setCell ⟨(VA.heap.size + 1), 1, none⟩ (.int .u64 s02)).setCell ⟨(VA.heap.size + 1), 2, none⟩ (.int .u64 s12)).setCell ⟨(VA.heap.size + 1), 3, none⟩ (.int .u64 s22)).setCell ⟨(VA.heap.size + 1), 4, none⟩ (.int .u64 s32)).setCell ⟨(VA.heap.size + 1), 5, none⟩ (.slice al2 nl2 cl2)).setCell ⟨(VA.heap.size + 1), 6, none⟩ (.int .i64 mn2)).setCell ⟨(VA.heap.size + 1), 7, none⟩ (.int .i64 mx2)).setCell ⟨(VA.heap.size + 1), 8, none⟩ (.int .i64 num2)) from (((((((((((((((((HQC.out.set ⟨w.heap.size, 0, none⟩ (.string S) (.inl rfl)).set ⟨w.heap.size, 1, none⟩ (.bool true) (.inl rfl)).set ⟨w.heap.size, 2, none⟩ (.int .i64 r2.at_) (.inl rfl)).set ⟨w.heap.size, 3, none⟩ (.int .i64 r2.opn) (.inl rfl)).set ⟨w.heap.size, 4, none⟩ (.slice a2 n2 c2) (.inl rfl)).set ⟨w.heap.size, 5, none⟩ (.slice none 0 0) (.inl rfl)).set ⟨w.heap.size, 6, none⟩ (.int .i64 0) (.inl rfl)).set ⟨w.heap.size, 7, none⟩ (.int .i64 0) (.inl rfl)).set ⟨(VA.heap.size + 1), 0, none⟩ (.int .i64 k2) (.inr (Nat.le_succ _))).set ⟨(VA.heap.size + 1), 1, none⟩ (.int .u64 s02) (.inr (Nat.le_succ _))).set ⟨(VA.heap.size + 1), 2, none⟩ (.int .u64 s12) (.inr (Nat.le_succ _))).set ⟨(VA.heap.size + 1), 3, none⟩ (.int .u64 s22) (.inr (Nat.le_succ _))).set ⟨(VA.heap.size + 1), 4, none⟩ (.int .u64 s32) (.inr (Nat.le_succ _))).set ⟨(VA.heap.size + 1), 5, none⟩ (.slice al2 nl2 cl2) (.inr (Nat.le_succ _))).set ⟨(VA.heap.size + 1), 6, none⟩ (.int .i64 mn2) (.inr (Nat.le_succ _))).set ⟨(VA.heap.size + 1), 7, none⟩ (.int .i64 mx2) (.inr (Nat.le_succ _))).set ⟨(VA.heap.size + 1), 8, none⟩ (.int .i64 num2) (.inr (Nat.le_succ _))))
            clear k4 o4 b4 k5 o5 b5 cp0 cp1 cp2 cp3 cp4 cp5 cp6 cp7 cq0 cq1 cq2 cq3 cq4 cq5 cq6 cq7 cq8 cf0 cf1 cf2 cf3 cf4 cf5 cf6 cf7 cg0 cg1 cg2 cg3 cg4 cg5 cg6 cg7 cg8
            generalize (((((((((((((((((VC.setCell ⟨w.heap.size, 0, none⟩ (.string S)).setCell ⟨w.heap.size, 1, none⟩ (.bool true)).setCell ⟨w.heap.size, 2, none⟩ (.int .i64 r2.at_)).setCell ⟨w.heap.size, 3, none⟩ (.int .i64 r2.opn)).setCell ⟨w.heap.size, 4, none⟩ (.slice a2 n2 c2)).setCell ⟨w.heap.size, 5, none⟩ (.slice none 0 0)).setCell ⟨w.heap.size, 6, none⟩ (.int .i64 0)).setCell ⟨w.heap.size, 7, none⟩ (.int .i64 0)).setCell ⟨(VA.heap.size + 1), 0, none⟩ (.int .i64 k2)).setCell ⟨(VA.heap.size + 1), 1, none⟩ (.int .u64 s02)).setCell ⟨(VA.heap.size + 1), 2, none⟩ (.int .u64 s12)).setCell ⟨(VA.heap.size + 1), 3, none⟩ (.int .u64 s22)).setCell ⟨(VA.heap.size + 1), 4, none⟩ (.int .u64 s32)).setCell ⟨(VA.heap.size + 1), 5, none⟩ (.slice al2 nl2 cl2)).setCell ⟨(VA.heap.size + 1), 6, none⟩ (.int .i64 mn2)).setCell ⟨(VA.heap.size + 1), 7, none⟩ (.int .i64 mx2)).setCell ⟨(VA.heap.size + 1), 8, none⟩ (.int .i64 num2)) = VD at *
            have h3 := HXD.out
            have cq0 : VD.cell? ⟨(VA.heap.size + 1), 0, none⟩ = some (.int .i64 k2) := cell_of h3 (j := 0) rfl
            have cq1 : VD.cell? ⟨(VA.heap.size + 1), 1, none⟩ = some (.int .u64 s02) := cell_of h3 (j := 1) rfl
            have cq2 : VD.cell? ⟨(VA.heap.size + 1), 2, none⟩ = some (.int .u64 s12) := cell_of h3 (j := 2) rfl
            have cq3 : VD.cell? ⟨(VA.heap.size + 1), 3, none⟩ = some (.int .u64 s22) := cell_of h3 (j := 3) rfl
            have cq4 : VD.cell? ⟨(VA.heap.size + 1), 4, none⟩ = some (.int .u64 s32) := cell_of h3 (j := 4) rfl
            have cq5 : VD.cell? ⟨(VA.heap.size + 1), 5, none⟩ = some (.slice al2 nl2 cl2) := cell_of h3 (j := 5) rfl
            have cq6 : VD.cell? ⟨(VA.heap.size + 1), 6, none⟩ = some (.int .i64 mn2) := cell_of h3 (j := 6) rfl
            have cq7 : VD.cell? ⟨(VA.heap.size + 1), 7, none⟩ = some (.int .i64 mx2) := cell_of h3 (j := 7) rfl
            have cq8 : VD.cell? ⟨(VA.heap.size + 1), 8, none⟩ = some (.int .i64 num2) := cell_of h3 (j := 8) rfl
            clear h3
            have hqd : Bar (fun k => k < w.heap.size + 3) wr VD := (Bar.of_below HVA.out).trans (HQD.out.mono fun k _ e => (by show k < w.heap.size + 3; omega))
            have hprd := HPR.out.far hqd
            have hrb := (Below.refl VD.heap.size VD).alloc (Nat.le_refl _) (.cells #[.int .i64 k2, .int .u64 s02, .int .u64 s12, .int .u64 s22, .int .u64 s32, .slice al2 nl2 cl2, .int .i64 mn2, .int .i64 mx2, .int .i64 num2] 28)
            have HRB := Lib.hid hrb
            obtain ⟨css, hcl, hc9, hco, hcn⟩ := hprd.below hrb
            have HCSL := Lib.hid hcl
            have HC9 := Lib.hid hc9
            have HCO := Lib.hid hco
            have HCN := Lib.hid hcn
            have hle3 : w.heap.size + 3 ≤ VD.heap.size := HBKD.out.2.2.2
            have HAL1 := Lib.hid (show acc.length < 100 from HOK.out.2.2.2.2)
            clear hqd hprd hrb hcl hc9 hco hcn
            obtain ⟨i0, hi0, hz0, hz1, hz2⟩ := info_parts info_T
            have HI := Lib.hid hi0
            have HI0 := Lib.hid hz0
            have HI1 := Lib.hid hz1
            have HI2 := Lib.hid hz2
            clear hi0 hz0 hz1 hz2
            go_wp2_with (at_builtin; (refine wpList_append_lies _ rfl (.tmp 128) (.tmp 130) 23 rfl (w.heap.size + 3) 28 i0 _ 9 88 und_Ts HI.out HI0.out HI1.out HI2.out rfl (by decide) _ _ css.flatten rfl HCO.out _ 1 1 [.int .i64 k2, .int .u64 s02, .int .u64 s12, .int .u64 s22, .int .u64 s32, .slice al2 nl2 cl2, .int .i64 mn2, .int .i64 mx2, .int .i64 num2] rfl rfl (news1 _ _ _) (by intro u hu; simp only [List.mem_cons, List.not_mem_nil, or_false] at hu; rcases hu with rfl | rfl | rfl | rfl | rfl | rfl | rfl | rfl | rfl <;> rfl) (by decide) (by have := HAL1.out; unfold maxLen; omega) (by have := HAL1.out; omega) (Nat.le_trans hle3 HRB.out.size) _ rfl ?_))
            intro g6 cap6 w6 hown hgrow hat6 hlt6
            have hown6 : ∀ k, (Value.slice av acc.length cv).ownBlock = some k → w.heap.size + 3 ≤ k ∧ k < wr.heap.size := HPR.out.lt
            have hpr6 := PartsR.appended (t := t2) HCSL.out HC9.out rfl HCN.out (Rd.mono (by have := HQD.out.size; have := HRB.out.size; omega) _ _ (Rd.masked (fun b hb hp => (by
              simp only [above, butQ, Bool.and_eq_true, decide_eq_true_eq] at hp ⊢
              have h1 := HV3.out.size
              have h2 := (HBK1.out.below HV3.out).2.2.2
              refine ⟨⟨by omega, fun e => by have := (hown6 b e.symm).2; omega⟩, (HRB.out.block b (by have := HQD.out.size; omega)).trans (HQD.out.block b hb (by omega))⟩)) HRD.out)) hown hgrow (hat6.imp_right fun h => h.trans (Array.size_push _).symm)
            have hbk6 := (HBKD.out.below HRB.out).grown hgrow (fun k hk => (hown6 k hk).1)
            have hz6 : g6 = (VD.alloc (.cells #[.int .i64 k2, .int .u64 s02, .int .u64 s12, .int .u64 s22, .int .u64 s32, .slice al2 nl2 cl2, .int .i64 mn2, .int .i64 mx2, .int .i64 num2] 28)).heap.size ∨ (Value.slice av acc.length cv).ownBlock = some g6 := hat6.symm.imp_left fun h => h.trans (Array.size_push _).symm
            have hlow : ∀ g, a2 = some ⟨g, 0, none⟩ → g < VA.heap.size ∧ g ≠ w.heap.size ∧ (Value.slice av acc.length cv).ownBlock ≠ some g := by
              intro g hg
              have hlt : g < VA.heap.size := by
                rcases HCL2.out with ⟨_, h, _⟩ | ⟨g', h, _, _, _, h5, _⟩
                · rw [h] at hg; cases hg
                · rw [h] at hg; injection hg with hg; injection hg with hg; omega
              have h1 := HV3.out.size
              have h2 := (HBK1.out.below HV3.out).2.2.2
              rcases HOR2.out with e | ⟨g', e, hge⟩
              · rw [e] at hg
                refine ⟨hlt, ?_, HSP.out g hg⟩
                rcases HFR.out with e1 | ⟨g', e1, h3⟩
                · rw [e1] at hg; have := HLA.out g hg; omega
                · rw [e1] at hg; injection hg with hg; injection hg with hg; omega
              · rw [e] at hg
                injection hg with hg
                injection hg with hg
                subst hg
                exact ⟨hlt, by omega, fun e2 => by have := (hown6 _ e2).2; omega⟩
            have hcl6 := ((HCL2.out.far (X := fun k => k = w.heap.size) (fun g hg => (hlow g hg).2.1) HQD.out).below HRB.out).far (X := fun k => some k = (Value.slice av acc.length cv).ownBlock) (fun g hg e => (hlow g hg).2.2 e.symm) (Bar.grown hgrow)
            have hfr6 : From w.heap.size a a2 := by
              rcases HOR2.out with e | ⟨g', e, hge⟩
              · rw [e]; exact HFR.out
              · have h1 := HV3.out.size
                have h2 := (HBK1.out.below HV3.out).2.2.2
                exact .inr ⟨g', e, by omega⟩
            have hsp6 : ∀ g, a2 = some ⟨g, 0, none⟩ → (Value.slice (some ⟨g6, 0, none⟩) (acc.length + 1) cap6).ownBlock ≠ some g := by
              intro g hg e
              simp only [Value.ownBlock, Option.some.injEq] at e
              subst e
              obtain ⟨h1, h2, h3⟩ := hlow _ hg
              rcases hz6 with h | h
              · have := HQD.out.size; have := HRB.out.size; omega
              · exact h3 h
            have hbl6 : Below w.heap.size w w6 := by
              have h1 := HBL.out.trans (HVA.out.mono HBL.out.size)
              have h2 := HQD.out.below (N := w.heap.size) (fun k e => (by show w.heap.size ≤ k; exact Nat.le_of_eq e.symm)) h1 (Nat.le_refl _)
              have h3 := h2.trans (HRB.out.mono h2.size)
              exact h3.grown hgrow h3.size (fun k hk => by have := (hown6 k hk).1; omega)
            have HPR6 := Lib.hid hpr6
            have HBK6 := Lib.hid hbk6
            have HCL6 := Lib.hid hcl6
            have HFR6 := Lib.hid hfr6
            have HSP6 := Lib.hid hsp6
            have HBL6 := Lib.hid hbl6
            clear hown hgrow hat6 hlt6 hown6 hpr6 hbk6 hz6 hlow hcl6 hfr6 hsp6 hbl6 cq0 cq1 cq2 cq3 cq4 cq5 cq6 cq7 cq8
            go_wp2_with fail
            go_roundg g'
            case measure => omega
            case rel =>
              refine ⟨r2, acc ++ [t2], a2, n2, c2, false, rfl, by have := HGF.out; omega, HNX.out, HPR6.out, fun t ht => ?_, by have := HAL1.out; simp; omega, HBK6.out, HCL6.out, HBL6.out, HFR6.out, HSP6.out⟩
              rcases List.mem_append.1 ht with h | h
              · exact HKK.out t h
              · rw [List.mem_singleton.1 h]; exact ⟨HOK.out.2.2.1, HOK.out.2.2.2.1⟩
  case rest =>
    obtain ⟨acc, a1, n1, c1, rfl, hpr, hkk, hal, hbk, hcl, hbl, hfr⟩ := hcut
    obtain ⟨av, cv, rfl, _⟩ := hpr.form
    have hrs := RSl.masked (p' := above (w.heap.size + 3)) (w := wc) (w' := wc.drew) (fun b _ hp => ⟨hp, rfl⟩) (hpr.rsl (fun b hb => (by simp only [above, decide_eq_true_eq]; exact hb)))
    have HJN := Lib.hid (join_any wc.drew (w.heap.size + 3) wc.heap.size (by have := hbk.2.2.2; show w.heap.size + 3 ≤ wc.heap.size; omega) (Nat.le_refl _) acc _ hrs (by omega) hkk)
    have HBK := Lib.hid hbk
    have HCLX := Lib.hid hcl
    have HBL := Lib.hid hbl
    have HFR := Lib.hid hfr
    have h2 := hbk.1
    have p0 : wc.cell? ⟨w.heap.size, 0, none⟩ = some (.string S) := cell_of h2 (j := 0) rfl
    have p1 : wc.cell? ⟨w.heap.size, 1, none⟩ = some (.bool true) := cell_of h2 (j := 1) rfl
    have p2 : wc.cell? ⟨w.heap.size, 2, none⟩ = some (.int .i64 r'.at_) := cell_of h2 (j := 2) rfl
    have p3 : wc.cell? ⟨w.heap.size, 3, none⟩ = some (.int .i64 r'.opn) := cell_of h2 (j := 3) rfl
    have p4 : wc.cell? ⟨w.heap.size, 4, none⟩ = some (.slice a1 n1 c1) := cell_of h2 (j := 4) rfl
    have p5 : wc.cell? ⟨w.heap.size, 5, none⟩ = some (.slice none 0 0) := cell_of h2 (j := 5) rfl
    have p6 : wc.cell? ⟨w.heap.size, 6, none⟩ = some (.int .i64 0) := cell_of h2 (j := 6) rfl
    have p7 : wc.cell? ⟨w.heap.size, 7, none⟩ = some (.int .i64 0) := cell_of h2 (j := 7) rfl
    clear hpr hkk hal hbk hcl hbl hfr h2 hrs
    go_upto_region 23 with (fail)
    go_region_held3 (fun w' => w'.cell? ⟨w.heap.size, 0, none⟩ = some (.string S) ∧ w'.cell? ⟨w.heap.size, 1, none⟩ = some (.bool true) ∧ w'.cell? ⟨w.heap.size, 2, none⟩ = some (.int .i64 r'.at_) ∧ w'.cell? ⟨w.heap.size, 3, none⟩ = some (.int .i64 r'.opn) ∧ w'.cell? ⟨w.heap.size, 4, none⟩ = some (.slice a1 n1 c1) ∧ w'.cell? ⟨w.heap.size, 5, none⟩ = some (.slice none 0 0) ∧ w'.cell? ⟨w.heap.size, 6, none⟩ = some (.int .i64 0) ∧ w'.cell? ⟨w.heap.size, 7, none⟩ = some (.int .i64 0))
      (first | with_reducible exact HK9.out | with_reducible exact HK8.out | with_reducible exact HK6.out | go_keep)
      (first | (go_at_call 7; refine HJN.out.mono ?_; rintro e V1 ⟨cs, rfl, hb1, hrd⟩; obtain ⟨k3, s03, s13, s23, s33, al3, nl3, cl3, mn3, mx3, num3, rfl⟩ := hrd.form; have hbb := (Below.drew (Below.refl wc.heap.size wc)).trans hb1; have hbk1 := HBK.out.below hbb; have hk1 := hbk1.1; have hk4 := hbk1.2.1; have hk5 := hbk1.2.2.1; have HK6 := Lib.hid (show V1.cell? ⟨w.heap.size, 0, none⟩ = some (.string S) ∧ V1.cell? ⟨w.heap.size, 1, none⟩ = some (.bool true) ∧ V1.cell? ⟨w.heap.size, 2, none⟩ = some (.int .i64 r'.at_) ∧ V1.cell? ⟨w.heap.size, 3, none⟩ = some (.int .i64 r'.opn) ∧ V1.cell? ⟨w.heap.size, 4, none⟩ = some (.slice a1 n1 c1) ∧ V1.cell? ⟨w.heap.size, 5, none⟩ = some (.slice none 0 0) ∧ V1.cell? ⟨w.heap.size, 6, none⟩ = some (.int .i64 0) ∧ V1.cell? ⟨w.heap.size, 7, none⟩ = some (.int .i64 0) from ⟨cell_of hk1 (j := 0) rfl, cell_of hk1 (j := 1) rfl, cell_of hk1 (j := 2) rfl, cell_of hk1 (j := 3) rfl, cell_of hk1 (j := 4) rfl, cell_of hk1 (j := 5) rfl, cell_of hk1 (j := 6) rfl, cell_of hk1 (j := 7) rfl⟩); obtain ⟨k4, o4, b4⟩ := put8 hk4 (.string S) (.bool true) (.int .i64 r'.at_) (.int .i64 r'.opn) (.slice a1 n1 c1) (.slice none 0 0) (.int .i64 0) (.int .i64 0); obtain ⟨k5, o5, b5⟩ := put9 ((o4 (w.heap.size + 1 + 1) (by omega)).trans hk5) (.int .i64 k3) (.int .u64 s03) (.int .u64 s13) (.int .u64 s23) (.int .u64 s33) (.slice al3 nl3 cl3) (.int .i64 mn3) (.int .i64 mx3) (.int .i64 num3); have hr8 := (o4 w.heap.size (by omega)).trans hk1; have hr9 := (o5 w.heap.size (by omega)).trans hr8; have HK8 := Lib.hid (show ((((((((V1.setCell ⟨w.heap.size + 1, 0, none⟩ (.string S)).setCell ⟨w.heap.size + 1, 1, none⟩ (.bool true)).setCell ⟨w.heap.size + 1, 2, none⟩ (.int .i64 r'.at_)).setCell ⟨w.heap.size + 1, 3, none⟩ (.int .i64 r'.opn)).setCell ⟨w.heap.size + 1, 4, none⟩ (.slice a1 n1 c1)).setCell ⟨w.heap.size + 1, 5, none⟩ (.slice none 0 0)).setCell ⟨w.heap.size + 1, 6, none⟩ (.int .i64 0)).setCell ⟨w.heap.size + 1, 7, none⟩ (.int .i64 0)).cell? ⟨w.heap.size, 0, none⟩ = some (.string S) ∧ ((((((((V1.setCell ⟨w.heap.size + 1, 0, none⟩ (.string S)).setCell ⟨w.heap.size + 1, 1, none⟩ (.bool true)).setCell ⟨w.heap.size + 1, 2, none⟩ (.int .i64 r'.at_)).setCell ⟨w.heap.size + 1, 3, none⟩ (.int .i64 r'.opn)).setCell ⟨w.heap.size + 1, 4, none⟩ (.slice a1 n1 c1)).setCell ⟨w.heap.size + 1, 5, none⟩ (.slice none 0 0)).setCell ⟨w.heap.size + 1, 6, none⟩ (.int .i64 0)).setCell ⟨w.heap.size + 1, 7, none⟩ (.int .i64 0)).cell? ⟨w.heap.size, 1, none⟩ = some (.bool true) ∧ ((((((((V1.setCell ⟨w.heap.size + 1, 0, none⟩ (.string S)).setCell ⟨w.heap.size + 1, 1, none⟩ (.bool true)).setCell ⟨w.heap.size + 1, 2, none⟩ (.int .i64 r'.at_)).setCell ⟨w.heap.size + 1, 3, none⟩ (.int .i64 r'.opn)).setCell ⟨w.heap.size + 1, 4, none⟩ (.slice a1 n1 c1)).setCell ⟨w.heap.size + 1, 5, none⟩ (.slice none 0 0)).setCell ⟨w.heap.size + 1, 6, none⟩ (.int .i64 0)).setCell ⟨w.heap.size + 1, 7, none⟩ (.int .i64 0)).cell? ⟨w.heap.size, 2, none⟩ = some (.int .i64 r'.at_) ∧ ((((((((V1.setCell ⟨w.heap.size + 1, 0, none⟩ (.string S)).setCell ⟨w.heap.size + 1, 1, none⟩ (.bool true)).setCell ⟨w.heap.size + 1, 2, none⟩ (.int .i64 r'.at_)).setCell ⟨w.heap.size + 1, 3, none⟩ (.int .i64 r'.opn)).setCell ⟨w.heap.size + 1, 4, none⟩ (.slice a1 n1 c1)).setCell ⟨w.heap.size + 1, 5, none⟩ (.slice none 0 0)).setCell ⟨w.heap.size + 1, 6, none⟩ (.int .i64 0)).setCell ⟨w.heap.size + 1, 7, none⟩ (.int .i64 0)).cell? ⟨w.heap.size, 3, none⟩ = some (.int .i64 r'.opn) ∧ ((((((((V1.setCell ⟨w.heap.size + 1, 0, none⟩ (.string S)).setCell ⟨w.heap.size + 1, 1, none⟩ (.bool true)).setCell ⟨w.heap.size + 1, 2, none⟩ (.int .i64 r'.at_)).setCell ⟨w.heap.size + 1, 3, none⟩ (.int .i64 r'.opn)).setCell ⟨w.heap.size + 1, 4, none⟩ (.slice a1 n1 c1)).setCell ⟨w.heap.size + 1, 5, none⟩ (.slice none 0 0)).setCell ⟨w.heap.size + 1, 6, none⟩ (.int .i64 0)).setCell ⟨w.heap.size + 1, 7, none⟩ (.int .i64 0)).cell? ⟨w.heap.size, 4, none⟩ = some (.slice a1 n1 c1) ∧ ((((((((V1.setCell ⟨w.heap.size + 1, 0, none⟩ (.string S)).setCell ⟨w.heap.size + 1, 1, none⟩ (.bool true)).setCell ⟨w.heap.size + 1, 2, none⟩ (.int .i64 r'.at_)).setCell ⟨w.heap.size + 1, 3, none⟩ (.int .i64 r'.opn)).setCell ⟨w.heap.size + 1, 4, none⟩ (.slice a1 n1 c1)).setCell ⟨w.heap.size + 1, 5, none⟩ (.slice none 0 0)).setCell ⟨w.heap.size + 1, 6, none⟩ (.int .i64 0)).setCell ⟨w.heap.size + 1, 7, none⟩ (.int .i64 0)).cell? ⟨w.heap.size, 5, none⟩ = some (.slice none 0 0) ∧ ((((((((V1.setCell ⟨w.heap.size + 1, 0, none⟩ (.string S)).setCell ⟨w.heap.size + 1, 1, none⟩ (.bool true)).setCell ⟨w.heap.size + 1, 2, none⟩ (.int .i64 r'.at_)).setCell ⟨w.heap.size + 1, 3, none⟩ (.int .i64 r'.opn)).setCell ⟨w.heap.size + 1, 4, none⟩ (.slice a1 n1 c1)).setCell ⟨w.heap.size + 1, 5, none⟩ (.slice none 0 0)).setCell ⟨w.heap.size + 1, 6, none⟩ (.int .i64 0)).setCell ⟨w.heap.size + 1, 7, none⟩ (.int .i64 0)).cell? ⟨w.heap.size, 6, none⟩ = some (.int .i64 0) ∧ ((((((((V1.setCell ⟨w.heap.size + 1, 0, none⟩ (.string S)).setCell ⟨w.heap.size + 1, 1, none⟩ (.bool true)).setCell ⟨w.heap.size + 1, 2, none⟩ (.int .i64 r'.at_)).setCell ⟨w.heap.size + 1, 3, none⟩ (.int .i64 r'.opn)).setCell ⟨w.heap.size + 1, 4, none⟩ (.slice a1 n1 c1)).setCell ⟨w.heap.size + 1, 5, none⟩ (.slice none 0 0)).setCell ⟨w.heap.size + 1, 6, none⟩ (.int .i64 0)).setCell ⟨w.heap.size + 1, 7, none⟩ (.int .i64 0)).cell? ⟨w.heap.size, 7, none⟩ = some (.int .i64 0) from ⟨cell_of hr8 (j := 0) rfl, cell_of hr8 (j := 1) rfl, cell_of hr8 (j := 2) rfl, cell_of hr8 (j := 3) rfl, cell_of hr8 (j := 4) rfl, cell_of hr8 (j := 5) rfl, cell_of hr8 (j := 6) rfl, cell_of hr8 (j := 7) rfl⟩); have HK9 := Lib.hid (show (((((((((((((((((V1.setCell ⟨w.heap.size + 1, 0, none⟩ (.string S)).setCell ⟨w.heap.size + 1, 1, none⟩ (.bool true)).setCell ⟨w.heap.size + 1, 2, none⟩ (.int .i64 r'.at_)).setCell ⟨w.heap.size + 1, 3, none⟩ (.int .i64 r'.opn)).setCell ⟨w.heap.size + 1, 4, none⟩ (.slice a1 n1 c1)).setCell ⟨w.heap.size + 1, 5, none⟩ (.slice none 0 0)).setCell ⟨w.heap.size + 1, 6, none⟩ (.int .i64 0)).setCell ⟨w.heap.size + 1, 7, none⟩ (.int .i64 0)).setCell ⟨w.heap.size + 1 + 1, 0, none⟩ (.int .i64 k3)).setCell ⟨w.heap.size + 1 + 1, 1, none⟩ (.int .u64 s03)).setCell ⟨w.heap.size + 1 + 1, 2, none⟩ (.int .u64 s13)).setCell ⟨w.heap.size + 1 + 1, 3, none⟩ (.int .u64 s23)).setCell ⟨w.heap.size + 1 + 1, 4, none⟩ (.int .u64 s33)).setCell ⟨w.heap.size + 1 + 1, 5, none⟩ (.slice al3 nl3 cl3)).setCell ⟨w.heap.size + 1 + 1, 6, none⟩ (.int .i64 mn3)).setCell ⟨w.heap.size + 1 + 1, 7, none⟩ (.int .i64 mx3)).setCell ⟨w.heap.size + 1 + 1, 8, none⟩ (.int .i64 num3)).cell? ⟨w.heap.size, 0, none⟩ = some (.string S) ∧ (((((((((((((((((V1.setCell ⟨w.heap.size + 1, 0, none⟩ (.string S)).setCell ⟨w.heap.size + 1, 1, none⟩ (.bool true)).setCell ⟨w.heap.size + 1, 2, none⟩ (.int .i64 r'.at_)).setCell ⟨w.heap.size + 1, 3, none⟩ (.int .i64 r'.opn)).setCell ⟨w.heap.size + 1, 4, none⟩ (.slice a1 n1 c1)).setCell ⟨w.heap.size + 1, 5, none⟩ (.slice none 0 0)).setCell ⟨w.heap.size + 1, 6, none⟩ (.int .i64 0)).setCell ⟨w.heap.size + 1, 7, none⟩ (.int .i64 0)).setCell ⟨w.heap.size + 1 + 1, 0, none⟩ (.int .i64 k3)).setCell ⟨w.heap.size + 1 + 1, 1, none⟩ (.int .u64 s03)).setCell ⟨w.heap.size + 1 + 1, 2, none⟩ (.int .u64 s13)).setCell ⟨w.heap.size + 1 + 1, 3, none⟩ (.int .u64 s23)).setCell ⟨w.heap.size + 1 + 1, 4, none⟩ (.int .u64 s33)).setCell ⟨w.heap.size + 1 + 1, 5, none⟩ (.slice al3 nl3 cl3)).setCell ⟨w.heap.size + 1 + 1, 6, none⟩ (.int .i64 mn3)).setCell ⟨w.heap.size + 1 + 1, 7, none⟩ (.int .i64 mx3)).setCell ⟨w.heap.size + 1 + 1, 8, none⟩ (.int .i64 num3)).cell? ⟨w.heap.size, 1, none⟩ = some (.bool true) ∧ (((((((((((((((((V1.setCell ⟨w.heap.size + 1, 0, none⟩ (.string S)).setCell ⟨w.heap.size + 1, 1, none⟩ (.bool true)).setCell ⟨w.heap.size + 1, 2, none⟩ (.int .i64 r'.at_)).setCell ⟨w.heap.size + 1, 3, none⟩ (.int .i64 r'.opn)).setCell ⟨w.heap.size + 1, 4, none⟩ (.slice a1 n1 c1)).setCell ⟨w.heap.size + 1, 5, none⟩ (.slice none 0 0)).setCell ⟨w.heap.size + 1, 6, none⟩ (.int .i64 0)).setCell ⟨w.heap.size + 1, 7, none⟩ (.int .i64 0)).setCell ⟨w.heap.size + 1 + 1, 0, none⟩ (.int .i64 k3)).setCell ⟨w.heap.size + 1 + 1, 1, none⟩ (.int .u64 s03)).setCell ⟨w.heap.size + 1 + 1, 2, none⟩ (.int .u64 s13)).setCell ⟨w.heap.size + 1 + 1, 3, none⟩ (.int .u64 s23)).setCell ⟨w.heap.size + 1 + 1, 4, none⟩ (.int .u64 s33)).setCell ⟨w.heap.size + 1 + 1, 5, none⟩ (.slice al3 nl3 cl3)).setCell ⟨w.heap.size + 1 + 1, 6, none⟩ (.int .i64 mn3)).setCell ⟨w.heap.size + 1 + 1, 7, none⟩ (.int .i64 mx3)).setCell ⟨w.heap.size + 1 + 1, 8, none⟩ (.int .i64 num3)).cell? ⟨w.heap.size, 2, none⟩ = some (.int .i64 r'.at_) ∧ (((((((((((((((((V1.setCell ⟨w.heap.size + 1, 0, none⟩ (.string S)).setCell ⟨w.heap.size + 1, 1, none⟩ (.bool true)).setCell ⟨w.heap.size + 1, 2, none⟩ (.int .i64 r'.at_)).setCell ⟨w.heap.size + 1, 3, none⟩ (.int .i64 r'.opn)).setCell ⟨w.heap.size + 1, 4, none⟩ (.slice a1 n1 c1)).setCell ⟨w.heap.size + 1, 5, none⟩ (.slice none 0 0)).setCell ⟨w.heap.size + 1, 6, none⟩ (.int .i64 0)).setCell ⟨w.heap.size + 1, 7, none⟩ (.int .i64 0)).setCell ⟨w.heap.size + 1 + 1, 0, none⟩ (.int .i64 k3)).setCell ⟨w.heap.size + 1 + 1, 1, none⟩ (.int .u64 s03)).setCell ⟨w.heap.size + 1 + 1, 2, none⟩ (.int .u64 s13)).setCell ⟨w.heap.size + 1 + 1, 3, none⟩ (.int .u64 s23)).setCell ⟨w.heap.size + 1 + 1, 4, none⟩ (.int .u64 s33)).setCell ⟨w.heap.size + 1 + 1, 5, none⟩ (.slice al3 nl3 cl3)).setCell ⟨w.heap.size + 1 + 1, 6, none⟩ (.int .i64 mn3)).setCell ⟨w.heap.size + 1 + 1, 7, none⟩ (.int .i64 mx3)).setCell ⟨w.heap.size + 1 + 1, 8, none⟩ (.int .i64 num3)).cell? ⟨w.heap.size, 3, none⟩ = some (.int .i64 r'.opn) ∧ (((((((((((((((((V1.setCell ⟨w.heap.size + 1, 0, none⟩ (.string S)).setCell ⟨w.heap.size + 1, 1, none⟩ (.bool true)).setCell ⟨w.heap.size + 1, 2, none⟩ (.int .i64 r'.at_)).setCell ⟨w.heap.size + 1, 3, none⟩ (.int .i64 r'.opn)).setCell ⟨w.heap.size + 1, 4, none⟩ (.slice a1 n1 c1)).setCell ⟨w.heap.size + 1, 5, none⟩ (.slice none 0 0)).setCell ⟨w.heap.size + 1, 6, none⟩ (.int .i64 0)).setCell ⟨w.heap.size + 1, 7, none⟩ (.int .i64 0)).setCell ⟨w.heap.size + 1 + 1, 0, none⟩ (.int .i64 k3)).setCell ⟨w.heap.size + 1 + 1, 1, none⟩ (.int .u64 s03)).setCell ⟨w.heap.size + 1 + 1, 2, none⟩ (.int .u64 s13)).setCell ⟨w.heap.size + 1 + 1, 3, none⟩ (.int .u64 s23)).setCell ⟨w.heap.size + 1 + 1, 4, none⟩ (.int .u64 s33)).setCell ⟨w.heap.size + 1 + 1, 5, none⟩ (.slice al3 nl3 cl3)).setCell ⟨w.heap.size + 1 + 1, 6, none⟩ (.int .i64 mn3)).setCell ⟨w.heap.size + 1 + 1, 7, none⟩ (.int .i64 mx3)).setCell ⟨w.heap.size + 1 + 1, 8, none⟩ (.int .i64 num3)).cell? ⟨w.heap.size, 4, none⟩ = some (.slice a1 n1 c1) ∧ (((((((((((((((((V1.setCell ⟨w.heap.size + 1, 0, none⟩ (.string S)).setCell ⟨w.heap.size + 1, 1, none⟩ (.bool true)).setCell ⟨w.heap.size + 1, 2, none⟩ (.int .i64 r'.at_)).setCell ⟨w.heap.size + 1, 3, none⟩ (.int .i64 r'.opn)).setCell ⟨w.heap.size + 1, 4, none⟩ (.slice a1 n1 c1)).setCell ⟨w.heap.size + 1, 5, none⟩ (.slice none 0 0)).setCell ⟨w.heap.size + 1, 6, none⟩ (.int .i64 0)).setCell ⟨w.heap.size + 1, 7, none⟩ (.int .i64 0)).setCell ⟨w.heap.size + 1 + 1, 0, none⟩ (.int .i64 k3)).setCell ⟨w.heap.size + 1 + 1, 1, none⟩ (.int .u64 s03)).setCell ⟨w.heap.size + 1 + 1, 2, none⟩ (.int .u64 s13)).setCell ⟨w.heap.size + 1 + 1, 3, none⟩ (.int .u64 s23)).setCell ⟨w.heap.size + 1 + 1, 4, none⟩ (.int .u64 s33)).setCell ⟨w.heap.size + 1 + 1, 5, none⟩ (.slice al3 nl3 cl3)).setCell ⟨w.heap.size + 1 + 1, 6, none⟩ (.int .i64 mn3)).setCell ⟨w.heap.size + 1 + 1, 7, none⟩ (.int .i64 mx3)).setCell ⟨w.heap.size + 1 + 1, 8, none⟩ (.int .i64 num3)).cell? ⟨w.heap.size, 5, none⟩ = some (.slice none 0 0) ∧ (((((((((((((((((V1.setCell ⟨w.heap.size + 1, 0, none⟩ (.string S)).setCell ⟨w.heap.size + 1, 1, none⟩ (.bool true)).setCell ⟨w.heap.size + 1, 2, none⟩ (.int .i64 r'.at_)).setCell ⟨w.heap.size + 1, 3, none⟩ (.int .i64 r'.opn)).setCell ⟨w.heap.size + 1, 4, none⟩ (.slice a1 n1 c1)).setCell ⟨w.heap.size + 1, 5, none⟩ (.slice none 0 0)).setCell ⟨w.heap.size + 1, 6, none⟩ (.int .i64 0)).setCell ⟨w.heap.size + 1, 7, none⟩ (.int .i64 0)).setCell ⟨w.heap.size + 1 + 1, 0, none⟩ (.int .i64 k3)).setCell ⟨w.heap.size + 1 + 1, 1, none⟩ (.int .u64 s03)).setCell ⟨w.heap.size + 1 + 1, 2, none⟩ (.int .u64 s13)).setCell ⟨w.heap.size + 1 + 1, 3, none⟩ (.int .u64 s23)).setCell ⟨w.heap.size + 1 + 1, 4, none⟩ (.int .u64 s33)).setCell ⟨w.heap.size + 1 + 1, 5, none⟩ (.slice al3 nl3 cl3)).setCell ⟨w.heap.size + 1 + 1, 6, none⟩ (.int .i64 mn3)).setCell ⟨w.heap.size + 1 + 1, 7, none⟩ (.int .i64 mx3)).setCell ⟨w.heap.size + 1 + 1, 8, none⟩ (.int .i64 num3)).cell? ⟨w.heap.size, 6, none⟩ = some (.int .i64 0) ∧ (((((((((((((((((V1.setCell ⟨w.heap.size + 1, 0, none⟩ (.string S)).setCell ⟨w.heap.size + 1, 1, none⟩ (.bool true)).setCell ⟨w.heap.size + 1, 2, none⟩ (.int .i64 r'.at_)).setCell ⟨w.heap.size + 1, 3, none⟩ (.int .i64 r'.opn)).setCell ⟨w.heap.size + 1, 4, none⟩ (.slice a1 n1 c1)).setCell ⟨w.heap.size + 1, 5, none⟩ (.slice none 0 0)).setCell ⟨w.heap.size + 1, 6, none⟩ (.int .i64 0)).setCell ⟨w.heap.size + 1, 7, none⟩ (.int .i64 0)).setCell ⟨w.heap.size + 1 + 1, 0, none⟩ (.int .i64 k3)).setCell ⟨w.heap.size + 1 + 1, 1, none⟩ (.int .u64 s03)).setCell ⟨w.heap.size + 1 + 1, 2, none⟩ (.int .u64 s13)).setCell ⟨w.heap.size + 1 + 1, 3, none⟩ (.int .u64 s23)).setCell ⟨w.heap.size + 1 + 1, 4, none⟩ (.int .u64 s33)).setCell ⟨w.heap.size + 1 + 1, 5, none⟩ (.slice al3 nl3 cl3)).setCell ⟨w.heap.size + 1 + 1, 6, none⟩ (.int .i64 mn3)).setCell ⟨w.heap.size + 1 + 1, 7, none⟩ (.int .i64 mx3)).setCell ⟨w.heap.size + 1 + 1, 8, none⟩ (.int .i64 num3)).cell? ⟨w.heap.size, 7, none⟩ = some (.int .i64 0) from ⟨cell_of hr9 (j := 0) rfl, cell_of hr9 (j := 1) rfl, cell_of hr9 (j := 2) rfl, cell_of hr9 (j := 3) rfl, cell_of hr9 (j := 4) rfl, cell_of hr9 (j := 5) rfl, cell_of hr9 (j := 6) rfl, cell_of hr9 (j := 7) rfl⟩); have HBF := Lib.hid (b5 _ _ (b4 _ _ (HBL.out.trans (hbb.mono HBL.out.size)) (by omega)) (by omega)); have K4 := Lib.hid ((o5 (w.heap.size + 1) (by omega)).trans k4); have K5 := Lib.hid k5; have HOO := Lib.hid (fun k (h1 : k ≠ w.heap.size + 1) (h2 : k ≠ w.heap.size + 1 + 1) => (o5 k h2).trans (o4 k h1)); have HBR := Lib.hid (show Bar (fun k => k = w.heap.size + 1 ∨ k = w.heap.size + 1 + 1) V1 (((((((((((((((((V1.setCell ⟨w.heap.size + 1, 0, none⟩ (.string S)).setCell ⟨w.heap.size + 1, 1, none⟩ (.bool true)).setCell ⟨w.heap.size + 1, 2, none⟩ (.int .i64 r'.at_)).setCell ⟨w.heap.size + 1, 3, none⟩ (.int .i64 r'.opn)).setCell ⟨w.heap.size + 1, 4, none⟩ (.slice a1 n1 c1)).setCell ⟨w.heap.size + 1, 5, none⟩ (.slice none 0 0)).setCell ⟨w.heap.size + 1, 6, none⟩ (.int .i64 0)).setCell ⟨w.heap.size + 1, 7, none⟩ (.int .i64 0)).setCell ⟨w.heap.size + 1 + 1, 0, none⟩ (.int .i64 k3)).setCell ⟨w.heap.size + 1 + 1, 1, none⟩ (.int .u64 s03)).setCell ⟨w.heap.size + 1 + 1, 2, none⟩ (.int .u64 s13)).setCell ⟨w.heap.size + 1 + 1, 3, none⟩ (.int .u64 s23)).setCell ⟨w.heap.size + 1 + 1, 4, none⟩ (.int .u64 s33)).setCell ⟨w.heap.size + 1 + 1, 5, none⟩ (.slice al3 nl3 cl3)).setCell ⟨w.heap.size + 1 + 1, 6, none⟩ (.int .i64 mn3)).setCell ⟨w.heap.size + 1 + 1, 7, none⟩ (.int .i64 mx3)).setCell ⟨w.heap.size + 1 + 1, 8, none⟩ (.int .i64 num3)) from ((((((((((((((((((Bar.refl (fun k => k = w.heap.size + 1 ∨ k = w.heap.size + 1 + 1) V1).set ⟨(w.heap.size + 1), 0, none⟩ (.string S) (.inl (.inl rfl))).set ⟨(w.heap.size + 1), 1, none⟩ (.bool true) (.inl (.inl rfl))).set ⟨(w.heap.size + 1), 2, none⟩ (.int .i64 r'.at_) (.inl (.inl rfl))).set ⟨(w.heap.size + 1), 3, none⟩ (.int .i64 r'.opn) (.inl (.inl rfl))).set ⟨(w.heap.size + 1), 4, none⟩ (.slice a1 n1 c1) (.inl (.inl rfl))).set ⟨(w.heap.size + 1), 5, none⟩ (.slice none 0 0) (.inl (.inl rfl))).set ⟨(w.heap.size + 1), 6, none⟩ (.int .i64 0) (.inl (.inl rfl))).set ⟨(w.heap.size + 1), 7, none⟩ (.int .i64 0) (.inl (.inl rfl))).set ⟨(w.heap.size + 1 + 1), 0, none⟩ (.int .i64 k3) (.inl (.inr rfl))).set ⟨(w.heap.size + 1 + 1), 1, none⟩ (.int .u64 s03) (.inl (.inr rfl))).set ⟨(w.heap.size + 1 + 1), 2, none⟩ (.int .u64 s13) (.inl (.inr rfl))).set ⟨(w.heap.size + 1 + 1), 3, none⟩ (.int .u64 s23) (.inl (.inr rfl))).set ⟨(w.heap.size + 1 + 1), 4, none⟩ (.int .u64 s33) (.inl (.inr rfl))).set ⟨(w.heap.size + 1 + 1), 5, none⟩ (.slice al3 nl3 cl3) (.inl (.inr rfl))).set ⟨(w.heap.size + 1 + 1), 6, none⟩ (.int .i64 mn3) (.inl (.inr rfl))).set ⟨(w.heap.size + 1 + 1), 7, none⟩ (.int .i64 mx3) (.inl (.inr rfl))).set ⟨(w.heap.size + 1 + 1), 8, none⟩ (.int .i64 num3) (.inl (.inr rfl)))); have HRD := Lib.hid hrd; have HCL1 := Lib.hid (HCLX.out.below hbb); have r0 : V1.cell? ⟨w.heap.size + 1, 0, none⟩ = some (.string ⟨#[]⟩) := cell_of hk4 (j := 0) rfl; have r1 : V1.cell? ⟨w.heap.size + 1, 1, none⟩ = some (.bool false) := cell_of hk4 (j := 1) rfl; have r2 : V1.cell? ⟨w.heap.size + 1, 2, none⟩ = some (.int .i64 0) := cell_of hk4 (j := 2) rfl; have r3 : V1.cell? ⟨w.heap.size + 1, 3, none⟩ = some (.int .i64 0) := cell_of hk4 (j := 3) rfl; have r4 : V1.cell? ⟨w.heap.size + 1, 4, none⟩ = some (.slice none 0 0) := cell_of hk4 (j := 4) rfl; have r5 : V1.cell? ⟨w.heap.size + 1, 5, none⟩ = some (.slice none 0 0) := cell_of hk4 (j := 5) rfl; have r6 : V1.cell? ⟨w.heap.size + 1, 6, none⟩ = some (.int .i64 0) := cell_of hk4 (j := 6) rfl; have r7 : V1.cell? ⟨w.heap.size + 1, 7, none⟩ = some (.int .i64 0) := cell_of hk4 (j := 7) rfl; have t0 : V1.cell? ⟨w.heap.size + 1 + 1, 0, none⟩ = some (.int .i64 0) := cell_of hk5 (j := 0) rfl; have t1 : V1.cell? ⟨w.heap.size + 1 + 1, 1, none⟩ = some (.int .u64 0) := cell_of hk5 (j := 1) rfl; have t2 : V1.cell? ⟨w.heap.size + 1 + 1, 2, none⟩ = some (.int .u64 0) := cell_of hk5 (j := 2) rfl; have t3 : V1.cell? ⟨w.heap.size + 1 + 1, 3, none⟩ = some (.int .u64 0) := cell_of hk5 (j := 3) rfl; have t4 : V1.cell? ⟨w.heap.size + 1 + 1, 4, none⟩ = some (.int .u64 0) := cell_of hk5 (j := 4) rfl; have t5 : V1.cell? ⟨w.heap.size + 1 + 1, 5, none⟩ = some (.slice none 0 0) := cell_of hk5 (j := 5) rfl; have t6 : V1.cell? ⟨w.heap.size + 1 + 1, 6, none⟩ = some (.int .i64 0) := cell_of hk5 (j := 6) rfl; have t7 : V1.cell? ⟨w.heap.size + 1 + 1, 7, none⟩ = some (.int .i64 0) := cell_of hk5 (j := 7) rfl; have t8 : V1.cell? ⟨w.heap.size + 1 + 1, 8, none⟩ = some (.int .i64 0) := cell_of hk5 (j := 8) rfl; have f0 := frozen_of_row V1 (w.heap.size + 1) 0 _ _ hk4; have f1 := frozen_of_row V1 (w.heap.size + 1) 1 _ _ hk4; have f2 := frozen_of_row V1 (w.heap.size + 1) 2 _ _ hk4; have f3 := frozen_of_row V1 (w.heap.size + 1) 3 _ _ hk4; have f4 := frozen_of_row V1 (w.heap.size + 1) 4 _ _ hk4; have f5 := frozen_of_row V1 (w.heap.size + 1) 5 _ _ hk4; have f6 := frozen_of_row V1 (w.heap.size + 1) 6 _ _ hk4; have f7 := frozen_of_row V1 (w.heap.size + 1) 7 _ _ hk4; have g0 := frozen_of_row V1 (w.heap.size + 1 + 1) 0 _ _ hk5; have g1 := frozen_of_row V1 (w.heap.size + 1 + 1) 1 _ _ hk5; have g2 := frozen_of_row V1 (w.heap.size + 1 + 1) 2 _ _ hk5; have g3 := frozen_of_row V1 (w.heap.size + 1 + 1) 3 _ _ hk5; have g4 := frozen_of_row V1 (w.heap.size + 1 + 1) 4 _ _ hk5; have g5 := frozen_of_row V1 (w.heap.size + 1 + 1) 5 _ _ hk5; have g6 := frozen_of_row V1 (w.heap.size + 1 + 1) 6 _ _ hk5; have g7 := frozen_of_row V1 (w.heap.size + 1 + 1) 7 _ _ hk5; have g8 := frozen_of_row V1 (w.heap.size + 1 + 1) 8 _ _ hk5; clear hb1 hbb hbk1 hk1 hk4 hk5 k4 o4 b4 k5 o5 b5 hr8 hr9 hrd))
    all_goals
      clear r0 r1 r2 r3 r4 r5 r6 r7 t0 t1 t2 t3 t4 t5 t6 t7 t8 f0 f1 f2 f3 f4 f5 f6 f7 g0 g1 g2 g3 g4 g5 g6 g7 g8 HK9 HK8 HK6
      generalize (((((((((((((((((V1.setCell ⟨w.heap.size + 1, 0, none⟩ (.string S)).setCell ⟨w.heap.size + 1, 1, none⟩ (.bool true)).setCell ⟨w.heap.size + 1, 2, none⟩ (.int .i64 r'.at_)).setCell ⟨w.heap.size + 1, 3, none⟩ (.int .i64 r'.opn)).setCell ⟨w.heap.size + 1, 4, none⟩ (.slice a1 n1 c1)).setCell ⟨w.heap.size + 1, 5, none⟩ (.slice none 0 0)).setCell ⟨w.heap.size + 1, 6, none⟩ (.int .i64 0)).setCell ⟨w.heap.size + 1, 7, none⟩ (.int .i64 0)).setCell ⟨w.heap.size + 1 + 1, 0, none⟩ (.int .i64 k3)).setCell ⟨w.heap.size + 1 + 1, 1, none⟩ (.int .u64 s03)).setCell ⟨w.heap.size + 1 + 1, 2, none⟩ (.int .u64 s13)).setCell ⟨w.heap.size + 1 + 1, 3, none⟩ (.int .u64 s23)).setCell ⟨w.heap.size + 1 + 1, 4, none⟩ (.int .u64 s33)).setCell ⟨w.heap.size + 1 + 1, 5, none⟩ (.slice al3 nl3 cl3)).setCell ⟨w.heap.size + 1 + 1, 6, none⟩ (.int .i64 mn3)).setCell ⟨w.heap.size + 1 + 1, 7, none⟩ (.int .i64 mx3)).setCell ⟨w.heap.size + 1 + 1, 8, none⟩ (.int .i64 num3)) = WF at *
      have r0 : WF.cell? ⟨w.heap.size + 1, 0, none⟩ = some (.string S) := cell_of K4.out (j := 0) rfl
      have r1 : WF.cell? ⟨w.heap.size + 1, 1, none⟩ = some (.bool true) := cell_of K4.out (j := 1) rfl
      have r2 : WF.cell? ⟨w.heap.size + 1, 2, none⟩ = some (.int .i64 r'.at_) := cell_of K4.out (j := 2) rfl
      have r3 : WF.cell? ⟨w.heap.size + 1, 3, none⟩ = some (.int .i64 r'.opn) := cell_of K4.out (j := 3) rfl
      have r4 : WF.cell? ⟨w.heap.size + 1, 4, none⟩ = some (.slice a1 n1 c1) := cell_of K4.out (j := 4) rfl
      have r5 : WF.cell? ⟨w.heap.size + 1, 5, none⟩ = some (.slice none 0 0) := cell_of K4.out (j := 5) rfl
      have r6 : WF.cell? ⟨w.heap.size + 1, 6, none⟩ = some (.int .i64 0) := cell_of K4.out (j := 6) rfl
      have r7 : WF.cell? ⟨w.heap.size + 1, 7, none⟩ = some (.int .i64 0) := cell_of K4.out (j := 7) rfl
      have t0 : WF.cell? ⟨w.heap.size + 1 + 1, 0, none⟩ = some (.int .i64 k3) := cell_of K5.out (j := 0) rfl
      have t1 : WF.cell? ⟨w.heap.size + 1 + 1, 1, none⟩ = some (.int .u64 s03) := cell_of K5.out (j := 1) rfl
      have t2 : WF.cell? ⟨w.heap.size + 1 + 1, 2, none⟩ = some (.int .u64 s13) := cell_of K5.out (j := 2) rfl
      have t3 : WF.cell? ⟨w.heap.size + 1 + 1, 3, none⟩ = some (.int .u64 s23) := cell_of K5.out (j := 3) rfl
      have t4 : WF.cell? ⟨w.heap.size + 1 + 1, 4, none⟩ = some (.int .u64 s33) := cell_of K5.out (j := 4) rfl
      have t5 : WF.cell? ⟨w.heap.size + 1 + 1, 5, none⟩ = some (.slice al3 nl3 cl3) := cell_of K5.out (j := 5) rfl
      have t6 : WF.cell? ⟨w.heap.size + 1 + 1, 6, none⟩ = some (.int .i64 mn3) := cell_of K5.out (j := 6) rfl
      have t7 : WF.cell? ⟨w.heap.size + 1 + 1, 7, none⟩ = some (.int .i64 mx3) := cell_of K5.out (j := 7) rfl
      have t8 : WF.cell? ⟨w.heap.size + 1 + 1, 8, none⟩ = some (.int .i64 num3) := cell_of K5.out (j := 8) rfl
      go_wp2_with fail
      refine bodyPost_ret (v := .tuple #[.agg #[.string S, .bool true, .int .i64 r'.at_, .int .i64 r'.opn, .slice a1 n1 c1, .slice none 0 0, .int .i64 0, .int .i64 0], .agg #[.int .i64 k3, .int .u64 s03, .int .u64 s13, .int .u64 s23, .int .u64 s33, .slice al3 nl3 cl3, .int .i64 mn3, .int .i64 mx3, .int .i64 num3]]) (by simp [results, Tryz.results52, go_sem, r0, r1, r2, r3, r4, r5, r6, r7, t0, t1, t2, t3, t4, t5, t6, t7, t8]) rfl ⟨a1, n1, c1, [.int .i64 k3, .int .u64 s03, .int .u64 s13, .int .u64 s23, .int .u64 s33, .slice al3 nl3 cl3, .int .i64 mn3, .int .i64 mx3, .int .i64 num3], rfl, HBF.out, ?_, ?_, ?_⟩
      · refine Rd.mono HBR.out.size _ _ (Rd.masked (fun b hb hp => ?_) HRD.out)
        simp only [above, decide_eq_true_eq] at hp ⊢
        exact ⟨by omega, HOO.out b (by omega) (by omega)⟩
      · refine HCL1.out.far (X := fun k => k = w.heap.size + 1 ∨ k = w.heap.size + 1 + 1) (fun g hg => ?_) HBR.out
        rintro (e | e)
        · rcases HFR.out with e1 | ⟨g', e1, h3⟩
          · rw [e1] at hg; have := HLA.out g hg; omega
          · rw [e1] at hg; injection hg with hg; injection hg with hg; omega
        · rcases HFR.out with e1 | ⟨g', e1, h3⟩
          · rw [e1] at hg; have := HLA.out g hg; omega
          · rw [e1] at hg; injection hg with hg; injection hg with hg; omega
      · rcases HFR.out with e1 | ⟨g', e1, h3⟩
        · exact .inl e1
        · exact .inr ⟨g', e1, by omega⟩
end Go.Proofs.YtkaoegdfgoojdaaGreatDoor
