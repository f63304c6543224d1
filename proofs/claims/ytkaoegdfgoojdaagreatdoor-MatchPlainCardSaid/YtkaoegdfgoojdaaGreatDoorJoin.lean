/- Join, Choose of the reference: the walks (seat 2; printed by join.py). -/
import Derived.Test.YtkaoegdfgoojdaaGreatDoorParts
namespace Go.Proofs.YtkaoegdfgoojdaaGreatDoor
open Go Go.RowKit
set_option maxRecDepth 100000

theorem info_T : (Tryz.prog.info? 28).map (fun i => (i.zero, i.size, i.bytes)) = some (some (.agg #[.int .i64 0, .int .u64 0, .int .u64 0, .int .u64 0, .int .u64 0, .slice none 0 0, .int .i64 0, .int .i64 0, .int .i64 0]), 9, 88) := by kernel_rfl
theorem und_Ts : Tryz.prog.underlying 23 = some (.slice 28) := Tryz.underlying23

/-- A node that a call answers; what it leads to lies at M0 or behind. -/
def TPost (M0 : Nat) (w : World) (t : RT) (e : Ending) (w' : World) : Prop := ∃ cs, e = .returned (.agg cs.toArray) ∧ Below w.heap.size w w' ∧ Rd (mask (above M0) w') w'.heap.size t cs

def joinR : List RT → RT
  | [] => .zero
  | [t] => t
  | t :: u :: r => .mk 2 0 0 0 0 (t :: u :: r) 0 0 0
def chooseR : List RT → RT
  | [] => .zero
  | [t] => t
  | t :: u :: r => .mk 3 0 0 0 0 (t :: u :: r) 0 0 0

theorem set9 {w : World} {B : Nat} {cs : Array Value} {t : TypeId} (h : w.heap[B]? = some (.cells cs t (0, 0))) (hc : cs.size = 9) (x0 x1 x2 x3 x4 x5 x6 x7 x8 : Value) {N : Nat} {w0 : World} (hb : Below N w0 w) (hN : N ≤ B) :
    Below N w0 (((((((((w.setCell ⟨B, 0, none⟩ x0).setCell ⟨B, 1, none⟩ x1).setCell ⟨B, 2, none⟩ x2).setCell ⟨B, 3, none⟩ x3).setCell ⟨B, 4, none⟩ x4).setCell ⟨B, 5, none⟩ x5).setCell ⟨B, 6, none⟩ x6).setCell ⟨B, 7, none⟩ x7).setCell ⟨B, 8, none⟩ x8) :=
  ((((((((hb.setCell hN _).setCell hN _).setCell hN _).setCell hN _).setCell hN _).setCell hN _).setCell hN _).setCell hN _).setCell hN _
def qJ (M0 R : Nat) : Nat → Bool := aboveBut M0 (some R)
/-- What does not lie in the block stays. -/
theorem Rd.set9 {w : World} {B M0 : Nat} (x0 x1 x2 x3 x4 x5 x6 x7 x8 : Value) {t : RT} {cs : List Value} {N : Nat} (hN : N ≤ w.heap.size) (h : Rd (mask (aboveBut M0 (some B)) w) N t cs) :
    Rd (mask (above M0) (((((((((w.setCell ⟨B, 0, none⟩ x0).setCell ⟨B, 1, none⟩ x1).setCell ⟨B, 2, none⟩ x2).setCell ⟨B, 3, none⟩ x3).setCell ⟨B, 4, none⟩ x4).setCell ⟨B, 5, none⟩ x5).setCell ⟨B, 6, none⟩ x6).setCell ⟨B, 7, none⟩ x7).setCell ⟨B, 8, none⟩ x8))
      (((((((((w.setCell ⟨B, 0, none⟩ x0).setCell ⟨B, 1, none⟩ x1).setCell ⟨B, 2, none⟩ x2).setCell ⟨B, 3, none⟩ x3).setCell ⟨B, 4, none⟩ x4).setCell ⟨B, 5, none⟩ x5).setCell ⟨B, 6, none⟩ x6).setCell ⟨B, 7, none⟩ x7).setCell ⟨B, 8, none⟩ x8).heap.size t cs := by
  refine Rd.mono (by simpa [World.setCell] using hN) _ _ (Rd.masked (fun b hb hp => ?_) h)
  simp only [aboveBut, above, Bool.and_eq_true, decide_eq_true_eq] at hp ⊢
  have hne : b ≠ B := fun e => hp.2 (by rw [e])
  exact ⟨hp.1, (Below.heap_setCell _ _ _ _ hne).trans ((Below.heap_setCell _ _ _ _ hne).trans ((Below.heap_setCell _ _ _ _ hne).trans ((Below.heap_setCell _ _ _ _ hne).trans ((Below.heap_setCell _ _ _ _ hne).trans ((Below.heap_setCell _ _ _ _ hne).trans ((Below.heap_setCell _ _ _ _ hne).trans ((Below.heap_setCell _ _ _ _ hne).trans (Below.heap_setCell _ _ _ _ hne))))))))⟩

theorem RSl.set9 {w : World} {B M0 : Nat} (x0 x1 x2 x3 x4 x5 x6 x7 x8 : Value) {ps : List RT} {x : Value} {N : Nat} (hN : N ≤ w.heap.size) (h : RSl (mask (aboveBut M0 (some B)) w) N ps x) :
    RSl (mask (above M0) (((((((((w.setCell ⟨B, 0, none⟩ x0).setCell ⟨B, 1, none⟩ x1).setCell ⟨B, 2, none⟩ x2).setCell ⟨B, 3, none⟩ x3).setCell ⟨B, 4, none⟩ x4).setCell ⟨B, 5, none⟩ x5).setCell ⟨B, 6, none⟩ x6).setCell ⟨B, 7, none⟩ x7).setCell ⟨B, 8, none⟩ x8))
      (((((((((w.setCell ⟨B, 0, none⟩ x0).setCell ⟨B, 1, none⟩ x1).setCell ⟨B, 2, none⟩ x2).setCell ⟨B, 3, none⟩ x3).setCell ⟨B, 4, none⟩ x4).setCell ⟨B, 5, none⟩ x5).setCell ⟨B, 6, none⟩ x6).setCell ⟨B, 7, none⟩ x7).setCell ⟨B, 8, none⟩ x8).heap.size ps x := by
  refine RSl.mono (by simpa [World.setCell] using hN) (RSl.masked (fun b hb hp => ?_) h)
  simp only [aboveBut, above, Bool.and_eq_true, decide_eq_true_eq] at hp ⊢
  have hne : b ≠ B := fun e => hp.2 (by rw [e])
  exact ⟨hp.1, (Below.heap_setCell _ _ _ _ hne).trans ((Below.heap_setCell _ _ _ _ hne).trans ((Below.heap_setCell _ _ _ _ hne).trans ((Below.heap_setCell _ _ _ _ hne).trans ((Below.heap_setCell _ _ _ _ hne).trans ((Below.heap_setCell _ _ _ _ hne).trans ((Below.heap_setCell _ _ _ _ hne).trans ((Below.heap_setCell _ _ _ _ hne).trans (Below.heap_setCell _ _ _ _ hne))))))))⟩
theorem RSl.node {w : World} {N : Nat} {ps : List RT} {a : Option Addr} {n c : Nat} (h : RSl w N ps (.slice a n c)) (k : Int) : Rd w N (.mk k 0 0 0 0 ps 0 0 0) [.int .i64 k, .int .u64 0, .int .u64 0, .int .u64 0, .int .u64 0, .slice a n c, .int .i64 0, .int .i64 0, .int .i64 0] := by
  obtain ⟨a', c', e, hl, h⟩ := h
  injection e with e1 e2 e3
  subst e1 e2 e3
  exact ⟨_, _, rfl, hl, h⟩

set_option maxHeartbeats 4000000 in
theorem join_any (w : World) (M0 N : Nat) (hM0 : M0 ≤ w.heap.size) (hN : N ≤ w.heap.size) (ts : List RT) (x : Value) (hx : RSl (mask (above M0) w) N ts x) (hlen : ts.length ≤ 1000) (hk : ∀ t ∈ ts, t.kind ≠ 0 ∧ t.kind ≠ 2) :
    Calls Tryz.prog 7 #[x] w (TPost M0 w (joinR ts)) := by
  have hb0 : Below w.heap.size w (w.alloc (.cells #[.int .i64 0, .int .u64 0, .int .u64 0, .int .u64 0, .int .u64 0, .slice none 0 0, .int .i64 0, .int .i64 0, .int .i64 0] 28)) := (Below.refl _ _).alloc (Nat.le_refl _) _
  have HB0 := Lib.hid hb0
  have HR0 := Lib.hid (heap_alloc_new w (.cells #[.int .i64 0, .int .u64 0, .int .u64 0, .int .u64 0, .int .u64 0, .slice none 0 0, .int .i64 0, .int .i64 0, .int .i64 0] 28))
  have HZ0 := Lib.hid (show (w.alloc (.cells #[.int .i64 0, .int .u64 0, .int .u64 0, .int .u64 0, .int .u64 0, .slice none 0 0, .int .i64 0, .int .i64 0, .int .i64 0] 28)).heap.size = w.heap.size + 1 from Array.size_push _)
  have HX := Lib.hid (RSl.masked (p := above M0) (p' := above M0) (w := w) (w' := w.alloc (.cells #[.int .i64 0, .int .u64 0, .int .u64 0, .int .u64 0, .int .u64 0, .slice none 0 0, .int .i64 0, .int .i64 0, .int .i64 0] 28)) (fun b hb hp => ⟨hp, hb0.block b (by omega)⟩) hx)
  obtain ⟨a, c, rfl, hlx, _⟩ := hx
  have HK := Lib.hid hk
  obtain ⟨i0, hi, hz0, hz1, hz2⟩ := info_parts info_T
  have HI := Lib.hid hi
  have HZI0 := Lib.hid hz0
  have HZI1 := Lib.hid hz1
  have HZI2 := Lib.hid hz2
  clear hk hb0 hi hz0 hz1 hz2
  go_enter Tryz.func7, Tryz.ntmps7
  go_wp2_with fail
  generalize w.alloc (.cells #[.int .i64 0, .int .u64 0, .int .u64 0, .int .u64 0, .int .u64 0, .slice none 0 0, .int .i64 0, .int .i64 0, .int .i64 0] 28) = W1 at *
  go_loopw [3, 7] (fun v i wr => ∃ j : Nat, j ≤ ts.length ∧ i = .int .i64 j ∧ PartsR (qJ M0 w.heap.size) W1.heap.size wr v (ts.take j) ∧ Below W1.heap.size W1 wr) (fun _ i _ => ts.length - (intOf i).toNat)
  case atStart => exact ⟨0, Nat.zero_le _, rfl, PartsR.nil _ _ _, Below.refl _ _⟩
  case round =>
    obtain ⟨j, hj, rfl, hpr, hb⟩ := hrel
    have HPR := Lib.hid hpr
    have HB := Lib.hid hb
    clear hpr hb
    by_cases hlt : j < ts.length
    · obtain ⟨a', c', e', _, hor⟩ := HX.out
      obtain ⟨b, off, rfl, hbN, hc1, hc2, hat⟩ := hor.resolve_left (by intro e; rw [e] at hlt; simp at hlt)
      injection e' with e1 e2 e3
      subst e1 e3
      obtain ⟨cs, hcs, hrd⟩ := RdAt.at ts off hat j hlt
      have hbW : b < W1.heap.size := by have := HZ0.out; omega
      have hcr : ∀ i, i < 9 → wr.cell? ⟨b, off + j * 9 + i, none⟩ = cs[i]? := by
        intro i hi
        have h1 := hcs i hi
        have h9 := hrd.len
        have h2 : cs[i]? = some (cs[i]'(by omega)) := List.getElem?_eq_getElem (by omega)
        rw [h2] at h1 ⊢
        exact (HB.out.cell (p := ⟨b, off + j * 9 + i, none⟩) hbW).trans (keep_unmask (N := N) b _ _ hbN h1)
      obtain ⟨k', s0', s1', s2', s3', al, nl, cl, mn', mx', num', h9⟩ := nine hcr (Rd.keep (w' := wr) (fun bb o v hbb hc => (HB.out.cell (p := ⟨bb, o, none⟩) (by have := HZ0.out; omega : bb < _)).trans (keep_unmask (N := N) bb o v hbb hc)) _ _ hrd)
      have q0 := h9.c0
      have q1 := h9.c1
      have q2 := h9.c2
      have q3 := h9.c3
      have q4 := h9.c4
      have q5 := h9.c5
      have q6 := h9.c6
      have q7 := h9.c7
      have q8 := h9.c8
      have hrd9 : Rd (mask (above M0) W1) N (ts.getD j .zero) [.int .i64 k', .int .u64 s0', .int .u64 s1', .int .u64 s2', .int .u64 s3', .slice al nl cl, .int .i64 mn', .int .i64 mx', .int .i64 num'] := by
        have hcs9 : cs = [.int .i64 k', .int .u64 s0', .int .u64 s1', .int .u64 s2', .int .u64 s3', .slice al nl cl, .int .i64 mn', .int .i64 mx', .int .i64 num'] := by
          have hl9 := hrd.len
          match cs, hl9 with
          | [d0, d1, d2, d3, d4, d5, d6, d7, d8], _ =>
            have g := fun i hi => (hcr i hi).symm
            simpa [q1, q2, q3, q4, q5, q6, q7, q8, (show wr.cell? ⟨b, off + j * 9, none⟩ = _ from q0)] using And.intro (g 0 (by omega)) (And.intro (g 1 (by omega)) (And.intro (g 2 (by omega)) (And.intro (g 3 (by omega)) (And.intro (g 4 (by omega)) (And.intro (g 5 (by omega)) (And.intro (g 6 (by omega)) (And.intro (g 7 (by omega)) (g 8 (by omega)))))))))
        rw [← hcs9]
        exact hrd
      have hkk : (k' == 0) = false ∧ (k' == 2) = false := by
        have := HK.out (ts.getD j .zero) (by simp [List.getD, hlt])
        rw [← h9.eqs.1] at this
        simpa using this
      have hk0 := hkk.1
      have hk2 := hkk.2
      have HRD := Lib.hid hrd9
      obtain ⟨us, hus⟩ : ∃ us, ts.take j = us := ⟨_, rfl⟩
      have hul : us.length = j := by rw [← hus]; simp; omega
      rw [hus] at HPR
      have HTK := Lib.hid (show ts.take (j + 1) = us ++ [ts.getD j .zero] by
        rw [List.take_succ_eq_append_getElem hlt, hus]; simp [List.getD, hlt])
      have hbi : (j : Int) < (ts.length : Int) := by omega
      subst hul
      obtain ⟨av, cv, rfl, _⟩ := HPR.out.form
      have hra := Below.refl wr.heap.size wr
      have hrb := hra.alloc (Nat.le_refl _) (.cells #[.int .i64 k', .int .u64 s0', .int .u64 s1', .int .u64 s2', .int .u64 s3', .slice al nl cl, .int .i64 mn', .int .i64 mx', .int .i64 num'] 28)
      have HRB := Lib.hid hrb
      obtain ⟨css, hcl, hc9, hco, hcn⟩ := HPR.out.below hrb
      have HCL := Lib.hid hcl
      have HC9 := Lib.hid hc9
      have HCO := Lib.hid hco
      have HCN := Lib.hid hcn
      have hbr : b < wr.heap.size := Nat.lt_of_lt_of_le hbW HB.out.size
      have hsr := HB.out.size
      clear hat hor hcs hrd hcr hrd9 hkk h9 hra hrb hcl hc9 hco hcn hus hbW
      go_wp2_with (at_builtin; (refine wpList_append_lies _ rfl (.tmp 15) (.tmp 20) 23 rfl W1.heap.size 28 i0 _ 9 88 und_Ts HI.out HZI0.out HZI1.out HZI2.out rfl (by decide) _ _ css.flatten rfl HCO.out _ 1 1 [.int .i64 k', .int .u64 s0', .int .u64 s1', .int .u64 s2', .int .u64 s3', .slice al nl cl, .int .i64 mn', .int .i64 mx', .int .i64 num'] rfl rfl (news1 _ _ _) (by intro u hu; simp only [List.mem_cons, List.not_mem_nil, or_false] at hu; rcases hu with rfl | rfl | rfl | rfl | rfl | rfl | rfl | rfl | rfl <;> rfl) (by decide) (by unfold maxLen; omega) (by omega) ?hbase _ rfl ?_))
      case hbase => have h1 := HRB.out.size; omega
      intro g cap w6 hown hgrow hat6 hlt6
      have hpr6 := PartsR.appended HCL.out HC9.out rfl HCN.out (Rd.mono (by have := HRB.out.size; have := HZ0.out; omega) _ _ (Rd.masked (p' := butQ (qJ M0 w.heap.size) (Value.slice av us.length cv).ownBlock) (w' := wr.alloc _) (fun bb hbb hp => ⟨by
          simp only [above, butQ, qJ, aboveBut, Bool.and_eq_true, decide_eq_true_eq] at hp ⊢
          exact ⟨⟨hp, fun e => by injection e with e; omega⟩, fun e => by have := (HPR.out.lt bb e.symm).1; have := HZ0.out; omega⟩, (HRB.out.block bb (by have := HB.out.size; have := HZ0.out; omega)).trans (HB.out.block bb (by have := HZ0.out; omega))⟩) HRD.out)) hown hgrow (hat6.imp_right fun h => h.trans (Array.size_push _).symm)
      have hb6 : Below W1.heap.size W1 w6 := (HB.out.trans (HRB.out.mono HB.out.size)).grown hgrow (Nat.le_trans HB.out.size HRB.out.size) fun k hk => (HCO.out.lt k hk).1
      have HPR6 := Lib.hid hpr6
      have HB6 := Lib.hid hb6
      clear hpr6 hb6 hown hgrow hat6 hlt6
      go_wp2_with fail
      go_roundw
      case rel => exact ⟨us.length + 1, by omega, by go_num, by rw [HTK.out]; exact HPR6.out, HB6.out⟩
      case measure => simp [intOf]; omega
    · obtain rfl : j = ts.length := by omega
      rw [List.take_length] at HPR
      have hr := (HB.out.block w.heap.size (by have := HZ0.out; omega)).trans HR0.out
      have p0 : wr.cell? ⟨w.heap.size, 0, none⟩ = some (.int .i64 0) := cell_of hr (j := 0) rfl
      have p1 : wr.cell? ⟨w.heap.size, 1, none⟩ = some (.int .u64 0) := cell_of hr (j := 1) rfl
      have p2 : wr.cell? ⟨w.heap.size, 2, none⟩ = some (.int .u64 0) := cell_of hr (j := 2) rfl
      have p3 : wr.cell? ⟨w.heap.size, 3, none⟩ = some (.int .u64 0) := cell_of hr (j := 3) rfl
      have p4 : wr.cell? ⟨w.heap.size, 4, none⟩ = some (.int .u64 0) := cell_of hr (j := 4) rfl
      have p5 : wr.cell? ⟨w.heap.size, 5, none⟩ = some (.slice none 0 0) := cell_of hr (j := 5) rfl
      have p6 : wr.cell? ⟨w.heap.size, 6, none⟩ = some (.int .i64 0) := cell_of hr (j := 6) rfl
      have p7 : wr.cell? ⟨w.heap.size, 7, none⟩ = some (.int .i64 0) := cell_of hr (j := 7) rfl
      have p8 : wr.cell? ⟨w.heap.size, 8, none⟩ = some (.int .i64 0) := cell_of hr (j := 8) rfl
      have f0 := frozen_of_row wr w.heap.size 0 _ _ hr
      have f1 := frozen_of_row wr w.heap.size 1 _ _ hr
      have f2 := frozen_of_row wr w.heap.size 2 _ _ hr
      have f3 := frozen_of_row wr w.heap.size 3 _ _ hr
      have f4 := frozen_of_row wr w.heap.size 4 _ _ hr
      have f5 := frozen_of_row wr w.heap.size 5 _ _ hr
      have f6 := frozen_of_row wr w.heap.size 6 _ _ hr
      have f7 := frozen_of_row wr w.heap.size 7 _ _ hr
      have f8 := frozen_of_row wr w.heap.size 8 _ _ hr
      have HRB9 := Lib.hid hr
      have HBW := Lib.hid (HB0.out.trans (HB.out.mono HB0.out.size))
      have HRS := Lib.hid (HPR.out.rsl (fun b hb => by simp only [qJ, aboveBut, Bool.and_eq_true, decide_eq_true_eq]; exact ⟨by have := HZ0.out; omega, fun e => by injection e with e; have := HZ0.out; omega⟩))
      obtain ⟨av, cv, rfl, _⟩ := HPR.out.form
      clear hr HPR
      match ts with
      | [] =>
        go_wp2_with fail
        refine bodyPost_ret (v := .agg #[.int .i64 0, .int .u64 0, .int .u64 0, .int .u64 0, .int .u64 0, .slice none 0 0, .int .i64 0, .int .i64 0, .int .i64 0]) (by simp [results, Tryz.results7, go_sem, p0, p1, p2, p3, p4, p5, p6, p7, p8]) rfl ⟨_, rfl, set9 HRB9.out rfl _ _ _ _ _ _ _ _ _ HBW.out (Nat.le_refl _), rd_zero _ _⟩
      | [t] =>
        obtain ⟨a9, c9, e9, _, hor⟩ := HRS.out
        obtain ⟨b, off, rfl, hbN, hc1, hc2, hat⟩ := hor.resolve_left (by simp)
        injection e9 with e1 e2 e3
        subst e1 e3
        obtain ⟨cs, hcs, hrd⟩ := RdAt.at [t] off hat 0 (by simp)
        have hl9 := hrd.len
        have hcr : ∀ i, i < 9 → wr.cell? ⟨b, off + i, none⟩ = cs[i]? := by
          intro i hi
          have h1 := hcs i hi
          have h2 : cs[i]? = some (cs[i]'(by omega)) := List.getElem?_eq_getElem (by omega)
          rw [h2] at h1 ⊢
          have := keep_unmask (N := wr.heap.size) b _ _ hbN h1
          simpa using this
        obtain ⟨k', s0', s1', s2', s3', al, nl, cl, mn', mx', num', rfl⟩ := hrd.form
        have q0 : wr.cell? ⟨b, off, none⟩ = some (.int .i64 k') := hcr 0 (by omega)
        have q1 : wr.cell? ⟨b, off + 1, none⟩ = some (.int .u64 s0') := hcr 1 (by omega)
        have q2 : wr.cell? ⟨b, off + 2, none⟩ = some (.int .u64 s1') := hcr 2 (by omega)
        have q3 : wr.cell? ⟨b, off + 3, none⟩ = some (.int .u64 s2') := hcr 3 (by omega)
        have q4 : wr.cell? ⟨b, off + 4, none⟩ = some (.int .u64 s3') := hcr 4 (by omega)
        have q5 : wr.cell? ⟨b, off + 5, none⟩ = some (.slice al nl cl) := hcr 5 (by omega)
        have q6 : wr.cell? ⟨b, off + 6, none⟩ = some (.int .i64 mn') := hcr 6 (by omega)
        have q7 : wr.cell? ⟨b, off + 7, none⟩ = some (.int .i64 mx') := hcr 7 (by omega)
        have q8 : wr.cell? ⟨b, off + 8, none⟩ = some (.int .i64 num') := hcr 8 (by omega)
        have HRD := Lib.hid (show Rd (mask (aboveBut M0 (some w.heap.size)) wr) wr.heap.size t _ from hrd)
        clear hcs hrd hcr hat hor hl9
        go_wp2_with fail
        refine bodyPost_ret (v := .agg #[.int .i64 k', .int .u64 s0', .int .u64 s1', .int .u64 s2', .int .u64 s3', .slice al nl cl, .int .i64 mn', .int .i64 mx', .int .i64 num']) (by simp [results, Tryz.results7, go_sem, p0, p1, p2, p3, p4, p5, p6, p7, p8]) rfl ⟨_, rfl, set9 HRB9.out rfl _ _ _ _ _ _ _ _ _ HBW.out (Nat.le_refl _), HRD.out.set9 _ _ _ _ _ _ _ _ _ (Nat.le_refl _)⟩
      | t :: u :: r =>
        have hz0 : (((t :: u :: r).length : Int) == 0) = false := by rw [beq_eq_false_iff_ne]; simp; omega
        have hz1 : (((t :: u :: r).length : Int) == 1) = false := by rw [beq_eq_false_iff_ne]; simp; omega
        obtain ⟨n9, hn9⟩ : ∃ n9, (t :: u :: r).length = n9 := ⟨_, rfl⟩
        have HN9 := Lib.hid hn9
        rw [hn9] at hz0 hz1 HRS
        go_wp2_with fail
        refine bodyPost_ret (v := .agg #[.int .i64 2, .int .u64 0, .int .u64 0, .int .u64 0, .int .u64 0, .slice av n9 cv, .int .i64 0, .int .i64 0, .int .i64 0]) (by simp [results, Tryz.results7, go_sem, p0, p1, p2, p3, p4, p5, p6, p7, p8]) rfl ⟨_, rfl, set9 HRB9.out rfl _ _ _ _ _ _ _ _ _ HBW.out (Nat.le_refl _), (HRS.out.set9 _ _ _ _ _ _ _ _ _ (Nat.le_refl _)).node 2⟩

set_option maxHeartbeats 4000000 in
theorem choose_any (w : World) (M0 N : Nat) (hM0 : M0 ≤ w.heap.size) (hN : N ≤ w.heap.size) (ts : List RT) (x : Value) (hx : RSl (mask (above M0) w) N ts x) (hlen : ts.length ≤ 1000) (hk : ∀ t ∈ ts, t.kind ≠ 3) :
    Calls Tryz.prog 56 #[x] w (TPost M0 w (chooseR ts)) := by
  have hb0 : Below w.heap.size w (w.alloc (.cells #[.int .i64 0, .int .u64 0, .int .u64 0, .int .u64 0, .int .u64 0, .slice none 0 0, .int .i64 0, .int .i64 0, .int .i64 0] 28)) := (Below.refl _ _).alloc (Nat.le_refl _) _
  have HB0 := Lib.hid hb0
  have HR0 := Lib.hid (heap_alloc_new w (.cells #[.int .i64 0, .int .u64 0, .int .u64 0, .int .u64 0, .int .u64 0, .slice none 0 0, .int .i64 0, .int .i64 0, .int .i64 0] 28))
  have HZ0 := Lib.hid (show (w.alloc (.cells #[.int .i64 0, .int .u64 0, .int .u64 0, .int .u64 0, .int .u64 0, .slice none 0 0, .int .i64 0, .int .i64 0, .int .i64 0] 28)).heap.size = w.heap.size + 1 from Array.size_push _)
  have HX := Lib.hid (RSl.masked (p := above M0) (p' := above M0) (w := w) (w' := w.alloc (.cells #[.int .i64 0, .int .u64 0, .int .u64 0, .int .u64 0, .int .u64 0, .slice none 0 0, .int .i64 0, .int .i64 0, .int .i64 0] 28)) (fun b hb hp => ⟨hp, hb0.block b (by omega)⟩) hx)
  obtain ⟨a, c, rfl, hlx, _⟩ := hx
  have HK := Lib.hid hk
  obtain ⟨i0, hi, hz0, hz1, hz2⟩ := info_parts info_T
  have HI := Lib.hid hi
  have HZI0 := Lib.hid hz0
  have HZI1 := Lib.hid hz1
  have HZI2 := Lib.hid hz2
  clear hk hb0 hi hz0 hz1 hz2
  go_enter Tryz.func56, Tryz.ntmps56
  go_wp2_with fail
  generalize w.alloc (.cells #[.int .i64 0, .int .u64 0, .int .u64 0, .int .u64 0, .int .u64 0, .slice none 0 0, .int .i64 0, .int .i64 0, .int .i64 0] 28) = W1 at *
  go_loopw [3, 7] (fun v i wr => ∃ j : Nat, j ≤ ts.length ∧ i = .int .i64 j ∧ PartsR (qJ M0 w.heap.size) W1.heap.size wr v (ts.take j) ∧ Below W1.heap.size W1 wr) (fun _ i _ => ts.length - (intOf i).toNat)
  case atStart => exact ⟨0, Nat.zero_le _, rfl, PartsR.nil _ _ _, Below.refl _ _⟩
  case round =>
    obtain ⟨j, hj, rfl, hpr, hb⟩ := hrel
    have HPR := Lib.hid hpr
    have HB := Lib.hid hb
    clear hpr hb
    by_cases hlt : j < ts.length
    · obtain ⟨a', c', e', _, hor⟩ := HX.out
      obtain ⟨b, off, rfl, hbN, hc1, hc2, hat⟩ := hor.resolve_left (by intro e; rw [e] at hlt; simp at hlt)
      injection e' with e1 e2 e3
      subst e1 e3
      obtain ⟨cs, hcs, hrd⟩ := RdAt.at ts off hat j hlt
      have hbW : b < W1.heap.size := by have := HZ0.out; omega
      have hcr : ∀ i, i < 9 → wr.cell? ⟨b, off + j * 9 + i, none⟩ = cs[i]? := by
        intro i hi
        have h1 := hcs i hi
        have h9 := hrd.len
        have h2 : cs[i]? = some (cs[i]'(by omega)) := List.getElem?_eq_getElem (by omega)
        rw [h2] at h1 ⊢
        exact (HB.out.cell (p := ⟨b, off + j * 9 + i, none⟩) hbW).trans (keep_unmask (N := N) b _ _ hbN h1)
      obtain ⟨k', s0', s1', s2', s3', al, nl, cl, mn', mx', num', h9⟩ := nine hcr (Rd.keep (w' := wr) (fun bb o v hbb hc => (HB.out.cell (p := ⟨bb, o, none⟩) (by have := HZ0.out; omega : bb < _)).trans (keep_unmask (N := N) bb o v hbb hc)) _ _ hrd)
      have q0 := h9.c0
      have q1 := h9.c1
      have q2 := h9.c2
      have q3 := h9.c3
      have q4 := h9.c4
      have q5 := h9.c5
      have q6 := h9.c6
      have q7 := h9.c7
      have q8 := h9.c8
      have hrd9 : Rd (mask (above M0) W1) N (ts.getD j .zero) [.int .i64 k', .int .u64 s0', .int .u64 s1', .int .u64 s2', .int .u64 s3', .slice al nl cl, .int .i64 mn', .int .i64 mx', .int .i64 num'] := by
        have hcs9 : cs = [.int .i64 k', .int .u64 s0', .int .u64 s1', .int .u64 s2', .int .u64 s3', .slice al nl cl, .int .i64 mn', .int .i64 mx', .int .i64 num'] := by
          have hl9 := hrd.len
          match cs, hl9 with
          | [d0, d1, d2, d3, d4, d5, d6, d7, d8], _ =>
            have g := fun i hi => (hcr i hi).symm
            simpa [q1, q2, q3, q4, q5, q6, q7, q8, (show wr.cell? ⟨b, off + j * 9, none⟩ = _ from q0)] using And.intro (g 0 (by omega)) (And.intro (g 1 (by omega)) (And.intro (g 2 (by omega)) (And.intro (g 3 (by omega)) (And.intro (g 4 (by omega)) (And.intro (g 5 (by omega)) (And.intro (g 6 (by omega)) (And.intro (g 7 (by omega)) (g 8 (by omega)))))))))
        rw [← hcs9]
        exact hrd
      have hkk : (k' == 3) = false := by
        have := HK.out (ts.getD j .zero) (by simp [List.getD, hlt])
        rw [← h9.eqs.1] at this
        simpa using this
      have hk3 := hkk
      have HRD := Lib.hid hrd9
      obtain ⟨us, hus⟩ : ∃ us, ts.take j = us := ⟨_, rfl⟩
      have hul : us.length = j := by rw [← hus]; simp; omega
      rw [hus] at HPR
      have HTK := Lib.hid (show ts.take (j + 1) = us ++ [ts.getD j .zero] by
        rw [List.take_succ_eq_append_getElem hlt, hus]; simp [List.getD, hlt])
      have hbi : (j : Int) < (ts.length : Int) := by omega
      subst hul
      obtain ⟨av, cv, rfl, _⟩ := HPR.out.form
      have hra := Below.refl wr.heap.size wr
      have hrb := hra.alloc (Nat.le_refl _) (.cells #[.int .i64 k', .int .u64 s0', .int .u64 s1', .int .u64 s2', .int .u64 s3', .slice al nl cl, .int .i64 mn', .int .i64 mx', .int .i64 num'] 28)
      have HRB := Lib.hid hrb
      obtain ⟨css, hcl, hc9, hco, hcn⟩ := HPR.out.below hrb
      have HCL := Lib.hid hcl
      have HC9 := Lib.hid hc9
      have HCO := Lib.hid hco
      have HCN := Lib.hid hcn
      have hbr : b < wr.heap.size := Nat.lt_of_lt_of_le hbW HB.out.size
      have hsr := HB.out.size
      clear hat hor hcs hrd hcr hrd9 hkk h9 hra hrb hcl hc9 hco hcn hus hbW
      go_wp2_with (at_builtin; (refine wpList_append_lies _ rfl (.tmp 23) (.tmp 28) 23 rfl W1.heap.size 28 i0 _ 9 88 und_Ts HI.out HZI0.out HZI1.out HZI2.out rfl (by decide) _ _ css.flatten rfl HCO.out _ 1 1 [.int .i64 k', .int .u64 s0', .int .u64 s1', .int .u64 s2', .int .u64 s3', .slice al nl cl, .int .i64 mn', .int .i64 mx', .int .i64 num'] rfl rfl (news1 _ _ _) (by intro u hu; simp only [List.mem_cons, List.not_mem_nil, or_false] at hu; rcases hu with rfl | rfl | rfl | rfl | rfl | rfl | rfl | rfl | rfl <;> rfl) (by decide) (by unfold maxLen; omega) (by omega) ?hbase _ rfl ?_))
      case hbase => have h1 := HRB.out.size; omega
      intro g cap w6 hown hgrow hat6 hlt6
      have hpr6 := PartsR.appended HCL.out HC9.out rfl HCN.out (Rd.mono (by have := HRB.out.size; have := HZ0.out; omega) _ _ (Rd.masked (p' := butQ (qJ M0 w.heap.size) (Value.slice av us.length cv).ownBlock) (w' := wr.alloc _) (fun bb hbb hp => ⟨by
          simp only [above, butQ, qJ, aboveBut, Bool.and_eq_true, decide_eq_true_eq] at hp ⊢
          exact ⟨⟨hp, fun e => by injection e with e; omega⟩, fun e => by have := (HPR.out.lt bb e.symm).1; have := HZ0.out; omega⟩, (HRB.out.block bb (by have := HB.out.size; have := HZ0.out; omega)).trans (HB.out.block bb (by have := HZ0.out; omega))⟩) HRD.out)) hown hgrow (hat6.imp_right fun h => h.trans (Array.size_push _).symm)
      have hb6 : Below W1.heap.size W1 w6 := (HB.out.trans (HRB.out.mono HB.out.size)).grown hgrow (Nat.le_trans HB.out.size HRB.out.size) fun k hk => (HCO.out.lt k hk).1
      have HPR6 := Lib.hid hpr6
      have HB6 := Lib.hid hb6
      clear hpr6 hb6 hown hgrow hat6 hlt6
      go_wp2_with fail
      go_roundw
      case rel => exact ⟨us.length + 1, by omega, by go_num, by rw [HTK.out]; exact HPR6.out, HB6.out⟩
      case measure => simp [intOf]; omega
    · obtain rfl : j = ts.length := by omega
      rw [List.take_length] at HPR
      have hr := (HB.out.block w.heap.size (by have := HZ0.out; omega)).trans HR0.out
      have p0 : wr.cell? ⟨w.heap.size, 0, none⟩ = some (.int .i64 0) := cell_of hr (j := 0) rfl
      have p1 : wr.cell? ⟨w.heap.size, 1, none⟩ = some (.int .u64 0) := cell_of hr (j := 1) rfl
      have p2 : wr.cell? ⟨w.heap.size, 2, none⟩ = some (.int .u64 0) := cell_of hr (j := 2) rfl
      have p3 : wr.cell? ⟨w.heap.size, 3, none⟩ = some (.int .u64 0) := cell_of hr (j := 3) rfl
      have p4 : wr.cell? ⟨w.heap.size, 4, none⟩ = some (.int .u64 0) := cell_of hr (j := 4) rfl
      have p5 : wr.cell? ⟨w.heap.size, 5, none⟩ = some (.slice none 0 0) := cell_of hr (j := 5) rfl
      have p6 : wr.cell? ⟨w.heap.size, 6, none⟩ = some (.int .i64 0) := cell_of hr (j := 6) rfl
      have p7 : wr.cell? ⟨w.heap.size, 7, none⟩ = some (.int .i64 0) := cell_of hr (j := 7) rfl
      have p8 : wr.cell? ⟨w.heap.size, 8, none⟩ = some (.int .i64 0) := cell_of hr (j := 8) rfl
      have f0 := frozen_of_row wr w.heap.size 0 _ _ hr
      have f1 := frozen_of_row wr w.heap.size 1 _ _ hr
      have f2 := frozen_of_row wr w.heap.size 2 _ _ hr
      have f3 := frozen_of_row wr w.heap.size 3 _ _ hr
      have f4 := frozen_of_row wr w.heap.size 4 _ _ hr
      have f5 := frozen_of_row wr w.heap.size 5 _ _ hr
      have f6 := frozen_of_row wr w.heap.size 6 _ _ hr
      have f7 := frozen_of_row wr w.heap.size 7 _ _ hr
      have f8 := frozen_of_row wr w.heap.size 8 _ _ hr
      have HRB9 := Lib.hid hr
      have HBW := Lib.hid (HB0.out.trans (HB.out.mono HB0.out.size))
      have HRS := Lib.hid (HPR.out.rsl (fun b hb => by simp only [qJ, aboveBut, Bool.and_eq_true, decide_eq_true_eq]; exact ⟨by have := HZ0.out; omega, fun e => by injection e with e; have := HZ0.out; omega⟩))
      obtain ⟨av, cv, rfl, _⟩ := HPR.out.form
      clear hr HPR
      match ts with
      | [] =>
        go_wp2_with fail
        refine bodyPost_ret (v := .agg #[.int .i64 0, .int .u64 0, .int .u64 0, .int .u64 0, .int .u64 0, .slice none 0 0, .int .i64 0, .int .i64 0, .int .i64 0]) (by simp [results, Tryz.results56, go_sem, p0, p1, p2, p3, p4, p5, p6, p7, p8]) rfl ⟨_, rfl, set9 HRB9.out rfl _ _ _ _ _ _ _ _ _ HBW.out (Nat.le_refl _), rd_zero _ _⟩
      | [t] =>
        obtain ⟨a9, c9, e9, _, hor⟩ := HRS.out
        obtain ⟨b, off, rfl, hbN, hc1, hc2, hat⟩ := hor.resolve_left (by simp)
        injection e9 with e1 e2 e3
        subst e1 e3
        obtain ⟨cs, hcs, hrd⟩ := RdAt.at [t] off hat 0 (by simp)
        have hl9 := hrd.len
        have hcr : ∀ i, i < 9 → wr.cell? ⟨b, off + i, none⟩ = cs[i]? := by
          intro i hi
          have h1 := hcs i hi
          have h2 : cs[i]? = some (cs[i]'(by omega)) := List.getElem?_eq_getElem (by omega)
          rw [h2] at h1 ⊢
          have := keep_unmask (N := wr.heap.size) b _ _ hbN h1
          simpa using this
        obtain ⟨k', s0', s1', s2', s3', al, nl, cl, mn', mx', num', rfl⟩ := hrd.form
        have q0 : wr.cell? ⟨b, off, none⟩ = some (.int .i64 k') := hcr 0 (by omega)
        have q1 : wr.cell? ⟨b, off + 1, none⟩ = some (.int .u64 s0') := hcr 1 (by omega)
        have q2 : wr.cell? ⟨b, off + 2, none⟩ = some (.int .u64 s1') := hcr 2 (by omega)
        have q3 : wr.cell? ⟨b, off + 3, none⟩ = some (.int .u64 s2') := hcr 3 (by omega)
        have q4 : wr.cell? ⟨b, off + 4, none⟩ = some (.int .u64 s3') := hcr 4 (by omega)
        have q5 : wr.cell? ⟨b, off + 5, none⟩ = some (.slice al nl cl) := hcr 5 (by omega)
        have q6 : wr.cell? ⟨b, off + 6, none⟩ = some (.int .i64 mn') := hcr 6 (by omega)
        have q7 : wr.cell? ⟨b, off + 7, none⟩ = some (.int .i64 mx') := hcr 7 (by omega)
        have q8 : wr.cell? ⟨b, off + 8, none⟩ = some (.int .i64 num') := hcr 8 (by omega)
        have HRD := Lib.hid (show Rd (mask (aboveBut M0 (some w.heap.size)) wr) wr.heap.size t _ from hrd)
        clear hcs hrd hcr hat hor hl9
        go_wp2_with fail
        refine bodyPost_ret (v := .agg #[.int .i64 k', .int .u64 s0', .int .u64 s1', .int .u64 s2', .int .u64 s3', .slice al nl cl, .int .i64 mn', .int .i64 mx', .int .i64 num']) (by simp [results, Tryz.results56, go_sem, p0, p1, p2, p3, p4, p5, p6, p7, p8]) rfl ⟨_, rfl, set9 HRB9.out rfl _ _ _ _ _ _ _ _ _ HBW.out (Nat.le_refl _), HRD.out.set9 _ _ _ _ _ _ _ _ _ (Nat.le_refl _)⟩
      | t :: u :: r =>
        have hz0 : (((t :: u :: r).length : Int) == 0) = false := by rw [beq_eq_false_iff_ne]; simp; omega
        have hz1 : (((t :: u :: r).length : Int) == 1) = false := by rw [beq_eq_false_iff_ne]; simp; omega
        obtain ⟨n9, hn9⟩ : ∃ n9, (t :: u :: r).length = n9 := ⟨_, rfl⟩
        have HN9 := Lib.hid hn9
        rw [hn9] at hz0 hz1 HRS
        go_wp2_with fail
        refine bodyPost_ret (v := .agg #[.int .i64 3, .int .u64 0, .int .u64 0, .int .u64 0, .int .u64 0, .slice av n9 cv, .int .i64 0, .int .i64 0, .int .i64 0]) (by simp [results, Tryz.results56, go_sem, p0, p1, p2, p3, p4, p5, p6, p7, p8]) rfl ⟨_, rfl, set9 HRB9.out rfl _ _ _ _ _ _ _ _ _ HBW.out (Nat.le_refl _), (HRS.out.set9 _ _ _ _ _ _ _ _ _ (Nat.le_refl _)).node 3⟩
end Go.Proofs.YtkaoegdfgoojdaaGreatDoor
