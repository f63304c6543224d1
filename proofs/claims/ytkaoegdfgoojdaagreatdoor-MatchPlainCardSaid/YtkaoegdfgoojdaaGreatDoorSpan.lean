/- With, Span, Byte of the reference: the walks (seat 2). -/
import Derived.Test.YtkaoegdfgoojdaaGreatDoorMade
namespace Go.Proofs.YtkaoegdfgoojdaaGreatDoor
open Go Go.RowKit
set_option maxRecDepth 100000

def zeroS : Value := .agg #[.int .u64 0, .int .u64 0, .int .u64 0, .int .u64 0]
def byteS (c : Nat) : Value := .agg #[.int .u64 (byteI c).s0, .int .u64 (byteI c).s1, .int .u64 (byteI c).s2, .int .u64 (byteI c).s3]

theorem or_pow (r : Nat) (hr : r < 64) : bits BinOp.or IntKind.u64 0 (IntKind.u64.wrap (2 ^ r)) = 2 ^ r := by
  have h : ∀ r : Fin 64, bits BinOp.or IntKind.u64 0 (IntKind.u64.wrap (2 ^ r.val)) = 2 ^ r.val := by decide +kernel
  exact h ⟨r, hr⟩

set_option maxHeartbeats 1600000 in
theorem with_any (w : World) (c : Nat) (hc : c < 256) :
    Calls Tryz.prog 20 #[.agg #[.int .u64 0, .int .u64 0, .int .u64 0, .int .u64 0], .int .u8 (c : Int)] w (Says w (byteS c)) := by
  obtain ⟨q, hq⟩ : ∃ q, c / 64 = q := ⟨_, rfl⟩
  obtain ⟨r, hr⟩ : ∃ r, c % 64 = r := ⟨_, rfl⟩
  have hr64 : r < 64 := by omega
  have hv := or_pow r hr64
  have e1 : (c : Int) / 64 = (q : Int) := by omega
  have e2 : (c : Int) % 64 = (r : Int) := by omega
  have hq' : q = 0 ∨ q = 1 ∨ q = 2 ∨ q = 3 := by omega
  have HQ := Lib.hid hq
  have HR := Lib.hid hr
  clear hq hr
  rcases hq' with rfl | rfl | rfl | rfl
  · have HV := Lib.hid (show byteS c = .agg #[.int .u64 (2 ^ r), .int .u64 0, .int .u64 0, .int .u64 0] by simp [byteS, byteI, HQ.out, HR.out])
    go_enter Tryz.func20, Tryz.ntmps20
    go_wp2_with fail
    rw [HV.out]
    exact bodyPost_ret (v := .agg #[.int .u64 (2 ^ r), .int .u64 0, .int .u64 0, .int .u64 0]) (by simp [results, Tryz.results20, go_sem]) rfl ⟨rfl, ((Below.refl _ _).alloc (Nat.le_refl _) _).alloc (by simp) _⟩
  · have HV := Lib.hid (show byteS c = .agg #[.int .u64 0, .int .u64 (2 ^ r), .int .u64 0, .int .u64 0] by simp [byteS, byteI, HQ.out, HR.out])
    go_enter Tryz.func20, Tryz.ntmps20
    go_wp2_with fail
    rw [HV.out]
    exact bodyPost_ret (v := .agg #[.int .u64 0, .int .u64 (2 ^ r), .int .u64 0, .int .u64 0]) (by simp [results, Tryz.results20, go_sem]) rfl ⟨rfl, ((Below.refl _ _).alloc (Nat.le_refl _) _).alloc (by simp) _⟩
  · have HV := Lib.hid (show byteS c = .agg #[.int .u64 0, .int .u64 0, .int .u64 (2 ^ r), .int .u64 0] by simp [byteS, byteI, HQ.out, HR.out])
    go_enter Tryz.func20, Tryz.ntmps20
    go_wp2_with fail
    rw [HV.out]
    exact bodyPost_ret (v := .agg #[.int .u64 0, .int .u64 0, .int .u64 (2 ^ r), .int .u64 0]) (by simp [results, Tryz.results20, go_sem]) rfl ⟨rfl, ((Below.refl _ _).alloc (Nat.le_refl _) _).alloc (by simp) _⟩
  · have HV := Lib.hid (show byteS c = .agg #[.int .u64 0, .int .u64 0, .int .u64 0, .int .u64 (2 ^ r)] by simp [byteS, byteI, HQ.out, HR.out])
    go_enter Tryz.func20, Tryz.ntmps20
    go_wp2_with fail
    rw [HV.out]
    exact bodyPost_ret (v := .agg #[.int .u64 0, .int .u64 0, .int .u64 0, .int .u64 (2 ^ r)]) (by simp [results, Tryz.results20, go_sem]) rfl ⟨rfl, ((Below.refl _ _).alloc (Nat.le_refl _) _).alloc (by simp) _⟩

theorem set4 {w : World} {B : Nat} {a b c d : Value} {t : TypeId} (h : w.heap[B]? = some (.cells #[a, b, c, d] t (0, 0))) (x0 x1 x2 x3 : Value) :
    ((((w.setCell ⟨B, 0, none⟩ x0).setCell ⟨B, 1, none⟩ x1).setCell ⟨B, 2, none⟩ x2).setCell ⟨B, 3, none⟩ x3).heap[B]? = some (.cells #[x0, x1, x2, x3] t (0, 0)) ∧
    ∀ k, k ≠ B → ((((w.setCell ⟨B, 0, none⟩ x0).setCell ⟨B, 1, none⟩ x1).setCell ⟨B, 2, none⟩ x2).setCell ⟨B, 3, none⟩ x3).heap[k]? = w.heap[k]? := by
  have h0 := heap_setCell_same w B 0 _ _ x0 h
  have h1 := heap_setCell_same _ B 1 _ _ x1 h0
  have h2 := heap_setCell_same _ B 2 _ _ x2 h1
  have h3 := heap_setCell_same _ B 3 _ _ x3 h2
  exact ⟨h3, fun k hk => (Below.heap_setCell _ _ _ _ hk).trans ((Below.heap_setCell _ _ _ _ hk).trans ((Below.heap_setCell _ _ _ _ hk).trans (Below.heap_setCell _ _ _ _ hk)))⟩

def SpRel (w : World) (c : Nat) (v : Value) (wr : World) : Prop :=
  ((v = .int .i64 c ∧ wr.heap[w.heap.size + 1]? = some (.cells #[.int .u64 0, .int .u64 0, .int .u64 0, .int .u64 0] 26 (0, 0))) ∨
   (v = .int .i64 (c + 1) ∧ wr.heap[w.heap.size + 1]? = some (.cells #[.int .u64 (byteI c).s0, .int .u64 (byteI c).s1, .int .u64 (byteI c).s2, .int .u64 (byteI c).s3] 26 (0, 0)))) ∧
  wr.heap[w.heap.size]? = some (.cells #[.int .u64 0, .int .u64 0, .int .u64 0, .int .u64 0] 26 (0, 0)) ∧ Below w.heap.size w wr

set_option maxHeartbeats 1600000 in
theorem span_any (w : World) (c : Nat) (hc : c < 256) :
    Calls Tryz.prog 13 #[.int .u8 (c : Int), .int .u8 (c : Int)] w (Says w (byteS c)) := by
  have HW := Lib.hid (fun w' => with_any w' c hc)
  have e1 : IntKind.i64.wrap (c : Int) = (c : Int) := IntWalk.i64_in _ (by omega)
  have e2 : IntKind.u8.wrap (c : Int) = (c : Int) := IntWalk.u8_in _ (by omega)
  have e3 : IntKind.i64.wrap ((c : Int) + 1) = (c : Int) + 1 := IntWalk.i64_in _ (by omega)
  go_enter Tryz.func13, Tryz.ntmps13
  go_wp2_with fail
  have hz : (w.alloc (.cells #[.int .u64 0, .int .u64 0, .int .u64 0, .int .u64 0] 26)).heap.size = w.heap.size + 1 := Array.size_push _
  have hB : Below w.heap.size w ((w.alloc (.cells #[.int .u64 0, .int .u64 0, .int .u64 0, .int .u64 0] 26)).alloc (.cells #[.int .u64 0, .int .u64 0, .int .u64 0, .int .u64 0] 26)) :=
    ((Below.refl _ _).alloc (Nat.le_refl _) _).alloc (by rw [hz]; omega) _
  have h0 : SpRel w c (.int .i64 c) ((w.alloc (.cells #[.int .u64 0, .int .u64 0, .int .u64 0, .int .u64 0] 26)).alloc (.cells #[.int .u64 0, .int .u64 0, .int .u64 0, .int .u64 0] 26)) := by
    refine ⟨.inl ⟨rfl, ?_⟩, ?_, hB⟩
    · have h := heap_alloc_new (w.alloc (.cells #[.int .u64 0, .int .u64 0, .int .u64 0, .int .u64 0] 26)) (.cells #[.int .u64 0, .int .u64 0, .int .u64 0, .int .u64 0] 26)
      rw [hz] at h
      exact h
    · rw [Below.heap_alloc _ _ _ (by rw [hz]; omega)]; exact heap_alloc_new w _
  have H0 := Lib.hid h0
  clear hz hB h0
  generalize ((w.alloc (.cells #[.int .u64 0, .int .u64 0, .int .u64 0, .int .u64 0] 26)).alloc (.cells #[.int .u64 0, .int .u64 0, .int .u64 0, .int .u64 0] 26)) = W0 at *
  go_loopw [6] (fun v wr => SpRel w c v wr) (fun v _ => c + 1 - (intOf v).toNat)
  case atStart => exact H0.out
  case round =>
    obtain ⟨hor, h2, hb⟩ := hrel
    have H2 := Lib.hid h2
    have HB := Lib.hid hb
    have hz2 : w.heap.size < wr.heap.size := (Array.getElem?_eq_some_iff.1 h2).1
    rcases hor with ⟨rfl, h1⟩ | ⟨rfl, h1⟩
    · have p0 : wr.cell? ⟨w.heap.size + 1, 0, none⟩ = some (.int .u64 0) := cell_of h1 (j := 0) rfl
      have p1 : wr.cell? ⟨w.heap.size + 1, 1, none⟩ = some (.int .u64 0) := cell_of h1 (j := 1) rfl
      have p2 : wr.cell? ⟨w.heap.size + 1, 2, none⟩ = some (.int .u64 0) := cell_of h1 (j := 2) rfl
      have p3 : wr.cell? ⟨w.heap.size + 1, 3, none⟩ = some (.int .u64 0) := cell_of h1 (j := 3) rfl
      have H1 := Lib.hid h1
      have hz1 : w.heap.size + 1 < wr.heap.size := (Array.getElem?_eq_some_iff.1 h1).1
      clear h1 h2 hb
      go_wp2_with fail
      refine (HW.out wr).mono ?_
      rintro e w4 ⟨rfl, hb4⟩
      have H14 := (hb4.block _ hz1).trans H1.out
      have H24 := Lib.hid ((hb4.block _ hz2).trans H2.out)
      have HB4 := Lib.hid (HB.out.trans (hb4.mono HB.out.size))
      have q0 : w4.cell? ⟨w.heap.size + 1, 0, none⟩ = some (.int .u64 0) := cell_of H14 (j := 0) rfl
      have q1 : w4.cell? ⟨w.heap.size + 1, 1, none⟩ = some (.int .u64 0) := cell_of H14 (j := 1) rfl
      have q2 : w4.cell? ⟨w.heap.size + 1, 2, none⟩ = some (.int .u64 0) := cell_of H14 (j := 2) rfl
      have q3 : w4.cell? ⟨w.heap.size + 1, 3, none⟩ = some (.int .u64 0) := cell_of H14 (j := 3) rfl
      have f0 := frozen_of_row w4 (w.heap.size + 1) 0 _ _ H14
      have f1 := frozen_of_row w4 (w.heap.size + 1) 1 _ _ H14
      have f2 := frozen_of_row w4 (w.heap.size + 1) 2 _ _ H14
      have f3 := frozen_of_row w4 (w.heap.size + 1) 3 _ _ H14
      have H14' := Lib.hid H14
      clear hb4 H14 p0 p1 p2 p3
      unfold byteS
      go_wp2_with fail
      go_roundw
      case rel =>
        obtain ⟨k1, k2⟩ := set4 H14'.out (.int .u64 (byteI c).s0) (.int .u64 (byteI c).s1) (.int .u64 (byteI c).s2) (.int .u64 (byteI c).s3)
        exact ⟨.inr ⟨rfl, k1⟩, (k2 _ (by omega)).trans H24.out, (((HB4.out.setCell (Nat.le_succ _) _).setCell (Nat.le_succ _) _).setCell (Nat.le_succ _) _).setCell (Nat.le_succ _) _⟩
      case measure => simp [intOf]
    · have p0 := cell_of h1 (j := 0) (u := .int .u64 (byteI c).s0) rfl
      have p1 := cell_of h1 (j := 1) (u := .int .u64 (byteI c).s1) rfl
      have p2 := cell_of h1 (j := 2) (u := .int .u64 (byteI c).s2) rfl
      have p3 := cell_of h1 (j := 3) (u := .int .u64 (byteI c).s3) rfl
      have s0 := cell_of h2 (j := 0) (u := .int .u64 0) rfl
      have s1 := cell_of h2 (j := 1) (u := .int .u64 0) rfl
      have s2 := cell_of h2 (j := 2) (u := .int .u64 0) rfl
      have s3 := cell_of h2 (j := 3) (u := .int .u64 0) rfl
      have f0 := frozen_of_row wr w.heap.size 0 _ _ h2
      have f1 := frozen_of_row wr w.heap.size 1 _ _ h2
      have f2 := frozen_of_row wr w.heap.size 2 _ _ h2
      have f3 := frozen_of_row wr w.heap.size 3 _ _ h2
      have ng : ¬ ((c : Int) + 1 ≤ (c : Int)) := by omega
      clear h1 h2 hb
      go_wp2_with fail
      refine bodyPost_ret (v := byteS c) (by simp [byteS, results, Tryz.results13, go_sem, s0, s1, s2, s3]) rfl ⟨rfl, (((HB.out.setCell (Nat.le_refl _) _).setCell (Nat.le_refl _) _).setCell (Nat.le_refl _) _).setCell (Nat.le_refl _) _⟩
end Go.Proofs.YtkaoegdfgoojdaaGreatDoor
