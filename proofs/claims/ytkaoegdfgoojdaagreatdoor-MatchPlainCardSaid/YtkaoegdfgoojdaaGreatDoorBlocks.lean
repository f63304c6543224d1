/- Blocks that a call makes, and stores of a whole struct into one (seat 2; printed by parse.py). -/
import Derived.Test.YtkaoegdfgoojdaaGreatDoorSign
namespace Go.Proofs.YtkaoegdfgoojdaaGreatDoor
open Go Go.RowKit
set_option maxRecDepth 100000

theorem toList_one (c : UInt8) : (ByteArray.mk #[c]).toList = [c] := ByteArray.toList_eq _
theorem toList_none : (ByteArray.mk #[]).toList = [] := ByteArray.toList_eq _

theorem alloc2 (w : World) (o1 o2 : Obj) : Below w.heap.size w ((w.alloc o1).alloc o2) ∧ ((w.alloc o1).alloc o2).heap.size = w.heap.size + 2 ∧ ((w.alloc o1).alloc o2).heap[w.heap.size]? = some o1 ∧ ((w.alloc o1).alloc o2).heap[w.heap.size + 1]? = some o2 := by
  have s1 : (w.alloc o1).heap.size = w.heap.size + 1 := Array.size_push _
  have s2 : ((w.alloc o1).alloc o2).heap.size = (w.alloc o1).heap.size + 1 := Array.size_push _
  have b1 : Below w.heap.size w (w.alloc o1) := (Below.refl _ _).alloc (Nat.le_refl _) _
  have b2 : Below (w.alloc o1).heap.size (w.alloc o1) ((w.alloc o1).alloc o2) := (Below.refl _ _).alloc (Nat.le_refl _) _
  refine ⟨b1.trans (b2.mono (by omega)), by omega, (b2.block _ (by omega)).trans (heap_alloc_new w o1), ?_⟩
  have := heap_alloc_new (w.alloc o1) o2
  rw [s1] at this
  exact this
theorem alloc3 (w : World) (o1 o2 o3 : Obj) : Below w.heap.size w (((w.alloc o1).alloc o2).alloc o3) ∧ (((w.alloc o1).alloc o2).alloc o3).heap.size = w.heap.size + 3 ∧ (((w.alloc o1).alloc o2).alloc o3).heap[w.heap.size]? = some o1 ∧
    (((w.alloc o1).alloc o2).alloc o3).heap[w.heap.size + 1]? = some o2 ∧ (((w.alloc o1).alloc o2).alloc o3).heap[w.heap.size + 1 + 1]? = some o3 := by
  obtain ⟨h1, h2, h3, h4⟩ := alloc2 w o1 o2
  have s3 : (((w.alloc o1).alloc o2).alloc o3).heap.size = ((w.alloc o1).alloc o2).heap.size + 1 := Array.size_push _
  have b3 : Below ((w.alloc o1).alloc o2).heap.size ((w.alloc o1).alloc o2) (((w.alloc o1).alloc o2).alloc o3) := (Below.refl _ _).alloc (Nat.le_refl _) _
  refine ⟨h1.trans (b3.mono (by omega)), by omega, (b3.block _ (by omega)).trans h3, (b3.block _ (by omega)).trans h4, ?_⟩
  have := heap_alloc_new ((w.alloc o1).alloc o2) o3
  rw [h2] at this
  exact this
theorem alloc4 (w : World) (o1 o2 o3 o4 : Obj) : Below w.heap.size w ((((w.alloc o1).alloc o2).alloc o3).alloc o4) ∧ ((((w.alloc o1).alloc o2).alloc o3).alloc o4).heap.size = w.heap.size + 4 ∧ ((((w.alloc o1).alloc o2).alloc o3).alloc o4).heap[w.heap.size]? = some o1 ∧
    ((((w.alloc o1).alloc o2).alloc o3).alloc o4).heap[w.heap.size + 1]? = some o2 ∧ ((((w.alloc o1).alloc o2).alloc o3).alloc o4).heap[w.heap.size + 1 + 1]? = some o3 ∧ ((((w.alloc o1).alloc o2).alloc o3).alloc o4).heap[w.heap.size + 1 + 1 + 1]? = some o4 := by
  obtain ⟨h1, h2, h3, h4, h5⟩ := alloc3 w o1 o2 o3
  have s3 : ((((w.alloc o1).alloc o2).alloc o3).alloc o4).heap.size = (((w.alloc o1).alloc o2).alloc o3).heap.size + 1 := Array.size_push _
  have b3 : Below (((w.alloc o1).alloc o2).alloc o3).heap.size (((w.alloc o1).alloc o2).alloc o3) ((((w.alloc o1).alloc o2).alloc o3).alloc o4) := (Below.refl _ _).alloc (Nat.le_refl _) _
  refine ⟨h1.trans (b3.mono (by omega)), by omega, (b3.block _ (by omega)).trans h3, (b3.block _ (by omega)).trans h4, (b3.block _ (by omega)).trans h5, ?_⟩
  have := heap_alloc_new (((w.alloc o1).alloc o2).alloc o3) o4
  rw [h2] at this
  exact this
set_option maxHeartbeats 2000000 in
theorem put8 {w : World} {B : Nat} {a0 a1 a2 a3 a4 a5 a6 a7 : Value} {t : TypeId} (h : w.heap[B]? = some (.cells #[a0, a1, a2, a3, a4, a5, a6, a7] t (0, 0))) (x0 x1 x2 x3 x4 x5 x6 x7 : Value) :
    ((((((((w.setCell ⟨B, 0, none⟩ x0).setCell ⟨B, 1, none⟩ x1).setCell ⟨B, 2, none⟩ x2).setCell ⟨B, 3, none⟩ x3).setCell ⟨B, 4, none⟩ x4).setCell ⟨B, 5, none⟩ x5).setCell ⟨B, 6, none⟩ x6).setCell ⟨B, 7, none⟩ x7).heap[B]? = some (.cells #[x0, x1, x2, x3, x4, x5, x6, x7] t (0, 0)) ∧ (∀ k, k ≠ B → ((((((((w.setCell ⟨B, 0, none⟩ x0).setCell ⟨B, 1, none⟩ x1).setCell ⟨B, 2, none⟩ x2).setCell ⟨B, 3, none⟩ x3).setCell ⟨B, 4, none⟩ x4).setCell ⟨B, 5, none⟩ x5).setCell ⟨B, 6, none⟩ x6).setCell ⟨B, 7, none⟩ x7).heap[k]? = w.heap[k]?) ∧ ∀ N w0, Below N w0 w → N ≤ B → Below N w0 ((((((((w.setCell ⟨B, 0, none⟩ x0).setCell ⟨B, 1, none⟩ x1).setCell ⟨B, 2, none⟩ x2).setCell ⟨B, 3, none⟩ x3).setCell ⟨B, 4, none⟩ x4).setCell ⟨B, 5, none⟩ x5).setCell ⟨B, 6, none⟩ x6).setCell ⟨B, 7, none⟩ x7) := by
  have h0 : (w.setCell ⟨B, 0, none⟩ x0).heap[B]? = some (.cells #[x0, a1, a2, a3, a4, a5, a6, a7] t (0, 0)) := heap_setCell_same _ B 0 _ _ x0 h
  have h1 : ((w.setCell ⟨B, 0, none⟩ x0).setCell ⟨B, 1, none⟩ x1).heap[B]? = some (.cells #[x0, x1, a2, a3, a4, a5, a6, a7] t (0, 0)) := heap_setCell_same _ B 1 _ _ x1 h0
  have h2 : (((w.setCell ⟨B, 0, none⟩ x0).setCell ⟨B, 1, none⟩ x1).setCell ⟨B, 2, none⟩ x2).heap[B]? = some (.cells #[x0, x1, x2, a3, a4, a5, a6, a7] t (0, 0)) := heap_setCell_same _ B 2 _ _ x2 h1
  have h3 : ((((w.setCell ⟨B, 0, none⟩ x0).setCell ⟨B, 1, none⟩ x1).setCell ⟨B, 2, none⟩ x2).setCell ⟨B, 3, none⟩ x3).heap[B]? = some (.cells #[x0, x1, x2, x3, a4, a5, a6, a7] t (0, 0)) := heap_setCell_same _ B 3 _ _ x3 h2
  have h4 : (((((w.setCell ⟨B, 0, none⟩ x0).setCell ⟨B, 1, none⟩ x1).setCell ⟨B, 2, none⟩ x2).setCell ⟨B, 3, none⟩ x3).setCell ⟨B, 4, none⟩ x4).heap[B]? = some (.cells #[x0, x1, x2, x3, x4, a5, a6, a7] t (0, 0)) := heap_setCell_same _ B 4 _ _ x4 h3
  have h5 : ((((((w.setCell ⟨B, 0, none⟩ x0).setCell ⟨B, 1, none⟩ x1).setCell ⟨B, 2, none⟩ x2).setCell ⟨B, 3, none⟩ x3).setCell ⟨B, 4, none⟩ x4).setCell ⟨B, 5, none⟩ x5).heap[B]? = some (.cells #[x0, x1, x2, x3, x4, x5, a6, a7] t (0, 0)) := heap_setCell_same _ B 5 _ _ x5 h4
  have h6 : (((((((w.setCell ⟨B, 0, none⟩ x0).setCell ⟨B, 1, none⟩ x1).setCell ⟨B, 2, none⟩ x2).setCell ⟨B, 3, none⟩ x3).setCell ⟨B, 4, none⟩ x4).setCell ⟨B, 5, none⟩ x5).setCell ⟨B, 6, none⟩ x6).heap[B]? = some (.cells #[x0, x1, x2, x3, x4, x5, x6, a7] t (0, 0)) := heap_setCell_same _ B 6 _ _ x6 h5
  have h7 : ((((((((w.setCell ⟨B, 0, none⟩ x0).setCell ⟨B, 1, none⟩ x1).setCell ⟨B, 2, none⟩ x2).setCell ⟨B, 3, none⟩ x3).setCell ⟨B, 4, none⟩ x4).setCell ⟨B, 5, none⟩ x5).setCell ⟨B, 6, none⟩ x6).setCell ⟨B, 7, none⟩ x7).heap[B]? = some (.cells #[x0, x1, x2, x3, x4, x5, x6, x7] t (0, 0)) := heap_setCell_same _ B 7 _ _ x7 h6
  exact ⟨h7, fun k hk => (Below.heap_setCell _ _ _ _ hk).trans ((Below.heap_setCell _ _ _ _ hk).trans ((Below.heap_setCell _ _ _ _ hk).trans ((Below.heap_setCell _ _ _ _ hk).trans ((Below.heap_setCell _ _ _ _ hk).trans ((Below.heap_setCell _ _ _ _ hk).trans ((Below.heap_setCell _ _ _ _ hk).trans (Below.heap_setCell _ _ _ _ hk))))))), fun N w0 hb hN => ((((((((hb.setCell hN _).setCell hN _).setCell hN _).setCell hN _).setCell hN _).setCell hN _).setCell hN _).setCell hN _)⟩
set_option maxHeartbeats 2000000 in
theorem put9 {w : World} {B : Nat} {a0 a1 a2 a3 a4 a5 a6 a7 a8 : Value} {t : TypeId} (h : w.heap[B]? = some (.cells #[a0, a1, a2, a3, a4, a5, a6, a7, a8] t (0, 0))) (x0 x1 x2 x3 x4 x5 x6 x7 x8 : Value) :
    (((((((((w.setCell ⟨B, 0, none⟩ x0).setCell ⟨B, 1, none⟩ x1).setCell ⟨B, 2, none⟩ x2).setCell ⟨B, 3, none⟩ x3).setCell ⟨B, 4, none⟩ x4).setCell ⟨B, 5, none⟩ x5).setCell ⟨B, 6, none⟩ x6).setCell ⟨B, 7, none⟩ x7).setCell ⟨B, 8, none⟩ x8).heap[B]? = some (.cells #[x0, x1, x2, x3, x4, x5, x6, x7, x8] t (0, 0)) ∧ (∀ k, k ≠ B → (((((((((w.setCell ⟨B, 0, none⟩ x0).setCell ⟨B, 1, none⟩ x1).setCell ⟨B, 2, none⟩ x2).setCell ⟨B, 3, none⟩ x3).setCell ⟨B, 4, none⟩ x4).setCell ⟨B, 5, none⟩ x5).setCell ⟨B, 6, none⟩ x6).setCell ⟨B, 7, none⟩ x7).setCell ⟨B, 8, none⟩ x8).heap[k]? = w.heap[k]?) ∧ ∀ N w0, Below N w0 w → N ≤ B → Below N w0 (((((((((w.setCell ⟨B, 0, none⟩ x0).setCell ⟨B, 1, none⟩ x1).setCell ⟨B, 2, none⟩ x2).setCell ⟨B, 3, none⟩ x3).setCell ⟨B, 4, none⟩ x4).setCell ⟨B, 5, none⟩ x5).setCell ⟨B, 6, none⟩ x6).setCell ⟨B, 7, none⟩ x7).setCell ⟨B, 8, none⟩ x8) := by
  have h0 : (w.setCell ⟨B, 0, none⟩ x0).heap[B]? = some (.cells #[x0, a1, a2, a3, a4, a5, a6, a7, a8] t (0, 0)) := heap_setCell_same _ B 0 _ _ x0 h
  have h1 : ((w.setCell ⟨B, 0, none⟩ x0).setCell ⟨B, 1, none⟩ x1).heap[B]? = some (.cells #[x0, x1, a2, a3, a4, a5, a6, a7, a8] t (0, 0)) := heap_setCell_same _ B 1 _ _ x1 h0
  have h2 : (((w.setCell ⟨B, 0, none⟩ x0).setCell ⟨B, 1, none⟩ x1).setCell ⟨B, 2, none⟩ x2).heap[B]? = some (.cells #[x0, x1, x2, a3, a4, a5, a6, a7, a8] t (0, 0)) := heap_setCell_same _ B 2 _ _ x2 h1
  have h3 : ((((w.setCell ⟨B, 0, none⟩ x0).setCell ⟨B, 1, none⟩ x1).setCell ⟨B, 2, none⟩ x2).setCell ⟨B, 3, none⟩ x3).heap[B]? = some (.cells #[x0, x1, x2, x3, a4, a5, a6, a7, a8] t (0, 0)) := heap_setCell_same _ B 3 _ _ x3 h2
  have h4 : (((((w.setCell ⟨B, 0, none⟩ x0).setCell ⟨B, 1, none⟩ x1).setCell ⟨B, 2, none⟩ x2).setCell ⟨B, 3, none⟩ x3).setCell ⟨B, 4, none⟩ x4).heap[B]? = some (.cells #[x0, x1, x2, x3, x4, a5, a6, a7, a8] t (0, 0)) := heap_setCell_same _ B 4 _ _ x4 h3
  have h5 : ((((((w.setCell ⟨B, 0, none⟩ x0).setCell ⟨B, 1, none⟩ x1).setCell ⟨B, 2, none⟩ x2).setCell ⟨B, 3, none⟩ x3).setCell ⟨B, 4, none⟩ x4).setCell ⟨B, 5, none⟩ x5).heap[B]? = some (.cells #[x0, x1, x2, x3, x4, x5, a6, a7, a8] t (0, 0)) := heap_setCell_same _ B 5 _ _ x5 h4
  have h6 : (((((((w.setCell ⟨B, 0, none⟩ x0).setCell ⟨B, 1, none⟩ x1).setCell ⟨B, 2, none⟩ x2).setCell ⟨B, 3, none⟩ x3).setCell ⟨B, 4, none⟩ x4).setCell ⟨B, 5, none⟩ x5).setCell ⟨B, 6, none⟩ x6).heap[B]? = some (.cells #[x0, x1, x2, x3, x4, x5, x6, a7, a8] t (0, 0)) := heap_setCell_same _ B 6 _ _ x6 h5
  have h7 : ((((((((w.setCell ⟨B, 0, none⟩ x0).setCell ⟨B, 1, none⟩ x1).setCell ⟨B, 2, none⟩ x2).setCell ⟨B, 3, none⟩ x3).setCell ⟨B, 4, none⟩ x4).setCell ⟨B, 5, none⟩ x5).setCell ⟨B, 6, none⟩ x6).setCell ⟨B, 7, none⟩ x7).heap[B]? = some (.cells #[x0, x1, x2, x3, x4, x5, x6, x7, a8] t (0, 0)) := heap_setCell_same _ B 7 _ _ x7 h6
  have h8 : (((((((((w.setCell ⟨B, 0, none⟩ x0).setCell ⟨B, 1, none⟩ x1).setCell ⟨B, 2, none⟩ x2).setCell ⟨B, 3, none⟩ x3).setCell ⟨B, 4, none⟩ x4).setCell ⟨B, 5, none⟩ x5).setCell ⟨B, 6, none⟩ x6).setCell ⟨B, 7, none⟩ x7).setCell ⟨B, 8, none⟩ x8).heap[B]? = some (.cells #[x0, x1, x2, x3, x4, x5, x6, x7, x8] t (0, 0)) := heap_setCell_same _ B 8 _ _ x8 h7
  exact ⟨h8, fun k hk => (Below.heap_setCell _ _ _ _ hk).trans ((Below.heap_setCell _ _ _ _ hk).trans ((Below.heap_setCell _ _ _ _ hk).trans ((Below.heap_setCell _ _ _ _ hk).trans ((Below.heap_setCell _ _ _ _ hk).trans ((Below.heap_setCell _ _ _ _ hk).trans ((Below.heap_setCell _ _ _ _ hk).trans ((Below.heap_setCell _ _ _ _ hk).trans (Below.heap_setCell _ _ _ _ hk)))))))), fun N w0 hb hN => (((((((((hb.setCell hN _).setCell hN _).setCell hN _).setCell hN _).setCell hN _).setCell hN _).setCell hN _).setCell hN _).setCell hN _)⟩
end Go.Proofs.YtkaoegdfgoojdaaGreatDoor
