/- Program.Copy, match.New: the walks (seat 2). -/
import Derived.Test.YtkaoegdfgoojdaaGreatDoorClone
namespace Go.Proofs.YtkaoegdfgoojdaaGreatDoor
open Go Go.RowKit

def CopyPost (w : World) (p : List In) (G E : Int) (B : Bool) (e : Ending) (w' : World) : Prop :=
  ∃ g cap, e = .returned (.agg #[.slice (some ⟨g, 0, none⟩) p.length cap, .int .i64 G, .int .i64 E, .bool B]) ∧
    w'.ownsRow w.heap.size 74 7 (.slice (some ⟨g, 0, none⟩) p.length cap) p.length (flat p) ∧ Below w.heap.size w w'

theorem flat_one (p : List In) : ∀ u ∈ flat p, u.oneCell' = true := by
  intro u hu
  obtain ⟨i, _, hi⟩ := List.mem_flatMap.1 hu
  exact In.one i u hi

set_option maxRecDepth 100000 in
set_option maxHeartbeats 800000 in
theorem copy_any (w : World) (base g cap : Nat) (p : List In) (G E : Int) (B : Bool) (hp : 0 < p.length) (hl : p.length ≤ 3000)
    (ho : w.ownsRow base 74 7 (.slice (some ⟨g, 0, none⟩) p.length cap) p.length (flat p)) :
    Calls Tryz.prog 27 #[.agg #[.slice (some ⟨g, 0, none⟩) p.length cap, .int .i64 G, .int .i64 E, .bool B]] w (CopyPost w p G E B) := by
  have hg : g < w.heap.size := (ho.lt g rfl).2
  have hO := Lib.hid ho
  have hz1 : (w.alloc (.cells #[.slice (some ⟨g, 0, none⟩) p.length cap, .int .i64 G, .int .i64 E, .bool B] 47)).heap.size = w.heap.size + 1 := Array.size_push _
  have HR := Lib.hid (heap_alloc_new w (.cells #[.slice (some ⟨g, 0, none⟩) p.length cap, .int .i64 G, .int .i64 E, .bool B] 47))
  have HR2 := Lib.hid (heap_alloc_new (w.alloc (.cells #[.slice (some ⟨g, 0, none⟩) p.length cap, .int .i64 G, .int .i64 E, .bool B] 47)) (.cells #[.slice none 0 0, .int .i64 0, .int .i64 0, .bool false] 47))
  have HZ := Lib.hid hz1
  have HBa := Lib.hid (show Below w.heap.size w (w.alloc (.cells #[.slice (some ⟨g, 0, none⟩) p.length cap, .int .i64 G, .int .i64 E, .bool B] 47)) from (Below.refl _ _).alloc (Nat.le_refl _) _)
  have HBb := Lib.hid (show Below (w.heap.size + 1) (w.alloc (.cells #[.slice (some ⟨g, 0, none⟩) p.length cap, .int .i64 G, .int .i64 E, .bool B] 47)) ((w.alloc (.cells #[.slice (some ⟨g, 0, none⟩) p.length cap, .int .i64 G, .int .i64 E, .bool B] 47)).alloc (.cells #[.slice none 0 0, .int .i64 0, .int .i64 0, .bool false] 47)) from (Below.refl _ _).alloc (by rw [hz1]; omega) _)
  have HZ2 := Lib.hid (show ((w.alloc (.cells #[.slice (some ⟨g, 0, none⟩) p.length cap, .int .i64 G, .int .i64 E, .bool B] 47)).alloc (.cells #[.slice none 0 0, .int .i64 0, .int .i64 0, .bool false] 47)).heap.size = w.heap.size + 2 by rw [show ((w.alloc (.cells #[.slice (some ⟨g, 0, none⟩) p.length cap, .int .i64 G, .int .i64 E, .bool B] 47)).alloc (.cells #[.slice none 0 0, .int .i64 0, .int .i64 0, .bool false] 47)).heap.size = (w.alloc (.cells #[.slice (some ⟨g, 0, none⟩) p.length cap, .int .i64 G, .int .i64 E, .bool B] 47)).heap.size + 1 from Array.size_push _, hz1])
  clear ho hz1
  go_enter Tryz.func27, Tryz.ntmps27
  go_wp2_with fail
  generalize hW1 : w.alloc (.cells #[.slice (some ⟨g, 0, none⟩) p.length cap, .int .i64 G, .int .i64 E, .bool B] 47) = W1 at *
  generalize hW2 : W1.alloc (.cells #[.slice none 0 0, .int .i64 0, .int .i64 0, .bool false] 47) = W2 at *
  have HBw := Lib.hid (HBa.out.trans (HBb.out.mono (Nat.le_succ _)))
  refine (clone_insts W2 g 0 p.length cap (flat p) hp (by omega) (flat_length p) (flat_one p) (by have := HZ2.out; omega) (fun j u hu => by
    rw [HBw.out.cell (p := ⟨g, 0 + j, none⟩) hg, Nat.zero_add, hO.out.cellAt j (by have := (List.getElem?_eq_some_iff.1 hu).1; rw [flat_length] at this; exact this)]; exact hu)).mono ?_
  rintro e w3 ⟨g3, cap3, rfl, ho3, hb3, hg3⟩
  have hlt : w.heap.size < W2.heap.size := by have := HZ2.out; omega
  have hlt1 : w.heap.size + 1 < W2.heap.size := by have := HZ2.out; omega
  have HRa := Lib.hid ((hb3.block w.heap.size hlt).trans ((HBb.out.block w.heap.size (Nat.lt_succ_self _)).trans HR.out))
  have hr2 := HR2.out
  rw [HZ.out] at hr2
  have HRb := Lib.hid ((hb3.block (w.heap.size + 1) hlt1).trans hr2)
  have r0 := cell_of HRa.out (j := 0) (u := .slice (some ⟨g, 0, none⟩) p.length cap) rfl
  have r1 := cell_of HRa.out (j := 1) (u := .int .i64 G) rfl
  have r2 := cell_of HRa.out (j := 2) (u := .int .i64 E) rfl
  have r3 := cell_of HRa.out (j := 3) (u := .bool B) rfl
  have f0 := frozen_of_row w3 w.heap.size 0 _ _ HRa.out
  have s0 := cell_of HRb.out (j := 0) (u := .slice none 0 0) rfl
  have s1 := cell_of HRb.out (j := 1) (u := .int .i64 0) rfl
  have s2 := cell_of HRb.out (j := 2) (u := .int .i64 0) rfl
  have s3 := cell_of HRb.out (j := 3) (u := .bool false) rfl
  have d0 := frozen_of_row w3 (w.heap.size + 1) 0 _ _ HRb.out
  have d1 := frozen_of_row w3 (w.heap.size + 1) 1 _ _ HRb.out
  have d2 := frozen_of_row w3 (w.heap.size + 1) 2 _ _ HRb.out
  have d3 := frozen_of_row w3 (w.heap.size + 1) 3 _ _ HRb.out
  have HO3 := Lib.hid ho3
  have HB3 := Lib.hid (HBw.out.trans (hb3.mono (Nat.le_of_lt hlt)))
  have HL := Lib.hid hlt
  have HL1 := Lib.hid hlt1
  clear ho3 hb3 hr2 hlt hlt1 hW1 hW2
  go_wp2_with fail
  refine bodyPost_ret (v := .agg #[.slice (some ⟨g3, 0, none⟩) p.length cap3, .int .i64 G, .int .i64 E, .bool B]) (by simp [results, Tryz.results27, go_sem, r0, r1, r2, r3, s0, s1, s2, s3]) rfl ⟨g3, cap3, rfl, ?_, ?_⟩
  · exact ownsRow_mono (ownsRow_setCell_below (ownsRow_setCell_below (ownsRow_setCell_below (ownsRow_setCell_below (ownsRow_setCell_below HO3.out HL.out _) HL1.out _) HL1.out _) HL1.out _) HL1.out _) (Nat.le_of_lt HL.out)
  · exact ((((HB3.out.setCell (Nat.le_refl _) _).setCell (Nat.le_succ _) _).setCell (Nat.le_succ _) _).setCell (Nat.le_succ _) _).setCell (Nat.le_succ _) _

/-- What match.New leaves: a regex in a block of its own, its program in a row of its own. -/
def NewPost (w : World) (p : List In) (G E : Int) (B : Bool) (e : Ending) (w' : World) : Prop :=
  ∃ R g cap, e = .returned (.pointer (some ⟨R, 0, none⟩)) ∧ w'.heap[R]? = some (.cells #[.slice (some ⟨g, 0, none⟩) p.length cap, .int .i64 G, .int .i64 E, .bool B] 57 (0, 0)) ∧
    w'.ownsRow w.heap.size 74 7 (.slice (some ⟨g, 0, none⟩) p.length cap) p.length (flat p) ∧ Below w.heap.size w w' ∧ w.heap.size ≤ R

set_option maxRecDepth 100000 in
set_option maxHeartbeats 800000 in
theorem new_any (w : World) (base g cap : Nat) (p : List In) (G E : Int) (B : Bool) (hp : 0 < p.length) (hl : p.length ≤ 3000)
    (ho : w.ownsRow base 74 7 (.slice (some ⟨g, 0, none⟩) p.length cap) p.length (flat p)) :
    Calls Tryz.prog 16 #[.agg #[.slice (some ⟨g, 0, none⟩) p.length cap, .int .i64 G, .int .i64 E, .bool B]] w (NewPost w p G E B) := by
  have HC := Lib.hid (copy_any _ base g cap p G E B hp hl (ho.alloc (.cells #[.slice (some ⟨g, 0, none⟩) p.length cap, .int .i64 G, .int .i64 E, .bool B] 47)))
  have HBa := Lib.hid (show Below w.heap.size w (w.alloc (.cells #[.slice (some ⟨g, 0, none⟩) p.length cap, .int .i64 G, .int .i64 E, .bool B] 47)) from (Below.refl _ _).alloc (Nat.le_refl _) _)
  clear ho
  go_enter Tryz.func16, Tryz.ntmps16
  go_wp2_with fail
  generalize w.alloc (.cells #[.slice (some ⟨g, 0, none⟩) p.length cap, .int .i64 G, .int .i64 E, .bool B] 47) = W1 at *
  refine HC.out.mono ?_
  rintro e w3 ⟨g3, cap3, rfl, ho3, hb3⟩
  have HO := Lib.hid (ownsRow_mono ho3 HBa.out.size)
  have HB := Lib.hid (HBa.out.trans (hb3.mono HBa.out.size))
  clear ho3 hb3
  go_wp2_with fail
  go_ret
  exact ⟨w3.heap.size, g3, cap3, rfl, heap_alloc_new w3 _, HO.out.alloc _, HB.out.alloc HB.out.size _, HB.out.size⟩
end Go.Proofs.YtkaoegdfgoojdaaGreatDoor
