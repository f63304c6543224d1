/- slices.Clone of ints: the walk (seat 2). -/
import Derived.Test.YtkaoegdfgoojdaaGreatDoorCompile
namespace Go.Proofs.YtkaoegdfgoojdaaGreatDoor
open Go Go.RowKit

theorem own_fresh (w : World) (base : Nat) (e : TypeId) (size : Nat) (h : base ≤ w.heap.size) : (w.alloc (.cells #[] e)).ownsRow base e size (.slice (some ⟨w.heap.size, 0, none⟩) 0 0) 0 [] :=
  ⟨by simp, .inr ⟨w.heap.size, 0, #[], rfl, h, heap_alloc_new w _, Nat.le_refl _, Nat.zero_le _, by simp, by simp⟩⟩

@[go_sem] theorem not_nil_ints (b off n c : Nat) (w : World) : (binOp BinOp.eql 34 (.slice (some ⟨b, off, none⟩) n c) (.slice none 0 0)).run Tryz.prog w = .ok (.bool false) w := by kernel_rfl
@[go_sem] theorem not_nil_insts (b off n c : Nat) (w : World) : (binOp BinOp.eql 45 (.slice (some ⟨b, off, none⟩) n c) (.slice none 0 0)).run Tryz.prog w = .ok (.bool false) w := by kernel_rfl

def ClonePost (w : World) (e : TypeId) (size n : Nat) (xs : List Value) (r : Ending) (w' : World) : Prop :=
  ∃ g cap, r = .returned (.slice (some ⟨g, 0, none⟩) n cap) ∧ w'.ownsRow w.heap.size e size (.slice (some ⟨g, 0, none⟩) n cap) n xs ∧ Below w.heap.size w w' ∧ w.heap.size ≤ g

set_option maxRecDepth 100000 in
set_option maxHeartbeats 800000 in
theorem clone_ints (w : World) (b off n c : Nat) (xs : List Value) (hn : 0 < n) (hmax : n ≤ 1048576) (hl : xs.length = n) (h1 : ∀ u ∈ xs, u.oneCell' = true) (hb : b < w.heap.size)
    (hc : ∀ j u, xs[j]? = some u → w.cell? ⟨b, off + j, none⟩ = some u) :
    Calls Tryz.prog 32 #[.slice (some ⟨b, off, none⟩) n c] w (ClonePost w 3 1 n xs) := by
  obtain ⟨i0, hi, hz0, hz1, hz2⟩ := info_parts info_int
  have HI := Lib.hid hi
  have HZ0 := Lib.hid hz0
  have HZ1 := Lib.hid hz1
  have HZ2 := Lib.hid hz2
  have hbl : Below w.heap.size w (w.alloc (.cells #[] 3)) := (Below.refl _ _).alloc (Nat.le_refl _) _
  have HBL := Lib.hid hbl
  have HO := Lib.hid (own_fresh w w.heap.size 3 1 (Nat.le_refl _))
  have HN := Lib.hid (show ∀ j u, xs[j]? = some u → (w.alloc (.cells #[] 3)).cell? ((⟨b, off, none⟩ : Addr).add j) = some u from fun j u hu => by
    rw [WideShapes.add_plain, hbl.cell (p := ⟨b, off + j, none⟩) hb]; exact hc j u hu)
  have HL := Lib.hid (show xs.length = n * 1 by omega)
  have H1 := Lib.hid h1
  clear hi hz0 hz1 hz2 hbl hc h1
  go_enter Tryz.func32, Tryz.ntmps32
  go_wp2_with (at_builtin; (refine wpList_append_lies _ rfl (.tmp 5) (.tmp 6) 34 rfl w.heap.size 3 i0 _ 1 8 und_ints HI.out HZ0.out HZ1.out HZ2.out rfl (by decide) _ 0 [] rfl HO.out ⟨b, off, none⟩ n c xs rfl HL.out HN.out H1.out hn (by unfold maxLen; omega) (by omega) HBL.out.size _ rfl ?_))
  intro g cap w1 hown hgrow hat hlt
  have hb1 := Lib.hid (HBL.out.grown hgrow HBL.out.size (fun k h => by cases h; exact Nat.le_refl _))
  have ho1 := Lib.hid (show w1.ownsRow w.heap.size 3 1 (.slice (some ⟨g, 0, none⟩) n cap) n xs from hown)
  clear hown hgrow hat hlt
  go_wp2_with fail
  go_ret
  first
    | exact ⟨g, cap, rfl, ho1.out, hb1.out, (ho1.out.lt g rfl).1⟩
    | exact ⟨g, cap, by rw [Nat.zero_add], ho1.out, hb1.out, (ho1.out.lt g rfl).1⟩
set_option maxRecDepth 100000 in
set_option maxHeartbeats 800000 in
theorem clone_insts (w : World) (b off n c : Nat) (xs : List Value) (hn : 0 < n) (hmax : n ≤ 1048576) (hl : xs.length = n * 7) (h1 : ∀ u ∈ xs, u.oneCell' = true) (hb : b < w.heap.size)
    (hc : ∀ j u, xs[j]? = some u → w.cell? ⟨b, off + j, none⟩ = some u) :
    Calls Tryz.prog 43 #[.slice (some ⟨b, off, none⟩) n c] w (ClonePost w 74 7 n xs) := by
  obtain ⟨i0, hi, hz0, hz1, hz2⟩ := info_parts info_inst
  have HI := Lib.hid hi
  have HZ0 := Lib.hid hz0
  have HZ1 := Lib.hid hz1
  have HZ2 := Lib.hid hz2
  have hbl : Below w.heap.size w (w.alloc (.cells #[] 74)) := (Below.refl _ _).alloc (Nat.le_refl _) _
  have HBL := Lib.hid hbl
  have HO := Lib.hid (own_fresh w w.heap.size 74 7 (Nat.le_refl _))
  have HN := Lib.hid (show ∀ j u, xs[j]? = some u → (w.alloc (.cells #[] 74)).cell? ((⟨b, off, none⟩ : Addr).add j) = some u from fun j u hu => by
    rw [WideShapes.add_plain, hbl.cell (p := ⟨b, off + j, none⟩) hb]; exact hc j u hu)
  have HL := Lib.hid (show xs.length = n * 7 by omega)
  have H1 := Lib.hid h1
  clear hi hz0 hz1 hz2 hbl hc h1
  go_enter Tryz.func43, Tryz.ntmps43
  go_wp2_with (at_builtin; (refine wpList_append_lies _ rfl (.tmp 5) (.tmp 6) 45 rfl w.heap.size 74 i0 _ 7 56 und_insts HI.out HZ0.out HZ1.out HZ2.out rfl (by decide) _ 0 [] rfl HO.out ⟨b, off, none⟩ n c xs rfl HL.out HN.out H1.out hn (by unfold maxLen; omega) (by omega) HBL.out.size _ rfl ?_))
  intro g cap w1 hown hgrow hat hlt
  have hb1 := Lib.hid (HBL.out.grown hgrow HBL.out.size (fun k h => by cases h; exact Nat.le_refl _))
  have ho1 := Lib.hid (show w1.ownsRow w.heap.size 74 7 (.slice (some ⟨g, 0, none⟩) n cap) n xs from hown)
  clear hown hgrow hat hlt
  go_wp2_with fail
  go_ret
  first
    | exact ⟨g, cap, rfl, ho1.out, hb1.out, (ho1.out.lt g rfl).1⟩
    | exact ⟨g, cap, by rw [Nat.zero_add], ho1.out, hb1.out, (ho1.out.lt g rfl).1⟩
end Go.Proofs.YtkaoegdfgoojdaaGreatDoor
