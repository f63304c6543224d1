/- put, next: the walks. -/
import Derived.Test.YtkaoegdfgoojdaaGreatDoorRows
import Derived.Test.YtkaoegdfgoojdaaGreatDoorHeap
import Derived.Lib.Hide
import Derived.Deep.RegionHeld3
import Derived.Deep.RegionLaw
namespace Go.Proofs.YtkaoegdfgoojdaaGreatDoor
open Go Go.RowKit

/-- A call of the builder: it gives r, the builder holds s', and nothing else has turned. -/
def BPost (w : World) (base B : Nat) (v : Value) (r : Value) (s' : BS) (e : Ending) (w' : World) : Prop :=
  ∃ v', e = .returned r ∧ Bd w' base B v' s' ∧ Mv w w' B v v'

theorem ret_int {k : IntKind} {a b : Int} (h : a = b) : Ending.returned (.int k a) = .returned (.int k b) := by rw [h]

set_option maxRecDepth 100000 in
set_option maxHeartbeats 400000 in
theorem next_any (w : World) (base B : Nat) (v : Value) (s : BS) (h : Bd w base B v s) :
    Calls Tryz.prog 60 #[.pointer (some ⟨B, 0, none⟩)] w fun e w' => e = .returned (.int .i64 s.insts.length) ∧ w = w' := by
  obtain ⟨a, c, rfl⟩ := h.form
  have c0 := h.c0
  clear h
  go_enter Tryz.func60, Tryz.ntmps60
  go_wp2
  go_ret
  exact ⟨rfl, rfl⟩

set_option maxRecDepth 100000 in
set_option maxHeartbeats 400000 in
theorem put_full (w : World) (base B : Nat) (v : Value) (s : BS) (i : In) (h : Bd w base B v s) (hn : ¬ s.insts.length < 3000) :
    Calls Tryz.prog 24 #[.pointer (some ⟨B, 0, none⟩), i.val] w (BPost w base B v (.int .i64 (putN s)) (putS s i)) := by
  have e1 : putS s i = { s with full := true } := by unfold putS; rw [if_neg hn]
  have e2 : putN s = 0 := by unfold putN; rw [if_neg hn]
  rw [e1, e2]
  have H := Lib.hid h
  have H1 := Lib.hid h.short
  obtain ⟨a, c, rfl⟩ := h.form
  have c0 := h.c0
  have c4 := h.c4
  have f4 := h.fz 4
  have hB := h.lt
  have hl : ¬ (s.insts.length : Int) < 3000 := by omega
  clear e1 e2 h hn
  unfold In.val
  go_enter Tryz.func24, Tryz.ntmps24
  go_wp2
  go_ret
  exact ⟨_, rfl, H.out.setFull.alloc _, (Mv.setB _ _).trans (Mv.alloc _)⟩

theorem info_int : (Tryz.prog.info? 3).map (fun i => (i.zero, i.size, i.bytes)) = some (some (.int .i64 0), 1, 8) := by kernel_rfl
theorem und_ints : Tryz.prog.underlying 34 = some (.slice 3) := by kernel_rfl

/-- The element type's row. -/
theorem info_inst : (Tryz.prog.info? 74).map (fun i => (i.zero, i.size, i.bytes)) = some (some (.agg #[.int .i64 0, .int .u64 0, .int .u64 0, .int .u64 0, .int .u64 0, .int .i64 0, .int .i64 0]), 7, 56) := by kernel_rfl
theorem und_insts : Tryz.prog.underlying 45 = some (.slice 74) := by kernel_rfl

set_option maxRecDepth 100000 in
set_option maxHeartbeats 400000 in
theorem put_room (w : World) (base B : Nat) (v : Value) (s : BS) (i : In) (h : Bd w base B v s) (hn : s.insts.length < 3000) :
    Calls Tryz.prog 24 #[.pointer (some ⟨B, 0, none⟩), i.val] w (BPost w base B v (.int .i64 (putN s)) (putS s i)) := by
  have e1 : putS s i = { s with insts := s.insts ++ [i] } := by unfold putS; rw [if_pos hn]
  have e2 : putN s = s.insts.length := by unfold putN; rw [if_pos hn]
  rw [e1, e2]
  have H := Lib.hid h
  have H1 := Lib.hid h.short
  obtain ⟨a, c, rfl⟩ := h.form
  have c0 := h.c0
  have hB := h.lt
  have hl : (s.insts.length : Int) < 3000 := by omega
  clear e1 e2 h hn
  unfold In.val
  go_enter Tryz.func24, Tryz.ntmps24
  go_wp2
  obtain ⟨i0, hi, hz0, hz1, hz2⟩ := info_parts info_inst
  have HI := Lib.hid hi
  have HZ0 := Lib.hid hz0
  have HZ1 := Lib.hid hz1
  have HZ2 := Lib.hid hz2
  clear hi hz0 hz1 hz2
  have HO := Lib.hid ((H.out.alloc (.cells #[.int .i64 i.op, .int .u64 i.s0, .int .u64 i.s1, .int .u64 i.s2, .int .u64 i.s3, .int .i64 i.x, .int .i64 i.y] 74)).alloc (.cells #[.int .i64 i.op, .int .u64 i.s0, .int .u64 i.s1, .int .u64 i.s2, .int .u64 i.s3, .int .i64 i.x, .int .i64 i.y] 74)).drew
  have HS := Lib.hid (show base ≤ (((w.alloc (.cells #[.int .i64 i.op, .int .u64 i.s0, .int .u64 i.s1, .int .u64 i.s2, .int .u64 i.s3, .int .i64 i.x, .int .i64 i.y] 74)).alloc (.cells #[.int .i64 i.op, .int .u64 i.s0, .int .u64 i.s1, .int .u64 i.s2, .int .u64 i.s3, .int .i64 i.x, .int .i64 i.y] 74)).drew).heap.size by have h1 := H.out.hB; have h2 := HO.out.lt; omega)
  go_region_law (refine step_append_lies _ rfl (.tmp 20) (.tmp 22) 45 rfl base 74 i0 _ 7 56 und_insts HI.out HZ0.out HZ1.out HZ2.out rfl (by decide) _ s.insts.length (flat s.insts) rfl HO.out.own _ 1 1 i.cells rfl rfl (news2 w _ _ _) (In.one i) (by decide) (by unfold maxLen; omega) (by omega) (HS.out) _ rfl ?_; intro g cap w1 hown hgrow hat hlt; obtain ⟨p1, p2, p3, p4, p5⟩ := HO.out.appended (by omega) hown hgrow hat; have P4 := Lib.hid p4; have P5 := Lib.hid p5; clear p4 p5 hown hgrow hat)
  all_goals
    go_wp2
    go_ret
    refine ⟨_, ret_int ?_, P4.out, ((Mv.alloc _).trans (Mv.alloc _)).drew.trans P5.out⟩
    omega

theorem put_any (w : World) (base B : Nat) (v : Value) (s : BS) (i : In) (h : Bd w base B v s) :
    Calls Tryz.prog 24 #[.pointer (some ⟨B, 0, none⟩), i.val] w (BPost w base B v (.int .i64 (putN s)) (putS s i)) := by
  by_cases hn : s.insts.length < 3000
  · exact put_room w base B v s i h hn
  · exact put_full w base B v s i h hn
end Go.Proofs.YtkaoegdfgoojdaaGreatDoor
