/- Nodes in memory; node: the walk. -/
import Derived.Test.YtkaoegdfgoojdaaGreatDoorRep
import Derived.Test.YtkaoegdfgoojdaaGreatDoorAsserts
namespace Go.Proofs.YtkaoegdfgoojdaaGreatDoor
open Go Go.RowKit

mutual
/-- The value v is the tree's node, in blocks below N. -/
def Nd (w : World) (N : Nat) : Tr → Value → Prop
  | .empty, v => v = .iface 92 (.agg #[])
  | .one a b c d, v => v = .iface 79 (.agg #[.int .u64 a, .int .u64 b, .int .u64 c, .int .u64 d])
  | .cat ps, v => ∃ x, v = .iface 81 (.agg #[x]) ∧ ((ps = [] ∧ x = .slice none 0 0) ∨ ∃ b off c, x = .slice (some ⟨b, off, none⟩) ps.length c ∧ b < N ∧ ps.length ≤ c ∧ c ≤ 9223372036854775807 ∧ NdCells w N b off ps)
  | .alt ps, v => ∃ x, v = .iface 82 (.agg #[x]) ∧ ((ps = [] ∧ x = .slice none 0 0) ∨ ∃ b off c, x = .slice (some ⟨b, off, none⟩) ps.length c ∧ b < N ∧ ps.length ≤ c ∧ c ≤ 9223372036854775807 ∧ NdCells w N b off ps)
  | .rep t min max, v => ∃ x, v = .iface 84 (.agg #[x, .int .i64 min, .int .i64 max]) ∧ Nd w N t x
  | .group n t, v => ∃ x, v = .iface 86 (.agg #[.int .i64 n, x]) ∧ Nd w N t x
  | .back n, v => v = .iface 88 (.agg #[.int .i64 n])
  | .start, v => v = .iface 90 (.agg #[])
  | .endd, v => v = .iface 91 (.agg #[])
def NdCells (w : World) (N b : Nat) : Nat → List Tr → Prop
  | _, [] => True
  | off, t :: r => (∃ v, w.cell? ⟨b, off, none⟩ = some v ∧ Nd w N t v) ∧ NdCells w N b (off + 1) r
end
/-- The value is a slice of the trees' nodes. -/
def Nds (w : World) (N : Nat) (ps : List Tr) (x : Value) : Prop :=
  (ps = [] ∧ x = .slice none 0 0) ∨ ∃ b off c, x = .slice (some ⟨b, off, none⟩) ps.length c ∧ b < N ∧ ps.length ≤ c ∧ c ≤ 9223372036854775807 ∧ NdCells w N b off ps


theorem Nd.form {w : World} {N : Nat} {t : Tr} {v : Value} (h : Nd w N t v) : ∃ T x, v = .iface T (.agg x) := by
  cases t with
  | empty => exact ⟨_, _, h⟩
  | one a b c d => exact ⟨_, _, h⟩
  | cat ps => obtain ⟨x, h, _⟩ := h; exact ⟨_, _, h⟩
  | alt ps => obtain ⟨x, h, _⟩ := h; exact ⟨_, _, h⟩
  | rep t a b => obtain ⟨x, h, _⟩ := h; exact ⟨_, _, h⟩
  | group n t => obtain ⟨x, h, _⟩ := h; exact ⟨_, _, h⟩
  | back n => exact ⟨_, _, h⟩
  | start => exact ⟨_, _, h⟩
  | endd => exact ⟨_, _, h⟩
mutual
theorem Nd.below {w w' : World} {N : Nat} (hb : Below N w w') : ∀ (t : Tr) (v : Value), Nd w N t v → Nd w' N t v
  | .empty, _, h => h
  | .one .., _, h => h
  | .cat ps, _, ⟨x, e, h⟩ => ⟨x, e, h.imp_right fun ⟨b, off, c, e, hlt, h1, h2, h3⟩ => ⟨b, off, c, e, hlt, h1, h2, NdCells.below hb b hlt ps off h3⟩⟩
  | .alt ps, _, ⟨x, e, h⟩ => ⟨x, e, h.imp_right fun ⟨b, off, c, e, hlt, h1, h2, h3⟩ => ⟨b, off, c, e, hlt, h1, h2, NdCells.below hb b hlt ps off h3⟩⟩
  | .rep t _ _, _, ⟨x, e, h⟩ => ⟨x, e, Nd.below hb t x h⟩
  | .group _ t, _, ⟨x, e, h⟩ => ⟨x, e, Nd.below hb t x h⟩
  | .back _, _, h => h
  | .start, _, h => h
  | .endd, _, h => h
theorem NdCells.below {w w' : World} {N : Nat} (hb : Below N w w') (b : Nat) (hlt : b < N) : ∀ (ps : List Tr) (off : Nat), NdCells w N b off ps → NdCells w' N b off ps
  | [], _, _ => trivial
  | t :: r, off, ⟨⟨v, hc, hv⟩, h⟩ => ⟨⟨v, (hb.cell (p := ⟨b, off, none⟩) hlt).trans hc, Nd.below hb t v hv⟩, NdCells.below hb b hlt r (off + 1) h⟩
end
theorem NdCells.at {w : World} {N b : Nat} : ∀ (ps : List Tr) (off : Nat), NdCells w N b off ps → ∀ j, j < ps.length → ∃ v, w.cell? ⟨b, off + j, none⟩ = some v ∧ Nd w N (ps.getD j .empty) v
  | [], _, _, j, hj => absurd hj (by simp)
  | t :: r, off, ⟨⟨v, hc, hv⟩, _⟩, 0, _ => ⟨v, hc, hv⟩
  | t :: r, off, ⟨_, h⟩, j + 1, hj => by
      obtain ⟨v, h1, h2⟩ := NdCells.at r (off + 1) h j (by simpa using hj)
      exact ⟨v, by rw [show off + (j + 1) = off + 1 + j by omega]; exact h1, h2⟩

set_option maxRecDepth 100000 in
set_option maxHeartbeats 800000 in
theorem node_full (w : World) (base B : Nat) (v nv : Value) (s : BS) (h : Bd w base B v s) (hf : s.full = true) :
    Calls Tryz.prog 25 #[.pointer (some ⟨B, 0, none⟩), nv] w (BPost w base B v (.tuple #[]) s) := by
  have c4 := h.c4
  rw [hf] at c4
  have H := Lib.hid h
  clear h hf
  go_enter Tryz.func25, Tryz.ntmps25
  go_wp2_with fail
  go_end0
  exact ⟨_, rfl, H.out, Mv.refl _ _ _⟩

set_option maxRecDepth 100000 in
set_option maxHeartbeats 800000 in
theorem node_empty (w : World) (base B : Nat) (v : Value) (s : BS) (h : Bd w base B v s) (hf : s.full = false) :
    Calls Tryz.prog 25 #[.pointer (some ⟨B, 0, none⟩), .iface 92 (.agg #[])] w (BPost w base B v (.tuple #[]) s) := by
  have c4 := h.c4
  rw [hf] at c4
  have H := Lib.hid h
  clear h hf
  go_enter Tryz.func25, Tryz.ntmps25
  go_wp2_with fail
  go_end0
  exact ⟨_, rfl, H.out, Mv.refl _ _ _⟩

set_option maxRecDepth 100000 in
set_option maxHeartbeats 800000 in
theorem node_one (w : World) (base B : Nat) (v : Value) (s : BS) (x0 x1 x2 x3 : Int) (h : Bd w base B v s) (hf : s.full = false) :
    Calls Tryz.prog 25 #[.pointer (some ⟨B, 0, none⟩), .iface 79 (.agg #[.int .u64 x0, .int .u64 x1, .int .u64 x2, .int .u64 x3])] w (BPost w base B v (.tuple #[]) (putS s ⟨0, x0, x1, x2, x3, 0, 0⟩)) := by
  have c4 := h.c4
  rw [hf] at c4
  have H := Lib.hid h
  have hB := h.lt
  clear h hf
  go_enter Tryz.func25, Tryz.ntmps25
  go_wp2_with fail
  refine (put_raw _ base B v s _ _ _ _ _ _ _ (H.out.alloc _)).mono ?_
  rintro e w2 ⟨v2, rfl, hb, hm⟩
  have HB2 := Lib.hid hb
  have HM2 := Lib.hid hm
  clear hb hm
  go_wp2_with fail
  go_end0
  exact ⟨_, rfl, HB2.out, (Mv.alloc _).trans HM2.out⟩

set_option maxRecDepth 100000 in
set_option maxHeartbeats 800000 in
theorem node_start (w : World) (base B : Nat) (v : Value) (s : BS) (h : Bd w base B v s) (hf : s.full = false) :
    Calls Tryz.prog 25 #[.pointer (some ⟨B, 0, none⟩), .iface 90 (.agg #[])] w (BPost w base B v (.tuple #[]) (putS s (inst 5 0))) := by
  have c4 := h.c4
  rw [hf] at c4
  have H := Lib.hid h
  have hB := h.lt
  clear h hf
  go_enter Tryz.func25, Tryz.ntmps25
  go_wp2_with fail
  refine (put_raw _ base B v s _ _ _ _ _ _ _ (H.out.alloc _)).mono ?_
  rintro e w2 ⟨v2, rfl, hb, hm⟩
  have HB2 := Lib.hid hb
  have HM2 := Lib.hid hm
  clear hb hm
  go_wp2_with fail
  go_end0
  exact ⟨_, rfl, HB2.out, (Mv.alloc _).trans HM2.out⟩

set_option maxRecDepth 100000 in
set_option maxHeartbeats 800000 in
theorem node_endd (w : World) (base B : Nat) (v : Value) (s : BS) (h : Bd w base B v s) (hf : s.full = false) :
    Calls Tryz.prog 25 #[.pointer (some ⟨B, 0, none⟩), .iface 91 (.agg #[])] w (BPost w base B v (.tuple #[]) (putS s (inst 6 0))) := by
  have c4 := h.c4
  rw [hf] at c4
  have H := Lib.hid h
  have hB := h.lt
  clear h hf
  go_enter Tryz.func25, Tryz.ntmps25
  go_wp2_with fail
  refine (put_raw _ base B v s _ _ _ _ _ _ _ (H.out.alloc _)).mono ?_
  rintro e w2 ⟨v2, rfl, hb, hm⟩
  have HB2 := Lib.hid hb
  have HM2 := Lib.hid hm
  clear hb hm
  go_wp2_with fail
  go_end0
  exact ⟨_, rfl, HB2.out, (Mv.alloc _).trans HM2.out⟩

set_option maxRecDepth 100000 in
set_option maxHeartbeats 800000 in
theorem node_back (w : World) (base B : Nat) (v : Value) (s : BS) (n : Int) (h : Bd w base B v s) (hf : s.full = false) :
    Calls Tryz.prog 25 #[.pointer (some ⟨B, 0, none⟩), .iface 88 (.agg #[.int .i64 n])] w (BPost w base B v (.tuple #[]) (putS s (inst 4 n))) := by
  have c4 := h.c4
  rw [hf] at c4
  have H := Lib.hid h
  have hB := h.lt
  clear h hf
  go_enter Tryz.func25, Tryz.ntmps25
  go_wp2_with fail
  refine (put_raw _ base B v s _ _ _ _ _ _ _ (H.out.alloc _)).mono ?_
  rintro e w2 ⟨v2, rfl, hb, hm⟩
  have HB2 := Lib.hid hb
  have HM2 := Lib.hid hm
  clear hb hm
  go_wp2_with fail
  go_end0
  exact ⟨_, rfl, HB2.out, (Mv.alloc _).trans HM2.out⟩

set_option maxRecDepth 100000 in
set_option maxHeartbeats 800000 in
theorem node_group (w0 : World) (base B : Nat) (T : TypeId) (x : Value) (f : BS → BS) (hn : NodeAt w0 base B (.iface T x) f) (w : World) (v : Value) (s : BS) (n : Int) (hw : Below base w0 w) (h : Bd w base B v s) (hf : s.full = false) :
    Calls Tryz.prog 25 #[.pointer (some ⟨B, 0, none⟩), .iface 86 (.agg #[.int .i64 n, .iface T x])] w (BPost w base B v (.tuple #[]) (putS (f (putS s (inst 3 (wrap64 (2 * n))))) (inst 3 (wrap64 (wrap64 (2 * n) + 1))))) := by
  have c4 := h.c4
  rw [hf] at c4
  have H := Lib.hid h
  have HN := Lib.hid hn
  have HW := Lib.hid hw
  have hB := h.lt
  clear h hf hn hw
  go_enter Tryz.func25, Tryz.ntmps25
  go_wp2_with fail
  refine (put_raw _ base B v s _ _ _ _ _ _ _ (H.out.alloc _)).mono ?_
  rintro e w2 ⟨v2, rfl, hb, hm⟩
  have HB2 := Lib.hid hb
  have HM2 := Lib.hid hm
  have HC := Lib.hid ((Mv.kept H.out (by rw [show (w.alloc (.cells #[.int .i64 n, .iface T x] 86)).heap.size = w.heap.size + 1 from Array.size_push _]; omega) hm).trans (heap_alloc_new w (.cells #[.int .i64 n, .iface T x] 86)))
  clear hb hm
  have q1 := cell_of HC.out (j := 1) (u := .iface T x) rfl
  go_wp2_with fail
  refine (HN.out _ v2 _ (HW.out.trans ((H.out.below_of (Mv.alloc _)).trans ((H.out.alloc _).below_of HM2.out))) HB2.out).mono ?_
  rintro e w3 ⟨v3, rfl, hb, hm⟩
  have HB3 := Lib.hid hb
  have HM3 := Lib.hid hm
  clear hb hm q1
  have q0 := cell_of ((Mv.kept H.out (by rw [show (w.alloc (.cells #[.int .i64 n, .iface T x] 86)).heap.size = w.heap.size + 1 from Array.size_push _]; omega) (HM2.out.trans HM3.out)).trans (heap_alloc_new w (.cells #[.int .i64 n, .iface T x] 86))) (j := 0) (u := .int .i64 n) rfl
  go_wp2_with fail
  clear q0
  refine (put_raw _ base B v3 _ _ _ _ _ _ _ _ HB3.out).mono ?_
  rintro e w4 ⟨v4, rfl, hb, hm⟩
  have HB4 := Lib.hid hb
  have HM4 := Lib.hid hm
  clear hb hm
  go_wp2_with fail
  go_end0
  exact ⟨_, rfl, HB4.out, (Mv.alloc _).trans ((HM2.out.trans HM3.out).trans HM4.out)⟩

set_option maxRecDepth 100000 in
set_option maxHeartbeats 800000 in
theorem node_rep (w0 : World) (base B : Nat) (T : TypeId) (x : Value) (f : BS → BS) (hn : NodeAt w0 base B (.iface T x) f) (hg : Grows f) (min max : Int) (hmin : min ≤ 1048576) (hmax : max ≤ 1048576) (hmin0 : 0 ≤ min) (w : World) (v : Value) (s : BS) (hw : Below base w0 w) (h : Bd w base B v s) (hf : s.full = false) :
    Calls Tryz.prog 25 #[.pointer (some ⟨B, 0, none⟩), .iface 84 (.agg #[.iface T x, .int .i64 min, .int .i64 max])] w (BPost w base B v (.tuple #[]) (repS f min max s)) := by
  have c4 := h.c4
  rw [hf] at c4
  have H := Lib.hid h
  have HN := Lib.hid hn
  have HW := Lib.hid hw
  have HG := Lib.hid hg
  have hB := h.lt
  clear h hf hn hw hg
  go_enter Tryz.func25, Tryz.ntmps25
  go_wp2_with fail
  refine (rep_any w0 base B (.iface T x) f HN.out HG.out min max hmin hmax hmin0 _ v s (HW.out.trans (H.out.below_of (Mv.alloc _))) (H.out.alloc _)).mono ?_
  rintro e w2 ⟨v2, rfl, hb, hm⟩
  have HB2 := Lib.hid hb
  have HM2 := Lib.hid hm
  clear hb hm
  go_wp2_with fail
  go_end0
  exact ⟨_, rfl, HB2.out, (Mv.alloc _).trans HM2.out⟩

set_option maxRecDepth 100000 in
set_option maxHeartbeats 800000 in
theorem node_alt (w0 : World) (base B b off n c : Nat) (V : Nat → Value) (fs : Nat → BS → BS) (hp : Parts w0 base B b off (n + 1) V fs) (hc : n + 1 ≤ c) (hcm : c ≤ 9223372036854775807) (hsm : n ≤ 1048576)
    (w : World) (v : Value) (s : BS) (hw : Below base w0 w) (h : Bd w base B v s) (hf : s.full = false) :
    Calls Tryz.prog 25 #[.pointer (some ⟨B, 0, none⟩), .iface 82 (.agg #[.slice (some ⟨b, off, none⟩) (n + 1) c])] w
      (BPost w base B v (.tuple #[]) (setsX (fs n (altK fs n (s, [])).1) (altK fs n (s, [])).2)) := by
  have c4 := h.c4
  rw [hf] at c4
  have H := Lib.hid h
  have HP := Lib.hid hp
  have HW := Lib.hid hw
  have hB := h.lt
  clear h hf hp hw
  go_enter Tryz.func25, Tryz.ntmps25
  go_wp2_with fail
  refine (alt_any w0 base B b off n c V fs HP.out hc hcm hsm _ v s (HW.out.trans (H.out.below_of (Mv.alloc _))) (H.out.alloc _)).mono ?_
  rintro e w2 ⟨v2, rfl, hb, hm⟩
  have HB2 := Lib.hid hb
  have HM2 := Lib.hid hm
  clear hb hm
  go_wp2_with fail
  go_end0
  exact ⟨_, rfl, HB2.out, (Mv.alloc _).trans HM2.out⟩
end Go.Proofs.YtkaoegdfgoojdaaGreatDoor
