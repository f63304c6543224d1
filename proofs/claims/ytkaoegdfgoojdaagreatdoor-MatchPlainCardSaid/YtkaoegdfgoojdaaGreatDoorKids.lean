/- The reference's Of, Kids: the walks. -/
import Derived.Test.YtkaoegdfgoojdaaGreatDoorTreeP
namespace Go.Proofs.YtkaoegdfgoojdaaGreatDoor
open Go Go.RowKit

theorem Rd.form {w : World} {N : Nat} {t : RT} {cs : List Value} (h : Rd w N t cs) : ∃ k s0 s1 s2 s3 a n c mn mx num, cs = [.int .i64 k, .int .u64 s0, .int .u64 s1, .int .u64 s2, .int .u64 s3, .slice a n c, .int .i64 mn, .int .i64 mx, .int .i64 num] := by
  match t, h with
  | .mk k s0 s1 s2 s3 ps mn mx num, ⟨a, c, e, _, _⟩ => exact ⟨k, s0, s1, s2, s3, a, ps.length, c, mn, mx, num, e⟩
def ofR (t : RT) : RT := t.parts.getD 0 .zero
def kidsR (t : RT) : List RT := if t.kind = 2 ∨ t.kind = 3 then t.parts else if t.kind = 4 ∨ t.kind = 5 then [ofR t] else []
theorem rd_zero (w : World) (N : Nat) : Rd w N .zero [.int .i64 0, .int .u64 0, .int .u64 0, .int .u64 0, .int .u64 0, .slice none 0 0, .int .i64 0, .int .i64 0, .int .i64 0] :=
  ⟨none, 0, rfl, by simp, .inl rfl⟩

def OfPost (w : World) (N : Nat) (t : RT) (e : Ending) (w' : World) : Prop := ∃ cs, e = .returned (.agg cs.toArray) ∧ Below w.heap.size w w' ∧ Rd w' N t cs

set_option maxRecDepth 100000 in
set_option maxHeartbeats 1000000 in
theorem of_any (t : RT) (w : World) (N : Nat) (cs : List Value) (hN : N ≤ w.heap.size) (h : Rd w N t cs) :
    Calls Tryz.prog 42 #[.agg cs.toArray] w (OfPost w N (ofR t)) := by
  match t, h with
  | .mk k s0 s1 s2 s3 ps mn mx num, ⟨a, c, e, hl, hor⟩ =>
    subst e
    have HOR := Lib.hid hor
    have hrs : ofR (.mk k s0 s1 s2 s3 ps mn mx num) = ps.getD 0 .zero := rfl
    rw [hrs]
    clear hrs hor h
    by_cases hz : ps.length = 0
    · obtain rfl : ps = [] := List.eq_nil_of_length_eq_zero hz
      go_enter Tryz.func42, Tryz.ntmps42
      go_wp2_with fail
      refine bodyPost_ret (v := .agg #[.int .i64 0, .int .u64 0, .int .u64 0, .int .u64 0, .int .u64 0, .slice none 0 0, .int .i64 0, .int .i64 0, .int .i64 0]) (by simp [results, Tryz.results42, go_sem]) rfl ⟨_, rfl, ((Below.refl _ _).alloc (Nat.le_refl _) _).alloc (by simp) _, rd_zero _ _⟩
    · obtain ⟨b, off, rfl, hbN, hc1, hc2, hat⟩ := HOR.out.resolve_left (by intro e; rw [e] at hz; simp at hz)
      obtain ⟨cs, hcs, hrd⟩ := RdAt.at ps off hat 0 (by omega)
      obtain ⟨k', s0', s1', s2', s3', a', n', c', mn', mx', num', h9⟩ := nine hcs hrd
      have q0 := h9.c0
      have q1 := h9.c1
      have q2 := h9.c2
      have q3 := h9.c3
      have q4 := h9.c4
      have q5 := h9.c5
      have q6 := h9.c6
      have q7 := h9.c7
      have q8 := h9.c8
      simp only [Nat.zero_mul, Nat.add_zero] at q0 q1 q2 q3 q4 q5 q6 q7 q8
      have H9 := Lib.hid h9.rd
      have hz' : ((ps.length : Int) == 0) = false := by rw [beq_eq_false_iff_ne]; omega
      have hpl : 0 < ps.length := by omega
      have hbW : b < w.heap.size := by omega
      clear hcs hrd h9 hat hz
      go_enter Tryz.func42, Tryz.ntmps42
      go_wp2_with fail
      have hb : Below w.heap.size w ((w.alloc (.cells #[.int .i64 k, .int .u64 s0, .int .u64 s1, .int .u64 s2, .int .u64 s3, .slice (some ⟨b, off, none⟩) ps.length c, .int .i64 mn, .int .i64 mx, .int .i64 num] 28)).alloc (.cells #[.int .i64 k', .int .u64 s0', .int .u64 s1', .int .u64 s2', .int .u64 s3', .slice a' n' c', .int .i64 mn', .int .i64 mx', .int .i64 num'] 28)) :=
        ((Below.refl _ _).alloc (Nat.le_refl _) _).alloc (by simp) _
      exact bodyPost_ret (v := .agg #[.int .i64 k', .int .u64 s0', .int .u64 s1', .int .u64 s2', .int .u64 s3', .slice a' n' c', .int .i64 mn', .int .i64 mx', .int .i64 num']) (by simp [results, Tryz.results42, go_sem]) rfl ⟨_, rfl, hb, Rd.below (hb.mono hN) _ _ H9.out⟩

/-- A slice of the reference's nodes. -/
def RSl (w : World) (N : Nat) (ps : List RT) (x : Value) : Prop :=
  ∃ a c, x = .slice a ps.length c ∧ ps.length ≤ 9223372036854775807 ∧ (ps = [] ∨ ∃ b off, a = some ⟨b, off, none⟩ ∧ b < N ∧ ps.length ≤ c ∧ c ≤ 9223372036854775807 ∧ RdAt w N b off ps)
theorem RSl.below {w w' : World} {N : Nat} (hb : Below N w w') {ps : List RT} {x : Value} (h : RSl w N ps x) : RSl w' N ps x := by
  obtain ⟨a, c, e, hl, h⟩ := h
  exact ⟨a, c, e, hl, h.imp_right fun ⟨b, off, ea, hlt, h1, h2, h3⟩ => ⟨b, off, ea, hlt, h1, h2, RdAt.below hb b hlt ps off h3⟩⟩
theorem RSl.mono {w : World} {N N' : Nat} (hN : N ≤ N') {ps : List RT} {x : Value} (h : RSl w N ps x) : RSl w N' ps x := by
  obtain ⟨a, c, e, hl, h⟩ := h
  exact ⟨a, c, e, hl, h.imp_right fun ⟨b, off, ea, hlt, h1, h2, h3⟩ => ⟨b, off, ea, Nat.lt_of_lt_of_le hlt hN, h1, h2, RdAt.mono hN b ps off h3⟩⟩
def KidsRPost (w : World) (ps : List RT) (e : Ending) (w' : World) : Prop := ∃ x, e = .returned x ∧ Below w.heap.size w w' ∧ RSl w' w'.heap.size ps x

set_option maxRecDepth 100000 in
set_option maxHeartbeats 1000000 in
theorem kidsR_any (t : RT) (w : World) (N : Nat) (cs : List Value) (hN : N ≤ w.heap.size) (h : Rd w N t cs) :
    Calls Tryz.prog 26 #[.agg cs.toArray] w (KidsRPost w (kidsR t)) := by
  have H := Lib.hid h
  match t, h with
  | .mk k s0 s1 s2 s3 ps mn mx num, ⟨a, c, e, hl, hor⟩ =>
    subst e
    have hb0 : Below w.heap.size w (w.alloc (.cells #[.int .i64 k, .int .u64 s0, .int .u64 s1, .int .u64 s2, .int .u64 s3, .slice a ps.length c, .int .i64 mn, .int .i64 mx, .int .i64 num] 28)) := (Below.refl _ _).alloc (Nat.le_refl _) _
    have HB0 := Lib.hid hb0
    have HSL := Lib.hid ((RSl.below (hb0.mono hN) (show RSl w N ps _ from ⟨a, c, rfl, hl, hor⟩)).mono (Nat.le_trans hN hb0.size))
    have HOF := Lib.hid (of_any _ _ N _ (Nat.le_trans hN hb0.size) (Rd.below (hb0.mono hN) _ _ H.out))
    have hsz : (w.alloc (.cells #[.int .i64 k, .int .u64 s0, .int .u64 s1, .int .u64 s2, .int .u64 s3, .slice a ps.length c, .int .i64 mn, .int .i64 mx, .int .i64 num] 28)).heap.size = w.heap.size + 1 := Array.size_push _
    have HSZ := Lib.hid hsz
    clear hb0 hor hsz
    have one : ∀ (w2 : World) (cs : List Value), Below (w.heap.size + 1) (w.alloc (.cells #[.int .i64 k, .int .u64 s0, .int .u64 s1, .int .u64 s2, .int .u64 s3, .slice a ps.length c, .int .i64 mn, .int .i64 mx, .int .i64 num] 28)) w2 → Rd w2 N (ofR (.mk k s0 s1 s2 s3 ps mn mx num)) cs →
        Below w.heap.size w (w2.alloc (.cells cs.toArray 28)) ∧ RSl (w2.alloc (.cells cs.toArray 28)) (w2.alloc (.cells cs.toArray 28)).heap.size [ofR (.mk k s0 s1 s2 s3 ps mn mx num)] (.slice (some ⟨w2.heap.size, 0, none⟩) 1 1) := by
      intro w2 cs hb hr
      have hs := hb.size
      rw [HSZ.out] at hs
      have hbb : Below w.heap.size w w2 := HB0.out.trans (hb.mono (by omega))
      have hn : (w2.alloc (.cells cs.toArray 28)).heap.size = w2.heap.size + 1 := Array.size_push _
      have hb2 : Below w2.heap.size w2 (w2.alloc (.cells cs.toArray 28)) := (Below.refl _ _).alloc (Nat.le_refl _) _
      refine ⟨hbb.alloc hbb.size _, _, _, rfl, by simp, .inr ⟨w2.heap.size, 0, rfl, by omega, Nat.le_refl _, by omega, ⟨cs, fun j hj => ?_, ?_⟩, trivial⟩⟩
      · rw [Nat.zero_add, cell_of_row _ _ _ _ _ _ (heap_alloc_new w2 _)]
        simp
      · exact Rd.mono (by omega) _ _ (Rd.below (hb2.mono (by omega)) _ _ hr)
    have ONE := Lib.hid one
    clear one
    by_cases k2 : k = 2
    · subst k2
      go_enter Tryz.func26, Tryz.ntmps26
      go_wp2_with fail
      go_ret
      exact ⟨_, rfl, HB0.out, HSL.out⟩
    by_cases k3 : k = 3
    · subst k3
      go_enter Tryz.func26, Tryz.ntmps26
      go_wp2_with fail
      go_ret
      exact ⟨_, rfl, HB0.out, HSL.out⟩
    by_cases k4 : k = 4
    · subst k4
      go_enter Tryz.func26, Tryz.ntmps26
      go_wp2_with fail
      refine HOF.out.mono ?_
      rintro e w2 ⟨cs, rfl, hb, hr⟩
      obtain ⟨k', s0', s1', s2', s3', a', n', c', mn', mx', num', rfl⟩ := hr.form
      have HON := Lib.hid (ONE.out w2 _ (by rw [← HSZ.out]; exact hb) hr)
      clear hb hr
      go_wp2_with fail
      go_ret
      exact ⟨_, rfl, HON.out⟩
    by_cases k5 : k = 5
    · subst k5
      go_enter Tryz.func26, Tryz.ntmps26
      go_wp2_with fail
      refine HOF.out.mono ?_
      rintro e w2 ⟨cs, rfl, hb, hr⟩
      obtain ⟨k', s0', s1', s2', s3', a', n', c', mn', mx', num', rfl⟩ := hr.form
      have HON := Lib.hid (ONE.out w2 _ (by rw [← HSZ.out]; exact hb) hr)
      clear hb hr
      go_wp2_with fail
      go_ret
      exact ⟨_, rfl, HON.out⟩
    · have e2 : (k == 2) = false := by simp [k2]
      have e3 : (k == 3) = false := by simp [k3]
      have e4 : (k == 4) = false := by simp [k4]
      have e5 : (k == 5) = false := by simp [k5]
      have HK := Lib.hid (show kidsR (.mk k s0 s1 s2 s3 ps mn mx num) = [] by simp [kidsR, RT.kind, k2, k3, k4, k5])
      rw [HK.out]
      clear k2 k3 k4 k5
      go_enter Tryz.func26, Tryz.ntmps26
      go_wp2_with fail
      go_ret
      exact ⟨_, rfl, HB0.out, none, 0, rfl, by simp, .inl rfl⟩
end Go.Proofs.YtkaoegdfgoojdaaGreatDoor
