/- Known, Few: the walks. -/
import Derived.Test.YtkaoegdfgoojdaaRefA
namespace Go.Proofs.Ytkaoegdfgoojdaa
open Go Go.RowKit

theorem ret_bool {a b : Bool} (h : a = b) : Ending.returned (.bool a) = .returned (.bool b) := by rw [h]
mutual
def knownR : RT → Bool
  | .mk k _ _ _ _ ps _ _ _ => decide (0 ≤ k) && decide (k ≤ 8) && knownL ps
def knownL : List RT → Bool
  | [] => true
  | t :: r => knownR t && knownL r
end
theorem knownL_take (ps : List RT) (j : Nat) (h : j < ps.length) : knownL (ps.take (j + 1)) = (knownL (ps.take j) && knownR (ps.getD j .zero)) := by
  induction ps generalizing j with
  | nil => simp at h
  | cons t r ih =>
    cases j with
    | zero => simp [knownL]
    | succ j => simp only [List.take_succ_cons, knownL, ih j (by simpa using h), List.getD_cons_succ, Bool.and_assoc]
theorem knownL_stop (ps : List RT) (j : Nat) (h : knownL (ps.take j) = false) : knownL ps = false := by
  induction ps generalizing j with
  | nil => simpa using h
  | cons t r ih =>
    cases j with
    | zero => simp [knownL] at h
    | succ j =>
      simp only [List.take_succ_cons, knownL, Bool.and_eq_false_iff] at h ⊢
      rcases h with h | h
      · exact .inl h
      · exact .inr (ih j h)

def KnRel (w : World) (ps : List RT) (i : Value) (wr : World) : Prop :=
  ∃ k, k ≤ ps.length ∧ i = .int .i64 (k : Nat) ∧ knownL (ps.take k) = true ∧ Below w.heap.size w wr

set_option maxRecDepth 100000 in
set_option maxHeartbeats 1000000 in
theorem known_any (n : Nat) : ∀ (t : RT), rsize t ≤ n → ∀ (w : World) (N : Nat) (cs : List Value), N ≤ w.heap.size → Rd w N t cs →
    Calls Try.prog 15 #[.agg cs.toArray] w (Says w (.bool (knownR t))) := by
  induction n with
  | zero => intro t ht; exact absurd ht (by have := rsize_pos t; omega)
  | succ n ih =>
    intro t ht w N cs hN h
    match t, h with
    | .mk k s0 s1 s2 s3 ps mn mx num, ⟨a, c, e, hl, hor⟩ =>
      subst e
      have IH : ∀ j, j < ps.length → ∀ (w : World) (N : Nat) (cs : List Value), N ≤ w.heap.size → Rd w N (ps.getD j .zero) cs → Calls Try.prog 15 #[.agg cs.toArray] w (Says w (.bool (knownR (ps.getD j .zero)))) := by
        intro j hj
        have h1 := rsizeL_at ps j hj
        simp only [rsize] at ht
        exact ih _ (by omega)
      have HIH := Lib.hid IH
      have HOR := Lib.hid hor
      have hrs : knownR (.mk k s0 s1 s2 s3 ps mn mx num) = (decide (0 ≤ k) && decide (k ≤ 8) && knownL ps) := rfl
      rw [hrs]
      clear ih IH hor ht hrs
      have hb0 : Below w.heap.size w (w.alloc (.cells #[.int .i64 k, .int .u64 s0, .int .u64 s1, .int .u64 s2, .int .u64 s3, .slice a ps.length c, .int .i64 mn, .int .i64 mx, .int .i64 num] 27)) := (Below.refl _ _).alloc (Nat.le_refl _) _
      have HB0 := Lib.hid hb0
      clear hb0
      by_cases hk0 : 0 ≤ k
      · by_cases hk8 : k ≤ 8
        · have HV := Lib.hid (show (decide (0 ≤ k) && decide (k ≤ 8) && knownL ps) = knownL ps by simp [hk0, hk8])
          rw [HV.out]
          go_enter Try.func15, Try.ntmps15
          go_wp2_with fail
          generalize w.alloc (.cells #[.int .i64 k, .int .u64 s0, .int .u64 s1, .int .u64 s2, .int .u64 s3, .slice a ps.length c, .int .i64 mn, .int .i64 mx, .int .i64 num] 27) = W0 at *
          go_loopw [16] (fun i wr => KnRel W0 ps i wr) (fun i _ => ps.length - (intOf i).toNat)
          case atStart => exact ⟨0, Nat.zero_le _, rfl, by simp [knownL], Below.refl _ _⟩
          case round =>
            obtain ⟨j, hj, rfl, hp, hb⟩ := hrel
            have HB := Lib.hid (HB0.out.trans (hb.mono HB0.out.size))
            have HBr := Lib.hid hb
            have HP := Lib.hid hp
            clear hb hp
            by_cases hlt : j < ps.length
            · obtain ⟨b, off, rfl, hbN, hc1, hc2, hat⟩ := HOR.out.resolve_left (by intro e; rw [e] at hlt; simp at hlt)
              obtain ⟨cs, hcs, hrd⟩ := RdAt.at ps off (RdAt.below (HB.out.mono hN) b hbN ps off hat) j hlt
              obtain ⟨k', s0', s1', s2', s3', a', n', c', mn', mx', num', h9⟩ := nine hcs hrd
              have q0 := h9.c0
              have q1 := h9.c1
              have q2 := h9.c2
              have q3 := h9.c3
              have q4 := h9.c4
              have q5 := h9.c5
              have q6 := h9.c6
              have q7 := h9.c7
              have q8 := h9.c8
              have H9 := Lib.hid h9.rd
              have HT := Lib.hid (knownL_take ps j hlt)
              clear hcs hrd h9 hat
              go_wp2_with fail
              clear q0 q1 q2 q3 q4 q5 q6 q7 q8
              refine (HIH.out j hlt _ N _ ?_ ?_).mono ?_
              · have := HB.out.size; simp; omega
              · exact Rd.below ((Below.refl _ _).alloc (Nat.le_trans hN HB.out.size) _) _ _ H9.out
              rintro e w3 ⟨rfl, hb3⟩
              have HB3 := Lib.hid (HBr.out.trans (((Below.refl _ _).alloc HBr.out.size _).trans (hb3.mono (by have := HBr.out.size; simp; omega))))
              clear hb3
              cases hkn : knownR (ps.getD j .zero) with
              | true =>
                have HK := Lib.hid hkn
                clear hkn
                go_wp2_with fail
                go_roundw
                case rel => exact ⟨j + 1, by omega, by go_num, by rw [HT.out, HP.out, HK.out]; rfl, HB3.out⟩
                case measure => simp [intOf]; omega
              | false =>
                have HK := Lib.hid hkn
                clear hkn
                go_wp2_with fail
                go_ret
                exact ⟨ret_bool (knownL_stop ps (j + 1) (by rw [HT.out, HP.out, HK.out]; rfl)).symm, HB0.out.trans (HB3.out.mono HB0.out.size)⟩
            · obtain rfl : j = ps.length := by omega
              go_wp2_with fail
              go_ret
              have h := HP.out
              rw [List.take_length] at h
              exact ⟨ret_bool h.symm, HB.out⟩
        · go_enter Try.func15, Try.ntmps15
          go_wp2_with fail
          go_ret
          exact ⟨by simp; omega, HB0.out⟩
      · go_enter Try.func15, Try.ntmps15
        go_wp2_with fail
        go_ret
        exact ⟨by simp; omega, HB0.out⟩

set_option maxRecDepth 100000 in
set_option maxHeartbeats 1000000 in
/-- Few: at a tree that is small enough for size not to go round. -/
theorem few_any (t : RT) (hbig : rsize t ≤ 1048576) (w : World) (N : Nat) (cs : List Value) (hN : N ≤ w.heap.size) (h : Rd w N t cs) :
    Calls Try.prog 7 #[.agg cs.toArray, .int .i64 100] w (Says w (.bool (decide (rsize t ≤ 100) && knownR t))) := by
  have H := Lib.hid h
  match t, h with
  | .mk k s0 s1 s2 s3 ps mn mx num, ⟨a, c, e, hl, hor⟩ =>
    subst e
    clear hor
    obtain ⟨t, ht⟩ : ∃ t, t = RT.mk k s0 s1 s2 s3 ps mn mx num := ⟨_, rfl⟩
    rw [← ht] at hbig H ⊢
    clear ht
    have hb0 : Below w.heap.size w (w.alloc (.cells #[.int .i64 k, .int .u64 s0, .int .u64 s1, .int .u64 s2, .int .u64 s3, .slice a ps.length c, .int .i64 mn, .int .i64 mx, .int .i64 num] 27)) := (Below.refl _ _).alloc (Nat.le_refl _) _
    have HB0 := Lib.hid hb0
    have HS := Lib.hid (size_any (rsize t) t (Nat.le_refl _) hbig _ N _ (Nat.le_trans hN hb0.size) (Rd.below (hb0.mono hN) t _ H.out))
    clear hb0
    go_enter Try.func7, Try.ntmps7
    go_wp2_with fail
    refine HS.out.mono ?_
    rintro e w2 ⟨rfl, hb⟩
    have HB2 := Lib.hid (HB0.out.trans (hb.mono HB0.out.size))
    have q : w2.heap[w.heap.size]? = _ := (hb.block w.heap.size (by simp)).trans (heap_alloc_new w _)
    have q0 := cell_of q (j := 0) rfl
    have q1 := cell_of q (j := 1) rfl
    have q2 := cell_of q (j := 2) rfl
    have q3 := cell_of q (j := 3) rfl
    have q4 := cell_of q (j := 4) rfl
    have q5 := cell_of q (j := 5) rfl
    have q6 := cell_of q (j := 6) rfl
    have q7 := cell_of q (j := 7) rfl
    have q8 := cell_of q (j := 8) rfl
    clear hb q
    by_cases hs : rsize t ≤ 100
    · have hs' : (rsize t : Int) ≤ 100 := by omega
      have HK := Lib.hid (known_any (rsize t) t (Nat.le_refl _) w2 N _ (Nat.le_trans hN HB2.out.size) (Rd.below (HB2.out.mono hN) t _ H.out))
      go_wp2_with fail
      refine HK.out.mono ?_
      rintro e w3 ⟨rfl, hb⟩
      have HB3 := Lib.hid (HB2.out.trans (hb.mono HB2.out.size))
      clear hb
      go_wp2_with fail
      go_ret
      exact ⟨by simp [hs], HB3.out⟩
    · have hs' : ¬ (rsize t : Int) ≤ 100 := by omega
      go_wp2_with fail
      go_ret
      exact ⟨by simp [hs], HB2.out⟩
end Go.Proofs.Ytkaoegdfgoojdaa
