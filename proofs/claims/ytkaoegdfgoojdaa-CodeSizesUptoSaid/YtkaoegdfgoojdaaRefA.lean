/- size, Known, Few: the walks. -/
import Derived.Test.YtkaoegdfgoojdaaRead
namespace Go.Proofs.Ytkaoegdfgoojdaa
open Go Go.RowKit

mutual
theorem Rd.below {w w' : World} {N : Nat} (hb : Below N w w') : ∀ (t : RT) (cs : List Value), Rd w N t cs → Rd w' N t cs
  | .mk _ _ _ _ _ ps _ _ _, _, ⟨a, c, e, hl, h⟩ => ⟨a, c, e, hl, h.imp_right fun ⟨b, off, ea, hlt, h1, h2, h3⟩ => ⟨b, off, ea, hlt, h1, h2, RdAt.below hb b hlt ps off h3⟩⟩
theorem RdAt.below {w w' : World} {N : Nat} (hb : Below N w w') (b : Nat) (hlt : b < N) : ∀ (ps : List RT) (off : Nat), RdAt w N b off ps → RdAt w' N b off ps
  | [], _, _ => trivial
  | t :: r, off, ⟨⟨cs, hc, hv⟩, h⟩ => ⟨⟨cs, fun j hj => (hb.cell (p := ⟨b, off + j, none⟩) hlt).trans (hc j hj), Rd.below hb t cs hv⟩, RdAt.below hb b hlt r (off + 9) h⟩
end
mutual
theorem Rd.mono {w : World} {N N' : Nat} (hN : N ≤ N') : ∀ (t : RT) (cs : List Value), Rd w N t cs → Rd w N' t cs
  | .mk _ _ _ _ _ ps _ _ _, _, ⟨a, c, e, hl, h⟩ => ⟨a, c, e, hl, h.imp_right fun ⟨b, off, ea, hlt, h1, h2, h3⟩ => ⟨b, off, ea, Nat.lt_of_lt_of_le hlt hN, h1, h2, RdAt.mono hN b ps off h3⟩⟩
theorem RdAt.mono {w : World} {N N' : Nat} (hN : N ≤ N') (b : Nat) : ∀ (ps : List RT) (off : Nat), RdAt w N b off ps → RdAt w N' b off ps
  | [], _, _ => trivial
  | t :: r, off, ⟨⟨cs, hc, hv⟩, h⟩ => ⟨⟨cs, hc, Rd.mono hN t cs hv⟩, RdAt.mono hN b r (off + 9) h⟩
end
theorem RdAt.at {w : World} {N b : Nat} : ∀ (ps : List RT) (off : Nat), RdAt w N b off ps → ∀ j, j < ps.length → ∃ cs, (∀ i, i < 9 → w.cell? ⟨b, off + j * 9 + i, none⟩ = cs[i]?) ∧ Rd w N (ps.getD j .zero) cs
  | [], _, _, j, hj => absurd hj (by simp)
  | t :: r, off, ⟨⟨cs, hc, hv⟩, _⟩, 0, _ => ⟨cs, by simpa using hc, hv⟩
  | t :: r, off, ⟨_, h⟩, j + 1, hj => by
      obtain ⟨cs, h1, h2⟩ := RdAt.at r (off + 9) h j (by simpa using hj)
      exact ⟨cs, fun i hi => by rw [← h1 i hi]; congr 2; omega, h2⟩

/-- A node's nine cells, each by its name. -/
structure Nine (w : World) (N b o : Nat) (t : RT) (k s0 s1 s2 s3 : Int) (a : Option Addr) (n c : Nat) (mn mx num : Int) : Prop where
  rd : Rd w N t [.int .i64 k, .int .u64 s0, .int .u64 s1, .int .u64 s2, .int .u64 s3, .slice a n c, .int .i64 mn, .int .i64 mx, .int .i64 num]
  c0 : w.cell? ⟨b, o, none⟩ = some (.int .i64 k)
  c1 : w.cell? ⟨b, o + 1, none⟩ = some (.int .u64 s0)
  c2 : w.cell? ⟨b, o + 2, none⟩ = some (.int .u64 s1)
  c3 : w.cell? ⟨b, o + 3, none⟩ = some (.int .u64 s2)
  c4 : w.cell? ⟨b, o + 4, none⟩ = some (.int .u64 s3)
  c5 : w.cell? ⟨b, o + 5, none⟩ = some (.slice a n c)
  c6 : w.cell? ⟨b, o + 6, none⟩ = some (.int .i64 mn)
  c7 : w.cell? ⟨b, o + 7, none⟩ = some (.int .i64 mx)
  c8 : w.cell? ⟨b, o + 8, none⟩ = some (.int .i64 num)
  eqs : k = t.kind ∧ mn = t.mn ∧ mx = t.mx ∧ num = t.num ∧ n = t.parts.length
theorem nine {w : World} {N b o : Nat} {t : RT} {cs : List Value} (hc : ∀ i, i < 9 → w.cell? ⟨b, o + i, none⟩ = cs[i]?) (h : Rd w N t cs) :
    ∃ k s0 s1 s2 s3 a n c mn mx num, Nine w N b o t k s0 s1 s2 s3 a n c mn mx num := by
  match t, h with
  | .mk k s0 s1 s2 s3 ps mn mx num, ⟨a, c, e, hl, hor⟩ =>
    subst e
    exact ⟨k, s0, s1, s2, s3, a, ps.length, c, mn, mx, num, ⟨⟨a, c, rfl, hl, hor⟩, hc 0 (by omega), hc 1 (by omega), hc 2 (by omega), hc 3 (by omega), hc 4 (by omega), hc 5 (by omega), hc 6 (by omega), hc 7 (by omega), hc 8 (by omega), ⟨rfl, rfl, rfl, rfl, rfl⟩⟩⟩

theorem rsizeL_take (ps : List RT) (k : Nat) (h : k < ps.length) : rsizeL (ps.take (k + 1)) = rsizeL (ps.take k) + rsize (ps.getD k .zero) := by
  induction ps generalizing k with
  | nil => simp at h
  | cons t r ih =>
    cases k with
    | zero => simp [rsizeL]
    | succ k => simp only [List.take_succ_cons, rsizeL, ih k (by simpa using h), List.getD_cons_succ]; omega
theorem rsizeL_le (ps : List RT) (k : Nat) : rsizeL (ps.take k) ≤ rsizeL ps := by
  induction ps generalizing k with
  | nil => simp
  | cons t r ih =>
    cases k with
    | zero => simp [rsizeL]
    | succ k => have := ih k; simp only [List.take_succ_cons, rsizeL]; omega
theorem rsizeL_at (ps : List RT) (k : Nat) (h : k < ps.length) : rsize (ps.getD k .zero) ≤ rsizeL ps := by
  have h1 := rsizeL_take ps k h
  have h2 := rsizeL_le ps (k + 1)
  omega
theorem rsize_pos (t : RT) : 0 < rsize t := by cases t; simp [rsize]; omega

def SzRel (w : World) (ps : List RT) (n i : Value) (wr : World) : Prop :=
  ∃ k p, k ≤ ps.length ∧ i = .int .i64 (k : Nat) ∧ n = .int .i64 (p : Nat) ∧ p = 1 + rsizeL (ps.take k) ∧ Below w.heap.size w wr

set_option maxRecDepth 100000 in
set_option maxHeartbeats 1000000 in
theorem size_any (n : Nat) : ∀ (t : RT), rsize t ≤ n → rsize t ≤ 1048576 → ∀ (w : World) (N : Nat) (cs : List Value), N ≤ w.heap.size → Rd w N t cs →
    Calls Try.prog 14 #[.agg cs.toArray] w (Says w (.int .i64 (rsize t : Nat))) := by
  induction n with
  | zero => intro t ht; exact absurd ht (by have := rsize_pos t; omega)
  | succ n ih =>
    intro t ht hbig w N cs hN h
    match t, h with
    | .mk k s0 s1 s2 s3 ps mn mx num, ⟨a, c, e, hl, hor⟩ =>
      subst e
      have IH : ∀ j, j < ps.length → ∀ (w : World) (N : Nat) (cs : List Value), N ≤ w.heap.size → Rd w N (ps.getD j .zero) cs → Calls Try.prog 14 #[.agg cs.toArray] w (Says w (.int .i64 (rsize (ps.getD j .zero) : Nat))) := by
        intro j hj
        have h1 := rsizeL_at ps j hj
        simp only [rsize] at ht hbig
        exact ih _ (by omega) (by omega)
      have HIH := Lib.hid IH
      have HOR := Lib.hid hor
      have hrs : rsize (.mk k s0 s1 s2 s3 ps mn mx num) = 1 + rsizeL ps := rfl
      rw [hrs] at hbig ⊢
      have HBG := Lib.hid hbig
      clear ih IH hor ht hrs hbig
      go_enter Try.func14, Try.ntmps14
      go_wp2_with fail
      have hb0 : Below w.heap.size w (w.alloc (.cells #[.int .i64 k, .int .u64 s0, .int .u64 s1, .int .u64 s2, .int .u64 s3, .slice a ps.length c, .int .i64 mn, .int .i64 mx, .int .i64 num] 27)) := (Below.refl _ _).alloc (Nat.le_refl _) _
      have HB0 := Lib.hid hb0
      clear hb0
      generalize w.alloc (.cells #[.int .i64 k, .int .u64 s0, .int .u64 s1, .int .u64 s2, .int .u64 s3, .slice a ps.length c, .int .i64 mn, .int .i64 mx, .int .i64 num] 27) = W0 at *
      go_loopw [3, 9] (fun n i wr => SzRel W0 ps n i wr) (fun _ i _ => ps.length - (intOf i).toNat)
      case atStart => exact ⟨0, 1, Nat.zero_le _, rfl, rfl, by simp [rsizeL], Below.refl _ _⟩
      case round =>
        obtain ⟨j, p, hj, rfl, rfl, hp, hb⟩ := hrel
        have HB := Lib.hid (HB0.out.trans (hb.mono HB0.out.size))
        have HBr := Lib.hid hb
        have HP := Lib.hid hp
        clear hb hp
        by_cases hlt : j < ps.length
        · obtain ⟨b, off, rfl, hbN, hc1, hc2, hat⟩ := HOR.out.resolve_left (by intro e; rw [e] at hlt; simp at hlt)
          obtain ⟨cs, hcs, hrd⟩ := RdAt.at ps off (RdAt.below (HB.out.mono hN) b hbN ps off hat) j hlt
          obtain ⟨k', s0', s1', s2', s3', a', n', c', mn', mx', num', h9⟩ := nine hcs hrd
          have q0 := h9.c0
          have q1 := h9.c1
          have q2 := h9.c2
          have q3 := h9.c3
          have q4 := h9.c4
          have q5 := h9.c5
          have q6 := h9.c6
          have q7 := h9.c7
          have q8 := h9.c8
          have H9 := Lib.hid h9.rd
          obtain ⟨g, hgk⟩ : ∃ g, rsize (ps.getD j .zero) = g := ⟨_, rfl⟩
          have hle : p + g ≤ 1048576 := by
            have h1 := rsizeL_take ps j hlt
            have h2 := rsizeL_le ps (j + 1)
            have h3 := HBG.out
            have h4 := HP.out
            omega
          have hS := Lib.hid (show p + g = 1 + rsizeL (ps.take (j + 1)) by rw [rsizeL_take _ j hlt, HP.out, hgk]; omega)
          have HGK := Lib.hid hgk
          clear hcs hrd h9 hgk hat
          go_wp2_with fail
          clear q0 q1 q2 q3 q4 q5 q6 q7 q8
          refine (HIH.out j hlt _ N _ ?_ ?_).mono ?_
          · have := HB.out.size; simp; omega
          · exact Rd.below ((Below.refl _ _).alloc (Nat.le_trans hN HB.out.size) _) _ _ H9.out
          rintro e w3 ⟨rfl, hb3⟩
          have HB3 := Lib.hid (HBr.out.trans (((Below.refl _ _).alloc HBr.out.size _).trans (hb3.mono (by have := HBr.out.size; simp; omega))))
          clear hb3
          rw [HGK.out]
          go_wp2_with fail
          go_roundw
          case rel => exact ⟨j + 1, p + g, by omega, by go_num, by go_num, hS.out, HB3.out⟩
          case measure => simp [intOf]; omega
        · obtain rfl : j = ps.length := by omega
          go_wp2_with fail
          go_ret
          exact ⟨ret_int (by rw [HP.out, List.take_length]), HB.out⟩
end Go.Proofs.Ytkaoegdfgoojdaa
