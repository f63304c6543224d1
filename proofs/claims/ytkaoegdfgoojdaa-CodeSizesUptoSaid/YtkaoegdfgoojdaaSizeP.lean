/- CodeSizes: how many instructions are laid: in plain Lean. -/
import Derived.Test.YtkaoegdfgoojdaaSLawP
namespace Go.Proofs.Ytkaoegdfgoojdaa
open Go Go.RowKit

mutual
/-- How many instructions a node has, by the law's own count; none: a Rep is in it. -/
def icT : Tr → Option Int
  | .cat ps => icL ps
  | .alt ps => (icL ps).map (2 * ((ps.length : Int) - 1) + ·)
  | .rep .. => none
  | .group _ t => (icT t).map (2 + ·)
  | .empty => some 0
  | .one .. => some 1
  | .start => some 1
  | .endd => some 1
  | .back _ => some 1
def icL : List Tr → Option Int
  | [] => some 0
  | t :: r => (icT t).bind fun m => (icL r).map (m + ·)
end
mutual
theorem icT_bound : ∀ (t : Tr) (m : Int), icT t = some m → -(2 * sizeT t : Nat) ≤ m ∧ m + 2 ≤ (4 * sizeT t : Nat)
  | .cat ps, m, h => by
      simp only [icT] at h; simp only [sizeT]
      have := icL_bound ps m h; omega
  | .alt ps, m, h => by
      simp only [icT] at h; simp only [sizeT]
      obtain ⟨a, h1, rfl⟩ := Option.map_eq_some_iff.1 h
      have := icL_bound ps a h1; have := length_sizeL ps; omega
  | .rep .., m, h => by simp [icT] at h
  | .group _ t, m, h => by
      simp only [icT] at h; simp only [sizeT]
      obtain ⟨a, h1, rfl⟩ := Option.map_eq_some_iff.1 h
      have := icT_bound t a h1; omega
  | .empty, m, h => by simp only [icT] at h; cases h; simp [sizeT]
  | .one .., m, h => by simp only [icT] at h; cases h; simp [sizeT]
  | .start, m, h => by simp only [icT] at h; cases h; simp [sizeT]
  | .endd, m, h => by simp only [icT] at h; cases h; simp [sizeT]
  | .back _, m, h => by simp only [icT] at h; cases h; simp [sizeT]
theorem icL_bound : ∀ (ps : List Tr) (m : Int), icL ps = some m → -(2 * sizeL ps : Nat) ≤ m ∧ m + 2 * ps.length ≤ (4 * sizeL ps : Nat)
  | [], m, h => by simp only [icL] at h; cases h; simp [sizeL]
  | t :: r, m, h => by
      simp only [icL] at h; simp only [sizeL, List.length_cons]
      obtain ⟨a, h1, h2⟩ := Option.bind_eq_some_iff.1 h
      obtain ⟨b, h3, rfl⟩ := Option.map_eq_some_iff.1 h2
      have := icT_bound t a h1; have := icL_bound r b h3; omega
end
theorem icL_take (ps : List Tr) (k : Nat) (h : k < ps.length) : icL (ps.take (k + 1)) = (icL (ps.take k)).bind fun m => (icT (ps.getD k .empty)).map (m + ·) := by
  induction ps generalizing k with
  | nil => simp at h
  | cons t r ih =>
    cases k with
    | zero => simp only [List.take_succ_cons, List.take_zero, icL, List.getD_cons_zero, Option.bind_some, Option.map_some]; cases icT t <;> simp
    | succ k =>
      simp only [List.take_succ_cons, icL, List.getD_cons_succ]
      rw [ih k (by simpa using h)]
      cases icT t with
      | none => rfl
      | some a => cases icL (r.take k) with
        | none => rfl
        | some b => simp only [Option.bind_some, Option.map_some]; cases icT (r.getD k .empty) with
          | none => rfl
          | some c => simp only [Option.map_some]; congr 1; omega
theorem icL_stop (ps : List Tr) (k : Nat) (h : icL (ps.take k) = none) : icL ps = none := by
  induction ps generalizing k with
  | nil => simp [icL] at h
  | cons t r ih =>
    cases k with
    | zero => simp [icL] at h
    | succ k =>
      simp only [List.take_succ_cons, icL] at h ⊢
      cases ht : icT t with
      | none => rfl
      | some a =>
        rw [ht] at h
        simp only [Option.bind_some, Option.map_eq_none_iff] at h ⊢
        exact ih k h

/-- f lays k instructions and no Enter, where there is room. -/
def Cnt (f : BS → BS) (k : Int) : Prop := ∀ st : BS, st.full = false → (st.insts.length : Int) + k ≤ 3000 → (f st).full = false ∧ ((f st).insts.length : Int) = st.insts.length + k ∧ (f st).loops = st.loops
theorem put_cnt (i : In) : Cnt (putS · i) 1 := fun st h1 h2 => by
  have : st.insts.length < 3000 := by omega
  simp only [putS, if_pos this]; simp [h1]
theorem cnt_if {f : BS → BS} {k : Int} (hf : Cnt f k) : Cnt (fun b => if b.full then b else f b) k := fun st h1 h2 => by
  simp only [h1]; exact hf st h1 h2
theorem cnt_comp {f g : BS → BS} {k m : Int} (hk : 0 ≤ m) (hf : Cnt f k) (hg : Cnt g m) : Cnt (fun b => g (f b)) (k + m) := fun st h1 h2 => by
  obtain ⟨a1, a2, a3⟩ := hf st h1 (by omega)
  obtain ⟨b1, b2, b3⟩ := hg (f st) a1 (by omega)
  exact ⟨b1, by show ((g (f st)).insts.length : Int) = _; omega, b3.trans a3⟩
theorem altS_cnt : ∀ (ts : List Tr) (m : Int) (ht : ∀ t, t ∈ ts → ∀ a, icT t = some a → 0 ≤ a ∧ Cnt (nodeS t) a), icL ts = some m → ts ≠ [] → 0 ≤ m ∧ ∀ l, Cnt (fun b => altS ts b l) (2 * ((ts.length : Int) - 1) + m)
  | [], _, _, _, h => absurd rfl h
  | [t], m, ht, h, _ => by
      simp only [icL] at h
      obtain ⟨a, h1, h2⟩ := Option.bind_eq_some_iff.1 h
      simp only [icL, Option.map_some, Int.add_zero] at h2
      have e : a = m := Option.some.inj h2
      subst e
      obtain ⟨p, c⟩ := ht t (by simp) a h1
      refine ⟨p, fun l st g1 g2 => ?_⟩
      simp only [List.length_singleton] at g2
      obtain ⟨c1, c2, c3⟩ := c st g1 (by omega)
      simp only [altS, setsX_up, upX_length, List.length_singleton]
      exact ⟨c1, by omega, c3⟩
  | t :: u :: r, m, ht, h, _ => by
      rw [icL] at h
      obtain ⟨a, h1, h2⟩ := Option.bind_eq_some_iff.1 h
      obtain ⟨b, h3, rfl⟩ := Option.map_eq_some_iff.1 h2
      obtain ⟨p, c⟩ := ht t (by simp) a h1
      obtain ⟨q, d⟩ := altS_cnt (u :: r) b (fun t' h' => ht t' (by simp at h' ⊢; right; exact h')) h3 (by simp)
      refine ⟨by omega, fun l st g1 g2 => ?_⟩
      simp only [List.length_cons] at g2 d ⊢
      have e : altS (t :: u :: r) st l = altS (u :: r) (setY (putS (nodeS t (splitS st)) (inst 2 0)) (putN st).toNat (putS (nodeS t (splitS st)) (inst 2 0)).insts.length) (l ++ [(putN (nodeS t (splitS st))).toNat]) := by
        rw [altS]; simp
      rw [e]
      obtain ⟨x1, x2, x3⟩ := put_cnt (inst 1 (st.insts.length + 1)) st g1 (by omega)
      dsimp only at x1 x2 x3
      obtain ⟨y1, y2, y3⟩ := c (splitS st) x1 (by unfold splitS; omega)
      obtain ⟨z1, z2, z3⟩ := put_cnt (inst 2 0) (nodeS t (splitS st)) y1 (by unfold splitS at y2 ⊢; omega)
      dsimp only at z1 z2 z3
      generalize hS : setY (putS (nodeS t (splitS st)) (inst 2 0)) (putN st).toNat (putS (nodeS t (splitS st)) (inst 2 0)).insts.length = S
      have s1 : S.full = false := by rw [← hS]; exact z1
      have s2 : (S.insts.length : Int) = st.insts.length + 2 + a := by rw [← hS, setY_length]; unfold splitS at y2 z2 ⊢; omega
      have s3 : S.loops = st.loops := by rw [← hS]; exact (z3.trans y3).trans x3
      obtain ⟨w1, w2, w3⟩ := d (l ++ [(putN (nodeS t (splitS st))).toNat]) S s1 (by omega)
      dsimp only at w1 w2 w3
      exact ⟨w1, by show ((altS (u :: r) S _).insts.length : Int) = _; omega, w3.trans s3⟩
theorem catS_cnt : ∀ (ts : List Tr) (m : Int) (ht : ∀ t, t ∈ ts → ∀ a, icT t = some a → 0 ≤ a ∧ Cnt (nodeS t) a), icL ts = some m → 0 ≤ m ∧ Cnt (catS ts) m
  | [], m, _, h => by simp only [icL] at h; cases h; exact ⟨Int.le_refl _, fun st h1 h2 => by rw [catS]; exact ⟨h1, by omega, rfl⟩⟩
  | t :: r, m, ht, h => by
      rw [icL] at h
      obtain ⟨a, h1, h2⟩ := Option.bind_eq_some_iff.1 h
      obtain ⟨b, h3, rfl⟩ := Option.map_eq_some_iff.1 h2
      obtain ⟨p, c⟩ := ht t (by simp) a h1
      obtain ⟨q, d⟩ := catS_cnt r b (fun t' h' => ht t' (by simp [h'])) h3
      have := cnt_comp q c d
      exact ⟨by omega, fun st g1 g2 => by rw [catS]; exact this st g1 g2⟩
mutual
theorem nodeS_cnt : ∀ (t : Tr) (m : Int), Ok t → icT t = some m → 0 ≤ m ∧ Cnt (nodeS t) m
  | .cat ps, m, ho, h => by
      simp only [icT] at h
      obtain ⟨p, c⟩ := catS_cnt ps m (nodeL_cnt ps ho) h
      exact ⟨p, fun st g1 g2 => by rw [nodeS]; exact cnt_if c st g1 g2⟩
  | .alt ps, m, ho, h => by
      simp only [icT] at h
      obtain ⟨a, h1, rfl⟩ := Option.map_eq_some_iff.1 h
      obtain ⟨p, c⟩ := altS_cnt ps a (nodeL_cnt ps ho.2.2) h1 ho.1
      have : 0 < ps.length := List.length_pos_iff.2 ho.1
      exact ⟨by omega, fun st g1 g2 => by rw [nodeS]; exact cnt_if (c []) st g1 g2⟩
  | .rep .., m, _, h => by simp [icT] at h
  | .group n t, m, ho, h => by
      simp only [icT] at h
      obtain ⟨a, h1, rfl⟩ := Option.map_eq_some_iff.1 h
      obtain ⟨p, c⟩ := nodeS_cnt t a ho h1
      have := cnt_comp (by omega) (cnt_comp p (put_cnt (inst 3 (wrap64 (2 * n)))) c) (put_cnt (inst 3 (wrap64 (wrap64 (2 * n) + 1))))
      have e : 1 + a + 1 = 2 + a := by omega
      rw [e] at this
      exact ⟨by omega, fun st g1 g2 => by rw [nodeS]; exact cnt_if this st g1 g2⟩
  | .empty, m, _, h => by simp only [icT] at h; cases h; exact ⟨Int.le_refl _, fun st h1 h2 => by rw [nodeS]; exact ⟨h1, by omega, rfl⟩⟩
  | .one .., m, _, h => by simp only [icT] at h; cases h; exact ⟨by omega, fun st g1 g2 => by rw [nodeS]; exact cnt_if (put_cnt _) st g1 g2⟩
  | .start, m, _, h => by simp only [icT] at h; cases h; exact ⟨by omega, fun st g1 g2 => by rw [nodeS]; exact cnt_if (put_cnt _) st g1 g2⟩
  | .endd, m, _, h => by simp only [icT] at h; cases h; exact ⟨by omega, fun st g1 g2 => by rw [nodeS]; exact cnt_if (put_cnt _) st g1 g2⟩
  | .back _, m, _, h => by simp only [icT] at h; cases h; exact ⟨by omega, fun st g1 g2 => by rw [nodeS]; exact cnt_if (put_cnt _) st g1 g2⟩
theorem nodeL_cnt : ∀ (ts : List Tr), Oks ts → ∀ t, t ∈ ts → ∀ a, icT t = some a → 0 ≤ a ∧ Cnt (nodeS t) a
  | [], _, _, h => by cases h
  | u :: r, ho, t, ht => by
      rw [Oks] at ho
      rcases List.mem_cons.1 ht with e | ht
      · intro a h; rw [e] at h ⊢; exact nodeS_cnt u a ho.1 h
      · exact nodeL_cnt r ho.2 t ht
end
/-- What a right tree without a Rep compiles to. -/
theorem sizes_law (t : Tr) (m : Int) (hr : rightB t = true) (hs : sizeT t ≤ 200) (h : icT t = some m) :
    (finalB t).full = false ∧ ((finalB t).insts.length : Int) = m + 3 ∧ (finalB t).loops = 0 := by
  obtain ⟨s', hs'⟩ := Option.isSome_iff_exists.1 hr
  have ho := right_ok t (0, []) s' hs' (by omega)
  obtain ⟨p, c⟩ := nodeS_cnt t m ho h
  have hb := icT_bound t m h
  have h1 := cnt_comp (by omega) (cnt_comp (by omega) (cnt_comp p (put_cnt (inst 3 0)) c) (put_cnt (inst 3 1))) (put_cnt (inst 9 0))
  obtain ⟨a1, a2, a3⟩ := h1 (startB t) rfl (by simp [startB]; omega)
  unfold finalB
  exact ⟨a1, by rw [a2]; simp [startB]; omega, a3⟩
end Go.Proofs.Ytkaoegdfgoojdaa
