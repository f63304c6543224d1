/- CodeShaped: what the map holds, how great a tree is: in plain Lean. -/
import Derived.Test.YtkaoegdfgoojdaaRealW
import Derived.Test.YtkaoegdfgoojdaaShapeR
import Derived.Maps.OwnSet
namespace Go.Proofs.Ytkaoegdfgoojdaa
open Go Go.RowKit Go.Maps

/-- The map behind e Enters: each of 0 .. e - 1 once. -/
def Dn : Nat → DataW Unit
  | 0 => .map []
  | e + 1 => (Dn e).put (.int .i64 e) (.lit (.int .i64 1))
theorem Dn_tidy : ∀ e, Tidy (Dn e)
  | 0 => tidy_empty
  | e + 1 => (Dn_tidy e).put (k := .int .i64 e) trivial _
theorem key_ne {a b : Nat} (h : a ≠ b) : Lit.int .i64 (a : Int) ≠ Lit.int .i64 (b : Int) := by intro e; injection e with _ e; omega
theorem Dn_has (j : Nat) : ∀ e, e ≤ j → Maps.has (Dn e) (.int .i64 j) = false
  | 0, _ => rfl
  | e + 1, h => by rw [Dn, has_put_other (key_ne (by omega))]; exact Dn_has j e (by omega)
theorem Dn_size : ∀ e, Maps.size (Dn e) = e
  | 0 => rfl
  | e + 1 => by rw [Dn, size_put (Dn_tidy e), Dn_has e e (Nat.le_refl _)]; simp [Dn_size e]
theorem Dn_new (e : Nat) (z : DataW Unit) : (Dn e).atKey (.int .i64 e) z = z := atKey_of_not_has (Dn_has e e (Nat.le_refl _)) z
theorem Dn_old (j : Nat) (z : DataW Unit) : ∀ e, j < e → (Dn e).atKey (.int .i64 j) z = .lit (.int .i64 1)
  | 0, h => absurd h (by omega)
  | e + 1, h => by
      rw [Dn]
      by_cases hj : j = e
      · subst hj; exact atKey_put_same (k := .int .i64 j) (Dn_tidy j).isMap trivial _ _
      · rw [atKey_put_other (key_ne hj)]; exact Dn_old j z e (by omega)

mutual
theorem realT_size : ∀ t : RT, sizeT (realT t) ≤ 2 * rsize t
  | .mk k s0 s1 s2 s3 ps mn mx num => by
      have h := realL_size ps
      have h0 : sizeT ((realL ps).getD 0 .empty) ≤ 2 * rsizeL ps + 1 := by
        cases ps with
        | nil => simp [realL, sizeT]
        | cons p r => simp only [realL, sizeL, List.getD_cons_zero, rsizeL] at h ⊢; omega
      simp only [realT, rsize]
      repeat' split
      all_goals simp only [sizeT]
      all_goals omega
theorem realL_size : ∀ ps : List RT, sizeL (realL ps) ≤ 2 * rsizeL ps
  | [] => Nat.le_refl _
  | t :: r => by have := realT_size t; have := realL_size r; simp only [realL, sizeL, rsizeL]; omega
end

theorem final_pos (t : Tr) (hf : (finalB t).full = false) : 0 < (finalB t).insts.length := by
  unfold finalB at hf ⊢
  generalize putS (nodeS t (putS (startB t) (inst 3 0))) (inst 3 1) = S at hf ⊢
  unfold putS at hf ⊢
  split at hf
  · rename_i h; rw [if_pos h]; simp
  · cases hf

theorem enters_take (L : List In) (k : Nat) (h : k < L.length) : enters (L.take (k + 1)) = enters (L.take k) + isE L[k] := by
  rw [List.take_succ_eq_append_getElem h, enters_append, enters_one]
theorem flat_at (L : List In) : ∀ (k d : Nat) (hk : k < L.length), d < 7 → (flat L)[k * 7 + d]? = L[k].cells[d]? := by
  induction L with
  | nil => intro k d hk; exact absurd hk (by simp)
  | cons i r ih =>
    intro k d hk hd
    have e : flat (i :: r) = i.cells ++ flat r := by simp [flat]
    rw [e]
    cases k with
    | zero => rw [Nat.zero_mul, Nat.zero_add, List.getElem?_append_left (by rw [In.cells_length]; exact hd)]; rfl
    | succ k =>
      rw [List.getElem?_append_right (by rw [In.cells_length]; omega), In.cells_length, show (k + 1) * 7 + d - 7 = k * 7 + d by omega]
      simpa using ih k d (by simpa using hk) hd

/-- An instruction's cells. -/
structure Seven (w : World) (g k : Nat) (i : In) : Prop where
  c0 : w.cell? ⟨g, k * 7, none⟩ = some (.int .i64 i.op)
  c1 : w.cell? ⟨g, k * 7 + 1, none⟩ = some (.int .u64 i.s0)
  c2 : w.cell? ⟨g, k * 7 + 2, none⟩ = some (.int .u64 i.s1)
  c3 : w.cell? ⟨g, k * 7 + 3, none⟩ = some (.int .u64 i.s2)
  c4 : w.cell? ⟨g, k * 7 + 4, none⟩ = some (.int .u64 i.s3)
  c5 : w.cell? ⟨g, k * 7 + 5, none⟩ = some (.int .i64 i.x)
  c6 : w.cell? ⟨g, k * 7 + 6, none⟩ = some (.int .i64 i.y)
theorem seven {w : World} {base g cap : Nat} {L : List In} (h : w.ownsRow base 43 7 (.slice (some ⟨g, 0, none⟩) L.length cap) L.length (flat L)) (k : Nat) (hk : k < L.length) : Seven w g k L[k] := by
  have c : ∀ d, d < 7 → w.cell? ⟨g, k * 7 + d, none⟩ = L[k].cells[d]? := fun d hd => by
    rw [h.cellAt (k * 7 + d) (by omega), flat_at L k d hk hd]
  exact ⟨c 0 (by omega), c 1 (by omega), c 2 (by omega), c 3 (by omega), c 4 (by omega), c 5 (by omega), c 6 (by omega)⟩
theorem Seven.below {w w' : World} {N g k : Nat} {i : In} (h : Seven w g k i) (hb : Below N w w') (hg : g < N) : Seven w' g k i :=
  ⟨(hb.cell (p := ⟨g, _, none⟩) hg).trans h.c0, (hb.cell (p := ⟨g, _, none⟩) hg).trans h.c1, (hb.cell (p := ⟨g, _, none⟩) hg).trans h.c2, (hb.cell (p := ⟨g, _, none⟩) hg).trans h.c3,
   (hb.cell (p := ⟨g, _, none⟩) hg).trans h.c4, (hb.cell (p := ⟨g, _, none⟩) hg).trans h.c5, (hb.cell (p := ⟨g, _, none⟩) hg).trans h.c6⟩

theorem law_int : Keyed Try.prog 3 := int_keyed Try.underlying3
theorem zero_int (w : World) : (zeroValue 3).run Try.prog w = .ok (.int .i64 0) w := by kernel_rfl

theorem look_new {e : Nat} {c : Int} (h : (Dn e).atKey (.int .i64 e) (.lit (.int .i64 0)) = .lit (.int .i64 c)) : c = 0 := by
  rw [Dn_new] at h
  injection h with h; injection h with _ h; exact h.symm
theorem look_old {e m : Nat} {c : Int} (hm : m < e) (h : (Dn e).atKey (.int .i64 m) (.lit (.int .i64 0)) = .lit (.int .i64 c)) : c = 1 := by
  rw [Dn_old m _ e hm] at h
  injection h with h; injection h with _ h; exact h.symm

/-- What holds at the head of CodeShaped's loop: the map has what was entered. -/
def ShRel (W0 : World) (B : Nat) (L : List In) (i : Value) (wr : World) : Prop :=
  ∃ k, k ≤ L.length ∧ i = .int .i64 (k : Nat) ∧ wr.ownsMap Try.prog 3 (plainElem (H := Unit) Try.prog 3) B (enters (L.take k)) (Dn (enters (L.take k))) ∧ Below B W0 wr
theorem ShRel.start (W0 : World) (B : Nat) (L : List In) (h : W0.heap.size = B) : ShRel W0 B L (.int .i64 0) (W0.alloc (.map #[] 0)) := by
  subst h
  exact ⟨0, Nat.zero_le _, rfl, World.ownsMap_made _ _ _ _, (Below.refl _ _).alloc (Nat.le_refl _) _⟩
end Go.Proofs.Ytkaoegdfgoojdaa
