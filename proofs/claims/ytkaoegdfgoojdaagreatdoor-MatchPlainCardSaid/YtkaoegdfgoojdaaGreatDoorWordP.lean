/- MatchPlain: what a plain word compiles to: in plain Lean. -/
import Derived.Test.YtkaoegdfgoojdaaGreatDoorCompile
import Derived.Test.YtkaoegdfgoojdaaGreatDoorPlainP
namespace Go.Proofs.YtkaoegdfgoojdaaGreatDoor
open Go Go.RowKit

def oneT (c : UInt8) : Tr := .one (byteI c.toNat).s0 (byteI c.toNat).s1 (byteI c.toNat).s2 (byteI c.toNat).s3
/-- The tree of a plain word. -/
def wordT : List UInt8 → Tr
  | [] => .empty
  | [c] => oneT c
  | c :: d :: r => .cat ((c :: d :: r).map oneT)
theorem put_one (st : BS) (i : In) (h : st.insts.length < 3000) : putS st i = { st with insts := st.insts ++ [i] } := by unfold putS; rw [if_pos h]
theorem node_oneT (c : UInt8) (st : BS) (hf : st.full = false) (h : st.insts.length < 3000) : nodeS (oneT c) st = { st with insts := st.insts ++ [byteI c.toNat] } := by
  rw [oneT, nodeS, if_neg (by simp [hf]), put_one _ _ h]
  rfl
theorem cat_ones : ∀ (w : List UInt8) (st : BS), st.full = false → st.insts.length + w.length ≤ 3000 → catS (w.map oneT) st = { st with insts := st.insts ++ w.map fun c => byteI c.toNat }
  | [], st, _, _ => by simp [catS]
  | c :: r, st, hf, hl => by
      simp only [List.length_cons] at hl
      rw [List.map_cons, catS, node_oneT c st hf (by omega), cat_ones r { st with insts := st.insts ++ [byteI c.toNat] } hf (by simp; omega)]
      simp
theorem node_word (w : List UInt8) (st : BS) (hf : st.full = false) (hl : st.insts.length + w.length ≤ 3000) : nodeS (wordT w) st = { st with insts := st.insts ++ w.map fun c => byteI c.toNat } := by
  match w with
  | [] => simp [wordT, nodeS]
  | [c] => rw [wordT, node_oneT c st hf (by simp at hl; omega)]; rfl
  | c :: d :: r =>
    rw [wordT, nodeS, if_neg (by simp [hf])]
    exact cat_ones (c :: d :: r) st hf hl
theorem groupsL_ones (w : List UInt8) : groupsL (w.map oneT) = 0 := by
  induction w with
  | nil => rfl
  | cons c r ih => rw [List.map_cons, groupsL, ih]; rfl
theorem backsL_ones (w : List UInt8) : backsL (w.map oneT) = false := by
  induction w with
  | nil => rfl
  | cons c r ih => rw [List.map_cons, backsL, ih]; simp [oneT, backsT]
theorem groups_word (w : List UInt8) : groupsN (wordT w) = 0 := by
  match w with
  | [] => rfl
  | [c] => rfl
  | c :: d :: r => rw [wordT, groupsN]; exact groupsL_ones (c :: d :: r)
theorem backs_word (w : List UInt8) : backsT (wordT w) = false := by
  match w with
  | [] => simp [wordT, backsT]
  | [c] => simp [wordT, oneT, backsT]
  | c :: d :: r => rw [wordT, backsT]; exact backsL_ones (c :: d :: r)
theorem right_ones (w : List UInt8) (s : St) : rightL (w.map oneT) s = some s := by
  induction w with
  | nil => rfl
  | cons c r ih => rw [List.map_cons, rightL]; simp only [oneT, rightT, Option.bind_some]; exact ih
theorem right_word (w : List UInt8) : rightB (wordT w) = true := by
  match w with
  | [] => rfl
  | [c] => rfl
  | c :: d :: r =>
    have h : rightT (wordT (c :: d :: r)) (0, []) = some (0, []) := by
      rw [wordT, rightT, if_pos ⟨by simp, by rw [List.all_eq_true]; intro t ht; obtain ⟨x, _, rfl⟩ := List.mem_map.1 ht; rfl⟩]
      exact right_ones (c :: d :: r) (0, [])
    unfold rightB
    rw [h]
    rfl
theorem final_word (w : List UInt8) (hl : w.length ≤ 12) : finalB (wordT w) = ⟨plainP w, 0, 0, false, false⟩ := by
  unfold finalB startB
  rw [groups_word, backs_word]
  have h1 := put_one ⟨[], ((0 : Nat) : Int), 0, false, false⟩ (inst 3 0) (by simp)
  rw [h1]
  have h2 := node_word w { insts := [] ++ [inst 3 0], groups := ((0 : Nat) : Int), loops := 0, backs := false, full := false } rfl (by simp; omega)
  rw [h2]
  rw [put_one { insts := [] ++ [inst 3 0] ++ w.map fun c => byteI c.toNat, groups := ((0 : Nat) : Int), loops := 0, backs := false, full := false } (inst 3 1) (by simp; omega)]
  rw [put_one _ _ (by simp; omega)]
  simp [plainP]
end Go.Proofs.YtkaoegdfgoojdaaGreatDoor
