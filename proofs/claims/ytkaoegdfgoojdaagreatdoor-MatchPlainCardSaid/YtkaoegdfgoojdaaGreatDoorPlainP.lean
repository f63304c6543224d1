/- MatchPlain: the program of a plain word finds it just where it stands: in plain Lean. -/
import Derived.Test.YtkaoegdfgoojdaaGreatDoorRunP
namespace Go.Proofs.YtkaoegdfgoojdaaGreatDoor
open Go Go.RowKit

/-- A Byte that takes just one byte. -/
def byteI (c : Nat) : In := ⟨0, if c / 64 = 0 then 2 ^ (c % 64) else 0, if c / 64 = 1 then 2 ^ (c % 64) else 0, if c / 64 = 2 then 2 ^ (c % 64) else 0, if c / 64 = 3 then 2 ^ (c % 64) else 0, 0, 0⟩
theorem pow_bit (a b : Nat) (ha : a < 64) (hb : b < 64) : (((2 : Int) ^ a / 2 ^ b) % 2 == 1) = (a == b) := by
  have h : ∀ a b : Fin 64, (((2 : Int) ^ a.val / 2 ^ b.val) % 2 == 1) = (a.val == b.val) := by decide +kernel
  exact h ⟨a, ha⟩ ⟨b, hb⟩
theorem zero_bit (b : Nat) : (((0 : Int) / 2 ^ b) % 2 == 1) = false := by simp
theorem wordOf_byteI (c d : Nat) (hc : c < 256) (hd : d < 256) : wordOf (byteI c) d = if d / 64 = c / 64 then 2 ^ (c % 64) else 0 := by
  have h1 : c / 64 < 4 := by omega
  have h2 : d / 64 < 4 := by omega
  unfold wordOf byteI
  generalize c / 64 = x at *
  generalize d / 64 = y at *
  have hx : x = 0 ∨ x = 1 ∨ x = 2 ∨ x = 3 := by omega
  have hy : y = 0 ∨ y = 1 ∨ y = 2 ∨ y = 3 := by omega
  rcases hx with rfl | rfl | rfl | rfl <;> rcases hy with rfl | rfl | rfl | rfl <;> simp
theorem hasB_byteI (c d : Nat) (hc : c < 256) (hd : d < 256) : hasB (byteI c) d = (c == d) := by
  unfold hasB
  rw [wordOf_byteI c d hc hd]
  split
  · rename_i h
    rw [pow_bit _ _ (by omega) (by omega)]
    rw [Bool.eq_iff_iff]
    simp only [beq_iff_eq]
    omega
  · rename_i h
    rw [zero_bit]
    symm
    rw [beq_eq_false_iff_ne]
    intro e; subst e; exact h rfl

def plainP (w : List UInt8) : List In := inst 3 0 :: (w.map (fun c => byteI c.toNat) ++ [inst 3 1, inst 9 0])
theorem plainP_at (pre : List UInt8) (w : List UInt8) (j : Nat) : (plainP (pre ++ w))[pre.length + 1 + j]? = (w.map (fun c => byteI c.toNat) ++ [inst 3 1, inst 9 0])[j]? := by
  unfold plainP
  rw [show pre.length + 1 + j = pre.length + j + 1 by omega, List.getElem?_cons_succ, List.map_append, List.append_assoc, List.getElem?_append_right (by simp)]
  simp
theorem runF_bytes (s : List UInt8) (a : Int) : ∀ (w pre : List UInt8) (at_ : Nat) (m : MB), runF (plainP (pre ++ w)) s (w.length + 3) (pre.length + 1) at_ [a, -1] m =
    some (if w.isPrefixOf (s.drop at_) then bestS [a, ((at_ + w.length : Nat) : Int)] (at_ + w.length) m else m) := by
  intro w
  induction w with
  | nil =>
    intro pre at_ m
    have h0 := plainP_at pre [] 0
    have h1 := plainP_at pre [] 1
    simp only [List.map_nil, List.nil_append, Nat.add_zero] at h0 h1
    rw [List.length_nil, runF, h0]
    simp only [List.getElem?_cons_zero]
    rw [if_neg (by decide), if_neg (by decide), if_neg (by decide), if_pos (by decide), if_pos (by simp [inst]), runF, h1]
    simp [inst]
  | cons c w ih =>
    intro pre at_ m
    have h0 := plainP_at pre (c :: w) 0
    simp only [List.map_cons, List.cons_append, Nat.add_zero, List.getElem?_cons_zero] at h0
    rw [List.length_cons, show w.length + 1 + 3 = (w.length + 3) + 1 by omega, runF, h0]
    simp only
    rw [if_neg (by simp [byteI]), if_neg (by simp [byteI]), if_neg (by simp [byteI]), if_neg (by simp [byteI]), if_pos (by simp [byteI])]
    cases hs : s[at_]? with
    | none =>
      have : s.drop at_ = [] := by
        rw [List.drop_eq_nil_iff]
        exact List.getElem?_eq_none_iff.1 hs
      rw [this]
      simp
    | some d =>
      obtain ⟨hlt, hd⟩ := List.getElem?_eq_some_iff.1 hs
      have hdr : s.drop at_ = d :: s.drop (at_ + 1) := by rw [List.drop_eq_getElem_cons hlt, hd]
      simp only
      rw [hasB_byteI _ _ c.toNat_lt d.toNat_lt, hdr]
      by_cases hcd : c = d
      · subst hcd
        have := ih (pre ++ [c]) (at_ + 1) m
        rw [List.append_assoc] at this
        simp only [List.singleton_append, List.length_append, List.length_singleton] at this
        simp only [beq_self_eq_true, if_true]
        rw [this]
        simp only [List.isPrefixOf_cons_cons, beq_self_eq_true, Bool.true_and]
        rw [show at_ + 1 + w.length = at_ + (w.length + 1) by omega]
      · have hne : (c.toNat == d.toNat) = false := by
          rw [beq_eq_false_iff_ne]
          intro e; exact hcd (UInt8.toNat_inj.1 e)
        rw [hne]
        simp [hcd]
theorem runF_plain (w s : List UInt8) (at_ : Nat) : runF (plainP w) s (w.length + 4) 0 at_ [-1, -1] ⟨[], []⟩ =
    some (if w.isPrefixOf (s.drop at_) then ⟨[], [(at_ : Int), ((at_ + w.length : Nat) : Int)]⟩ else ⟨[], []⟩) := by
  have h := runF_bytes s at_ w [] at_ ⟨[], []⟩
  rw [show w.length + 4 = (w.length + 3) + 1 by omega, runF]
  simp only [plainP, List.getElem?_cons_zero]
  rw [if_neg (by decide), if_neg (by decide), if_neg (by decide), if_pos (by decide), if_pos (by simp [inst])]
  simp only [List.nil_append, List.length_nil, plainP] at h
  rw [show ([-1, -1] : List Int).set (inst 3 0).x.toNat (at_ : Int) = [(at_ : Int), -1] from rfl, h]
  simp [bestS]
end Go.Proofs.YtkaoegdfgoojdaaGreatDoor
