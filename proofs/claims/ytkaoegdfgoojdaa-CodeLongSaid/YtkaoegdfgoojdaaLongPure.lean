/- CodeLong: what the builder lays, in plain Lean. -/
import Derived.Test.YtkaoegdfgoojdaaAwake
namespace Go.Proofs.Ytkaoegdfgoojdaa
open Go Go.RowKit

/-- st, and k instructions more; full, if there is no room. -/
def Adv (st r : BS) (k : Nat) : Prop := r.loops = st.loops ∧ if st.insts.length + k ≤ 3000 then r.full = false ∧ r.insts.length = st.insts.length + k else r.full = true

theorem one_adv (st : BS) (i : In) (hf : st.full = false) (hl : st.insts.length ≤ 3000) : Adv st (putS st i) 1 := by
  unfold putS
  by_cases h : st.insts.length < 3000
  · rw [if_pos h]; exact ⟨rfl, by rw [if_pos (by omega)]; exact ⟨hf, by simp⟩⟩
  · rw [if_neg h]; exact ⟨rfl, by rw [if_neg (by omega)]⟩
theorem putS_le (st : BS) (i : In) (hl : st.insts.length ≤ 3000) : (putS st i).insts.length ≤ 3000 := by unfold putS; split <;> simp <;> omega
theorem putS_full (st : BS) (i : In) (hf : st.full = true) : (putS st i).full = true := by unfold putS; split <;> simp [hf]
theorem repMin_fix {f : BS → BS} {st : BS} (h : f st = st) : ∀ n, repMin f n st = st
  | 0 => rfl
  | n + 1 => by rw [repMin, h]; simp
theorem repMin_le {f : BS → BS} (hf : ∀ st, st.insts.length ≤ 3000 → (f st).insts.length ≤ 3000) : ∀ n st, st.insts.length ≤ 3000 → (repMin f n st).insts.length ≤ 3000
  | 0, _, h => h
  | n + 1, st, h => by rw [repMin]; split; exact hf st h; exact repMin_le hf n _ (hf st h)
/-- A part that lays c instructions, n times. -/
theorem rep_adv {f : BS → BS} {c : Nat} (hfull : ∀ st, st.full = true → f st = st) (hle : ∀ st, st.insts.length ≤ 3000 → (f st).insts.length ≤ 3000) (hf : ∀ st, st.full = false → st.insts.length ≤ 3000 → Adv st (f st) c) :
    ∀ n st, st.full = false → st.insts.length ≤ 3000 → Adv st (repMin f n st) (n * c)
  | 0, st, h0, h1 => ⟨rfl, by rw [if_pos (by omega)]; exact ⟨h0, by simp [repMin]⟩⟩
  | n + 1, st, h0, h1 => by
      obtain ⟨a1, a2⟩ := hf st h0 h1
      have hl := hle st h1
      rw [repMin]
      by_cases hr : st.insts.length + c ≤ 3000
      · rw [if_pos hr] at a2
        by_cases hc : c = 0
        · subst hc
          rw [if_pos (by omega)]
          exact ⟨a1, by rw [if_pos (by omega)]; exact ⟨a2.1, by omega⟩⟩
        · rw [if_neg (by omega)]
          obtain ⟨b1, b2⟩ := rep_adv hfull hle hf n (f st) a2.1 hl
          have e : (n + 1) * c = c + n * c := by rw [Nat.add_mul]; omega
          refine ⟨b1.trans a1, ?_⟩
          rw [a2.2] at b2
          rw [e, ← Nat.add_assoc]
          exact b2
      · rw [if_neg hr] at a2
        have e : (n + 1) * c = c + n * c := by rw [Nat.add_mul]; omega
        have key : (if (f st).insts.length = st.insts.length then f st else repMin f n (f st)) = f st := by
          split
          · rfl
          · exact repMin_fix (hfull _ a2) n
        rw [key]
        exact ⟨a1, by rw [if_neg (by omega)]; exact a2⟩

def longT (a b : Nat) : Tr := .rep (.rep aT a a) b b
theorem rep_same (t : Tr) (a : Nat) (st : BS) : nodeS (.rep t a a) st = if st.full then st else repMin (nodeS t) a st := by
  rw [nodeS]
  split
  · rfl
  · unfold repS
    simp only [Int.toNat_natCast, if_neg (show ¬ ((a : Int) < 0) by omega), Int.sub_self, Int.toNat_zero, repMax, setsY]
theorem inner_adv (a : Nat) (st : BS) (h0 : st.full = false) (h1 : st.insts.length ≤ 3000) : Adv st (nodeS (.rep aT a a) st) a := by
  rw [rep_same, h0]
  have := rep_adv (f := nodeS aT) (c := 1) (fun st h => by rw [aT, nodeS, h]; rfl) (fun st h => by rw [aT, nodeS]; split; exact h; exact putS_le _ _ h)
    (fun st h0 h1 => by rw [aT, nodeS, h0]; exact one_adv st _ h0 h1) a st h0 h1
  simpa using this
theorem inner_le (a : Nat) (st : BS) (h : st.insts.length ≤ 3000) : (nodeS (.rep aT a a) st).insts.length ≤ 3000 := by
  rw [rep_same]
  split
  · exact h
  · exact repMin_le (fun st h => by rw [aT, nodeS]; split; exact h; exact putS_le _ _ h) a st h
theorem outer_adv (a b : Nat) (st : BS) (h0 : st.full = false) (h1 : st.insts.length ≤ 3000) : Adv st (nodeS (longT a b) st) (b * a) := by
  rw [longT, rep_same, h0]
  exact rep_adv (fun st h => by rw [rep_same, h]; rfl) (inner_le a) (inner_adv a) b st h0 h1
theorem outer_le (a b : Nat) (st : BS) (h : st.insts.length ≤ 3000) : (nodeS (longT a b) st).insts.length ≤ 3000 := by
  rw [longT, rep_same]
  split
  · exact h
  · exact repMin_le (inner_le a) b st h
/-- The law. -/
theorem long_final (a b : Nat) : (if b * a + 3 ≤ 3000 then (finalB (longT a b)).full = false ∧ (finalB (longT a b)).insts.length = b * a + 3 else (finalB (longT a b)).full = true) ∧ (finalB (longT a b)).loops = 0 := by
  unfold finalB
  have s0 : (putS (startB (longT a b)) (inst 3 0)).full = false := rfl
  have s1 : (putS (startB (longT a b)) (inst 3 0)).insts.length = 1 := rfl
  have s2 : (putS (startB (longT a b)) (inst 3 0)).loops = 0 := rfl
  generalize putS (startB (longT a b)) (inst 3 0) = S at *
  obtain ⟨a1, a2⟩ := outer_adv a b S s0 (by omega)
  have l1 := outer_le a b S (by omega)
  rw [s1] at a2
  rw [s2] at a1
  generalize nodeS (longT a b) S = R at *
  by_cases h : 1 + b * a ≤ 3000
  · rw [if_pos h] at a2
    obtain ⟨b1, b2⟩ := one_adv R (inst 3 1) a2.1 l1
    have l2 := putS_le R (inst 3 1) l1
    generalize putS R (inst 3 1) = R2 at *
    rw [a2.2] at b2
    by_cases h2 : 1 + b * a + 1 ≤ 3000
    · rw [if_pos h2] at b2
      obtain ⟨c1, c2⟩ := one_adv R2 (inst 9 0) b2.1 l2
      refine ⟨?_, by rw [c1, b1, a1]⟩
      rw [b2.2] at c2
      by_cases h3 : b * a + 3 ≤ 3000
      · rw [if_pos h3]; rw [if_pos (by omega)] at c2; exact ⟨c2.1, by rw [c2.2]; omega⟩
      · rw [if_neg h3]; rw [if_neg (by omega)] at c2; exact c2
    · rw [if_neg h2] at b2
      refine ⟨?_, by unfold putS; split <;> simp [b1, a1]⟩
      rw [if_neg (by omega)]
      exact putS_full _ _ b2
  · rw [if_neg h] at a2
    refine ⟨?_, ?_⟩
    · rw [if_neg (by omega)]
      exact putS_full _ _ (putS_full _ _ a2)
    · unfold putS; (repeat' split) <;> simp [a1]
theorem long_right (a b : Nat) (ha : a ≤ 255) (hb : b ≤ 255) : rightB (longT a b) = true := by
  unfold rightB longT aT
  simp only [rightT, atomT, plainT]
  rw [if_pos (by simp; omega), if_pos (by simp; omega)]
  rfl
end Go.Proofs.Ytkaoegdfgoojdaa
