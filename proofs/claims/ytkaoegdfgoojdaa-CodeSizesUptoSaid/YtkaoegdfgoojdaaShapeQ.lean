/- CodeShaped: the law at rep, alt and any node, in plain Lean. -/
import Derived.Test.YtkaoegdfgoojdaaShapeP
namespace Go.Proofs.Ytkaoegdfgoojdaa
open Go Go.RowKit

def upX (l : List Nat) (v : Int) (a : List In) : List In := l.foldl (fun a j => a.modify j fun x => { x with x := v }) a
def upY (l : List Nat) (v : Int) (a : List In) : List In := l.foldl (fun a j => a.modify j fun x => { x with y := v }) a
theorem upX_length (l : List Nat) (v : Int) : ∀ a, (upX l v a).length = a.length := by
  induction l with
  | nil => intro a; rfl
  | cons j r ih => intro a; simp only [upX, List.foldl_cons] at ih ⊢; rw [ih]; simp
theorem upY_length (l : List Nat) (v : Int) : ∀ a, (upY l v a).length = a.length := by
  induction l with
  | nil => intro a; rfl
  | cons j r ih => intro a; simp only [upY, List.foldl_cons] at ih ⊢; rw [ih]; simp
theorem setsX_up (l : List Nat) : ∀ b, setsX b l = { b with insts := upX l b.insts.length b.insts } := by
  induction l with
  | nil => intro b; rfl
  | cons j r ih => intro b; rw [setsX, ih]; simp [setX, upX]
theorem setsY_up (l : List Nat) : ∀ b, setsY b l = { b with insts := upY l b.insts.length b.insts } := by
  induction l with
  | nil => intro b; rfl
  | cons j r ih => intro b; rw [setsY, ih]; simp [setY, upY]
theorem modify_left {α : Type} (f : α → α) (c : List α) : ∀ (a : List α) (j : Nat), j < a.length → (a ++ c).modify j f = a.modify j f ++ c
  | [], _, h => absurd h (by simp)
  | x :: a, 0, _ => by simp
  | x :: a, j + 1, h => by simp only [List.cons_append, List.modify_succ_cons]; rw [modify_left f c a j (by simpa using h)]
theorem modify_mid {α : Type} (f : α → α) (x : α) (c : List α) : ∀ (a : List α), (a ++ x :: c).modify a.length f = a ++ f x :: c
  | [] => by simp
  | y :: a => by simp only [List.cons_append, List.length_cons, List.modify_succ_cons]; rw [modify_mid f x c a]
theorem upX_left (l : List Nat) (v : Int) (c : List In) : ∀ a : List In, (∀ j, j ∈ l → j < a.length) → upX l v (a ++ c) = upX l v a ++ c := by
  induction l with
  | nil => intro a _; rfl
  | cons j r ih =>
    intro a h
    simp only [upX, List.foldl_cons] at ih ⊢
    rw [modify_left _ _ _ _ (h j (by simp)), ih _ (fun i hi => by simpa using h i (by simp [hi]))]
theorem upY_left (l : List Nat) (v : Int) (c : List In) : ∀ a : List In, (∀ j, j ∈ l → j < a.length) → upY l v (a ++ c) = upY l v a ++ c := by
  induction l with
  | nil => intro a _; rfl
  | cons j r ih =>
    intro a h
    simp only [upY, List.foldl_cons] at ih ⊢
    rw [modify_left _ _ _ _ (h j (by simp)), ih _ (fun i hi => by simpa using h i (by simp [hi]))]
theorem upX_snoc (l : List Nat) (j : Nat) (v : Int) (a : List In) : upX (l ++ [j]) v a = (upX l v a).modify j fun x => { x with x := v } := by simp [upX]
theorem upY_snoc (l : List Nat) (j : Nat) (v : Int) (a : List In) : upY (l ++ [j]) v a = (upY l v a).modify j fun x => { x with y := v } := by simp [upY]

theorem repMax_keeps {f : BS → BS} (n : Nat) (st : BS) (l : List Nat) (h : st.full = true) : repMax f n st l = (st, l) := by
  cases n with
  | zero => rfl
  | succ n => rw [repMax, if_pos h]

theorem good_split {G : Int} {B : Bool} {n k e : Nat} {y : Int} (h1 : (k : Int) < y) (h2 : y ≤ n) : Good G B n k e { inst 1 (k + 1) with y := y } :=
  ⟨by simp [inst], fun _ => ⟨rfl, h1, h2⟩, by simp [inst], by simp [inst], by simp [inst], by simp [inst], by simp [inst]⟩

theorem lays_repMax {G : Int} {B : Bool} {f : BS → BS} (hf : Lays G B f) : ∀ (n : Nat) (st : BS) (l : List Nat) (e : Nat), st.loops = e → e ≤ st.insts.length → st.insts.length ≤ 3000 → (∀ j, j ∈ l → j < st.insts.length) →
    (repMax f n st l).1.full = false →
    ∃ new, upY (repMax f n st l).2 ((repMax f n st l).1.insts.length : Nat) (repMax f n st l).1.insts = upY l ((repMax f n st l).1.insts.length : Nat) st.insts ++ new ∧ (repMax f n st l).1.loops = ((e + enters new : Nat) : Int) ∧
      (repMax f n st l).1.insts.length = st.insts.length + new.length ∧ Seg G B (repMax f n st l).1.insts.length st.insts.length e new ∧
      (repMax f n st l).1.groups = st.groups ∧ (repMax f n st l).1.backs = st.backs ∧ (repMax f n st l).1.insts.length ≤ 3000
  | 0, st, l, e, h1, _, h3, _, _ => ⟨[], by simp [repMax], by simpa [enters, repMax] using h1, by simp [repMax], trivial, rfl, rfl, h3⟩
  | n + 1, st, l, e, h1, h2, h3, h4, h5 => by
      cases hs : st.full with
      | true => rw [repMax_keeps _ _ _ hs] at h5; rw [hs] at h5; cases h5
      | false =>
        have hr : repMax f (n + 1) st l = repMax f n (roundS f (splitS st)) (l ++ [(putN st).toNat]) := by rw [repMax, if_neg (by simp [hs])]
        rw [hr] at h5 ⊢
        have hrd := lays_round hf
        have k2 : (roundS f (splitS st)).full = false := by
          cases h : (roundS f (splitS st)).full with
          | false => rfl
          | true => rw [repMax_keeps _ _ _ h] at h5; rw [h] at h5; cases h5
        have k1 := hrd.notfull k2
        obtain ⟨_, r1, r2, r3⟩ := putS_room (st := st) (i := inst 1 (st.insts.length + 1)) k1 (.inr h3)
        have e0 : splitS st = { st with insts := st.insts ++ [inst 1 (st.insts.length + 1)] } := r2
        have ep : (putN st).toNat = st.insts.length := by rw [r3]; simp
        rw [e0] at k2 hr h5 ⊢
        rw [ep] at h5 ⊢
        obtain ⟨n1, a1, a2, a3, a4, a5, a6⟩ := hrd.lays { st with insts := st.insts ++ [inst 1 (st.insts.length + 1)] } e h1 (by simp; omega) (by simp; omega) k2
        simp only [List.length_append, List.length_singleton] at a3
        generalize roundS f { st with insts := st.insts ++ [inst 1 (st.insts.length + 1)] } = S1 at *
        have hl : S1.insts.length = st.insts.length + 1 + n1.length := by rw [a1]; simp; omega
        obtain ⟨n2, b1, b2, b3, b4, b5, b6, b7⟩ := lays_repMax hf n S1 (l ++ [st.insts.length]) (e + enters n1) a2 (by have := enters_le n1; omega) a6
          (fun j hj => by rcases List.mem_append.1 hj with hj | hj; have := h4 j hj; omega; rw [List.mem_singleton.1 hj]; omega) h5
        generalize repMax f n S1 (l ++ [st.insts.length]) = R at *
        refine ⟨{ inst 1 (st.insts.length + 1) with y := (R.1.insts.length : Nat) } :: (n1 ++ n2), ?_, ?_, ?_, ?_, b5.trans a4, b6.trans a5, b7⟩
        · rw [b1, upY_snoc, a1]
          simp only [List.append_assoc, List.cons_append, List.nil_append]
          rw [upY_left _ _ _ _ h4]
          have hu : (upY l (R.1.insts.length : Nat) st.insts).length = st.insts.length := upY_length _ _ _
          conv => lhs; lhs; arg 2; rw [← hu]
          rw [modify_mid]
          simp
        · rw [b2, enters_cons, enters_append]
          have : isE { inst 1 (st.insts.length + 1) with y := (R.1.insts.length : Nat) } = 0 := rfl
          rw [this]; congr 1; omega
        · rw [b3, hl]; simp; omega
        · refine ⟨good_split (by omega) (by omega), ?_⟩
          have : isE { inst 1 (st.insts.length + 1) with y := (R.1.insts.length : Nat) } = 0 := rfl
          rw [this, Nat.add_zero]
          refine Seg.append (a3.mono (by omega)) ?_
          rw [← hl]
          exact b4

theorem lays_rep {G : Int} {B : Bool} {f : BS → BS} (hf : Lays G B f) (min max : Int) : Lays G B (repS f min max) := by
  have hm := lays_repMin hf min.toNat
  have hrd := lays_round hf
  refine ⟨fun st h => ?_, fun st e h1 h2 h3 h4 => ?_⟩
  · have k := hm.keeps st h
    unfold repS
    simp only
    split
    · exact putS_keeps _ _ (hrd.keeps _ (putS_keeps _ _ k))
    · rw [repMax_keeps _ _ _ k]; exact k
  · unfold repS at h4 ⊢
    simp only at h4 ⊢
    generalize hS : repMin f min.toNat st = S at h4 ⊢
    by_cases hx : max < 0
    · rw [if_pos hx] at h4 ⊢
      have k3 : (putS (roundS f (splitS S)) (inst 2 (putN S))).full = false := h4
      have k2 : (roundS f (splitS S)).full = false := by
        cases h : (roundS f (splitS S)).full with
        | false => rfl
        | true => exact absurd (putS_keeps (inst 2 (putN S)) _ h) (not_true_of k3)
      have k1 := hrd.notfull k2
      have k0 : S.full = false := by
        cases h : S.full with
        | false => rfl
        | true => exact absurd (putS_keeps (inst 1 (S.insts.length + 1)) _ h) (not_true_of k1)
      rw [← hS] at k0
      obtain ⟨n0, a1, a2, a3, a4, a5, a6⟩ := hm.lays st e h1 h2 h3 k0
      rw [hS] at a1 a2 a4 a5 a6
      have hl0 : S.insts.length = st.insts.length + n0.length := by rw [a1]; simp
      obtain ⟨_, r1, r2, r3⟩ := putS_room (st := S) (i := inst 1 (S.insts.length + 1)) k1 (.inr a6)
      have e0 : splitS S = { S with insts := S.insts ++ [inst 1 (S.insts.length + 1)] } := r2
      have ep : (putN S).toNat = S.insts.length := by rw [r3]; simp
      rw [e0] at k2 k3 ⊢
      obtain ⟨n1, b1, b2, b3, b4, b5, b6⟩ := hrd.lays { S with insts := S.insts ++ [inst 1 (S.insts.length + 1)] } (e + enters n0) a2 (by have := enters_le n0; simp; omega) (by simp; omega) k2
      simp only [List.length_append, List.length_singleton] at b3
      generalize roundS f { S with insts := S.insts ++ [inst 1 (S.insts.length + 1)] } = S1 at *
      have hl1 : S1.insts.length = S.insts.length + 1 + n1.length := by rw [b1]; simp; omega
      obtain ⟨_, q1, q2, _⟩ := putS_room k3 (.inr b6)
      rw [q2, ep, r3]
      have hi : S1.insts ++ [inst 2 (S.insts.length : Nat)] = S.insts ++ inst 1 (S.insts.length + 1) :: (n1 ++ [inst 2 (S.insts.length : Nat)]) := by rw [b1]; simp
      have hl2 : (S1.insts ++ [inst 2 (S.insts.length : Nat)]).length = S.insts.length + 1 + n1.length + 1 := by rw [hi]; simp; omega
      refine ⟨n0 ++ { inst 1 (S.insts.length + 1) with y := ((S.insts.length + 1 + n1.length + 1 : Nat) : Int) } :: (n1 ++ [inst 2 (S.insts.length : Nat)]), ?_, ?_, ?_, b4.trans a4, b5.trans a5, ?_⟩
      · simp only [setY, hl2, hi, modify_mid]
        rw [a1]; simp; omega
      · simp only [setY, b2]
        rw [enters_append, enters_cons, enters_append, enters_one]
        have z1 : isE { inst 1 (S.insts.length + 1) with y := ((S.insts.length + 1 + n1.length + 1 : Nat) : Int) } = 0 := rfl
        have z2 : isE (inst 2 (S.insts.length : Nat)) = 0 := rfl
        rw [z1, z2]; congr 1; omega
      · refine Seg.append (a3.mono (by simp)) ?_
        rw [← hl0]
        refine ⟨good_split (by omega) (by simp; omega), ?_⟩
        have z1 : isE { inst 1 (S.insts.length + 1) with y := ((S.insts.length + 1 + n1.length + 1 : Nat) : Int) } = 0 := rfl
        rw [z1, Nat.add_zero]
        refine Seg.append (b3.mono (by simp; omega)) (Seg.one ⟨by simp [inst], by simp [inst], fun _ => ?_, by simp [inst], by simp [inst], by simp [inst], by simp [inst]⟩)
        simp only [inst]
        refine ⟨by omega, by simp; omega, by omega⟩
      · simp only [setY, List.length_modify, hl2]; omega
    · rw [if_neg hx] at h4 ⊢
      rw [setsY_up] at h4 ⊢
      simp only at h4 ⊢
      have k0 : S.full = false := by
        cases h : S.full with
        | false => rfl
        | true => rw [repMax_keeps _ _ _ h] at h4; rw [h] at h4; cases h4
      rw [← hS] at k0
      obtain ⟨n0, a1, a2, a3, a4, a5, a6⟩ := hm.lays st e h1 h2 h3 k0
      rw [hS] at a1 a2 a4 a5 a6
      have hl0 : S.insts.length = st.insts.length + n0.length := by rw [a1]; simp
      obtain ⟨n1, b1, b2, b3, b4, b5, b6, b7⟩ := lays_repMax hf (max - min).toNat S [] (e + enters n0) a2 (by have := enters_le n0; omega) a6 (fun j hj => by cases hj) h4
      generalize repMax f (max - min).toNat S [] = R at *
      refine ⟨n0 ++ n1, ?_, ?_, ?_, b5.trans a4, b6.trans a5, ?_⟩
      · rw [b1]; simp only [upY, List.foldl_nil]; rw [a1]; simp
      · rw [b2, enters_append]; congr 1; omega
      · refine Seg.append (a3.mono (by simp)) ?_
        rw [← hl0]
        exact b4.mono (by simp; omega)
      · rw [upY_length]; exact b7
end Go.Proofs.Ytkaoegdfgoojdaa
