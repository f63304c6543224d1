/- CodeShaped: the law on what the builder lays, in plain Lean. -/
import Derived.Test.YtkaoegdfgoojdaaCompile
namespace Go.Proofs.Ytkaoegdfgoojdaa
open Go Go.RowKit

def isE (i : In) : Nat := if i.op = 7 then 1 else 0
def enters (l : List In) : Nat := (l.map isE).sum
theorem enters_append (a b : List In) : enters (a ++ b) = enters a + enters b := by simp [enters]
theorem enters_cons (i : In) (l : List In) : enters (i :: l) = isE i + enters l := by simp [enters]
theorem enters_one (i : In) : enters [i] = isE i := by simp [enters]
theorem enters_le (l : List In) : enters l ≤ l.length := by
  induction l with
  | nil => exact Nat.le_refl _
  | cons i r ih =>
    have h : isE i ≤ 1 := by unfold isE; split <;> omega
    simp only [enters, List.map_cons, List.sum_cons, List.length_cons] at ih ⊢
    omega

/-- An instruction at place k, behind e Enters; it leads to a place up to n. -/
structure Good (G : Int) (B : Bool) (n k e : Nat) (i : In) : Prop where
  notm : i.op ≠ 9
  split : i.op = 1 → i.x = k + 1 ∧ (k : Int) < i.y ∧ i.y ≤ n
  jump : i.op = 2 → 0 ≤ i.x ∧ i.x ≤ n ∧ i.x ≠ k
  save : i.op = 3 → 0 ≤ i.x ∧ i.x ≤ 2 * G + 1
  back : i.op = 4 → 1 ≤ i.x ∧ i.x ≤ G ∧ B = true
  enter : i.op = 7 → i.x = e
  round : i.op = 8 → 0 ≤ i.x ∧ i.x < e
theorem Good.mono {G : Int} {B : Bool} {n n' k e : Nat} {i : In} (h : Good G B n k e i) (hn : n ≤ n') : Good G B n' k e i :=
  ⟨h.notm, fun a => by have := h.split a; omega, fun a => by have := h.jump a; omega, h.save, h.back, h.enter, h.round⟩

def Seg (G : Int) (B : Bool) (n : Nat) : Nat → Nat → List In → Prop
  | _, _, [] => True
  | k, e, i :: r => Good G B n k e i ∧ Seg G B n (k + 1) (e + isE i) r
theorem Seg.mono {G : Int} {B : Bool} {n n' : Nat} (hn : n ≤ n') : ∀ {l : List In} {k e : Nat}, Seg G B n k e l → Seg G B n' k e l
  | [], _, _, _ => trivial
  | _ :: _, _, _, ⟨h1, h2⟩ => ⟨h1.mono hn, Seg.mono hn h2⟩
theorem Seg.append {G : Int} {B : Bool} {n : Nat} {b : List In} : ∀ {a : List In} {k e : Nat}, Seg G B n k e a → Seg G B n (k + a.length) (e + enters a) b → Seg G B n k e (a ++ b)
  | [], k, e, _, h => by simpa [enters] using h
  | i :: r, k, e, ⟨h1, h2⟩, h => by
      refine ⟨h1, Seg.append h2 ?_⟩
      have e1 : k + (i :: r).length = k + 1 + r.length := by simp only [List.length_cons]; omega
      have e2 : e + enters (i :: r) = e + isE i + enters r := by simp only [enters, List.map_cons, List.sum_cons]; omega
      rw [e1, e2] at h
      exact h
theorem Seg.one {G : Int} {B : Bool} {n k e : Nat} {i : In} (h : Good G B n k e i) : Seg G B n k e [i] := ⟨h, trivial⟩

/-- f lays good instructions behind what there is, as long as there is room. -/
structure Lays (G : Int) (B : Bool) (f : BS → BS) : Prop where
  keeps : ∀ st, st.full = true → (f st).full = true
  lays : ∀ (st : BS) (e : Nat), st.loops = e → e ≤ st.insts.length → st.insts.length ≤ 3000 → (f st).full = false →
    ∃ new, (f st).insts = st.insts ++ new ∧ (f st).loops = ((e + enters new : Nat) : Int) ∧ Seg G B (st.insts.length + new.length) st.insts.length e new ∧
      (f st).groups = st.groups ∧ (f st).backs = st.backs ∧ (f st).insts.length ≤ 3000

theorem putS_room {st : BS} {i : In} (h : (putS st i).full = false) (hf : st.full = false ∨ st.insts.length ≤ 3000) : st.full = false ∧ st.insts.length < 3000 ∧ putS st i = { st with insts := st.insts ++ [i] } ∧ putN st = st.insts.length := by
  unfold putS at h ⊢
  by_cases hl : st.insts.length < 3000
  · rw [if_pos hl] at h ⊢
    exact ⟨h, hl, rfl, by unfold putN; rw [if_pos hl]⟩
  · rw [if_neg hl] at h
    cases h

theorem putS_keeps (i : In) (st : BS) (h : st.full = true) : (putS st i).full = true := by unfold putS; split <;> simp [h]
theorem not_true_of {b : Bool} (h : b = false) : ¬ b = true := by simp [h]

theorem lays_put {G : Int} {B : Bool} (i : In) (h7 : i.op ≠ 7) (hg : ∀ n k e, Good G B n k e i) : Lays G B (putS · i) := by
  refine ⟨putS_keeps i, fun st e h1 h2 h3 h4 => ?_⟩
  obtain ⟨_, f1, f2, _⟩ := putS_room h4 (.inr h3)
  refine ⟨[i], ?_⟩
  simp only [f2]
  have : enters [i] = 0 := by simp [enters, isE, h7]
  refine ⟨trivial, by rw [this]; exact h1, Seg.one (hg _ _ _), trivial, trivial, by simp; omega⟩
theorem lays_id {G : Int} {B : Bool} : Lays G B (fun b => b) :=
  ⟨fun _ h => h, fun st e h1 _ h3 _ => ⟨[], by simp, by simpa [enters] using h1, trivial, rfl, rfl, h3⟩⟩
theorem lays_comp {G : Int} {B : Bool} {f g : BS → BS} (hf : Lays G B f) (hg : Lays G B g) : Lays G B (fun b => g (f b)) := by
  refine ⟨fun st h => hg.keeps _ (hf.keeps st h), fun st e h1 h2 h3 h4 => ?_⟩
  have hff : (f st).full = false := by
    cases h : (f st).full with
    | false => rfl
    | true => exact absurd (hg.keeps _ h) (not_true_of h4)
  obtain ⟨n1, a1, a2, a3, a4, a5, a6⟩ := hf.lays st e h1 h2 h3 hff
  have hl : (f st).insts.length = st.insts.length + n1.length := by rw [a1]; simp
  obtain ⟨n2, b1, b2, b3, b4, b5, b6⟩ := hg.lays (f st) (e + enters n1) a2 (by have := enters_le n1; omega) a6 h4
  refine ⟨n1 ++ n2, ?_, ?_, ?_, b4.trans a4, b5.trans a5, b6⟩
  · show (g (f st)).insts = _
    rw [b1, a1, List.append_assoc]
  · show (g (f st)).loops = _
    rw [b2, enters_append]; congr 1; omega
  · rw [hl] at b3
    refine Seg.append (a3.mono (by simp)) ?_
    have e1 : st.insts.length + (n1 ++ n2).length = st.insts.length + n1.length + n2.length := by simp; omega
    rw [e1]
    exact b3
theorem Lays.notfull {G : Int} {B : Bool} {f : BS → BS} (h : Lays G B f) {st : BS} (hf : (f st).full = false) : st.full = false := by
  cases hs : st.full with
  | false => rfl
  | true => exact absurd (h.keeps st hs) (not_true_of hf)

/-- A round: Enter, the part, Round. -/
theorem lays_round {G : Int} {B : Bool} {f : BS → BS} (hf : Lays G B f) : Lays G B (roundS f) := by
  refine ⟨fun st h => ?_, fun st e h1 h2 h3 h4 => ?_⟩
  · unfold roundS
    exact putS_keeps _ _ (hf.keeps _ (putS_keeps _ _ h))
  · unfold roundS at h4 ⊢
    have hw : wrap64 (st.loops + 1) = ((e + 1 : Nat) : Int) := by rw [h1]; exact IntWalk.wrap64_in _ ⟨by omega, by omega⟩
    rw [hw] at h4 ⊢
    generalize hS1 : putS { st with loops := ((e + 1 : Nat) : Int) } (inst 7 st.loops) = S1 at h4 ⊢
    have k2 : (f S1).full = false := by
      cases h : (f S1).full with
      | false => rfl
      | true => exact absurd (putS_keeps (inst 8 st.loops) _ h) (not_true_of h4)
    have k1 := hf.notfull k2
    rw [← hS1] at k1
    obtain ⟨_, r1, r2, _⟩ := putS_room k1 (.inr h3)
    rw [r2] at hS1
    have s1 : S1.insts = st.insts ++ [inst 7 st.loops] := by rw [← hS1]
    have s2 : S1.loops = ((e + 1 : Nat) : Int) := by rw [← hS1]
    have s3 : S1.groups = st.groups := by rw [← hS1]
    have s4 : S1.backs = st.backs := by rw [← hS1]
    have s5 : S1.insts.length = st.insts.length + 1 := by rw [s1]; simp
    simp only at r1
    obtain ⟨n, a1, a2, a3, a4, a5, a6⟩ := hf.lays S1 (e + 1) s2 (by omega) (by omega) k2
    obtain ⟨_, q1, q2, _⟩ := putS_room h4 (.inr a6)
    rw [q2]
    have hl : (f S1).insts.length = st.insts.length + 1 + n.length := by rw [a1]; simp [s5]
    refine ⟨inst 7 st.loops :: (n ++ [inst 8 st.loops]), ?_, ?_, ?_, a4.trans s3, a5.trans s4, ?_⟩
    · simp only [a1, s1, List.append_assoc, List.cons_append, List.nil_append]
    · simp only [a2]
      have e8 : enters (inst 7 st.loops :: (n ++ [inst 8 st.loops])) = 1 + enters n := by
        rw [enters_cons, enters_append, enters_one, show isE (inst 7 st.loops) = 1 from rfl, show isE (inst 8 st.loops) = 0 from rfl]
        omega
      rw [e8]; congr 1; omega
    · refine ⟨⟨by simp [inst], by simp [inst], by simp [inst], by simp [inst], by simp [inst], fun _ => by simp [inst, h1], by simp [inst]⟩, ?_⟩
      have e7 : isE (inst 7 st.loops) = 1 := rfl
      rw [e7]
      rw [s5] at a3
      refine Seg.append (a3.mono (by simp; omega)) (Seg.one ⟨by simp [inst], by simp [inst], by simp [inst], by simp [inst], by simp [inst], by simp [inst], fun _ => ?_⟩)
      simp only [inst, h1]
      omega
    · simp only [List.length_append, List.length_singleton]; omega

/-- The copies that must be. -/
theorem lays_repMin {G : Int} {B : Bool} {f : BS → BS} (hf : Lays G B f) : ∀ n, Lays G B (repMin f n)
  | 0 => lays_id
  | n + 1 => by
      have hc := lays_comp hf (lays_repMin hf n)
      refine ⟨fun st h => ?_, fun st e h1 h2 h3 h4 => ?_⟩
      · rw [repMin]
        split
        · exact hf.keeps st h
        · exact hc.keeps st h
      · rw [repMin] at h4 ⊢
        split
        · rename_i he
          rw [if_pos he] at h4
          exact hf.lays st e h1 h2 h3 h4
        · rename_i he
          rw [if_neg he] at h4
          exact hc.lays st e h1 h2 h3 h4
end Go.Proofs.Ytkaoegdfgoojdaa
