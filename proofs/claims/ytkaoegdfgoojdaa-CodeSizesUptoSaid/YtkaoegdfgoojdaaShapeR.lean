/- CodeShaped: the law at alt, at any node and at the whole program, in plain Lean. -/
import Derived.Test.YtkaoegdfgoojdaaShapeQ
namespace Go.Proofs.Ytkaoegdfgoojdaa
open Go Go.RowKit

theorem altS_keeps : ∀ (ts : List Tr) (hk : ∀ t, t ∈ ts → ∀ st : BS, st.full = true → (nodeS t st).full = true) (st : BS) (l : List Nat), st.full = true → (altS ts st l).full = true
  | [], _, st, l, h => by rw [altS, setsX_up]; exact h
  | [t], hk, st, l, h => by rw [altS, setsX_up]; exact hk t (by simp) st h
  | t :: u :: r, hk, st, l, h => by
      rw [altS]
      · exact altS_keeps (u :: r) (fun t' ht => hk t' (by simp at ht ⊢; right; exact ht)) _ _ (putS_keeps _ _ (hk t (by simp) _ (putS_keeps _ _ h)))
      · simp

theorem lays_altS {G : Int} {B : Bool} : ∀ (ts : List Tr) (hk : ∀ t, t ∈ ts → Lays G B (nodeS t)) (st : BS) (l : List Nat) (e : Nat), st.loops = e → e ≤ st.insts.length → st.insts.length ≤ 3000 → (∀ j, j ∈ l → j < st.insts.length) →
    (altS ts st l).full = false →
    ∃ new, (altS ts st l).insts = upX l ((altS ts st l).insts.length : Nat) st.insts ++ new ∧ (altS ts st l).loops = ((e + enters new : Nat) : Int) ∧
      (altS ts st l).insts.length = st.insts.length + new.length ∧ Seg G B (altS ts st l).insts.length st.insts.length e new ∧
      (altS ts st l).groups = st.groups ∧ (altS ts st l).backs = st.backs ∧ (altS ts st l).insts.length ≤ 3000
  | [], _, st, l, e, h1, _, h3, _, _ => by
      rw [altS, setsX_up]
      exact ⟨[], by simp [upX_length], by simpa [enters] using h1, by simp [upX_length], trivial, rfl, rfl, by simpa [upX_length] using h3⟩
  | [t], hk, st, l, e, h1, h2, h3, h4, h5 => by
      rw [altS, setsX_up] at h5 ⊢
      simp only at h5 ⊢
      obtain ⟨n1, a1, a2, a3, a4, a5, a6⟩ := (hk t (by simp)).lays st e h1 h2 h3 h5
      have hl : (nodeS t st).insts.length = st.insts.length + n1.length := by rw [a1]; simp
      rw [upX_length, hl, a1, upX_left _ _ _ _ h4]
      exact ⟨n1, rfl, a2, rfl, a3, a4, a5, by omega⟩
  | t :: u :: r, hk, st, l, e, h1, h2, h3, h4, h5 => by
      have hr : altS (t :: u :: r) st l = altS (u :: r) (setY (putS (nodeS t (splitS st)) (inst 2 0)) (putN st).toNat (putS (nodeS t (splitS st)) (inst 2 0)).insts.length) (l ++ [(putN (nodeS t (splitS st))).toNat]) := by
        rw [altS]; simp
      rw [hr] at h5 ⊢
      have hk' : ∀ t', t' ∈ u :: r → Lays G B (nodeS t') := fun t' ht => hk t' (by simp at ht ⊢; right; exact ht)
      have ht := hk t (by simp)
      have k3 : (putS (nodeS t (splitS st)) (inst 2 0)).full = false := by
        cases h : (putS (nodeS t (splitS st)) (inst 2 0)).full with
        | false => rfl
        | true => exact absurd (altS_keeps (u :: r) (fun t' h' => (hk' t' h').keeps) (setY _ _ _) _ h) (not_true_of h5)
      have k2 : (nodeS t (splitS st)).full = false := by
        cases h : (nodeS t (splitS st)).full with
        | false => rfl
        | true => exact absurd (putS_keeps (inst 2 0) _ h) (not_true_of k3)
      have k1 := ht.notfull k2
      have k0 : st.full = false := by
        cases h : st.full with
        | false => rfl
        | true => exact absurd (putS_keeps (inst 1 (st.insts.length + 1)) _ h) (not_true_of k1)
      obtain ⟨_, r1, r2, r3⟩ := putS_room (st := st) (i := inst 1 (st.insts.length + 1)) k1 (.inr h3)
      have e0 : splitS st = { st with insts := st.insts ++ [inst 1 (st.insts.length + 1)] } := r2
      have ep : (putN st).toNat = st.insts.length := by rw [r3]; simp
      rw [e0] at k2 k3 h5 ⊢
      rw [ep] at h5 ⊢
      obtain ⟨n1, a1, a2, a3, a4, a5, a6⟩ := ht.lays { st with insts := st.insts ++ [inst 1 (st.insts.length + 1)] } e h1 (by simp; omega) (by simp; omega) k2
      simp only [List.length_append, List.length_singleton] at a3
      generalize nodeS t { st with insts := st.insts ++ [inst 1 (st.insts.length + 1)] } = S1 at *
      have hl : S1.insts.length = st.insts.length + 1 + n1.length := by rw [a1]; simp; omega
      obtain ⟨_, q1, q2, q3⟩ := putS_room k3 (.inr a6)
      have eq : (putN S1).toNat = S1.insts.length := by rw [q3]; simp
      rw [q2, eq] at h5 ⊢
      have hi : S1.insts ++ [inst 2 0] = st.insts ++ inst 1 (st.insts.length + 1) :: (n1 ++ [inst 2 0]) := by rw [a1]; simp
      have hl2 : (S1.insts ++ [inst 2 0]).length = st.insts.length + 1 + n1.length + 1 := by rw [hi]; simp; omega
      have hs2 : setY { S1 with insts := S1.insts ++ [inst 2 0] } st.insts.length (S1.insts ++ [inst 2 0]).length =
          { S1 with insts := st.insts ++ { inst 1 (st.insts.length + 1) with y := ((st.insts.length + 1 + n1.length + 1 : Nat) : Int) } :: (n1 ++ [inst 2 0]) } := by
        simp only [setY, hi, modify_mid]
        rw [← hi, hl2]
      simp only at h5 ⊢
      rw [hs2] at h5 ⊢
      generalize hS2 : ({ S1 with insts := st.insts ++ { inst 1 (st.insts.length + 1) with y := ((st.insts.length + 1 + n1.length + 1 : Nat) : Int) } :: (n1 ++ [inst 2 0]) } : BS) = S2 at h5 ⊢
      have s1 : S2.insts = st.insts ++ { inst 1 (st.insts.length + 1) with y := ((st.insts.length + 1 + n1.length + 1 : Nat) : Int) } :: (n1 ++ [inst 2 0]) := by rw [← hS2]
      have s2 : S2.loops = ((e + enters n1 : Nat) : Int) := by rw [← hS2]; exact a2
      have s3 : S2.groups = S1.groups := by rw [← hS2]
      have s4 : S2.backs = S1.backs := by rw [← hS2]
      have s5 : S2.insts.length = st.insts.length + 1 + n1.length + 1 := by rw [s1]; simp; omega
      obtain ⟨n2, b1, b2, b3, b4, b5, b6, b7⟩ := lays_altS (u :: r) hk' S2 (l ++ [S1.insts.length]) (e + enters n1) s2 (by have := enters_le n1; omega) (by omega)
        (fun j hj => by rcases List.mem_append.1 hj with hj | hj; have := h4 j hj; omega; rw [List.mem_singleton.1 hj]; omega) h5
      generalize altS (u :: r) S2 (l ++ [S1.insts.length]) = R at *
      refine ⟨{ inst 1 (st.insts.length + 1) with y := ((st.insts.length + 1 + n1.length + 1 : Nat) : Int) } :: (n1 ++ (inst 2 (R.insts.length : Nat) :: n2)), ?_, ?_, ?_, ?_, (b5.trans s3).trans a4, (b6.trans s4).trans a5, b7⟩
      · refine b1.trans ?_
        rw [upX_snoc, s1, upX_left _ _ _ _ h4]
        have hu : (upX l (R.insts.length : Nat) st.insts ++ { inst 1 (st.insts.length + 1) with y := ((st.insts.length + 1 + n1.length + 1 : Nat) : Int) } :: n1).length = S1.insts.length := by
          rw [List.length_append, upX_length, hl]; simp; omega
        have hx : upX l (R.insts.length : Nat) st.insts ++ { inst 1 (st.insts.length + 1) with y := ((st.insts.length + 1 + n1.length + 1 : Nat) : Int) } :: (n1 ++ [inst 2 0]) =
            (upX l (R.insts.length : Nat) st.insts ++ { inst 1 (st.insts.length + 1) with y := ((st.insts.length + 1 + n1.length + 1 : Nat) : Int) } :: n1) ++ inst 2 0 :: [] := by simp
        rw [hx, ← hu, modify_mid]
        generalize (R.insts.length : Nat) = z
        simp [inst]
      · rw [b2, enters_cons, enters_append, enters_cons]
        have z1 : isE { inst 1 (st.insts.length + 1) with y := ((st.insts.length + 1 + n1.length + 1 : Nat) : Int) } = 0 := rfl
        have z2 : isE (inst 2 (R.insts.length : Nat)) = 0 := rfl
        rw [z1, z2]; congr 1; omega
      · rw [b3, s5]; simp; omega
      · refine ⟨good_split (by omega) (by omega), ?_⟩
        have z1 : isE { inst 1 (st.insts.length + 1) with y := ((st.insts.length + 1 + n1.length + 1 : Nat) : Int) } = 0 := rfl
        rw [z1, Nat.add_zero]
        refine Seg.append (a3.mono (by omega)) ⟨⟨by simp [inst], by simp [inst], fun _ => ?_, by simp [inst], by simp [inst], by simp [inst], by simp [inst]⟩, ?_⟩
        · simp only [inst]; omega
        · have z2 : isE (inst 2 (R.insts.length : Nat)) = 0 := rfl
          rw [z2, Nat.add_zero, ← s5]
          exact b4

theorem lays_if {G : Int} {B : Bool} {f : BS → BS} (hf : Lays G B f) : Lays G B (fun b => if b.full then b else f b) := by
  refine ⟨fun st h => by simp only [h, if_true], fun st e h1 h2 h3 h4 => ?_⟩
  cases hs : st.full with
  | true => simp only [hs, if_true] at h4; cases h4
  | false =>
    simp only [hs] at h4 ⊢
    exact hf.lays st e h1 h2 h3 h4
theorem lays_alt {G : Int} {B : Bool} (ts : List Tr) (hk : ∀ t, t ∈ ts → Lays G B (nodeS t)) : Lays G B (fun b => altS ts b []) := by
  refine ⟨fun st h => altS_keeps ts (fun t ht => (hk t ht).keeps) st [] h, fun st e h1 h2 h3 h4 => ?_⟩
  obtain ⟨n, a1, a2, a3, a4, a5, a6, a7⟩ := lays_altS ts hk st [] e h1 h2 h3 (fun _ h => by cases h) h4
  exact ⟨n, a1, a2, by rw [← a3]; exact a4, a5, a6, a7⟩
theorem lays_cat {G : Int} {B : Bool} : ∀ (ts : List Tr) (hk : ∀ t, t ∈ ts → Lays G B (nodeS t)), Lays G B (catS ts)
  | [], _ => by have h := lays_id (G := G) (B := B); have e : catS [] = fun b => b := by funext b; rw [catS]
                rw [e]; exact h
  | t :: r, hk => by
      have h := lays_comp (hk t (by simp)) (lays_cat r (fun t' ht => hk t' (by simp [ht])))
      have e : catS (t :: r) = fun b => catS r (nodeS t b) := by funext b; rw [catS]
      rw [e]; exact h

mutual
def NumT (G : Int) (B : Bool) : Tr → Prop
  | .cat ps => NumL G B ps
  | .alt ps => NumL G B ps
  | .rep t _ _ => NumT G B t
  | .group n t => (1 ≤ n ∧ n ≤ G) ∧ NumT G B t
  | .back n => 1 ≤ n ∧ n ≤ G ∧ B = true
  | _ => True
def NumL (G : Int) (B : Bool) : List Tr → Prop
  | [] => True
  | t :: r => NumT G B t ∧ NumL G B r
end

mutual
theorem nodeS_lays {G : Int} {B : Bool} (hG : G ≤ 1048576) : ∀ t, NumT G B t → Lays G B (nodeS t)
  | .empty, _ => by have e : nodeS .empty = fun b => b := by funext b; rw [nodeS]
                    rw [e]; exact lays_id
  | .one s0 s1 s2 s3, _ => by
      have e : nodeS (.one s0 s1 s2 s3) = fun b => if b.full then b else putS b ⟨0, s0, s1, s2, s3, 0, 0⟩ := by funext b; rw [nodeS]
      rw [e]; exact lays_if (lays_put _ (by simp) (fun _ _ _ => ⟨by simp, by simp, by simp, by simp, by simp, by simp, by simp⟩))
  | .start, _ => by
      have e : nodeS .start = fun b => if b.full then b else putS b (inst 5 0) := by funext b; rw [nodeS]
      rw [e]; exact lays_if (lays_put _ (by simp [inst]) (fun _ _ _ => ⟨by simp [inst], by simp [inst], by simp [inst], by simp [inst], by simp [inst], by simp [inst], by simp [inst]⟩))
  | .endd, _ => by
      have e : nodeS .endd = fun b => if b.full then b else putS b (inst 6 0) := by funext b; rw [nodeS]
      rw [e]; exact lays_if (lays_put _ (by simp [inst]) (fun _ _ _ => ⟨by simp [inst], by simp [inst], by simp [inst], by simp [inst], by simp [inst], by simp [inst], by simp [inst]⟩))
  | .back n, h => by
      have e : nodeS (.back n) = fun b => if b.full then b else putS b (inst 4 n) := by funext b; rw [nodeS]
      rw [NumT] at h
      rw [e]; exact lays_if (lays_put _ (by simp [inst]) (fun _ _ _ => ⟨by simp [inst], by simp [inst], by simp [inst], by simp [inst], fun _ => h, by simp [inst], by simp [inst]⟩))
  | .cat ps, h => by
      have e : nodeS (.cat ps) = fun b => if b.full then b else catS ps b := by funext b; rw [nodeS]
      rw [NumT] at h
      rw [e]; exact lays_if (lays_cat ps (nodeL_lays hG ps h))
  | .alt ps, h => by
      have e : nodeS (.alt ps) = fun b => if b.full then b else altS ps b [] := by funext b; rw [nodeS]
      rw [NumT] at h
      rw [e]; exact lays_if (lays_alt ps (nodeL_lays hG ps h))
  | .rep t min max, h => by
      have e : nodeS (.rep t min max) = fun b => if b.full then b else repS (nodeS t) min max b := by funext b; rw [nodeS]
      rw [NumT] at h
      rw [e]; exact lays_if (lays_rep (nodeS_lays hG t h) min max)
  | .group n t, h => by
      have e : nodeS (.group n t) = fun b => if b.full then b else putS (nodeS t (putS b (inst 3 (wrap64 (2 * n))))) (inst 3 (wrap64 (wrap64 (2 * n) + 1))) := by funext b; rw [nodeS]
      rw [NumT] at h
      have w1 : wrap64 (2 * n) = 2 * n := IntWalk.wrap64_in _ ⟨by omega, by omega⟩
      have w2 : wrap64 (2 * n + 1) = 2 * n + 1 := IntWalk.wrap64_in _ ⟨by omega, by omega⟩
      rw [e, w1, w2]
      have ha : Lays G B (putS · (inst 3 (2 * n))) := lays_put _ (by simp [inst]) (fun _ _ _ => ⟨by simp [inst], by simp [inst], by simp [inst], fun _ => by simp only [inst]; omega, by simp [inst], by simp [inst], by simp [inst]⟩)
      have hb : Lays G B (putS · (inst 3 (2 * n + 1))) := lays_put _ (by simp [inst]) (fun _ _ _ => ⟨by simp [inst], by simp [inst], by simp [inst], fun _ => by simp only [inst]; omega, by simp [inst], by simp [inst], by simp [inst]⟩)
      exact lays_if (lays_comp (lays_comp ha (nodeS_lays hG t h.2)) hb)
theorem nodeL_lays {G : Int} {B : Bool} (hG : G ≤ 1048576) : ∀ ts, NumL G B ts → ∀ t, t ∈ ts → Lays G B (nodeS t)
  | [], _, _, h => by cases h
  | u :: r, h, t, ht => by
      rw [NumL] at h
      rcases List.mem_cons.1 ht with e | ht
      · rw [e]; exact nodeS_lays hG u h.1
      · exact nodeL_lays hG r h.2 t ht
end

/-- What is closed was opened. -/
def InSt (s : St) : Prop := 0 ≤ s.1 ∧ ∀ x, x ∈ s.2 → 1 ≤ x ∧ x ≤ s.1
mutual
theorem num_right {G : Int} {B : Bool} (hG : G ≤ 1048576) : ∀ (t : Tr) (s s' : St), rightT t s = some s' → InSt s → s.1 + groupsN t ≤ G → (backsT t = true → B = true) → s'.1 = s.1 + groupsN t ∧ InSt s' ∧ NumT G B t
  | .cat ps, s, s', h, hi, hg, hb => by
      simp only [rightT] at h
      split at h
      · rw [groupsN] at hg ⊢; rw [backsT] at hb; rw [NumT]; exact num_rightL hG ps s s' h hi hg hb
      · cases h
  | .alt ps, s, s', h, hi, hg, hb => by
      simp only [rightT] at h
      split at h
      · rw [groupsN] at hg ⊢; rw [backsT] at hb; rw [NumT]; exact num_rightL hG ps s s' h hi hg hb
      · cases h
  | .rep t min max, s, s', h, hi, hg, hb => by
      simp only [rightT] at h
      split at h
      · rw [groupsN] at hg ⊢; rw [backsT] at hb; rw [NumT]; exact num_right hG t s s' h hi hg hb
      · cases h
  | .group n t, s, s', h, hi, hg, hb => by
      simp only [rightT] at h
      rw [groupsN] at hg ⊢; rw [backsT] at hb; rw [NumT]
      have hp := hi.1
      have w1 : wrap64 (s.1 + 1) = s.1 + 1 := IntWalk.wrap64_in _ ⟨by omega, by omega⟩
      rw [w1] at h
      split at h
      · rename_i hn
        obtain ⟨s1, h1, rfl⟩ := Option.map_eq_some_iff.1 h
        obtain ⟨a1, a2, a3⟩ := num_right hG t (s.1 + 1, s.2) s1 h1 ⟨by simp only; omega, fun x hx => by have := hi.2 x hx; simp only; omega⟩ (by simp only; omega) hb
        simp only at a1
        refine ⟨by simp only [a1]; omega, ⟨a2.1, fun x hx => ?_⟩, ⟨by omega, by omega⟩, a3⟩
        simp only [List.mem_append, List.mem_singleton] at hx
        rcases hx with hx | rfl
        · exact a2.2 x hx
        · simp only; omega
      · cases h
  | .back n, s, s', h, hi, hg, hb => by
      simp only [rightT] at h
      split at h
      · rename_i hn
        cases h
        obtain ⟨x, hx, he⟩ := List.any_eq_true.1 hn
        have := hi.2 x hx
        have : n = x := by simpa using he
        simp only [groupsN, NumT] at hg ⊢
        exact ⟨by simp, hi, by omega, by omega, hb (by simp [backsT])⟩
      · cases h
  | .one .., s, s', h, hi, _, _ => by simp only [rightT] at h; cases h; rw [groupsN, NumT]; exact ⟨by simp, hi, trivial⟩; all_goals simp
  | .empty, s, s', h, hi, _, _ => by simp only [rightT] at h; cases h; rw [groupsN, NumT]; exact ⟨by simp, hi, trivial⟩; all_goals simp
  | .start, s, s', h, hi, _, _ => by simp only [rightT] at h; cases h; rw [groupsN, NumT]; exact ⟨by simp, hi, trivial⟩; all_goals simp
  | .endd, s, s', h, hi, _, _ => by simp only [rightT] at h; cases h; rw [groupsN, NumT]; exact ⟨by simp, hi, trivial⟩; all_goals simp
theorem num_rightL {G : Int} {B : Bool} (hG : G ≤ 1048576) : ∀ (ps : List Tr) (s s' : St), rightL ps s = some s' → InSt s → s.1 + groupsL ps ≤ G → (backsL ps = true → B = true) → s'.1 = s.1 + groupsL ps ∧ InSt s' ∧ NumL G B ps
  | [], s, s', h, hi, _, _ => by simp only [rightL] at h; cases h; rw [groupsL, NumL]; exact ⟨by simp, hi, trivial⟩
  | t :: r, s, s', h, hi, hg, hb => by
      simp only [rightL] at h
      obtain ⟨s1, h1, h2⟩ := Option.bind_eq_some_iff.1 h
      rw [groupsL] at hg ⊢; rw [backsL] at hb; rw [NumL]
      obtain ⟨a1, a2, a3⟩ := num_right hG t s s1 h1 hi (by omega) (fun h => hb (by simp [h]))
      obtain ⟨b1, b2, b3⟩ := num_rightL hG r s1 s' h2 a2 (by omega) (fun h => hb (by simp [h]))
      exact ⟨by omega, b2, a3, b3⟩
end

/-- An instruction of a whole program: at place k of n, behind e Enters. -/
structure Fine (G : Int) (B : Bool) (n k e : Nat) (i : In) : Prop where
  m : i.op = 9 ↔ k + 1 = n
  split : i.op = 1 → i.x = k + 1 ∧ (k : Int) < i.y ∧ i.y < n
  jump : i.op = 2 → 0 ≤ i.x ∧ i.x < n ∧ i.x ≠ k
  save : i.op = 3 → 0 ≤ i.x ∧ i.x ≤ 2 * G + 1
  back : i.op = 4 → 1 ≤ i.x ∧ i.x ≤ G ∧ B = true
  enter : i.op = 7 → i.x = e
  round : i.op = 8 → 0 ≤ i.x ∧ i.x < e
theorem Good.fine {G : Int} {B : Bool} {n n' k e : Nat} {i : In} (h : Good G B n k e i) (hn : n < n') (hk : k + 1 < n') : Fine G B n' k e i :=
  ⟨⟨fun a => absurd a h.notm, fun a => by omega⟩, fun a => by have := h.split a; omega, fun a => by have := h.jump a; omega, h.save, h.back, h.enter, h.round⟩
theorem Seg.at {G : Int} {B : Bool} {n : Nat} : ∀ {l : List In} {k e : Nat}, Seg G B n k e l → ∀ (j : Nat) (h : j < l.length), Good G B n (k + j) (e + enters (l.take j)) l[j]
  | [], _, _, _, _, h => absurd h (by simp)
  | i :: r, k, e, ⟨h1, h2⟩, 0, _ => by simpa [enters] using h1
  | i :: r, k, e, ⟨h1, h2⟩, j + 1, h => by
      have := Seg.at h2 j (by simpa using h)
      have e1 : k + (j + 1) = k + 1 + j := by omega
      have e2 : e + enters ((i :: r).take (j + 1)) = e + isE i + enters (r.take j) := by simp [enters]; omega
      rw [e1, e2]
      exact this

theorem final_law (t : Tr) (hr : rightB t = true) (hs : sizeT t ≤ 1048576) (hf : (finalB t).full = false) :
    (∀ (j : Nat) (h : j < (finalB t).insts.length), Fine (groupsN t) (backsT t) (finalB t).insts.length j (enters ((finalB t).insts.take j)) (finalB t).insts[j]) ∧
    (finalB t).loops = (enters (finalB t).insts : Nat) ∧ (finalB t).groups = groupsN t ∧ (finalB t).backs = backsT t := by
  have hg := groupsN_size t
  obtain ⟨s', hs'⟩ := Option.isSome_iff_exists.1 hr
  obtain ⟨_, _, hnum⟩ := num_right (G := groupsN t) (B := backsT t) (by omega) t (0, []) s' hs' ⟨by simp, fun _ h => by cases h⟩ (by simp) id
  have hN := nodeS_lays (by omega) t hnum
  have hsv : ∀ x, 0 ≤ x → x ≤ 1 → Lays (groupsN t : Int) (backsT t) (putS · (inst 3 x)) := fun x h0 h1 =>
    lays_put _ (by simp [inst]) (fun _ _ _ => ⟨by simp [inst], by simp [inst], by simp [inst], fun _ => by simp only [inst]; omega, by simp [inst], by simp [inst], by simp [inst]⟩)
  have hall := lays_comp (lays_comp (hsv 0 (by omega) (by omega)) hN) (hsv 1 (by omega) (by omega))
  unfold finalB at hf ⊢
  generalize hT : putS (nodeS t (putS (startB t) (inst 3 0))) (inst 3 1) = S at hf ⊢
  have k0 : S.full = false := by
    cases h : S.full with
    | false => rfl
    | true => exact absurd (putS_keeps (inst 9 0) _ h) (not_true_of hf)
  rw [← hT] at k0
  obtain ⟨n, a1, a2, a3, a4, a5, a6⟩ := hall.lays (startB t) 0 rfl (Nat.zero_le _) (by simp [startB]) k0
  simp only [hT] at a1 a2 a4 a5 a6
  have a1' : S.insts = n := by rw [a1]; simp [startB]
  simp only [startB, List.length_nil, Nat.zero_add] at a2 a3 a4 a5
  obtain ⟨_, r1, r2, _⟩ := putS_room hf (.inr a6)
  rw [r2]
  simp only
  rw [a1'] at r2 ⊢
  refine ⟨fun j h => ?_, ?_, a4, a5⟩
  · simp only [List.length_append, List.length_singleton] at h ⊢
    by_cases hj : j < n.length
    · rw [List.getElem_append_left hj, List.take_append_of_le_length (by omega)]
      have := a3.at j hj
      simp only [Nat.zero_add] at this
      exact this.fine (by omega) (by omega)
    · have : j = n.length := by omega
      subst this
      rw [List.getElem_append_right (by omega)]
      simp only [Nat.sub_self, List.getElem_cons_zero]
      exact ⟨by simp [inst], by simp [inst], by simp [inst], by simp [inst], by simp [inst], by simp [inst], by simp [inst]⟩
  · rw [a2, enters_append]; rfl
end Go.Proofs.Ytkaoegdfgoojdaa
