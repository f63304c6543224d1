/- The pure tree and the pure compiler: what the program's builder lays, in plain Lean. -/
import Derived.WalkKit
namespace Go.Proofs.YtkaoegdfgoojdaaGreatDoor
open Go Go.RowKit

/-- A tree's node. -/
inductive Tr where
  | empty
  | one (s0 s1 s2 s3 : Int)
  | cat (ps : List Tr)
  | alt (ps : List Tr)
  | rep (of : Tr) (min max : Int)
  | group (number : Int) (of : Tr)
  | back (number : Int)
  | start
  | endd

/-- An instruction. -/
structure In where
  op : Int
  s0 : Int
  s1 : Int
  s2 : Int
  s3 : Int
  x : Int
  y : Int

def In.cells (i : In) : List Value := [.int .i64 i.op, .int .u64 i.s0, .int .u64 i.s1, .int .u64 i.s2, .int .u64 i.s3, .int .i64 i.x, .int .i64 i.y]
def In.val (i : In) : Value := .agg #[.int .i64 i.op, .int .u64 i.s0, .int .u64 i.s1, .int .u64 i.s2, .int .u64 i.s3, .int .i64 i.x, .int .i64 i.y]
def flat (l : List In) : List Value := l.flatMap In.cells

theorem In.cells_length (i : In) : i.cells.length = 7 := rfl
theorem flat_length (l : List In) : (flat l).length = l.length * 7 := by
  induction l with
  | nil => rfl
  | cons a l ih => simp only [flat, List.flatMap_cons, List.length_append] at ih ⊢; rw [ih, In.cells_length]; simp; omega
theorem flat_append (a b : List In) : flat (a ++ b) = flat a ++ flat b := by simp [flat]
theorem flat_snoc (a : List In) (i : In) : flat (a ++ [i]) = flat a ++ i.cells := by simp [flat]

/-- What the builder has laid. -/
structure BS where
  insts : List In
  groups : Int
  loops : Int
  backs : Bool
  full : Bool

def inst (op : Int) (x : Int) : In := ⟨op, 0, 0, 0, 0, x, 0⟩

def putS (b : BS) (i : In) : BS := if b.insts.length < 3000 then { b with insts := b.insts ++ [i] } else { b with full := true }
def putN (b : BS) : Int := if b.insts.length < 3000 then b.insts.length else 0

/-- 'b.Insts[i].Y = v' -/
def setY (b : BS) (i : Nat) (v : Int) : BS := { b with insts := b.insts.modify i fun x => { x with y := v } }
def setX (b : BS) (i : Nat) (v : Int) : BS := { b with insts := b.insts.modify i fun x => { x with x := v } }

def splitS (b : BS) : BS := putS b (inst 1 (b.insts.length + 1))

def setsX (b : BS) : List Nat → BS
  | [] => b
  | j :: r => setsX (setX b j b.insts.length) r
def setsY (b : BS) : List Nat → BS
  | [] => b
  | j :: r => setsY (setY b j b.insts.length) r

def roundS (f : BS → BS) (b : BS) : BS :=
  putS (f (putS { b with loops := wrap64 (b.loops + 1) } (inst 7 b.loops))) (inst 8 b.loops)

def repMin (f : BS → BS) : Nat → BS → BS
  | 0, b => b
  | k + 1, b => if (f b).insts.length = b.insts.length then f b else repMin f k (f b)

/-- the loop of the optional rounds: how many are left, the splits so far -/
def repMax (f : BS → BS) : Nat → BS → List Nat → BS × List Nat
  | 0, b, l => (b, l)
  | k + 1, b, l => if b.full then (b, l) else repMax f k (roundS f (splitS b)) (l ++ [(putN b).toNat])

def repS (f : BS → BS) (min max : Int) (b : BS) : BS :=
  let b1 := repMin f min.toNat b
  if max < 0 then
    let b2 := putS (roundS f (splitS b1)) (inst 2 (putN b1))
    setY b2 (putN b1).toNat b2.insts.length
  else
    let r := repMax f (max - min).toNat b1 []
    setsY r.1 r.2

mutual
def nodeS : Tr → BS → BS
  | .empty, b => b
  | .one s0 s1 s2 s3, b => if b.full then b else putS b ⟨0, s0, s1, s2, s3, 0, 0⟩
  | .start, b => if b.full then b else putS b (inst 5 0)
  | .endd, b => if b.full then b else putS b (inst 6 0)
  | .back n, b => if b.full then b else putS b (inst 4 n)
  | .cat ps, b => if b.full then b else catS ps b
  | .alt ps, b => if b.full then b else altS ps b []
  | .group n t, b => if b.full then b else putS (nodeS t (putS b (inst 3 (wrap64 (2 * n))))) (inst 3 (wrap64 (wrap64 (2 * n) + 1)))
  | .rep t min max, b => if b.full then b else repS (nodeS t) min max b
def catS : List Tr → BS → BS
  | [], b => b
  | t :: r, b => catS r (nodeS t b)
/-- the jumps that were laid -/
def altS : List Tr → BS → List Nat → BS
  | [], b, l => setsX b l
  | [t], b, l => setsX (nodeS t b) l
  | t :: r, b, l =>
    let b1 := nodeS t (splitS b)
    let b2 := putS b1 (inst 2 0)
    altS r (setY b2 (putN b).toNat b2.insts.length) (l ++ [(putN b1).toNat])
end

mutual
/-- What the builder asks of a tree. -/
def Ok : Tr → Prop
  | .cat ps => Oks ps
  | .alt ps => ps ≠ [] ∧ ps.length ≤ 1048576 ∧ Oks ps
  | .rep t min max => 0 ≤ min ∧ min ≤ 1048576 ∧ max ≤ 1048576 ∧ Ok t
  | .group _ t => Ok t
  | _ => True
def Oks : List Tr → Prop
  | [] => True
  | t :: r => Ok t ∧ Oks r
end

def altStep (f : BS → BS) (p : BS × List Nat) : BS × List Nat :=
  let b1 := f (splitS p.1)
  let b2 := putS b1 (inst 2 0)
  (setY b2 (putN p.1).toNat b2.insts.length, p.2 ++ [(putN b1).toNat])
def altK (fs : Nat → BS → BS) : Nat → BS × List Nat → BS × List Nat
  | 0, p => p
  | k + 1, p => altStep (fs k) (altK fs k p)
def catK (fs : Nat → BS → BS) : Nat → BS → BS
  | 0, p => p
  | k + 1, p => fs k (catK fs k p)

theorem catK_succ' (fs : Nat → BS → BS) (n : Nat) (b : BS) : catK fs (n + 1) b = catK (fun i => fs (i + 1)) n (fs 0 b) := by
  induction n with
  | zero => rfl
  | succ n ih => rw [catK, ih, catK]
theorem altK_succ' (fs : Nat → BS → BS) (n : Nat) (p : BS × List Nat) : altK fs (n + 1) p = altK (fun i => fs (i + 1)) n (altStep (fs 0) p) := by
  induction n with
  | zero => rfl
  | succ n ih => rw [altK, ih, altK]
theorem catS_eq (ts : List Tr) : ∀ b, catS ts b = catK (fun i => nodeS (ts.getD i .empty)) ts.length b := by
  induction ts with
  | nil => intro b; rfl
  | cons t r ih => intro b; rw [catS, ih, List.length_cons, catK_succ']; rfl
theorem altS_eq (ts : List Tr) : ∀ b l, ts ≠ [] → altS ts b l = setsX (nodeS (ts.getD (ts.length - 1) .empty) (altK (fun i => nodeS (ts.getD i .empty)) (ts.length - 1) (b, l)).1) (altK (fun i => nodeS (ts.getD i .empty)) (ts.length - 1) (b, l)).2 := by
  induction ts with
  | nil => intro _ _ h; exact absurd rfl h
  | cons t r ih =>
    intro b l _
    cases r with
    | nil => rfl
    | cons u r =>
      rw [altS, ih _ _ (by simp)]
      simp only [List.length_cons, Nat.add_sub_cancel, altK_succ']
      rfl
      simp

theorem repMin_stop {f : BS → BS} {n k : Nat} {b : BS} (h : k < n) (he : (f b).insts.length = b.insts.length) : repMin f (n - k) b = f b := by
  obtain ⟨m, hm⟩ : ∃ m, n - k = m + 1 := ⟨n - k - 1, by omega⟩
  rw [hm, repMin, if_pos he]
theorem repMin_go {f : BS → BS} {n k : Nat} {b : BS} (h : k < n) (he : ¬ (f b).insts.length = b.insts.length) : repMin f (n - (k + 1)) (f b) = repMin f (n - k) b := by
  obtain ⟨m, hm⟩ : ∃ m, n - k = m + 1 := ⟨n - k - 1, by omega⟩
  rw [hm, repMin, if_neg he]
  congr 1
  omega
theorem repMin_done {f : BS → BS} {n k : Nat} {b : BS} (h : ¬ k < n) : repMin f (n - k) b = b := by
  rw [show n - k = 0 by omega]; rfl
theorem altK_length (fs : Nat → BS → BS) (n : Nat) (b : BS) : (altK fs n (b, [])).2.length = n := by
  induction n with
  | zero => rfl
  | succ n ih => simp only [altK, altStep, List.length_append, List.length_cons, List.length_nil, ih]

/-- The builder's slice only grows. -/
def Grows (f : BS → BS) : Prop := ∀ b, b.insts.length ≤ (f b).insts.length
theorem putS_grows (i : In) : Grows (putS · i) := by intro b; simp only [putS]; split <;> simp
theorem splitS_grows : Grows splitS := fun b => putS_grows _ b
theorem putN_lt (b : BS) (i : In) : (putN b).toNat < (putS b i).insts.length := by unfold putN putS; split <;> simp <;> omega
theorem putN_nn (b : BS) : 0 ≤ putN b := by unfold putN; split <;> omega
theorem putN_le (b : BS) : putN b ≤ 3000 := by unfold putN; split <;> omega
theorem setY_length (b : BS) (j : Nat) (v : Int) : (setY b j v).insts.length = b.insts.length := by simp [setY]
theorem setX_length (b : BS) (j : Nat) (v : Int) : (setX b j v).insts.length = b.insts.length := by simp [setX]
theorem setsX_length (l : List Nat) : ∀ b, (setsX b l).insts.length = b.insts.length := by
  induction l with
  | nil => intro b; rfl
  | cons j r ih => intro b; rw [setsX, ih, setX_length]
theorem setsY_length (l : List Nat) : ∀ b, (setsY b l).insts.length = b.insts.length := by
  induction l with
  | nil => intro b; rfl
  | cons j r ih => intro b; rw [setsY, ih, setY_length]
theorem altStep_le {f : BS → BS} (hf : Grows f) (p : BS × List Nat) : p.1.insts.length ≤ (altStep f p).1.insts.length := by
  simp only [altStep, setY_length]
  exact Nat.le_trans (splitS_grows _) (Nat.le_trans (hf _) (putS_grows _ _))
theorem altStep_lt {f : BS → BS} (hf : Grows f) (b : BS) : (putN b).toNat < (putS (f (splitS b)) (inst 2 0)).insts.length :=
  Nat.lt_of_lt_of_le (putN_lt b (inst 1 (b.insts.length + 1))) (Nat.le_trans (hf _) (putS_grows _ _))
theorem altK_le {fs : Nat → BS → BS} (n : Nat) (hf : ∀ k, k < n → Grows (fs k)) (p : BS × List Nat) : p.1.insts.length ≤ (altK fs n p).1.insts.length := by
  induction n with
  | zero => exact Nat.le_refl _
  | succ n ih => exact Nat.le_trans (ih (fun k hk => hf k (by omega))) (altStep_le (hf n (by omega)) _)
/-- Each place in the list is one of the builder's instructions. -/
def Within (l : List Nat) (b : BS) : Prop := ∀ j, j ∈ l → j < b.insts.length
theorem Within.mono {l : List Nat} {b c : BS} (h : Within l b) (hl : b.insts.length ≤ c.insts.length) : Within l c := fun j hj => Nat.lt_of_lt_of_le (h j hj) hl
theorem altStep_within {f : BS → BS} (hf : Grows f) (p : BS × List Nat) (h : Within p.2 p.1) : Within (altStep f p).2 (altStep f p).1 := by
  intro j hj
  simp only [altStep, List.mem_append, List.mem_singleton] at hj
  rcases hj with hj | rfl
  · exact Nat.lt_of_lt_of_le (h j hj) (altStep_le hf p)
  · simp only [altStep, setY_length]; exact putN_lt _ _
theorem altK_within {fs : Nat → BS → BS} (n : Nat) (hf : ∀ k, k < n → Grows (fs k)) (p : BS × List Nat) (h : Within p.2 p.1) : Within (altK fs n p).2 (altK fs n p).1 := by
  induction n with
  | zero => exact h
  | succ n ih => exact altStep_within (hf n (by omega)) _ (ih (fun k hk => hf k (by omega)))

theorem roundS_grows {f : BS → BS} (hf : Grows f) : Grows (roundS f) := by
  intro b
  have h1 := putS_grows (inst 7 b.loops) { b with loops := wrap64 (b.loops + 1) }
  have h2 := hf (putS { b with loops := wrap64 (b.loops + 1) } (inst 7 b.loops))
  have h3 := putS_grows (inst 8 b.loops) (f (putS { b with loops := wrap64 (b.loops + 1) } (inst 7 b.loops)))
  simp only at h1 h3
  unfold roundS
  omega
theorem repMin_grows {f : BS → BS} (hf : Grows f) : ∀ n, Grows (repMin f n) := by
  intro n
  induction n with
  | zero => intro b; exact Nat.le_refl _
  | succ n ih => intro b; rw [repMin]; split; exact hf b; exact Nat.le_trans (hf b) (ih _)
theorem repMax_stop {f : BS → BS} {n : Nat} {b : BS} {l : List Nat} (h : n = 0 ∨ b.full = true) : repMax f n b l = (b, l) := by
  cases n with
  | zero => rfl
  | succ n => rw [repMax, if_pos (h.resolve_left (by omega))]
theorem repMax_go {f : BS → BS} {n k : Nat} {b : BS} {l : List Nat} {q : Nat} (h : k < n) (hb : b.full = false) (hq : putN b = q) : repMax f (n - (k + 1)) (roundS f (splitS b)) (l ++ [q]) = repMax f (n - k) b l := by
  obtain ⟨m, hm⟩ : ∃ m, n - k = m + 1 := ⟨n - k - 1, by omega⟩
  rw [hm, repMax, if_neg (by simp [hb]), hq, Int.toNat_natCast]
  congr 1
  omega
theorem repMax_grows {f : BS → BS} (hf : Grows f) : ∀ n b l, b.insts.length ≤ (repMax f n b l).1.insts.length := by
  intro n
  induction n with
  | zero => intro b l; exact Nat.le_refl _
  | succ n ih => intro b l; rw [repMax]; split; exact Nat.le_refl _; exact Nat.le_trans (Nat.le_trans (splitS_grows b) (roundS_grows hf _)) (ih _ _)
theorem repS_grows {f : BS → BS} (hf : Grows f) (min max : Int) : Grows (repS f min max) := by
  intro b
  have h1 := repMin_grows hf min.toNat b
  simp only [repS]
  split
  · rw [setY_length]
    exact Nat.le_trans h1 (Nat.le_trans (Nat.le_trans (splitS_grows _) (roundS_grows hf _)) (putS_grows _ _))
  · rw [setsY_length]
    exact Nat.le_trans h1 (repMax_grows hf _ _ _)
mutual
theorem nodeS_grows : ∀ t, Grows (nodeS t)
  | .empty => fun b => Nat.le_refl _
  | .one s0 s1 s2 s3 => fun b => by rw [nodeS]; split; exact Nat.le_refl _; exact putS_grows _ b
  | .start => fun b => by rw [nodeS]; split; exact Nat.le_refl _; exact putS_grows _ b
  | .endd => fun b => by rw [nodeS]; split; exact Nat.le_refl _; exact putS_grows _ b
  | .back n => fun b => by rw [nodeS]; split; exact Nat.le_refl _; exact putS_grows _ b
  | .cat ps => fun b => by rw [nodeS]; split; exact Nat.le_refl _; exact catS_grows ps b
  | .alt ps => fun b => by rw [nodeS]; split; exact Nat.le_refl _; exact altS_grows ps b []
  | .group n t => fun b => by
      rw [nodeS]; split; exact Nat.le_refl _
      exact Nat.le_trans (putS_grows _ b) (Nat.le_trans (nodeS_grows t _) (putS_grows _ _))
  | .rep t min max => fun b => by rw [nodeS]; split; exact Nat.le_refl _; exact repS_grows (nodeS_grows t) min max b
theorem catS_grows : ∀ ts, Grows (catS ts)
  | [] => fun b => Nat.le_refl _
  | t :: r => fun b => by rw [catS]; exact Nat.le_trans (nodeS_grows t b) (catS_grows r _)
theorem altS_grows : ∀ ts b l, b.insts.length ≤ (altS ts b l).insts.length
  | [], b, l => by rw [altS, setsX_length]; exact Nat.le_refl _
  | [t], b, l => by rw [altS, setsX_length]; exact nodeS_grows t b
  | t :: u :: r, b, l => by
      rw [altS]
      refine Nat.le_trans ?_ (altS_grows (u :: r) _ _)
      rw [setY_length]
      exact Nat.le_trans (splitS_grows b) (Nat.le_trans (nodeS_grows t _) (putS_grows _ _))
      simp
end

/-- The loop over the places: k of them done. -/
theorem setsX_snoc (l : List Nat) (j : Nat) : ∀ b, setsX b (l ++ [j]) = setX (setsX b l) j (setsX b l).insts.length := by
  induction l with
  | nil => intro b; rfl
  | cons a r ih => intro b; rw [List.cons_append, setsX, ih, setsX]
theorem setsY_snoc (l : List Nat) (j : Nat) : ∀ b, setsY b (l ++ [j]) = setY (setsY b l) j (setsY b l).insts.length := by
  induction l with
  | nil => intro b; rfl
  | cons a r ih => intro b; rw [List.cons_append, setsY, ih, setsY]

end Go.Proofs.YtkaoegdfgoojdaaGreatDoor
