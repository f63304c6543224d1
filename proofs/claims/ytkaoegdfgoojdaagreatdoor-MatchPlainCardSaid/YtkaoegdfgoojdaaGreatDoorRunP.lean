/- match.run on Save, Byte, Split, Jump, Match: what it does, in plain Lean (conditional: none = outside this part, or out of fuel). -/
import Derived.Test.YtkaoegdfgoojdaaGreatDoorPure
namespace Go.Proofs.YtkaoegdfgoojdaaGreatDoor
open Go Go.RowKit

/-- Where the machine has been (an entry each time it asked), the best match so far. -/
structure MB where
  log : List (Nat × Nat)
  best : List Int

def wordOf (i : In) (c : Nat) : Int := if c / 64 = 0 then i.s0 else if c / 64 = 1 then i.s1 else if c / 64 = 2 then i.s2 else i.s3
def hasB (i : In) (c : Nat) : Bool := (wordOf i c / 2 ^ (c % 64)) % 2 == 1

def bestS (sl : List Int) (at_ : Nat) (m : MB) : MB := if m.best = [] ∨ m.best.getD 1 0 < at_ then { m with best := sl } else m

def runF (p : List In) (s : List UInt8) : Nat → Nat → Nat → List Int → MB → Option MB
  | 0, _, _, _, _ => none
  | f + 1, pc, at_, sl, m =>
    match p[pc]? with
    | none => none
    | some i =>
      if i.op = 9 then some (bestS sl at_ m)
      else if i.op = 1 then
        if 0 ≤ i.x ∧ 0 ≤ i.y then
          if (pc + 1, at_) ∈ m.log then none
          else (runF p s f i.x.toNat at_ sl { m with log := (pc + 1, at_) :: m.log }).bind fun m2 => runF p s f i.y.toNat at_ sl m2
        else none
      else if i.op = 2 then if 0 ≤ i.x then runF p s f i.x.toNat at_ sl m else none
      else if i.op = 3 then if 0 ≤ i.x ∧ i.x.toNat < sl.length then runF p s f (pc + 1) at_ (sl.set i.x.toNat at_) m else none
      else if i.op = 0 then
        match s[at_]? with
        | none => some m
        | some c => if hasB i c.toNat then runF p s f (pc + 1) (at_ + 1) sl m else some m
      else none

/-- More fuel does no harm. -/
theorem runF_more (p : List In) (s : List UInt8) : ∀ (f pc at_ : Nat) (sl : List Int) (m r : MB), runF p s f pc at_ sl m = some r → runF p s (f + 1) pc at_ sl m = some r := by
  intro f
  induction f with
  | zero => intro pc at_ sl m r h; simp [runF] at h
  | succ f ih =>
    intro pc at_ sl m r h
    rw [runF] at h ⊢
    cases hp : p[pc]? with
    | none => rw [hp] at h; exact h
    | some i =>
      rw [hp] at h
      simp only at h ⊢
      split
      · rename_i h9; rw [if_pos h9] at h; exact h
      · rename_i h9
        rw [if_neg h9] at h
        split
        · rename_i h1
          rw [if_pos h1] at h
          split
          · rename_i hx
            rw [if_pos hx] at h
            split
            · rename_i hl; rw [if_pos hl] at h; exact h
            · rename_i hl
              rw [if_neg hl] at h
              obtain ⟨m2, h2, h3⟩ := Option.bind_eq_some_iff.1 h
              rw [ih _ _ _ _ _ h2, Option.bind_some]
              exact ih _ _ _ _ _ h3
          · rename_i hx; rw [if_neg hx] at h; exact h
        · rename_i h1
          rw [if_neg h1] at h
          split
          · rename_i h2
            rw [if_pos h2] at h
            split
            · rename_i hx; rw [if_pos hx] at h; exact ih _ _ _ _ _ h
            · rename_i hx; rw [if_neg hx] at h; exact h
          · rename_i h2
            rw [if_neg h2] at h
            split
            · rename_i h3
              rw [if_pos h3] at h
              split
              · rename_i hx; rw [if_pos hx] at h; exact ih _ _ _ _ _ h
              · rename_i hx; rw [if_neg hx] at h; exact h
            · rename_i h3
              rw [if_neg h3] at h
              split
              · rename_i h0
                rw [if_pos h0] at h
                cases hs : s[at_]? with
                | none => rw [hs] at h; exact h
                | some c =>
                  rw [hs] at h
                  simp only at h ⊢
                  split
                  · rename_i hb; rw [if_pos hb] at h; exact ih _ _ _ _ _ h
                  · rename_i hb; rw [if_neg hb] at h; exact h
              · rename_i h0; rw [if_neg h0] at h; exact h

/-- What a run of runF has met first. -/
theorem runF_inv {p : List In} {s : List UInt8} {f pc at_ : Nat} {sl : List Int} {m r : MB} (h : runF p s f pc at_ sl m = some r) : ∃ f' i, f = f' + 1 ∧ p[pc]? = some i ∧
    ((i.op = 9 ∧ r = bestS sl at_ m) ∨
     (i.op = 1 ∧ 0 ≤ i.x ∧ 0 ≤ i.y ∧ (pc + 1, at_) ∉ m.log ∧ ∃ m2, runF p s f' i.x.toNat at_ sl { m with log := (pc + 1, at_) :: m.log } = some m2 ∧ runF p s f' i.y.toNat at_ sl m2 = some r) ∨
     (i.op = 2 ∧ 0 ≤ i.x ∧ runF p s f' i.x.toNat at_ sl m = some r) ∨
     (i.op = 3 ∧ 0 ≤ i.x ∧ i.x.toNat < sl.length ∧ runF p s f' (pc + 1) at_ (sl.set i.x.toNat at_) m = some r) ∨
     (i.op = 0 ∧ s[at_]? = none ∧ r = m) ∨
     (i.op = 0 ∧ ∃ c, s[at_]? = some c ∧ hasB i c.toNat = true ∧ runF p s f' (pc + 1) (at_ + 1) sl m = some r) ∨
     (i.op = 0 ∧ ∃ c, s[at_]? = some c ∧ hasB i c.toNat = false ∧ r = m)) := by
  cases f with
  | zero => simp [runF] at h
  | succ f =>
    rw [runF] at h
    cases hp : p[pc]? with
    | none => rw [hp] at h; simp at h
    | some i =>
      rw [hp] at h
      simp only at h
      refine ⟨f, i, rfl, rfl, ?_⟩
      split at h
      · rename_i h9; exact .inl ⟨h9, (Option.some.inj h).symm⟩
      · split at h
        · rename_i h1
          split at h
          · rename_i hx
            split at h
            · cases h
            · rename_i hl
              obtain ⟨m2, h2, h3⟩ := Option.bind_eq_some_iff.1 h
              exact .inr (.inl ⟨h1, hx.1, hx.2, hl, m2, h2, h3⟩)
          · cases h
        · split at h
          · rename_i h2
            split at h
            · rename_i hx; exact .inr (.inr (.inl ⟨h2, hx, h⟩))
            · cases h
          · split at h
            · rename_i h3
              split at h
              · rename_i hx; exact .inr (.inr (.inr (.inl ⟨h3, hx.1, hx.2, h⟩)))
              · cases h
            · split at h
              · rename_i h0
                cases hs : s[at_]? with
                | none => rw [hs] at h; exact .inr (.inr (.inr (.inr (.inl ⟨h0, rfl, (Option.some.inj h).symm⟩))))
                | some c =>
                  rw [hs] at h
                  simp only at h
                  split at h
                  · rename_i hb; exact .inr (.inr (.inr (.inr (.inr (.inl ⟨h0, c, rfl, hb, h⟩)))))
                  · rename_i hb; exact .inr (.inr (.inr (.inr (.inr (.inr ⟨h0, c, rfl, by simpa using hb, (Option.some.inj h).symm⟩)))))
              · cases h
end Go.Proofs.YtkaoegdfgoojdaaGreatDoor
