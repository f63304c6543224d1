/- The reference's tree in memory (seat 2). -/
import Derived.Test.YtkaoegdfgoojdaaGreatDoorSlots
namespace Go.Proofs.YtkaoegdfgoojdaaGreatDoor
open Go Go.RowKit

/-- A node of the reference: its kind, set, parts, bounds, number. -/
inductive RT where
  | mk (kind s0 s1 s2 s3 : Int) (parts : List RT) (mn mx num : Int)

def RT.kind : RT → Int | .mk k .. => k
def RT.parts : RT → List RT | .mk _ _ _ _ _ ps _ _ _ => ps
def RT.mn : RT → Int | .mk _ _ _ _ _ _ m _ _ => m
def RT.mx : RT → Int | .mk _ _ _ _ _ _ _ m _ => m
def RT.num : RT → Int | .mk _ _ _ _ _ _ _ _ n => n
def RT.zero : RT := .mk 0 0 0 0 0 [] 0 0 0

mutual
/-- The nine cells are the node's; what it leads to lies below N. -/
def Rd (w : World) (N : Nat) : RT → List Value → Prop
  | .mk k s0 s1 s2 s3 ps mn mx num, cs => ∃ a c, cs = [.int .i64 k, .int .u64 s0, .int .u64 s1, .int .u64 s2, .int .u64 s3, .slice a ps.length c, .int .i64 mn, .int .i64 mx, .int .i64 num] ∧
      ps.length ≤ 9223372036854775807 ∧ (ps = [] ∨ ∃ b off, a = some ⟨b, off, none⟩ ∧ b < N ∧ ps.length ≤ c ∧ c ≤ 9223372036854775807 ∧ RdAt w N b off ps)
/-- The nodes lie one behind the other. -/
def RdAt (w : World) (N b : Nat) : Nat → List RT → Prop
  | _, [] => True
  | off, t :: r => (∃ cs, (∀ j, j < 9 → w.cell? ⟨b, off + j, none⟩ = cs[j]?) ∧ Rd w N t cs) ∧ RdAt w N b (off + 9) r
end

mutual
def rsize : RT → Nat
  | .mk _ _ _ _ _ ps _ _ _ => 1 + rsizeL ps
def rsizeL : List RT → Nat
  | [] => 0
  | t :: r => rsize t + rsizeL r
end

mutual
theorem Rd.below {w w' : World} {N : Nat} (hb : Below N w w') : ∀ (t : RT) (cs : List Value), Rd w N t cs → Rd w' N t cs
  | .mk _ _ _ _ _ ps _ _ _, _, ⟨a, c, e, hl, h⟩ => ⟨a, c, e, hl, h.imp_right fun ⟨b, off, ea, hlt, h1, h2, h3⟩ => ⟨b, off, ea, hlt, h1, h2, RdAt.below hb b hlt ps off h3⟩⟩
theorem RdAt.below {w w' : World} {N : Nat} (hb : Below N w w') (b : Nat) (hlt : b < N) : ∀ (ps : List RT) (off : Nat), RdAt w N b off ps → RdAt w' N b off ps
  | [], _, _ => trivial
  | t :: r, off, ⟨⟨cs, hc, hv⟩, h⟩ => ⟨⟨cs, fun j hj => (hb.cell (p := ⟨b, off + j, none⟩) hlt).trans (hc j hj), Rd.below hb t cs hv⟩, RdAt.below hb b hlt r (off + 9) h⟩
end
mutual
theorem Rd.mono {w : World} {N N' : Nat} (hN : N ≤ N') : ∀ (t : RT) (cs : List Value), Rd w N t cs → Rd w N' t cs
  | .mk _ _ _ _ _ ps _ _ _, _, ⟨a, c, e, hl, h⟩ => ⟨a, c, e, hl, h.imp_right fun ⟨b, off, ea, hlt, h1, h2, h3⟩ => ⟨b, off, ea, Nat.lt_of_lt_of_le hlt hN, h1, h2, RdAt.mono hN b ps off h3⟩⟩
theorem RdAt.mono {w : World} {N N' : Nat} (hN : N ≤ N') (b : Nat) : ∀ (ps : List RT) (off : Nat), RdAt w N b off ps → RdAt w N' b off ps
  | [], _, _ => trivial
  | t :: r, off, ⟨⟨cs, hc, hv⟩, h⟩ => ⟨⟨cs, hc, Rd.mono hN t cs hv⟩, RdAt.mono hN b r (off + 9) h⟩
end
theorem RdAt.at {w : World} {N b : Nat} : ∀ (ps : List RT) (off : Nat), RdAt w N b off ps → ∀ j, j < ps.length → ∃ cs, (∀ i, i < 9 → w.cell? ⟨b, off + j * 9 + i, none⟩ = cs[i]?) ∧ Rd w N (ps.getD j .zero) cs
  | [], _, _, j, hj => absurd hj (by simp)
  | t :: r, off, ⟨⟨cs, hc, hv⟩, _⟩, 0, _ => ⟨cs, by simpa using hc, hv⟩
  | t :: r, off, ⟨_, h⟩, j + 1, hj => by
      obtain ⟨cs, h1, h2⟩ := RdAt.at r (off + 9) h j (by simpa using hj)
      exact ⟨cs, fun i hi => by rw [← h1 i hi]; congr 2; omega, h2⟩

/-- A node's nine cells, each by its name. -/
structure Nine (w : World) (N b o : Nat) (t : RT) (k s0 s1 s2 s3 : Int) (a : Option Addr) (n c : Nat) (mn mx num : Int) : Prop where
  rd : Rd w N t [.int .i64 k, .int .u64 s0, .int .u64 s1, .int .u64 s2, .int .u64 s3, .slice a n c, .int .i64 mn, .int .i64 mx, .int .i64 num]
  c0 : w.cell? ⟨b, o, none⟩ = some (.int .i64 k)
  c1 : w.cell? ⟨b, o + 1, none⟩ = some (.int .u64 s0)
  c2 : w.cell? ⟨b, o + 2, none⟩ = some (.int .u64 s1)
  c3 : w.cell? ⟨b, o + 3, none⟩ = some (.int .u64 s2)
  c4 : w.cell? ⟨b, o + 4, none⟩ = some (.int .u64 s3)
  c5 : w.cell? ⟨b, o + 5, none⟩ = some (.slice a n c)
  c6 : w.cell? ⟨b, o + 6, none⟩ = some (.int .i64 mn)
  c7 : w.cell? ⟨b, o + 7, none⟩ = some (.int .i64 mx)
  c8 : w.cell? ⟨b, o + 8, none⟩ = some (.int .i64 num)
  eqs : k = t.kind ∧ mn = t.mn ∧ mx = t.mx ∧ num = t.num ∧ n = t.parts.length
theorem nine {w : World} {N b o : Nat} {t : RT} {cs : List Value} (hc : ∀ i, i < 9 → w.cell? ⟨b, o + i, none⟩ = cs[i]?) (h : Rd w N t cs) :
    ∃ k s0 s1 s2 s3 a n c mn mx num, Nine w N b o t k s0 s1 s2 s3 a n c mn mx num := by
  match t, h with
  | .mk k s0 s1 s2 s3 ps mn mx num, ⟨a, c, e, hl, hor⟩ =>
    subst e
    exact ⟨k, s0, s1, s2, s3, a, ps.length, c, mn, mx, num, ⟨⟨a, c, rfl, hl, hor⟩, hc 0 (by omega), hc 1 (by omega), hc 2 (by omega), hc 3 (by omega), hc 4 (by omega), hc 5 (by omega), hc 6 (by omega), hc 7 (by omega), hc 8 (by omega), ⟨rfl, rfl, rfl, rfl, rfl⟩⟩⟩

theorem rsizeL_take (ps : List RT) (k : Nat) (h : k < ps.length) : rsizeL (ps.take (k + 1)) = rsizeL (ps.take k) + rsize (ps.getD k .zero) := by
  induction ps generalizing k with
  | nil => simp at h
  | cons t r ih =>
    cases k with
    | zero => simp [rsizeL]
    | succ k => simp only [List.take_succ_cons, rsizeL, ih k (by simpa using h), List.getD_cons_succ]; omega
theorem rsizeL_le (ps : List RT) (k : Nat) : rsizeL (ps.take k) ≤ rsizeL ps := by
  induction ps generalizing k with
  | nil => simp
  | cons t r ih =>
    cases k with
    | zero => simp [rsizeL]
    | succ k => have := ih k; simp only [List.take_succ_cons, rsizeL]; omega
theorem rsizeL_at (ps : List RT) (k : Nat) (h : k < ps.length) : rsize (ps.getD k .zero) ≤ rsizeL ps := by
  have h1 := rsizeL_take ps k h
  have h2 := rsizeL_le ps (k + 1)
  omega
theorem rsize_pos (t : RT) : 0 < rsize t := by cases t; simp [rsize]; omega

end Go.Proofs.YtkaoegdfgoojdaaGreatDoor
