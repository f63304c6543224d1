/- The reference's reading of an extended regex of letters, '(', ')', '|', in plain Lean (none: outside this part, or out of fuel). -/
import Derived.Test.YtkaoegdfgoojdaaGreatDoorRepeated
namespace Go.Proofs.YtkaoegdfgoojdaaGreatDoor
open Go Go.RowKit
set_option maxRecDepth 100000

structure PS where
  at_ : Nat
  opn : Nat
  cl : List Int

def groupR (n : Nat) (t : RT) : RT := .mk 5 0 0 0 0 [t] 0 0 n
/-- The byte at a place may follow an atom that is not repeated. -/
def plainAfter (s : List UInt8) (i : Nat) : Bool := match s[i]? with | none => true | some c => !(c == 42) && !(c == 43) && !(c == 63) && !(c == 123) && !(c == 92)

mutual
def atomF (s : List UInt8) : Nat → PS → Nat → Option (PS × RT)
  | 0, _, _ => none
  | f + 1, r, deep => match s[r.at_]? with
    | none => none
    | some c =>
      if c = 40 then
        if deep < 12 ∧ r.opn ≤ 1000 then
          match choiceF s f ⟨r.at_ + 1, r.opn + 1, r.cl⟩ (deep + 1) with
          | none => none
          | some (r1, t) => if s[r1.at_]? = some 41 ∧ r1.cl.length ≤ 1000 then some (⟨r1.at_ + 1, r1.opn, r1.cl ++ [((r.opn + 1 : Nat) : Int)]⟩, groupR (r.opn + 1) t) else none
        else none
      else if c = 41 ∨ c = 91 ∨ c = 46 ∨ c = 92 then none
      else some (⟨r.at_ + 1, r.opn, r.cl⟩, byteR c.toNat)
def branchF (s : List UInt8) : Nat → PS → Nat → List RT → Option (PS × RT)
  | 0, _, _, _ => none
  | f + 1, r, deep, acc => match s[r.at_]? with
    | none => some (r, joinR acc)
    | some c =>
      if c = 124 ∨ (c = 41 ∧ 0 < deep) then some (r, joinR acc)
      else if c = 92 ∨ c = 94 ∨ c = 36 ∨ c = 123 ∨ c = 43 ∨ c = 63 ∨ c = 42 then none
      else match atomF s f r deep with
        | none => none
        | some (r1, t) => if plainAfter s r1.at_ = true ∧ r1.at_ ≤ s.length ∧ t.kind ≠ 0 ∧ t.kind ≠ 2 ∧ acc.length < 100 then branchF s f r1 deep (acc ++ [t]) else none
def choiceF (s : List UInt8) : Nat → PS → Nat → Option (PS × RT)
  | 0, _, _ => none
  | f + 1, r, deep => match branchF s f r deep [] with
    | none => none
    | some (r1, t) => if t.kind ≠ 3 then choiceL s f r1 deep [t] else none
def choiceL (s : List UInt8) : Nat → PS → Nat → List RT → Option (PS × RT)
  | 0, _, _, _ => none
  | f + 1, r, deep, acc => match s[r.at_]? with
    | none => some (r, chooseR acc)
    | some c =>
      if c = 124 then
        match branchF s f ⟨r.at_ + 1, r.opn, r.cl⟩ deep [] with
        | none => none
        | some (r1, t) => if t.kind ≠ 3 ∧ acc.length < 100 then choiceL s f r1 deep (acc ++ [t]) else none
      else if c = 92 then none
      else some (r, chooseR acc)
end

def awakeS : ByteArray := ⟨#[40, 97, 124, 97, 98, 41, 40, 99, 124, 98, 99, 100, 41]⟩
/-- The tree of the document's example. -/
def awakeT : RT := .mk 2 0 0 0 0 [groupR 1 (.mk 3 0 0 0 0 [byteR 97, .mk 2 0 0 0 0 [byteR 97, byteR 98] 0 0 0] 0 0 0), groupR 2 (.mk 3 0 0 0 0 [byteR 99, .mk 2 0 0 0 0 [byteR 98, byteR 99, byteR 100] 0 0 0] 0 0 0)] 0 0 0
theorem awake_parse : choiceF awakeS.data.toList 40 ⟨0, 0, []⟩ 0 = some (⟨13, 2, [1, 2]⟩, awakeT) := by kernel_rfl
theorem awake_right : rightB (realT awakeT) = true := by kernel_rfl
theorem awake_final : (finalB (realT awakeT)).full = false ∧ (finalB (realT awakeT)).groups = 2 ∧ (finalB (realT awakeT)).loops = 0 ∧ (finalB (realT awakeT)).backs = false ∧ (finalB (realT awakeT)).insts.length ≤ 3000 ∧ 0 < (finalB (realT awakeT)).insts.length := by decide +kernel
theorem awake_size : rsize awakeT ≤ 1048576 ∧ sizeT (realT awakeT) ≤ 1048576 := by decide +kernel
/-- The document's example. -/
theorem awake_find : findF (finalB (realT awakeT)).insts [120, 97, 98, 99, 100] 60 6 6 0 = some (some [1, 5, 1, 2, 2, 5]) := by kernel_rfl
theorem awake_has : findF (finalB (realT awakeT)).insts [97, 98, 99] 60 6 4 0 = some (some [0, 3, 0, 2, 2, 3]) := by kernel_rfl
theorem awake_hasnt : findF (finalB (realT awakeT)).insts [97, 98] 60 6 3 0 = some none := by kernel_rfl
theorem words_of {l : List In} (h : ∀ i ∈ l, (0 ≤ i.s0 ∧ i.s0 ≤ 18446744073709551615) ∧ (0 ≤ i.s1 ∧ i.s1 ≤ 18446744073709551615) ∧ (0 ≤ i.s2 ∧ i.s2 ≤ 18446744073709551615) ∧ (0 ≤ i.s3 ∧ i.s3 ≤ 18446744073709551615)) : ∀ i ∈ l, ∀ c, 0 ≤ wordOf i c ∧ wordOf i c ≤ 18446744073709551615 := by
  intro i hi c
  obtain ⟨h0, h1, h2, h3⟩ := h i hi
  unfold wordOf
  split
  · exact h0
  · split
    · exact h1
    · split
      · exact h2
      · exact h3
theorem awake_words : ∀ i ∈ (finalB (realT awakeT)).insts, ∀ c, 0 ≤ wordOf i c ∧ wordOf i c ≤ 18446744073709551615 := words_of (by decide +kernel)
end Go.Proofs.YtkaoegdfgoojdaaGreatDoor
