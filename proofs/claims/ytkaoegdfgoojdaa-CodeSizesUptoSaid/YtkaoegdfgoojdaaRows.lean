/-
  NARROWER THAN 'FOR EVERY INPUT', by the rows' own cells (each row's printed sentence says how): CodeShaped: loops · CodeSizes: loops.
  DERIVED. THE GIVEN ROWS OF THIS SEAT. 3 by the template 'for every input the law returns true; each argument reads behind the call as it read before'; 0 by the template 'total and deterministic' (their statements: YtkaoegdfgoojdaaTotals.lean).
  GIVEN WITH THE SEED: the statements are not yours to turn. If you find one false, say at which input.
  Laid BY PROGRAM, IN A SANDBOX (cutbox-rows.mjs): the forced cells as the released guide's own fill.sh prints them over the translation 509e2f3059f39cf9… (all of the seat's roots in one cut). By AI agents, Wed Nov 11 2026. No macro, syntax, notation, axiom, sorry.
-/
import Derived.Test.YtkaoegdfgoojdaaChecked
import GoSem.Claim
import GoSem.ClaimJoined
import GoSem.ClaimMapViews
import Derived.JoinedTies
import Derived.KernelRfl
namespace Go.Proofs.Ytkaoegdfgoojdaa
/- THE CELL 'sum', in the pinned program and in every row, IS THE sha256 OF THE DUMP (.gsa) THAT YtkaoegdfgoojdaaProg.lean LOADS. Nothing in Lean hashes anything: it is a label: what it is worth is what the hold of that sum in a sandbox is worth. -/
noncomputable def Try.pinned : Pinned := { name := "ytkaoegdfgoojdaa", sum := "509e2f3059f39cf92463e85693576ea10062f4fe1b0e7be7fe87549eb87120d3", checked := Try.checked }
namespace Rows
def none {H : Type} : Left H := { results := [], args := [] }

/-- 'placketlaw07.CodeShaped': WHATEVER THE INPUT: true; the input reads as it did. -/
def codeShapedSpec : ChangeSpec := { name := "codeShaped", fn := fun _ => fun
  | [d] => { results := [.lit (.bool true)], args := [d] }
  | _ => none }
def codeShapedRow : OpenClaim := { program := "ytkaoegdfgoojdaa", sum := "509e2f3059f39cf92463e85693576ea10062f4fe1b0e7be7fe87549eb87120d3", func := "placket/placketlaw07.CodeShaped", spec := "codeShaped", unfollowed := true, recurses := true, loops := true, apart := false }
def CodeShapedSaid : Prop := codeShapedRow.holds Try.pinned (OpenSpec.ofChange codeShapedSpec)

/-- ITS FALSE NEIGHBOUR: 'it returns false'. Refute it at one input. -/
def codeShapedWrong : ChangeSpec := { name := "codeShaped", fn := fun _ => fun
  | [d] => { results := [.lit (.bool false)], args := [d] }
  | _ => none }
def CodeShapedWrongFalsely : Prop := codeShapedRow.holds Try.pinned (OpenSpec.ofChange codeShapedWrong)

/-- 'placketlaw07.CodeLong': WHATEVER THE INPUT: true; the input reads as it did. -/
def codeLongSpec : ChangeSpec := { name := "codeLong", fn := fun _ => fun
  | [d1, d2] => { results := [.lit (.bool true)], args := [d1, d2] }
  | _ => none }
def codeLongRow : OpenClaim := { program := "ytkaoegdfgoojdaa", sum := "509e2f3059f39cf92463e85693576ea10062f4fe1b0e7be7fe87549eb87120d3", func := "placket/placketlaw07.CodeLong", spec := "codeLong", unfollowed := true, recurses := true, apart := false }
def CodeLongSaid : Prop := codeLongRow.holds Try.pinned (OpenSpec.ofChange codeLongSpec)

/-- ITS FALSE NEIGHBOUR: 'it returns false'. Refute it at one input. -/
def codeLongWrong : ChangeSpec := { name := "codeLong", fn := fun _ => fun
  | [d1, d2] => { results := [.lit (.bool false)], args := [d1, d2] }
  | _ => none }
def CodeLongWrongFalsely : Prop := codeLongRow.holds Try.pinned (OpenSpec.ofChange codeLongWrong)

/-- 'placketlaw07.CodeSizes': WHATEVER THE INPUT: true; the input reads as it did. -/
def codeSizesSpec : ChangeSpec := { name := "codeSizes", fn := fun _ => fun
  | [d] => { results := [.lit (.bool true)], args := [d] }
  | _ => none }
def codeSizesRow : OpenClaim := { program := "ytkaoegdfgoojdaa", sum := "509e2f3059f39cf92463e85693576ea10062f4fe1b0e7be7fe87549eb87120d3", func := "placket/placketlaw07.CodeSizes", spec := "codeSizes", unfollowed := true, recurses := true, loops := true, apart := false }
def CodeSizesSaid : Prop := codeSizesRow.holds Try.pinned (OpenSpec.ofChange codeSizesSpec)

/-- ITS FALSE NEIGHBOUR: 'it returns false'. Refute it at one input. -/
def codeSizesWrong : ChangeSpec := { name := "codeSizes", fn := fun _ => fun
  | [d] => { results := [.lit (.bool false)], args := [d] }
  | _ => none }
def CodeSizesWrongFalsely : Prop := codeSizesRow.holds Try.pinned (OpenSpec.ofChange codeSizesWrong)

/- THE SECOND FORM. 'bulk': how many values and letters a reading holds, each counted each time it is reached (what is shared counts as often as it is met; a slice's spare places count too). A statement '..UptoSaid' is the law's where the arguments, and the package variables that the reading takes, are together of bulk at most 1048576: NARROWER than '..Said'. Prove '..Said' where nothing that the law and all that it calls make is longer than what came in: it says more and counts as full. Else prove '..UptoSaid'. A law counts once. -/
mutual
def uptoBulk {H : Type} : DataW H → Nat
  | .lit (.string bytes) => bytes.length + 1
  | .lit _ => 1
  | .nil => 1
  | .ptr d => uptoBulk d + 1
  | .slice elems spare => uptoBulkAll elems + uptoBulkAll spare + 1
  | .agg parts => uptoBulkAll parts + 1
  | .iface _ d => uptoBulk d + 1
  | .map entries => uptoBulkEntries entries + 1
  | .held _ => 1
def uptoBulkAll {H : Type} : List (DataW H) → Nat
  | [] => 0
  | d :: r => uptoBulk d + uptoBulkAll r
def uptoBulkEntries {H : Type} : List (Lit × DataW H) → Nat
  | [] => 0
  | x :: r => uptoBulkEntry x + uptoBulkEntries r
def uptoBulkEntry {H : Type} : Lit × DataW H → Nat
  | (.string bytes, d) => bytes.length + uptoBulk d + 1
  | (_, d) => uptoBulk d + 1
 end
def uptoSmall : (H : Type) → List (DataW H) → Bool := fun _ ds => decide (uptoBulkAll ds ≤ 1048576)
def OpenSpec.upto (s : _root_.Go.ChangeSpec) : _root_.Go.OpenSpec := { _root_.Go.OpenSpec.ofChange s with cond := some uptoSmall }

/-- 'placketlaw07.CodeShaped', WHERE WHAT IT READS IS OF BULK AT MOST 1048576: true; the input reads as it did. -/
def codeShapedUptoRow : OpenClaim := { program := "ytkaoegdfgoojdaa", sum := "509e2f3059f39cf92463e85693576ea10062f4fe1b0e7be7fe87549eb87120d3", func := "placket/placketlaw07.CodeShaped", spec := "codeShaped", unfollowed := true, recurses := true, loops := true, apart := false, narrowed := true }
def CodeShapedUptoSaid : Prop := codeShapedUptoRow.holds Try.pinned (OpenSpec.upto codeShapedSpec)

/-- 'placketlaw07.CodeLong', WHERE WHAT IT READS IS OF BULK AT MOST 1048576: true; the input reads as it did. -/
def codeLongUptoRow : OpenClaim := { program := "ytkaoegdfgoojdaa", sum := "509e2f3059f39cf92463e85693576ea10062f4fe1b0e7be7fe87549eb87120d3", func := "placket/placketlaw07.CodeLong", spec := "codeLong", unfollowed := true, recurses := true, apart := false, narrowed := true }
def CodeLongUptoSaid : Prop := codeLongUptoRow.holds Try.pinned (OpenSpec.upto codeLongSpec)

/-- 'placketlaw07.CodeSizes', WHERE WHAT IT READS IS OF BULK AT MOST 1048576: true; the input reads as it did. -/
def codeSizesUptoRow : OpenClaim := { program := "ytkaoegdfgoojdaa", sum := "509e2f3059f39cf92463e85693576ea10062f4fe1b0e7be7fe87549eb87120d3", func := "placket/placketlaw07.CodeSizes", spec := "codeSizes", unfollowed := true, recurses := true, loops := true, apart := false, narrowed := true }
def CodeSizesUptoSaid : Prop := codeSizesUptoRow.holds Try.pinned (OpenSpec.upto codeSizesSpec)

end Rows
end Go.Proofs.Ytkaoegdfgoojdaa
