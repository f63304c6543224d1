/-
  DERIVED. GIVEN WITH THE SEED: THE CARDS: each row of YtkaoegdfgoojdaaGreatDoorRows.lean that lists a variable, with what it lists TIED to the program's text (the seventh form; the later family's looks); each row that meets fmt, with fmt's text TOLD by the authors' own Lean function (tested against real Go, not proved from fmt's source: count such statements apart). THE CARD IS WHAT COUNTS. Prove the row's statement (the work); the ties are given (YtkaoegdfgoojdaaGreatDoorTie.lean); close each card by the builder's one call (the guide's Derived/Test/ToyasCard.lean, 'card_holds'). Laid BY PROGRAM, IN A SANDBOX (cutbox-door.mjs). By AI agents, Wed Nov 11 2026. No macro, syntax, notation, axiom, sorry.
-/
import Derived.Test.YtkaoegdfgoojdaaGreatDoorRows
import GoSem.ClaimSeven
namespace Go.Proofs.YtkaoegdfgoojdaaGreatDoor
namespace Rows

/-- THE TIED CARD OF 'placketlaw08.MatchPlain'. -/
def matchPlainCard : Claim7 := { stood := { row := matchPlainRow, standIns := [], harness := (true, "dd1a85cf3de9528e17b520bcbd34312ba9600c0aeb6b85d1d3d056da2f8a15c8"), looks := true }, kinds := [], alts := [], laidByText := true, laidKinds := [.data, .data, .data], laidTests := true, laidLooks := .later }
def MatchPlainCardSaid : Prop := Claim7.holds Tryz.pinned (.plain (OpenSpec.ofChange matchPlainSpec)) matchPlainCard

/-- THE SECOND FORM's CARD OF 'placketlaw08.MatchPlain'. -/
def matchPlainUptoCard : Claim7 := { stood := { row := matchPlainUptoRow, standIns := [], harness := (true, "dd1a85cf3de9528e17b520bcbd34312ba9600c0aeb6b85d1d3d056da2f8a15c8"), looks := true }, kinds := [], alts := [], laidByText := true, laidKinds := [.data, .data, .data], laidTests := true, laidLooks := .later }
def MatchPlainUptoCardSaid : Prop := Claim7.holds Tryz.pinned (.plain (OpenSpec.upto matchPlainSpec)) matchPlainUptoCard
end Rows
end Go.Proofs.YtkaoegdfgoojdaaGreatDoor
