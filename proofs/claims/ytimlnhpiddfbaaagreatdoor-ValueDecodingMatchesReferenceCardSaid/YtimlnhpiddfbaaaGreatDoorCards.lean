/-
  DERIVED. GIVEN WITH THE SEED: THE CARDS: each row of YtimlnhpiddfbaaaGreatDoorRows.lean that lists a variable, with what it lists TIED to the program's text (the seventh form; the later family's looks); each row that meets fmt, with fmt's text TOLD by the authors' own Lean function (tested against real Go, not proved from fmt's source: count such statements apart). THE CARD IS WHAT COUNTS. Prove the row's statement (the work); the ties are given (YtimlnhpiddfbaaaGreatDoorTie.lean); close each card by the builder's one call (the guide's Derived/Test/ToyasCard.lean, 'card_holds'). Laid BY PROGRAM, IN A SANDBOX (cutbox-door.mjs). By AI agents, Wed Nov 11 2026. No macro, syntax, notation, axiom, sorry.
-/
import Derived.Test.YtimlnhpiddfbaaaGreatDoorRows
import GoSem.ClaimSeven
namespace Go.Proofs.YtimlnhpiddfbaaaGreatDoor
namespace Rows

/-- THE TIED CARD OF 'fenlandlaw05.ValueMatchesReference'. -/
def valueMatchesReferenceCard : Claim7 := { stood := { row := valueMatchesReferenceRow, standIns := [], harness := (true, "3d8b92cdcaa961f24eb7428804e18c12c745555884e1e69f3ba5ecec8655222e"), looks := true }, kinds := [], alts := [], laidByText := true, laidKinds := [.data, .data, .data, .sentinel, .sentinel], laidTests := true, laidLooks := .later }
def ValueMatchesReferenceCardSaid : Prop := Claim7.holds Tryz.pinned (.plain (OpenSpec.ofChange valueMatchesReferenceSpec)) valueMatchesReferenceCard

/-- THE TIED CARD OF 'fenlandlaw05.ValueDecodingMatchesReference'. -/
def valueDecodingMatchesReferenceCard : Claim7 := { stood := { row := valueDecodingMatchesReferenceRow, standIns := [], harness := (true, "3d8b92cdcaa961f24eb7428804e18c12c745555884e1e69f3ba5ecec8655222e"), looks := true }, kinds := [], alts := [], laidByText := true, laidKinds := [.data, .data, .data, .sentinel, .sentinel], laidTests := true, laidLooks := .later }
def ValueDecodingMatchesReferenceCardSaid : Prop := Claim7.holds Tryz.pinned (.plain (OpenSpec.ofChange valueDecodingMatchesReferenceSpec)) valueDecodingMatchesReferenceCard

/-- THE SECOND FORM's CARD OF 'fenlandlaw05.ValueMatchesReference'. -/
def valueMatchesReferenceUptoCard : Claim7 := { stood := { row := valueMatchesReferenceUptoRow, standIns := [], harness := (true, "3d8b92cdcaa961f24eb7428804e18c12c745555884e1e69f3ba5ecec8655222e"), looks := true }, kinds := [], alts := [], laidByText := true, laidKinds := [.data, .data, .data, .sentinel, .sentinel], laidTests := true, laidLooks := .later }
def ValueMatchesReferenceUptoCardSaid : Prop := Claim7.holds Tryz.pinned (.plain (OpenSpec.upto valueMatchesReferenceSpec)) valueMatchesReferenceUptoCard

/-- THE SECOND FORM's CARD OF 'fenlandlaw05.ValueDecodingMatchesReference'. -/
def valueDecodingMatchesReferenceUptoCard : Claim7 := { stood := { row := valueDecodingMatchesReferenceUptoRow, standIns := [], harness := (true, "3d8b92cdcaa961f24eb7428804e18c12c745555884e1e69f3ba5ecec8655222e"), looks := true }, kinds := [], alts := [], laidByText := true, laidKinds := [.data, .data, .data, .sentinel, .sentinel], laidTests := true, laidLooks := .later }
def ValueDecodingMatchesReferenceUptoCardSaid : Prop := Claim7.holds Tryz.pinned (.plain (OpenSpec.upto valueDecodingMatchesReferenceSpec)) valueDecodingMatchesReferenceUptoCard
end Rows
end Go.Proofs.YtimlnhpiddfbaaaGreatDoor
