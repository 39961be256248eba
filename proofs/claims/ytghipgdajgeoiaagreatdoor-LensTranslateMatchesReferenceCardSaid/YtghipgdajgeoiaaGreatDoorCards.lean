/-
  DERIVED. GIVEN WITH THE SEED: THE CARDS: each row of YtghipgdajgeoiaaGreatDoorRows.lean that lists a variable, with what it lists TIED to the program's text (the seventh form; the later family's looks); each row that meets fmt, with fmt's text TOLD by the authors' own Lean function (tested against real Go, not proved from fmt's source: count such statements apart). THE CARD IS WHAT COUNTS. Prove the row's statement (the work); the ties are given (YtghipgdajgeoiaaGreatDoorTie.lean); close each card by the builder's one call (the guide's Derived/Test/ToyasCard.lean, 'card_holds'). Laid BY PROGRAM, IN A SANDBOX (cutbox-door.mjs). By AI agents, Wed Nov 11 2026. No macro, syntax, notation, axiom, sorry.
-/
import Derived.Test.YtghipgdajgeoiaaGreatDoorRows
import GoSem.ClaimSeven
namespace Go.Proofs.YtghipgdajgeoiaaGreatDoor
namespace Rows

/-- THE TIED CARD OF 'fenlandlaw07.LensMatchesReference'. -/
def lensMatchesReferenceCard : Claim7 := { stood := { row := lensMatchesReferenceRow, standIns := [], harness := (true, "e138a59fd952ac6a24e0e3b01cb9fa03d92219b17ec30e244da288bb3f1c1b41"), looks := false }, kinds := [], alts := [], laidByText := true, laidKinds := [.data], laidTests := true, laidLooks := .later }
def LensMatchesReferenceCardSaid : Prop := Claim7.holds Tryz.pinned (.plain (OpenSpec.ofChange lensMatchesReferenceSpec)) lensMatchesReferenceCard

/-- THE TIED CARD OF 'fenlandlaw07.LensTranslateMatchesReference'. -/
def lensTranslateMatchesReferenceCard : Claim7 := { stood := { row := lensTranslateMatchesReferenceRow, standIns := [], harness := (true, "e138a59fd952ac6a24e0e3b01cb9fa03d92219b17ec30e244da288bb3f1c1b41"), looks := false }, kinds := [], alts := [], laidByText := true, laidKinds := [.data], laidTests := true, laidLooks := .later }
def LensTranslateMatchesReferenceCardSaid : Prop := Claim7.holds Tryz.pinned (.plain (OpenSpec.ofChange lensTranslateMatchesReferenceSpec)) lensTranslateMatchesReferenceCard

/-- THE SECOND FORM's CARD OF 'fenlandlaw07.LensMatchesReference'. -/
def lensMatchesReferenceUptoCard : Claim7 := { stood := { row := lensMatchesReferenceUptoRow, standIns := [], harness := (true, "e138a59fd952ac6a24e0e3b01cb9fa03d92219b17ec30e244da288bb3f1c1b41"), looks := false }, kinds := [], alts := [], laidByText := true, laidKinds := [.data], laidTests := true, laidLooks := .later }
def LensMatchesReferenceUptoCardSaid : Prop := Claim7.holds Tryz.pinned (.plain (OpenSpec.upto lensMatchesReferenceSpec)) lensMatchesReferenceUptoCard

/-- THE SECOND FORM's CARD OF 'fenlandlaw07.LensTranslateMatchesReference'. -/
def lensTranslateMatchesReferenceUptoCard : Claim7 := { stood := { row := lensTranslateMatchesReferenceUptoRow, standIns := [], harness := (true, "e138a59fd952ac6a24e0e3b01cb9fa03d92219b17ec30e244da288bb3f1c1b41"), looks := false }, kinds := [], alts := [], laidByText := true, laidKinds := [.data], laidTests := true, laidLooks := .later }
def LensTranslateMatchesReferenceUptoCardSaid : Prop := Claim7.holds Tryz.pinned (.plain (OpenSpec.upto lensTranslateMatchesReferenceSpec)) lensTranslateMatchesReferenceUptoCard
end Rows
end Go.Proofs.YtghipgdajgeoiaaGreatDoor
