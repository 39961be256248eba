/-
  DERIVED. GIVEN WITH THE SEED: THE CARDS: each row of YtghipgdajgeoiabDoorRows.lean that lists a variable, with what it lists TIED to the program's text (the seventh form; the later family's looks); each row that meets fmt, with fmt's text TOLD by the authors' own Lean function (tested against real Go, not proved from fmt's source: count such statements apart). THE CARD IS WHAT COUNTS. Prove the row's statement (the work); the ties are given (YtghipgdajgeoiabDoorTie.lean); close each card by the builder's one call (the guide's Derived/Test/ToyasCard.lean, 'card_holds'). Laid BY PROGRAM, IN A SANDBOX (cutbox-door.mjs). By AI agents, Wed Nov 11 2026. No macro, syntax, notation, axiom, sorry.
-/
import Derived.Test.YtghipgdajgeoiabDoorRows
import GoSem.ClaimSeven
namespace Go.Proofs.YtghipgdajgeoiabDoor
namespace Rows

/-- THE TIED CARD OF 'fenlandlaw07.LensStable'. -/
def lensStableCard : Claim7 := { stood := { row := lensStableRow, standIns := [], harness := (true, "80152dac6c3a51498d36b718d0b5c48a8ed8a1435e6c3de890a2882632e06e82"), looks := false }, kinds := [], alts := [], laidByText := true, laidKinds := [.data], laidTests := true, laidLooks := .later }
def LensStableCardSaid : Prop := Claim7.holds Tryd.pinned (.plain (OpenSpec.ofChange lensStableSpec)) lensStableCard

/-- THE TIED CARD OF 'fenlandlaw07.LensComposes'. -/
def lensComposesCard : Claim7 := { stood := { row := lensComposesRow, standIns := [], harness := (true, "80152dac6c3a51498d36b718d0b5c48a8ed8a1435e6c3de890a2882632e06e82"), looks := false }, kinds := [], alts := [], laidByText := true, laidKinds := [.data], laidTests := true, laidLooks := .later }
def LensComposesCardSaid : Prop := Claim7.holds Tryd.pinned (.plain (OpenSpec.ofChange lensComposesSpec)) lensComposesCard

/-- THE TIED CARD OF 'fenlandlaw07.LensOwn'. -/
def lensOwnCard : Claim7 := { stood := { row := lensOwnRow, standIns := [], harness := (true, "80152dac6c3a51498d36b718d0b5c48a8ed8a1435e6c3de890a2882632e06e82"), looks := false }, kinds := [], alts := [], laidByText := true, laidKinds := [.data], laidTests := true, laidLooks := .later }
def LensOwnCardSaid : Prop := Claim7.holds Tryd.pinned (.plain (OpenSpec.ofChange lensOwnSpec)) lensOwnCard

/-- THE SECOND FORM's CARD OF 'fenlandlaw07.LensStable'. -/
def lensStableUptoCard : Claim7 := { stood := { row := lensStableUptoRow, standIns := [], harness := (true, "80152dac6c3a51498d36b718d0b5c48a8ed8a1435e6c3de890a2882632e06e82"), looks := false }, kinds := [], alts := [], laidByText := true, laidKinds := [.data], laidTests := true, laidLooks := .later }
def LensStableUptoCardSaid : Prop := Claim7.holds Tryd.pinned (.plain (OpenSpec.upto lensStableSpec)) lensStableUptoCard

/-- THE SECOND FORM's CARD OF 'fenlandlaw07.LensComposes'. -/
def lensComposesUptoCard : Claim7 := { stood := { row := lensComposesUptoRow, standIns := [], harness := (true, "80152dac6c3a51498d36b718d0b5c48a8ed8a1435e6c3de890a2882632e06e82"), looks := false }, kinds := [], alts := [], laidByText := true, laidKinds := [.data], laidTests := true, laidLooks := .later }
def LensComposesUptoCardSaid : Prop := Claim7.holds Tryd.pinned (.plain (OpenSpec.upto lensComposesSpec)) lensComposesUptoCard

/-- THE SECOND FORM's CARD OF 'fenlandlaw07.LensOwn'. -/
def lensOwnUptoCard : Claim7 := { stood := { row := lensOwnUptoRow, standIns := [], harness := (true, "80152dac6c3a51498d36b718d0b5c48a8ed8a1435e6c3de890a2882632e06e82"), looks := false }, kinds := [], alts := [], laidByText := true, laidKinds := [.data], laidTests := true, laidLooks := .later }
def LensOwnUptoCardSaid : Prop := Claim7.holds Tryd.pinned (.plain (OpenSpec.upto lensOwnSpec)) lensOwnUptoCard
end Rows
end Go.Proofs.YtghipgdajgeoiabDoor
