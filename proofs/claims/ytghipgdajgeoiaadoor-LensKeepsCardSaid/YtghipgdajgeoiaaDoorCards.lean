/-
  DERIVED. GIVEN WITH THE SEED: THE CARDS: each row of YtghipgdajgeoiaaDoorRows.lean that lists a variable, with what it lists TIED to the program's text (the seventh form; the later family's looks); each row that meets fmt, with fmt's text TOLD by the authors' own Lean function (tested against real Go, not proved from fmt's source: count such statements apart). THE CARD IS WHAT COUNTS. Prove the row's statement (the work); the ties are given (YtghipgdajgeoiaaDoorTie.lean); close each card by the builder's one call (the guide's Derived/Test/ToyasCard.lean, 'card_holds'). Laid BY PROGRAM, IN A SANDBOX (cutbox-door.mjs). By AI agents, Wed Nov 11 2026. No macro, syntax, notation, axiom, sorry.
-/
import Derived.Test.YtghipgdajgeoiaaDoorRows
import GoSem.ClaimSeven
namespace Go.Proofs.YtghipgdajgeoiaaDoor
namespace Rows

/-- THE TIED CARD OF 'fenlandlaw07.LensFits'. -/
def lensFitsCard : Claim7 := { stood := { row := lensFitsRow, standIns := [], harness := (true, "a49b941c1412eab1559cfb83d3dad6752f7dd8dec7a32c01338a762c0b656f61"), looks := false }, kinds := [], alts := [], laidByText := true, laidKinds := [.data], laidTests := true, laidLooks := .later }
def LensFitsCardSaid : Prop := Claim7.holds Tryd.pinned (.plain (OpenSpec.ofChange lensFitsSpec)) lensFitsCard

/-- THE TIED CARD OF 'fenlandlaw07.LensKeeps'. -/
def lensKeepsCard : Claim7 := { stood := { row := lensKeepsRow, standIns := [], harness := (true, "a49b941c1412eab1559cfb83d3dad6752f7dd8dec7a32c01338a762c0b656f61"), looks := false }, kinds := [], alts := [], laidByText := true, laidKinds := [.data], laidTests := true, laidLooks := .later }
def LensKeepsCardSaid : Prop := Claim7.holds Tryd.pinned (.plain (OpenSpec.ofChange lensKeepsSpec)) lensKeepsCard

/-- THE SECOND FORM's CARD OF 'fenlandlaw07.LensFits'. -/
def lensFitsUptoCard : Claim7 := { stood := { row := lensFitsUptoRow, standIns := [], harness := (true, "a49b941c1412eab1559cfb83d3dad6752f7dd8dec7a32c01338a762c0b656f61"), looks := false }, kinds := [], alts := [], laidByText := true, laidKinds := [.data], laidTests := true, laidLooks := .later }
def LensFitsUptoCardSaid : Prop := Claim7.holds Tryd.pinned (.plain (OpenSpec.upto lensFitsSpec)) lensFitsUptoCard

/-- THE SECOND FORM's CARD OF 'fenlandlaw07.LensKeeps'. -/
def lensKeepsUptoCard : Claim7 := { stood := { row := lensKeepsUptoRow, standIns := [], harness := (true, "a49b941c1412eab1559cfb83d3dad6752f7dd8dec7a32c01338a762c0b656f61"), looks := false }, kinds := [], alts := [], laidByText := true, laidKinds := [.data], laidTests := true, laidLooks := .later }
def LensKeepsUptoCardSaid : Prop := Claim7.holds Tryd.pinned (.plain (OpenSpec.upto lensKeepsSpec)) lensKeepsUptoCard
end Rows
end Go.Proofs.YtghipgdajgeoiaaDoor
