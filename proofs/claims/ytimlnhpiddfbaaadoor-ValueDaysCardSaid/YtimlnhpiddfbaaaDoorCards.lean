/-
  DERIVED. GIVEN WITH THE SEED: THE CARDS: each row of YtimlnhpiddfbaaaDoorRows.lean that lists a variable, with what it lists TIED to the program's text (the seventh form; the later family's looks); each row that meets fmt, with fmt's text TOLD by the authors' own Lean function (tested against real Go, not proved from fmt's source: count such statements apart). THE CARD IS WHAT COUNTS. Prove the row's statement (the work); the ties are given (YtimlnhpiddfbaaaDoorTie.lean); close each card by the builder's one call (the guide's Derived/Test/ToyasCard.lean, 'card_holds'). Laid BY PROGRAM, IN A SANDBOX (cutbox-door.mjs). By AI agents, Wed Nov 11 2026. No macro, syntax, notation, axiom, sorry.
-/
import Derived.Test.YtimlnhpiddfbaaaDoorRows
import GoSem.ClaimSeven
namespace Go.Proofs.YtimlnhpiddfbaaaDoor
namespace Rows

/-- THE TIED CARD OF 'fenlandlaw05.ValueRoundTrip'. -/
def valueRoundTripCard : Claim7 := { stood := { row := valueRoundTripRow, standIns := [], harness := (true, "247e06dd01fcf82314a8c5773a93aa928bdb681681bffa32221604a645d23183"), looks := true }, kinds := [], alts := [], laidByText := true, laidKinds := [.data, .data, .data, .sentinel, .sentinel], laidTests := true, laidLooks := .later }
def ValueRoundTripCardSaid : Prop := Claim7.holds Tryd.pinned (.plain (OpenSpec.ofChange valueRoundTripSpec)) valueRoundTripCard

/-- THE TIED CARD OF 'fenlandlaw05.ValueCanonical'. -/
def valueCanonicalCard : Claim7 := { stood := { row := valueCanonicalRow, standIns := [], harness := (true, "247e06dd01fcf82314a8c5773a93aa928bdb681681bffa32221604a645d23183"), looks := true }, kinds := [], alts := [], laidByText := true, laidKinds := [.data, .data, .data, .sentinel, .sentinel], laidTests := true, laidLooks := .later }
def ValueCanonicalCardSaid : Prop := Claim7.holds Tryd.pinned (.plain (OpenSpec.ofChange valueCanonicalSpec)) valueCanonicalCard

/-- THE TIED CARD OF 'fenlandlaw05.ValueDistinct'. -/
def valueDistinctCard : Claim7 := { stood := { row := valueDistinctRow, standIns := [], harness := (true, "247e06dd01fcf82314a8c5773a93aa928bdb681681bffa32221604a645d23183"), looks := true }, kinds := [], alts := [], laidByText := true, laidKinds := [.data, .data, .data, .sentinel, .sentinel], laidTests := true, laidLooks := .later }
def ValueDistinctCardSaid : Prop := Claim7.holds Tryd.pinned (.plain (OpenSpec.ofChange valueDistinctSpec)) valueDistinctCard

/-- THE TIED CARD OF 'fenlandlaw05.ValueDays'. -/
def valueDaysCard : Claim7 := { stood := { row := valueDaysRow, standIns := [], harness := (true, "247e06dd01fcf82314a8c5773a93aa928bdb681681bffa32221604a645d23183"), looks := true }, kinds := [], alts := [], laidByText := true, laidKinds := [.data, .data, .data, .sentinel, .sentinel], laidTests := true, laidLooks := .later }
def ValueDaysCardSaid : Prop := Claim7.holds Tryd.pinned (.plain (OpenSpec.ofChange valueDaysSpec)) valueDaysCard

/-- THE TIED CARD OF 'fenlandlaw05.ValueOrder'. -/
def valueOrderCard : Claim7 := { stood := { row := valueOrderRow, standIns := [], harness := (true, "247e06dd01fcf82314a8c5773a93aa928bdb681681bffa32221604a645d23183"), looks := true }, kinds := [], alts := [], laidByText := true, laidKinds := [.data, .data, .data, .sentinel, .sentinel], laidTests := true, laidLooks := .later }
def ValueOrderCardSaid : Prop := Claim7.holds Tryd.pinned (.plain (OpenSpec.ofChange valueOrderSpec)) valueOrderCard

/-- THE SECOND FORM's CARD OF 'fenlandlaw05.ValueRoundTrip'. -/
def valueRoundTripUptoCard : Claim7 := { stood := { row := valueRoundTripUptoRow, standIns := [], harness := (true, "247e06dd01fcf82314a8c5773a93aa928bdb681681bffa32221604a645d23183"), looks := true }, kinds := [], alts := [], laidByText := true, laidKinds := [.data, .data, .data, .sentinel, .sentinel], laidTests := true, laidLooks := .later }
def ValueRoundTripUptoCardSaid : Prop := Claim7.holds Tryd.pinned (.plain (OpenSpec.upto valueRoundTripSpec)) valueRoundTripUptoCard

/-- THE SECOND FORM's CARD OF 'fenlandlaw05.ValueCanonical'. -/
def valueCanonicalUptoCard : Claim7 := { stood := { row := valueCanonicalUptoRow, standIns := [], harness := (true, "247e06dd01fcf82314a8c5773a93aa928bdb681681bffa32221604a645d23183"), looks := true }, kinds := [], alts := [], laidByText := true, laidKinds := [.data, .data, .data, .sentinel, .sentinel], laidTests := true, laidLooks := .later }
def ValueCanonicalUptoCardSaid : Prop := Claim7.holds Tryd.pinned (.plain (OpenSpec.upto valueCanonicalSpec)) valueCanonicalUptoCard

/-- THE SECOND FORM's CARD OF 'fenlandlaw05.ValueDistinct'. -/
def valueDistinctUptoCard : Claim7 := { stood := { row := valueDistinctUptoRow, standIns := [], harness := (true, "247e06dd01fcf82314a8c5773a93aa928bdb681681bffa32221604a645d23183"), looks := true }, kinds := [], alts := [], laidByText := true, laidKinds := [.data, .data, .data, .sentinel, .sentinel], laidTests := true, laidLooks := .later }
def ValueDistinctUptoCardSaid : Prop := Claim7.holds Tryd.pinned (.plain (OpenSpec.upto valueDistinctSpec)) valueDistinctUptoCard

/-- THE SECOND FORM's CARD OF 'fenlandlaw05.ValueDays'. -/
def valueDaysUptoCard : Claim7 := { stood := { row := valueDaysUptoRow, standIns := [], harness := (true, "247e06dd01fcf82314a8c5773a93aa928bdb681681bffa32221604a645d23183"), looks := true }, kinds := [], alts := [], laidByText := true, laidKinds := [.data, .data, .data, .sentinel, .sentinel], laidTests := true, laidLooks := .later }
def ValueDaysUptoCardSaid : Prop := Claim7.holds Tryd.pinned (.plain (OpenSpec.upto valueDaysSpec)) valueDaysUptoCard

/-- THE SECOND FORM's CARD OF 'fenlandlaw05.ValueOrder'. -/
def valueOrderUptoCard : Claim7 := { stood := { row := valueOrderUptoRow, standIns := [], harness := (true, "247e06dd01fcf82314a8c5773a93aa928bdb681681bffa32221604a645d23183"), looks := true }, kinds := [], alts := [], laidByText := true, laidKinds := [.data, .data, .data, .sentinel, .sentinel], laidTests := true, laidLooks := .later }
def ValueOrderUptoCardSaid : Prop := Claim7.holds Tryd.pinned (.plain (OpenSpec.upto valueOrderSpec)) valueOrderUptoCard
end Rows
end Go.Proofs.YtimlnhpiddfbaaaDoor
