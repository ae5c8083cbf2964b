/-
  DERIVED. GIVEN WITH THE SEED: THE CARDS: each row of YtkckpmcpmngiiaaGreatDoorRows.lean that lists a variable, with what it lists TIED to the program's text (the seventh form; the later family's looks); each row that meets fmt, with fmt's text TOLD by the authors' own Lean function (tested against real Go, not proved from fmt's source: count such statements apart). THE CARD IS WHAT COUNTS. Prove the row's statement (the work); the ties are given (YtkckpmcpmngiiaaGreatDoorTie.lean); close each card by the builder's one call (the guide's Derived/Test/ToyasCard.lean, 'card_holds'). Laid BY PROGRAM, IN A SANDBOX (cutbox-door.mjs). By AI agents, Wed Nov 11 2026. No macro, syntax, notation, axiom, sorry.
-/
import Derived.Test.YtkckpmcpmngiiaaGreatDoorRows
import GoSem.ClaimSeven
namespace Go.Proofs.YtkckpmcpmngiiaaGreatDoor
namespace Rows

/-- THE TIED CARD OF 'hemiolalaw21.MarkupRoundTrip'. -/
def markupRoundTripCard : Claim7 := { stood := { row := markupRoundTripRow, standIns := [], harness := (true, "4c21963cec1fe7f0c942b3dc5ad7636798483e2201cc2ebc839da9cea2275151"), looks := true }, kinds := [], alts := [], laidByText := true, laidKinds := [.data, .pinned], laidTests := true, laidLooks := .later }
def MarkupRoundTripCardSaid : Prop := Claim7.holds Tryz.pinned (.plain (OpenSpec.ofChange markupRoundTripSpec)) markupRoundTripCard

/-- THE TIED CARD OF 'hemiolalaw21.MarkupEscapes'. -/
def markupEscapesCard : Claim7 := { stood := { row := markupEscapesRow, standIns := [], harness := (true, "4c21963cec1fe7f0c942b3dc5ad7636798483e2201cc2ebc839da9cea2275151"), looks := true }, kinds := [], alts := [], laidByText := true, laidKinds := [.data, .pinned], laidTests := true, laidLooks := .later }
def MarkupEscapesCardSaid : Prop := Claim7.holds Tryz.pinned (.plain (OpenSpec.ofChange markupEscapesSpec)) markupEscapesCard

/-- THE TIED CARD OF 'hemiolalaw21.MarkupChecks'. -/
def markupChecksCard : Claim7 := { stood := { row := markupChecksRow, standIns := [], harness := (true, "4c21963cec1fe7f0c942b3dc5ad7636798483e2201cc2ebc839da9cea2275151"), looks := true }, kinds := [], alts := [], laidByText := true, laidKinds := [.data, .pinned], laidTests := true, laidLooks := .later }
def MarkupChecksCardSaid : Prop := Claim7.holds Tryz.pinned (.plain (OpenSpec.ofChange markupChecksSpec)) markupChecksCard

/-- THE TIED CARD OF 'hemiolalaw21.MarkupCanonical'. -/
def markupCanonicalCard : Claim7 := { stood := { row := markupCanonicalRow, standIns := [], harness := (true, "4c21963cec1fe7f0c942b3dc5ad7636798483e2201cc2ebc839da9cea2275151"), looks := true }, kinds := [], alts := [], laidByText := true, laidKinds := [.data, .pinned], laidTests := true, laidLooks := .later }
def MarkupCanonicalCardSaid : Prop := Claim7.holds Tryz.pinned (.plain (OpenSpec.ofChange markupCanonicalSpec)) markupCanonicalCard

/-- THE TIED CARD OF 'hemiolalaw21.MarkupValues'. -/
def markupValuesCard : Claim7 := { stood := { row := markupValuesRow, standIns := [], harness := (true, "4c21963cec1fe7f0c942b3dc5ad7636798483e2201cc2ebc839da9cea2275151"), looks := true }, kinds := [], alts := [], laidByText := true, laidKinds := [.data, .pinned], laidTests := true, laidLooks := .later }
def MarkupValuesCardSaid : Prop := Claim7.holds Tryz.pinned (.plain (OpenSpec.ofChange markupValuesSpec)) markupValuesCard

/-- THE TIED CARD OF 'hemiolalaw21.MarkupLevels'. -/
def markupLevelsCard : Claim7 := { stood := { row := markupLevelsRow, standIns := [], harness := (true, "4c21963cec1fe7f0c942b3dc5ad7636798483e2201cc2ebc839da9cea2275151"), looks := true }, kinds := [], alts := [], laidByText := true, laidKinds := [.data, .pinned], laidTests := true, laidLooks := .later }
def MarkupLevelsCardSaid : Prop := Claim7.holds Tryz.pinned (.plain (OpenSpec.ofChange markupLevelsSpec)) markupLevelsCard

/-- THE TIED CARD OF 'hemiolalaw21.MarkupEquals'. -/
def markupEqualsCard : Claim7 := { stood := { row := markupEqualsRow, standIns := [], harness := (true, "4c21963cec1fe7f0c942b3dc5ad7636798483e2201cc2ebc839da9cea2275151"), looks := true }, kinds := [], alts := [], laidByText := true, laidKinds := [.data, .pinned], laidTests := true, laidLooks := .later }
def MarkupEqualsCardSaid : Prop := Claim7.holds Tryz.pinned (.plain (OpenSpec.ofChange markupEqualsSpec)) markupEqualsCard

/-- THE TIED CARD OF 'hemiolalaw21.MarkupFinds'. -/
def markupFindsCard : Claim7 := { stood := { row := markupFindsRow, standIns := [], harness := (true, "4c21963cec1fe7f0c942b3dc5ad7636798483e2201cc2ebc839da9cea2275151"), looks := true }, kinds := [], alts := [], laidByText := true, laidKinds := [.data, .pinned], laidTests := true, laidLooks := .later }
def MarkupFindsCardSaid : Prop := Claim7.holds Tryz.pinned (.plain (OpenSpec.ofChange markupFindsSpec)) markupFindsCard

/-- THE SECOND FORM's CARD OF 'hemiolalaw21.MarkupRoundTrip'. -/
def markupRoundTripUptoCard : Claim7 := { stood := { row := markupRoundTripUptoRow, standIns := [], harness := (true, "4c21963cec1fe7f0c942b3dc5ad7636798483e2201cc2ebc839da9cea2275151"), looks := true }, kinds := [], alts := [], laidByText := true, laidKinds := [.data, .pinned], laidTests := true, laidLooks := .later }
def MarkupRoundTripUptoCardSaid : Prop := Claim7.holds Tryz.pinned (.plain (OpenSpec.upto markupRoundTripSpec)) markupRoundTripUptoCard

/-- THE SECOND FORM's CARD OF 'hemiolalaw21.MarkupEscapes'. -/
def markupEscapesUptoCard : Claim7 := { stood := { row := markupEscapesUptoRow, standIns := [], harness := (true, "4c21963cec1fe7f0c942b3dc5ad7636798483e2201cc2ebc839da9cea2275151"), looks := true }, kinds := [], alts := [], laidByText := true, laidKinds := [.data, .pinned], laidTests := true, laidLooks := .later }
def MarkupEscapesUptoCardSaid : Prop := Claim7.holds Tryz.pinned (.plain (OpenSpec.upto markupEscapesSpec)) markupEscapesUptoCard

/-- THE SECOND FORM's CARD OF 'hemiolalaw21.MarkupChecks'. -/
def markupChecksUptoCard : Claim7 := { stood := { row := markupChecksUptoRow, standIns := [], harness := (true, "4c21963cec1fe7f0c942b3dc5ad7636798483e2201cc2ebc839da9cea2275151"), looks := true }, kinds := [], alts := [], laidByText := true, laidKinds := [.data, .pinned], laidTests := true, laidLooks := .later }
def MarkupChecksUptoCardSaid : Prop := Claim7.holds Tryz.pinned (.plain (OpenSpec.upto markupChecksSpec)) markupChecksUptoCard

/-- THE SECOND FORM's CARD OF 'hemiolalaw21.MarkupCanonical'. -/
def markupCanonicalUptoCard : Claim7 := { stood := { row := markupCanonicalUptoRow, standIns := [], harness := (true, "4c21963cec1fe7f0c942b3dc5ad7636798483e2201cc2ebc839da9cea2275151"), looks := true }, kinds := [], alts := [], laidByText := true, laidKinds := [.data, .pinned], laidTests := true, laidLooks := .later }
def MarkupCanonicalUptoCardSaid : Prop := Claim7.holds Tryz.pinned (.plain (OpenSpec.upto markupCanonicalSpec)) markupCanonicalUptoCard

/-- THE SECOND FORM's CARD OF 'hemiolalaw21.MarkupValues'. -/
def markupValuesUptoCard : Claim7 := { stood := { row := markupValuesUptoRow, standIns := [], harness := (true, "4c21963cec1fe7f0c942b3dc5ad7636798483e2201cc2ebc839da9cea2275151"), looks := true }, kinds := [], alts := [], laidByText := true, laidKinds := [.data, .pinned], laidTests := true, laidLooks := .later }
def MarkupValuesUptoCardSaid : Prop := Claim7.holds Tryz.pinned (.plain (OpenSpec.upto markupValuesSpec)) markupValuesUptoCard

/-- THE SECOND FORM's CARD OF 'hemiolalaw21.MarkupLevels'. -/
def markupLevelsUptoCard : Claim7 := { stood := { row := markupLevelsUptoRow, standIns := [], harness := (true, "4c21963cec1fe7f0c942b3dc5ad7636798483e2201cc2ebc839da9cea2275151"), looks := true }, kinds := [], alts := [], laidByText := true, laidKinds := [.data, .pinned], laidTests := true, laidLooks := .later }
def MarkupLevelsUptoCardSaid : Prop := Claim7.holds Tryz.pinned (.plain (OpenSpec.upto markupLevelsSpec)) markupLevelsUptoCard

/-- THE SECOND FORM's CARD OF 'hemiolalaw21.MarkupEquals'. -/
def markupEqualsUptoCard : Claim7 := { stood := { row := markupEqualsUptoRow, standIns := [], harness := (true, "4c21963cec1fe7f0c942b3dc5ad7636798483e2201cc2ebc839da9cea2275151"), looks := true }, kinds := [], alts := [], laidByText := true, laidKinds := [.data, .pinned], laidTests := true, laidLooks := .later }
def MarkupEqualsUptoCardSaid : Prop := Claim7.holds Tryz.pinned (.plain (OpenSpec.upto markupEqualsSpec)) markupEqualsUptoCard

/-- THE SECOND FORM's CARD OF 'hemiolalaw21.MarkupFinds'. -/
def markupFindsUptoCard : Claim7 := { stood := { row := markupFindsUptoRow, standIns := [], harness := (true, "4c21963cec1fe7f0c942b3dc5ad7636798483e2201cc2ebc839da9cea2275151"), looks := true }, kinds := [], alts := [], laidByText := true, laidKinds := [.data, .pinned], laidTests := true, laidLooks := .later }
def MarkupFindsUptoCardSaid : Prop := Claim7.holds Tryz.pinned (.plain (OpenSpec.upto markupFindsSpec)) markupFindsUptoCard
end Rows
end Go.Proofs.YtkckpmcpmngiiaaGreatDoor
