/-
  DERIVED. GIVEN WITH THE SEED: THE CARDS: each row of YtkbfgmneibabgaaDoorRows.lean that lists a variable, with what it lists TIED to the program's text (the seventh form; the later family's looks); each row that meets fmt, with fmt's text TOLD by the authors' own Lean function (tested against real Go, not proved from fmt's source: count such statements apart). THE CARD IS WHAT COUNTS. Prove the row's statement (the work); the ties are given (YtkbfgmneibabgaaDoorTie.lean); close each card by the builder's one call (the guide's Derived/Test/ToyasCard.lean, 'card_holds'). Laid BY PROGRAM, IN A SANDBOX (cutbox-door.mjs). By AI agents, Wed Nov 11 2026. No macro, syntax, notation, axiom, sorry.
-/
import Derived.Test.YtkbfgmneibabgaaDoorRows
import GoSem.ClaimSeven
namespace Go.Proofs.YtkbfgmneibabgaaDoor
namespace Rows

/-- THE TIED CARD OF 'hemiolalaw18.LexerScans'. -/
def lexerScansCard : Claim7 := { stood := { row := lexerScansRow, standIns := [], harness := (true, "a8f58efcd493430d9b62a510bdae641cba4ea38ed0ecc2525ff681a577160774"), looks := true }, kinds := [], alts := [], laidByText := true, laidKinds := [.data, .data, .data, .sentinel, .sentinel], laidTests := true, laidLooks := .later }
def LexerScansCardSaid : Prop := Claim7.holds Tryd.pinned (.plain (OpenSpec.ofChange lexerScansSpec)) lexerScansCard

/-- THE TIED CARD OF 'hemiolalaw18.LexerBlanks'. -/
def lexerBlanksCard : Claim7 := { stood := { row := lexerBlanksRow, standIns := [], harness := (true, "a8f58efcd493430d9b62a510bdae641cba4ea38ed0ecc2525ff681a577160774"), looks := true }, kinds := [], alts := [], laidByText := true, laidKinds := [.data, .data, .data, .sentinel, .sentinel], laidTests := true, laidLooks := .later }
def LexerBlanksCardSaid : Prop := Claim7.holds Tryd.pinned (.plain (OpenSpec.ofChange lexerBlanksSpec)) lexerBlanksCard

/-- THE TIED CARD OF 'hemiolalaw18.LexerPlaces'. -/
def lexerPlacesCard : Claim7 := { stood := { row := lexerPlacesRow, standIns := [], harness := (true, "a8f58efcd493430d9b62a510bdae641cba4ea38ed0ecc2525ff681a577160774"), looks := true }, kinds := [], alts := [], laidByText := true, laidKinds := [.data, .data, .data, .sentinel, .sentinel], laidTests := true, laidLooks := .later }
def LexerPlacesCardSaid : Prop := Claim7.holds Tryd.pinned (.plain (OpenSpec.ofChange lexerPlacesSpec)) lexerPlacesCard

/-- THE TIED CARD OF 'hemiolalaw18.LexerSames'. -/
def lexerSamesCard : Claim7 := { stood := { row := lexerSamesRow, standIns := [], harness := (true, "a8f58efcd493430d9b62a510bdae641cba4ea38ed0ecc2525ff681a577160774"), looks := true }, kinds := [], alts := [], laidByText := true, laidKinds := [.data, .data, .data, .sentinel, .sentinel], laidTests := true, laidLooks := .later }
def LexerSamesCardSaid : Prop := Claim7.holds Tryd.pinned (.plain (OpenSpec.ofChange lexerSamesSpec)) lexerSamesCard

/-- THE TIED CARD OF 'hemiolalaw18.LexerQuotes'. -/
def lexerQuotesCard : Claim7 := { stood := { row := lexerQuotesRow, standIns := [], harness := (true, "a8f58efcd493430d9b62a510bdae641cba4ea38ed0ecc2525ff681a577160774"), looks := true }, kinds := [], alts := [], laidByText := true, laidKinds := [.data, .data, .data, .sentinel, .sentinel], laidTests := true, laidLooks := .later }
def LexerQuotesCardSaid : Prop := Claim7.holds Tryd.pinned (.plain (OpenSpec.ofChange lexerQuotesSpec)) lexerQuotesCard

/-- THE TIED CARD OF 'hemiolalaw18.LexerPrints'. -/
def lexerPrintsCard : Claim7 := { stood := { row := lexerPrintsRow, standIns := [], harness := (true, "a8f58efcd493430d9b62a510bdae641cba4ea38ed0ecc2525ff681a577160774"), looks := true }, kinds := [], alts := [], laidByText := true, laidKinds := [.data, .data, .data, .sentinel, .sentinel], laidTests := true, laidLooks := .later }
def LexerPrintsCardSaid : Prop := Claim7.holds Tryd.pinned (.plain (OpenSpec.ofChange lexerPrintsSpec)) lexerPrintsCard

/-- THE TIED CARD OF 'hemiolalaw18.LexerOf'. -/
def lexerOfCard : Claim7 := { stood := { row := lexerOfRow, standIns := [], harness := (true, "a8f58efcd493430d9b62a510bdae641cba4ea38ed0ecc2525ff681a577160774"), looks := true }, kinds := [], alts := [], laidByText := true, laidKinds := [.data, .data, .data, .sentinel, .sentinel], laidTests := true, laidLooks := .later }
def LexerOfCardSaid : Prop := Claim7.holds Tryd.pinned (.plain (OpenSpec.ofChange lexerOfSpec)) lexerOfCard

/-- THE TIED CARD OF 'hemiolalaw18.LexerNil'. -/
def lexerNilCard : Claim7 := { stood := { row := lexerNilRow, standIns := [], harness := (true, "a8f58efcd493430d9b62a510bdae641cba4ea38ed0ecc2525ff681a577160774"), looks := true }, kinds := [], alts := [], laidByText := true, laidKinds := [.data, .data, .data, .sentinel, .sentinel], laidTests := true, laidLooks := .later }
def LexerNilCardSaid : Prop := Claim7.holds Tryd.pinned (.plain (OpenSpec.ofChange lexerNilSpec)) lexerNilCard

/-- THE TIED CARD OF 'hemiolalaw18.LexerStreams'. -/
def lexerStreamsCard : Claim7 := { stood := { row := lexerStreamsRow, standIns := [], harness := (true, "a8f58efcd493430d9b62a510bdae641cba4ea38ed0ecc2525ff681a577160774"), looks := true }, kinds := [], alts := [], laidByText := true, laidKinds := [.data, .data, .data, .sentinel, .sentinel], laidTests := true, laidLooks := .later }
def LexerStreamsCardSaid : Prop := Claim7.holds Tryd.pinned (.plain (OpenSpec.ofChange lexerStreamsSpec)) lexerStreamsCard

/-- THE TIED CARD OF 'hemiolalaw18.LexerWords'. -/
def lexerWordsCard : Claim7 := { stood := { row := lexerWordsRow, standIns := [], harness := (true, "a8f58efcd493430d9b62a510bdae641cba4ea38ed0ecc2525ff681a577160774"), looks := true }, kinds := [], alts := [], laidByText := true, laidKinds := [.data, .data, .data, .data, .sentinel, .sentinel, .pinned], laidTests := true, laidLooks := .later }
def LexerWordsCardSaid : Prop := Claim7.holds Tryd.pinned (.plain (OpenSpec.ofChange lexerWordsSpec)) lexerWordsCard

/-- THE SECOND FORM's CARD OF 'hemiolalaw18.LexerScans'. -/
def lexerScansUptoCard : Claim7 := { stood := { row := lexerScansUptoRow, standIns := [], harness := (true, "a8f58efcd493430d9b62a510bdae641cba4ea38ed0ecc2525ff681a577160774"), looks := true }, kinds := [], alts := [], laidByText := true, laidKinds := [.data, .data, .data, .sentinel, .sentinel], laidTests := true, laidLooks := .later }
def LexerScansUptoCardSaid : Prop := Claim7.holds Tryd.pinned (.plain (OpenSpec.upto lexerScansSpec)) lexerScansUptoCard

/-- THE SECOND FORM's CARD OF 'hemiolalaw18.LexerBlanks'. -/
def lexerBlanksUptoCard : Claim7 := { stood := { row := lexerBlanksUptoRow, standIns := [], harness := (true, "a8f58efcd493430d9b62a510bdae641cba4ea38ed0ecc2525ff681a577160774"), looks := true }, kinds := [], alts := [], laidByText := true, laidKinds := [.data, .data, .data, .sentinel, .sentinel], laidTests := true, laidLooks := .later }
def LexerBlanksUptoCardSaid : Prop := Claim7.holds Tryd.pinned (.plain (OpenSpec.upto lexerBlanksSpec)) lexerBlanksUptoCard

/-- THE SECOND FORM's CARD OF 'hemiolalaw18.LexerPlaces'. -/
def lexerPlacesUptoCard : Claim7 := { stood := { row := lexerPlacesUptoRow, standIns := [], harness := (true, "a8f58efcd493430d9b62a510bdae641cba4ea38ed0ecc2525ff681a577160774"), looks := true }, kinds := [], alts := [], laidByText := true, laidKinds := [.data, .data, .data, .sentinel, .sentinel], laidTests := true, laidLooks := .later }
def LexerPlacesUptoCardSaid : Prop := Claim7.holds Tryd.pinned (.plain (OpenSpec.upto lexerPlacesSpec)) lexerPlacesUptoCard

/-- THE SECOND FORM's CARD OF 'hemiolalaw18.LexerSames'. -/
def lexerSamesUptoCard : Claim7 := { stood := { row := lexerSamesUptoRow, standIns := [], harness := (true, "a8f58efcd493430d9b62a510bdae641cba4ea38ed0ecc2525ff681a577160774"), looks := true }, kinds := [], alts := [], laidByText := true, laidKinds := [.data, .data, .data, .sentinel, .sentinel], laidTests := true, laidLooks := .later }
def LexerSamesUptoCardSaid : Prop := Claim7.holds Tryd.pinned (.plain (OpenSpec.upto lexerSamesSpec)) lexerSamesUptoCard

/-- THE SECOND FORM's CARD OF 'hemiolalaw18.LexerQuotes'. -/
def lexerQuotesUptoCard : Claim7 := { stood := { row := lexerQuotesUptoRow, standIns := [], harness := (true, "a8f58efcd493430d9b62a510bdae641cba4ea38ed0ecc2525ff681a577160774"), looks := true }, kinds := [], alts := [], laidByText := true, laidKinds := [.data, .data, .data, .sentinel, .sentinel], laidTests := true, laidLooks := .later }
def LexerQuotesUptoCardSaid : Prop := Claim7.holds Tryd.pinned (.plain (OpenSpec.upto lexerQuotesSpec)) lexerQuotesUptoCard

/-- THE SECOND FORM's CARD OF 'hemiolalaw18.LexerPrints'. -/
def lexerPrintsUptoCard : Claim7 := { stood := { row := lexerPrintsUptoRow, standIns := [], harness := (true, "a8f58efcd493430d9b62a510bdae641cba4ea38ed0ecc2525ff681a577160774"), looks := true }, kinds := [], alts := [], laidByText := true, laidKinds := [.data, .data, .data, .sentinel, .sentinel], laidTests := true, laidLooks := .later }
def LexerPrintsUptoCardSaid : Prop := Claim7.holds Tryd.pinned (.plain (OpenSpec.upto lexerPrintsSpec)) lexerPrintsUptoCard

/-- THE SECOND FORM's CARD OF 'hemiolalaw18.LexerOf'. -/
def lexerOfUptoCard : Claim7 := { stood := { row := lexerOfUptoRow, standIns := [], harness := (true, "a8f58efcd493430d9b62a510bdae641cba4ea38ed0ecc2525ff681a577160774"), looks := true }, kinds := [], alts := [], laidByText := true, laidKinds := [.data, .data, .data, .sentinel, .sentinel], laidTests := true, laidLooks := .later }
def LexerOfUptoCardSaid : Prop := Claim7.holds Tryd.pinned (.plain (OpenSpec.upto lexerOfSpec)) lexerOfUptoCard

/-- THE SECOND FORM's CARD OF 'hemiolalaw18.LexerNil'. -/
def lexerNilUptoCard : Claim7 := { stood := { row := lexerNilUptoRow, standIns := [], harness := (true, "a8f58efcd493430d9b62a510bdae641cba4ea38ed0ecc2525ff681a577160774"), looks := true }, kinds := [], alts := [], laidByText := true, laidKinds := [.data, .data, .data, .sentinel, .sentinel], laidTests := true, laidLooks := .later }
def LexerNilUptoCardSaid : Prop := Claim7.holds Tryd.pinned (.plain (OpenSpec.upto lexerNilSpec)) lexerNilUptoCard

/-- THE SECOND FORM's CARD OF 'hemiolalaw18.LexerStreams'. -/
def lexerStreamsUptoCard : Claim7 := { stood := { row := lexerStreamsUptoRow, standIns := [], harness := (true, "a8f58efcd493430d9b62a510bdae641cba4ea38ed0ecc2525ff681a577160774"), looks := true }, kinds := [], alts := [], laidByText := true, laidKinds := [.data, .data, .data, .sentinel, .sentinel], laidTests := true, laidLooks := .later }
def LexerStreamsUptoCardSaid : Prop := Claim7.holds Tryd.pinned (.plain (OpenSpec.upto lexerStreamsSpec)) lexerStreamsUptoCard

/-- THE SECOND FORM's CARD OF 'hemiolalaw18.LexerWords'. -/
def lexerWordsUptoCard : Claim7 := { stood := { row := lexerWordsUptoRow, standIns := [], harness := (true, "a8f58efcd493430d9b62a510bdae641cba4ea38ed0ecc2525ff681a577160774"), looks := true }, kinds := [], alts := [], laidByText := true, laidKinds := [.data, .data, .data, .data, .sentinel, .sentinel, .pinned], laidTests := true, laidLooks := .later }
def LexerWordsUptoCardSaid : Prop := Claim7.holds Tryd.pinned (.plain (OpenSpec.upto lexerWordsSpec)) lexerWordsUptoCard
end Rows
end Go.Proofs.YtkbfgmneibabgaaDoor
