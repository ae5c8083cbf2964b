/-
  DERIVED. GIVEN WITH THE SEED: THE CARDS: each row of YthoampbpeiehhaaDoorRows.lean that lists a variable, with what it lists TIED to the program's text (the seventh form; the later family's looks); each row that meets fmt, with fmt's text TOLD by the authors' own Lean function (tested against real Go, not proved from fmt's source: count such statements apart). THE CARD IS WHAT COUNTS. Prove the row's statement (the work); the ties are given (YthoampbpeiehhaaDoorTie.lean); close each card by the builder's one call (the guide's Derived/Test/ToyasCard.lean, 'card_holds'). Laid BY PROGRAM, IN A SANDBOX (cutbox-door.mjs). By AI agents, Wed Nov 11 2026. No macro, syntax, notation, axiom, sorry.
-/
import Derived.Test.YthoampbpeiehhaaDoorRows
import GoSem.ClaimSeven
namespace Go.Proofs.YthoampbpeiehhaaDoor
namespace Rows

/-- THE TIED CARD OF 'hemiolalaw05.PitchEnharmonics'. -/
def pitchEnharmonicsCard : Claim7 := { stood := { row := pitchEnharmonicsRow, standIns := [], harness := (true, "cd41109a05fe96f081301e09fc7ff7d1befa49038c97fb4fbe7135d202aeb116"), looks := true }, kinds := [], alts := [], laidByText := true, laidKinds := [.data, .data, .data, .sentinel, .sentinel], laidTests := true, laidLooks := .later }
def PitchEnharmonicsCardSaid : Prop := Claim7.holds Tryd.pinned (.plain (OpenSpec.ofChange pitchEnharmonicsSpec)) pitchEnharmonicsCard

/-- THE TIED CARD OF 'hemiolalaw05.PitchRespells'. -/
def pitchRespellsCard : Claim7 := { stood := { row := pitchRespellsRow, standIns := [], harness := (true, "cd41109a05fe96f081301e09fc7ff7d1befa49038c97fb4fbe7135d202aeb116"), looks := true }, kinds := [], alts := [], laidByText := true, laidKinds := [.data, .data, .data, .sentinel, .sentinel], laidTests := true, laidLooks := .later }
def PitchRespellsCardSaid : Prop := Claim7.holds Tryd.pinned (.plain (OpenSpec.ofChange pitchRespellsSpec)) pitchRespellsCard

/-- THE TIED CARD OF 'hemiolalaw05.PitchNames'. -/
def pitchNamesCard : Claim7 := { stood := { row := pitchNamesRow, standIns := [], harness := (true, "cd41109a05fe96f081301e09fc7ff7d1befa49038c97fb4fbe7135d202aeb116"), looks := true }, kinds := [], alts := [], laidByText := true, laidKinds := [.data, .data, .data, .sentinel, .sentinel], laidTests := true, laidLooks := .later }
def PitchNamesCardSaid : Prop := Claim7.holds Tryd.pinned (.plain (OpenSpec.ofChange pitchNamesSpec)) pitchNamesCard

/-- THE TIED CARD OF 'hemiolalaw05.PitchParses'. -/
def pitchParsesCard : Claim7 := { stood := { row := pitchParsesRow, standIns := [], harness := (true, "cd41109a05fe96f081301e09fc7ff7d1befa49038c97fb4fbe7135d202aeb116"), looks := true }, kinds := [], alts := [], laidByText := true, laidKinds := [.data, .data, .data, .sentinel, .sentinel], laidTests := true, laidLooks := .later }
def PitchParsesCardSaid : Prop := Claim7.holds Tryd.pinned (.plain (OpenSpec.ofChange pitchParsesSpec)) pitchParsesCard

/-- THE TIED CARD OF 'hemiolalaw05.PitchFifths'. -/
def pitchFifthsCard : Claim7 := { stood := { row := pitchFifthsRow, standIns := [], harness := (true, "cd41109a05fe96f081301e09fc7ff7d1befa49038c97fb4fbe7135d202aeb116"), looks := true }, kinds := [], alts := [], laidByText := true, laidKinds := [.data, .data, .data, .sentinel, .sentinel], laidTests := true, laidLooks := .later }
def PitchFifthsCardSaid : Prop := Claim7.holds Tryd.pinned (.plain (OpenSpec.ofChange pitchFifthsSpec)) pitchFifthsCard

/-- THE TIED CARD OF 'hemiolalaw05.PitchOf'. -/
def pitchOfCard : Claim7 := { stood := { row := pitchOfRow, standIns := [], harness := (true, "cd41109a05fe96f081301e09fc7ff7d1befa49038c97fb4fbe7135d202aeb116"), looks := true }, kinds := [], alts := [], laidByText := true, laidKinds := [.data, .data, .data, .sentinel, .sentinel], laidTests := true, laidLooks := .later }
def PitchOfCardSaid : Prop := Claim7.holds Tryd.pinned (.plain (OpenSpec.ofChange pitchOfSpec)) pitchOfCard

/-- THE TIED CARD OF 'hemiolalaw05.PitchNumbers'. -/
def pitchNumbersCard : Claim7 := { stood := { row := pitchNumbersRow, standIns := [], harness := (true, "cd41109a05fe96f081301e09fc7ff7d1befa49038c97fb4fbe7135d202aeb116"), looks := true }, kinds := [], alts := [], laidByText := true, laidKinds := [.data, .data, .data, .sentinel, .sentinel], laidTests := true, laidLooks := .later }
def PitchNumbersCardSaid : Prop := Claim7.holds Tryd.pinned (.plain (OpenSpec.ofChange pitchNumbersSpec)) pitchNumbersCard

/-- THE TIED CARD OF 'hemiolalaw05.PitchSimple'. -/
def pitchSimpleCard : Claim7 := { stood := { row := pitchSimpleRow, standIns := [], harness := (true, "cd41109a05fe96f081301e09fc7ff7d1befa49038c97fb4fbe7135d202aeb116"), looks := true }, kinds := [], alts := [], laidByText := true, laidKinds := [.data, .data, .data, .sentinel, .sentinel], laidTests := true, laidLooks := .later }
def PitchSimpleCardSaid : Prop := Claim7.holds Tryd.pinned (.plain (OpenSpec.ofChange pitchSimpleSpec)) pitchSimpleCard

/-- THE TIED CARD OF 'hemiolalaw05.PitchCompares'. -/
def pitchComparesCard : Claim7 := { stood := { row := pitchComparesRow, standIns := [], harness := (true, "cd41109a05fe96f081301e09fc7ff7d1befa49038c97fb4fbe7135d202aeb116"), looks := true }, kinds := [], alts := [], laidByText := true, laidKinds := [.data, .data, .data, .sentinel, .sentinel], laidTests := true, laidLooks := .later }
def PitchComparesCardSaid : Prop := Claim7.holds Tryd.pinned (.plain (OpenSpec.ofChange pitchComparesSpec)) pitchComparesCard

/-- THE SECOND FORM's CARD OF 'hemiolalaw05.PitchEnharmonics'. -/
def pitchEnharmonicsUptoCard : Claim7 := { stood := { row := pitchEnharmonicsUptoRow, standIns := [], harness := (true, "cd41109a05fe96f081301e09fc7ff7d1befa49038c97fb4fbe7135d202aeb116"), looks := true }, kinds := [], alts := [], laidByText := true, laidKinds := [.data, .data, .data, .sentinel, .sentinel], laidTests := true, laidLooks := .later }
def PitchEnharmonicsUptoCardSaid : Prop := Claim7.holds Tryd.pinned (.plain (OpenSpec.upto pitchEnharmonicsSpec)) pitchEnharmonicsUptoCard

/-- THE SECOND FORM's CARD OF 'hemiolalaw05.PitchRespells'. -/
def pitchRespellsUptoCard : Claim7 := { stood := { row := pitchRespellsUptoRow, standIns := [], harness := (true, "cd41109a05fe96f081301e09fc7ff7d1befa49038c97fb4fbe7135d202aeb116"), looks := true }, kinds := [], alts := [], laidByText := true, laidKinds := [.data, .data, .data, .sentinel, .sentinel], laidTests := true, laidLooks := .later }
def PitchRespellsUptoCardSaid : Prop := Claim7.holds Tryd.pinned (.plain (OpenSpec.upto pitchRespellsSpec)) pitchRespellsUptoCard

/-- THE SECOND FORM's CARD OF 'hemiolalaw05.PitchNames'. -/
def pitchNamesUptoCard : Claim7 := { stood := { row := pitchNamesUptoRow, standIns := [], harness := (true, "cd41109a05fe96f081301e09fc7ff7d1befa49038c97fb4fbe7135d202aeb116"), looks := true }, kinds := [], alts := [], laidByText := true, laidKinds := [.data, .data, .data, .sentinel, .sentinel], laidTests := true, laidLooks := .later }
def PitchNamesUptoCardSaid : Prop := Claim7.holds Tryd.pinned (.plain (OpenSpec.upto pitchNamesSpec)) pitchNamesUptoCard

/-- THE SECOND FORM's CARD OF 'hemiolalaw05.PitchParses'. -/
def pitchParsesUptoCard : Claim7 := { stood := { row := pitchParsesUptoRow, standIns := [], harness := (true, "cd41109a05fe96f081301e09fc7ff7d1befa49038c97fb4fbe7135d202aeb116"), looks := true }, kinds := [], alts := [], laidByText := true, laidKinds := [.data, .data, .data, .sentinel, .sentinel], laidTests := true, laidLooks := .later }
def PitchParsesUptoCardSaid : Prop := Claim7.holds Tryd.pinned (.plain (OpenSpec.upto pitchParsesSpec)) pitchParsesUptoCard

/-- THE SECOND FORM's CARD OF 'hemiolalaw05.PitchFifths'. -/
def pitchFifthsUptoCard : Claim7 := { stood := { row := pitchFifthsUptoRow, standIns := [], harness := (true, "cd41109a05fe96f081301e09fc7ff7d1befa49038c97fb4fbe7135d202aeb116"), looks := true }, kinds := [], alts := [], laidByText := true, laidKinds := [.data, .data, .data, .sentinel, .sentinel], laidTests := true, laidLooks := .later }
def PitchFifthsUptoCardSaid : Prop := Claim7.holds Tryd.pinned (.plain (OpenSpec.upto pitchFifthsSpec)) pitchFifthsUptoCard

/-- THE SECOND FORM's CARD OF 'hemiolalaw05.PitchOf'. -/
def pitchOfUptoCard : Claim7 := { stood := { row := pitchOfUptoRow, standIns := [], harness := (true, "cd41109a05fe96f081301e09fc7ff7d1befa49038c97fb4fbe7135d202aeb116"), looks := true }, kinds := [], alts := [], laidByText := true, laidKinds := [.data, .data, .data, .sentinel, .sentinel], laidTests := true, laidLooks := .later }
def PitchOfUptoCardSaid : Prop := Claim7.holds Tryd.pinned (.plain (OpenSpec.upto pitchOfSpec)) pitchOfUptoCard

/-- THE SECOND FORM's CARD OF 'hemiolalaw05.PitchNumbers'. -/
def pitchNumbersUptoCard : Claim7 := { stood := { row := pitchNumbersUptoRow, standIns := [], harness := (true, "cd41109a05fe96f081301e09fc7ff7d1befa49038c97fb4fbe7135d202aeb116"), looks := true }, kinds := [], alts := [], laidByText := true, laidKinds := [.data, .data, .data, .sentinel, .sentinel], laidTests := true, laidLooks := .later }
def PitchNumbersUptoCardSaid : Prop := Claim7.holds Tryd.pinned (.plain (OpenSpec.upto pitchNumbersSpec)) pitchNumbersUptoCard

/-- THE SECOND FORM's CARD OF 'hemiolalaw05.PitchSimple'. -/
def pitchSimpleUptoCard : Claim7 := { stood := { row := pitchSimpleUptoRow, standIns := [], harness := (true, "cd41109a05fe96f081301e09fc7ff7d1befa49038c97fb4fbe7135d202aeb116"), looks := true }, kinds := [], alts := [], laidByText := true, laidKinds := [.data, .data, .data, .sentinel, .sentinel], laidTests := true, laidLooks := .later }
def PitchSimpleUptoCardSaid : Prop := Claim7.holds Tryd.pinned (.plain (OpenSpec.upto pitchSimpleSpec)) pitchSimpleUptoCard

/-- THE SECOND FORM's CARD OF 'hemiolalaw05.PitchCompares'. -/
def pitchComparesUptoCard : Claim7 := { stood := { row := pitchComparesUptoRow, standIns := [], harness := (true, "cd41109a05fe96f081301e09fc7ff7d1befa49038c97fb4fbe7135d202aeb116"), looks := true }, kinds := [], alts := [], laidByText := true, laidKinds := [.data, .data, .data, .sentinel, .sentinel], laidTests := true, laidLooks := .later }
def PitchComparesUptoCardSaid : Prop := Claim7.holds Tryd.pinned (.plain (OpenSpec.upto pitchComparesSpec)) pitchComparesUptoCard
end Rows
end Go.Proofs.YthoampbpeiehhaaDoor
