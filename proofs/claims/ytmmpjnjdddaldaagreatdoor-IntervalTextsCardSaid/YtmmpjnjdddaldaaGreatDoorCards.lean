/-
  DERIVED. GIVEN WITH THE SEED: THE CARDS: each row of YtmmpjnjdddaldaaGreatDoorRows.lean that lists a variable, with what it lists TIED to the program's text (the seventh form; the later family's looks); each row that meets fmt, with fmt's text TOLD by the authors' own Lean function (tested against real Go, not proved from fmt's source: count such statements apart). THE CARD IS WHAT COUNTS. Prove the row's statement (the work); the ties are given (YtmmpjnjdddaldaaGreatDoorTie.lean); close each card by the builder's one call (the guide's Derived/Test/ToyasCard.lean, 'card_holds'). Laid BY PROGRAM, IN A SANDBOX (cutbox-door.mjs). By AI agents, Wed Nov 11 2026. No macro, syntax, notation, axiom, sorry.
-/
import Derived.Test.YtmmpjnjdddaldaaGreatDoorRows
import GoSem.ClaimSeven
namespace Go.Proofs.YtmmpjnjdddaldaaGreatDoor
namespace Rows

/-- THE TIED CARD OF 'hemiolalaw06.IntervalParses'. -/
def intervalParsesCard : Claim7 := { stood := { row := intervalParsesRow, standIns := [], harness := (true, "de84e648c24dc0b48de63e2aec2e9e017242eeea3ed5bf71e4eb9feca214f175"), looks := true }, kinds := [], alts := [], laidByText := true, laidKinds := [.data, .data, .data, .data, .sentinel, .sentinel, .pinned], laidTests := true, laidLooks := .later }
def IntervalParsesCardSaid : Prop := Claim7.holds Tryz.pinned (.plain (OpenSpec.ofChange intervalParsesSpec)) intervalParsesCard

/-- THE TIED CARD OF 'hemiolalaw06.IntervalTexts'. -/
def intervalTextsCard : Claim7 := { stood := { row := intervalTextsRow, standIns := [], harness := (true, "de84e648c24dc0b48de63e2aec2e9e017242eeea3ed5bf71e4eb9feca214f175"), looks := true }, kinds := [], alts := [], laidByText := true, laidKinds := [.data, .data, .data, .data, .sentinel, .sentinel, .pinned], laidTests := true, laidLooks := .later }
def IntervalTextsCardSaid : Prop := Claim7.holds Tryz.pinned (.plain (OpenSpec.ofChange intervalTextsSpec)) intervalTextsCard

/-- THE SECOND FORM's CARD OF 'hemiolalaw06.IntervalParses'. -/
def intervalParsesUptoCard : Claim7 := { stood := { row := intervalParsesUptoRow, standIns := [], harness := (true, "de84e648c24dc0b48de63e2aec2e9e017242eeea3ed5bf71e4eb9feca214f175"), looks := true }, kinds := [], alts := [], laidByText := true, laidKinds := [.data, .data, .data, .data, .sentinel, .sentinel, .pinned], laidTests := true, laidLooks := .later }
def IntervalParsesUptoCardSaid : Prop := Claim7.holds Tryz.pinned (.plain (OpenSpec.upto intervalParsesSpec)) intervalParsesUptoCard

/-- THE SECOND FORM's CARD OF 'hemiolalaw06.IntervalTexts'. -/
def intervalTextsUptoCard : Claim7 := { stood := { row := intervalTextsUptoRow, standIns := [], harness := (true, "de84e648c24dc0b48de63e2aec2e9e017242eeea3ed5bf71e4eb9feca214f175"), looks := true }, kinds := [], alts := [], laidByText := true, laidKinds := [.data, .data, .data, .data, .sentinel, .sentinel, .pinned], laidTests := true, laidLooks := .later }
def IntervalTextsUptoCardSaid : Prop := Claim7.holds Tryz.pinned (.plain (OpenSpec.upto intervalTextsSpec)) intervalTextsUptoCard
end Rows
end Go.Proofs.YtmmpjnjdddaldaaGreatDoor
