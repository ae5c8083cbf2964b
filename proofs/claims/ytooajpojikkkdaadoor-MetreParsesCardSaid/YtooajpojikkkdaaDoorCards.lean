/-
  DERIVED. GIVEN WITH THE SEED: THE CARDS: each row of YtooajpojikkkdaaDoorRows.lean that lists a variable, with what it lists TIED to the program's text (the seventh form; the later family's looks); each row that meets fmt, with fmt's text TOLD by the authors' own Lean function (tested against real Go, not proved from fmt's source: count such statements apart). THE CARD IS WHAT COUNTS. Prove the row's statement (the work); the ties are given (YtooajpojikkkdaaDoorTie.lean); close each card by the builder's one call (the guide's Derived/Test/ToyasCard.lean, 'card_holds'). Laid BY PROGRAM, IN A SANDBOX (cutbox-door.mjs). By AI agents, Wed Nov 11 2026. No macro, syntax, notation, axiom, sorry.
-/
import Derived.Test.YtooajpojikkkdaaDoorRows
import GoSem.ClaimSeven
namespace Go.Proofs.YtooajpojikkkdaaDoor
namespace Rows

/-- THE TIED CARD OF 'hemiolalaw04.MetreSplits'. -/
def metreSplitsCard : Claim7 := { stood := { row := metreSplitsRow, standIns := [], harness := (true, "497fd3f260c736cf6be963d4045bd170275cbb7384d77385af36a390f248ac06"), looks := true }, kinds := [], alts := [], laidByText := true, laidKinds := [.data, .data, .data], laidTests := true, laidLooks := .later }
def MetreSplitsCardSaid : Prop := Claim7.holds Tryd.pinned (.plain (OpenSpec.ofChange metreSplitsSpec)) metreSplitsCard

/-- THE TIED CARD OF 'hemiolalaw04.MetreDivides'. -/
def metreDividesCard : Claim7 := { stood := { row := metreDividesRow, standIns := [], harness := (true, "497fd3f260c736cf6be963d4045bd170275cbb7384d77385af36a390f248ac06"), looks := true }, kinds := [], alts := [], laidByText := true, laidKinds := [.data, .data, .data], laidTests := true, laidLooks := .later }
def MetreDividesCardSaid : Prop := Claim7.holds Tryd.pinned (.plain (OpenSpec.ofChange metreDividesSpec)) metreDividesCard

/-- THE TIED CARD OF 'hemiolalaw04.MetreOffsets'. -/
def metreOffsetsCard : Claim7 := { stood := { row := metreOffsetsRow, standIns := [], harness := (true, "497fd3f260c736cf6be963d4045bd170275cbb7384d77385af36a390f248ac06"), looks := true }, kinds := [], alts := [], laidByText := true, laidKinds := [.data, .data, .data], laidTests := true, laidLooks := .later }
def MetreOffsetsCardSaid : Prop := Claim7.holds Tryd.pinned (.plain (OpenSpec.ofChange metreOffsetsSpec)) metreOffsetsCard

/-- THE TIED CARD OF 'hemiolalaw04.MetreLevels'. -/
def metreLevelsCard : Claim7 := { stood := { row := metreLevelsRow, standIns := [], harness := (true, "497fd3f260c736cf6be963d4045bd170275cbb7384d77385af36a390f248ac06"), looks := true }, kinds := [], alts := [], laidByText := true, laidKinds := [.data, .data, .data], laidTests := true, laidLooks := .later }
def MetreLevelsCardSaid : Prop := Claim7.holds Tryd.pinned (.plain (OpenSpec.ofChange metreLevelsSpec)) metreLevelsCard

/-- THE TIED CARD OF 'hemiolalaw04.MetreChecks'. -/
def metreChecksCard : Claim7 := { stood := { row := metreChecksRow, standIns := [], harness := (true, "497fd3f260c736cf6be963d4045bd170275cbb7384d77385af36a390f248ac06"), looks := true }, kinds := [], alts := [], laidByText := true, laidKinds := [.data, .data, .data], laidTests := true, laidLooks := .later }
def MetreChecksCardSaid : Prop := Claim7.holds Tryd.pinned (.plain (OpenSpec.ofChange metreChecksSpec)) metreChecksCard

/-- THE TIED CARD OF 'hemiolalaw04.MetreSums'. -/
def metreSumsCard : Claim7 := { stood := { row := metreSumsRow, standIns := [], harness := (true, "497fd3f260c736cf6be963d4045bd170275cbb7384d77385af36a390f248ac06"), looks := true }, kinds := [], alts := [], laidByText := true, laidKinds := [.data, .data, .data], laidTests := true, laidLooks := .later }
def MetreSumsCardSaid : Prop := Claim7.holds Tryd.pinned (.plain (OpenSpec.ofChange metreSumsSpec)) metreSumsCard

/-- THE TIED CARD OF 'hemiolalaw04.MetreBeats'. -/
def metreBeatsCard : Claim7 := { stood := { row := metreBeatsRow, standIns := [], harness := (true, "497fd3f260c736cf6be963d4045bd170275cbb7384d77385af36a390f248ac06"), looks := true }, kinds := [], alts := [], laidByText := true, laidKinds := [.data, .data, .data], laidTests := true, laidLooks := .later }
def MetreBeatsCardSaid : Prop := Claim7.holds Tryd.pinned (.plain (OpenSpec.ofChange metreBeatsSpec)) metreBeatsCard

/-- THE TIED CARD OF 'hemiolalaw04.MetreRepeats'. -/
def metreRepeatsCard : Claim7 := { stood := { row := metreRepeatsRow, standIns := [], harness := (true, "497fd3f260c736cf6be963d4045bd170275cbb7384d77385af36a390f248ac06"), looks := true }, kinds := [], alts := [], laidByText := true, laidKinds := [.data, .data, .data], laidTests := true, laidLooks := .later }
def MetreRepeatsCardSaid : Prop := Claim7.holds Tryd.pinned (.plain (OpenSpec.ofChange metreRepeatsSpec)) metreRepeatsCard

/-- THE TIED CARD OF 'hemiolalaw04.MetreTexts'. -/
def metreTextsCard : Claim7 := { stood := { row := metreTextsRow, standIns := [], harness := (true, "497fd3f260c736cf6be963d4045bd170275cbb7384d77385af36a390f248ac06"), looks := true }, kinds := [], alts := [], laidByText := true, laidKinds := [.data, .data, .data, .data, .sentinel, .sentinel, .pinned], laidTests := true, laidLooks := .later }
def MetreTextsCardSaid : Prop := Claim7.holds Tryd.pinned (.plain (OpenSpec.ofChange metreTextsSpec)) metreTextsCard

/-- THE TIED CARD OF 'hemiolalaw04.MetreParses'. -/
def metreParsesCard : Claim7 := { stood := { row := metreParsesRow, standIns := [], harness := (true, "497fd3f260c736cf6be963d4045bd170275cbb7384d77385af36a390f248ac06"), looks := true }, kinds := [], alts := [], laidByText := true, laidKinds := [.data, .data, .data, .data, .sentinel, .sentinel, .pinned], laidTests := true, laidLooks := .later }
def MetreParsesCardSaid : Prop := Claim7.holds Tryd.pinned (.plain (OpenSpec.ofChange metreParsesSpec)) metreParsesCard

/-- THE SECOND FORM's CARD OF 'hemiolalaw04.MetreSplits'. -/
def metreSplitsUptoCard : Claim7 := { stood := { row := metreSplitsUptoRow, standIns := [], harness := (true, "497fd3f260c736cf6be963d4045bd170275cbb7384d77385af36a390f248ac06"), looks := true }, kinds := [], alts := [], laidByText := true, laidKinds := [.data, .data, .data], laidTests := true, laidLooks := .later }
def MetreSplitsUptoCardSaid : Prop := Claim7.holds Tryd.pinned (.plain (OpenSpec.upto metreSplitsSpec)) metreSplitsUptoCard

/-- THE SECOND FORM's CARD OF 'hemiolalaw04.MetreDivides'. -/
def metreDividesUptoCard : Claim7 := { stood := { row := metreDividesUptoRow, standIns := [], harness := (true, "497fd3f260c736cf6be963d4045bd170275cbb7384d77385af36a390f248ac06"), looks := true }, kinds := [], alts := [], laidByText := true, laidKinds := [.data, .data, .data], laidTests := true, laidLooks := .later }
def MetreDividesUptoCardSaid : Prop := Claim7.holds Tryd.pinned (.plain (OpenSpec.upto metreDividesSpec)) metreDividesUptoCard

/-- THE SECOND FORM's CARD OF 'hemiolalaw04.MetreOffsets'. -/
def metreOffsetsUptoCard : Claim7 := { stood := { row := metreOffsetsUptoRow, standIns := [], harness := (true, "497fd3f260c736cf6be963d4045bd170275cbb7384d77385af36a390f248ac06"), looks := true }, kinds := [], alts := [], laidByText := true, laidKinds := [.data, .data, .data], laidTests := true, laidLooks := .later }
def MetreOffsetsUptoCardSaid : Prop := Claim7.holds Tryd.pinned (.plain (OpenSpec.upto metreOffsetsSpec)) metreOffsetsUptoCard

/-- THE SECOND FORM's CARD OF 'hemiolalaw04.MetreLevels'. -/
def metreLevelsUptoCard : Claim7 := { stood := { row := metreLevelsUptoRow, standIns := [], harness := (true, "497fd3f260c736cf6be963d4045bd170275cbb7384d77385af36a390f248ac06"), looks := true }, kinds := [], alts := [], laidByText := true, laidKinds := [.data, .data, .data], laidTests := true, laidLooks := .later }
def MetreLevelsUptoCardSaid : Prop := Claim7.holds Tryd.pinned (.plain (OpenSpec.upto metreLevelsSpec)) metreLevelsUptoCard

/-- THE SECOND FORM's CARD OF 'hemiolalaw04.MetreChecks'. -/
def metreChecksUptoCard : Claim7 := { stood := { row := metreChecksUptoRow, standIns := [], harness := (true, "497fd3f260c736cf6be963d4045bd170275cbb7384d77385af36a390f248ac06"), looks := true }, kinds := [], alts := [], laidByText := true, laidKinds := [.data, .data, .data], laidTests := true, laidLooks := .later }
def MetreChecksUptoCardSaid : Prop := Claim7.holds Tryd.pinned (.plain (OpenSpec.upto metreChecksSpec)) metreChecksUptoCard

/-- THE SECOND FORM's CARD OF 'hemiolalaw04.MetreSums'. -/
def metreSumsUptoCard : Claim7 := { stood := { row := metreSumsUptoRow, standIns := [], harness := (true, "497fd3f260c736cf6be963d4045bd170275cbb7384d77385af36a390f248ac06"), looks := true }, kinds := [], alts := [], laidByText := true, laidKinds := [.data, .data, .data], laidTests := true, laidLooks := .later }
def MetreSumsUptoCardSaid : Prop := Claim7.holds Tryd.pinned (.plain (OpenSpec.upto metreSumsSpec)) metreSumsUptoCard

/-- THE SECOND FORM's CARD OF 'hemiolalaw04.MetreBeats'. -/
def metreBeatsUptoCard : Claim7 := { stood := { row := metreBeatsUptoRow, standIns := [], harness := (true, "497fd3f260c736cf6be963d4045bd170275cbb7384d77385af36a390f248ac06"), looks := true }, kinds := [], alts := [], laidByText := true, laidKinds := [.data, .data, .data], laidTests := true, laidLooks := .later }
def MetreBeatsUptoCardSaid : Prop := Claim7.holds Tryd.pinned (.plain (OpenSpec.upto metreBeatsSpec)) metreBeatsUptoCard

/-- THE SECOND FORM's CARD OF 'hemiolalaw04.MetreRepeats'. -/
def metreRepeatsUptoCard : Claim7 := { stood := { row := metreRepeatsUptoRow, standIns := [], harness := (true, "497fd3f260c736cf6be963d4045bd170275cbb7384d77385af36a390f248ac06"), looks := true }, kinds := [], alts := [], laidByText := true, laidKinds := [.data, .data, .data], laidTests := true, laidLooks := .later }
def MetreRepeatsUptoCardSaid : Prop := Claim7.holds Tryd.pinned (.plain (OpenSpec.upto metreRepeatsSpec)) metreRepeatsUptoCard

/-- THE SECOND FORM's CARD OF 'hemiolalaw04.MetreTexts'. -/
def metreTextsUptoCard : Claim7 := { stood := { row := metreTextsUptoRow, standIns := [], harness := (true, "497fd3f260c736cf6be963d4045bd170275cbb7384d77385af36a390f248ac06"), looks := true }, kinds := [], alts := [], laidByText := true, laidKinds := [.data, .data, .data, .data, .sentinel, .sentinel, .pinned], laidTests := true, laidLooks := .later }
def MetreTextsUptoCardSaid : Prop := Claim7.holds Tryd.pinned (.plain (OpenSpec.upto metreTextsSpec)) metreTextsUptoCard

/-- THE SECOND FORM's CARD OF 'hemiolalaw04.MetreParses'. -/
def metreParsesUptoCard : Claim7 := { stood := { row := metreParsesUptoRow, standIns := [], harness := (true, "497fd3f260c736cf6be963d4045bd170275cbb7384d77385af36a390f248ac06"), looks := true }, kinds := [], alts := [], laidByText := true, laidKinds := [.data, .data, .data, .data, .sentinel, .sentinel, .pinned], laidTests := true, laidLooks := .later }
def MetreParsesUptoCardSaid : Prop := Claim7.holds Tryd.pinned (.plain (OpenSpec.upto metreParsesSpec)) metreParsesUptoCard
end Rows
end Go.Proofs.YtooajpojikkkdaaDoor
