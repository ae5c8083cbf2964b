/-
  DERIVED. GIVEN WITH THE SEED: THE CARDS: each row of YtngapiffgoignaaDoorRows.lean that lists a variable, with what it lists TIED to the program's text (the seventh form; the later family's looks); each row that meets fmt, with fmt's text TOLD by the authors' own Lean function (tested against real Go, not proved from fmt's source: count such statements apart). THE CARD IS WHAT COUNTS. Prove the row's statement (the work); the ties are given (YtngapiffgoignaaDoorTie.lean); close each card by the builder's one call (the guide's Derived/Test/ToyasCard.lean, 'card_holds'). Laid BY PROGRAM, IN A SANDBOX (cutbox-door.mjs). By AI agents, Wed Nov 11 2026. No macro, syntax, notation, axiom, sorry.
-/
import Derived.Test.YtngapiffgoignaaDoorRows
import GoSem.ClaimSeven
namespace Go.Proofs.YtngapiffgoignaaDoor
namespace Rows

/-- THE TIED CARD OF 'hemiolalaw02.DurationAll'. -/
def durationAllCard : Claim7 := { stood := { row := durationAllRow, standIns := [], harness := (true, "cb6de72c2a97eb703799e49d02d0afb434680271af7aa6a815773c476e74f040"), looks := false }, kinds := [], alts := [], laidByText := true, laidKinds := [.data, .data, .data], laidTests := true, laidLooks := .later }
def DurationAllCardSaid : Prop := Claim7.holds Tryd.pinned (.plain (OpenSpec.ofChange durationAllSpec)) durationAllCard

/-- THE TIED CARD OF 'hemiolalaw02.DurationFewest'. -/
def durationFewestCard : Claim7 := { stood := { row := durationFewestRow, standIns := [], harness := (true, "cb6de72c2a97eb703799e49d02d0afb434680271af7aa6a815773c476e74f040"), looks := false }, kinds := [], alts := [], laidByText := true, laidKinds := [.data, .data, .data], laidTests := true, laidLooks := .later }
def DurationFewestCardSaid : Prop := Claim7.holds Tryd.pinned (.plain (OpenSpec.ofChange durationFewestSpec)) durationFewestCard

/-- THE TIED CARD OF 'hemiolalaw02.DurationFlags'. -/
def durationFlagsCard : Claim7 := { stood := { row := durationFlagsRow, standIns := [], harness := (true, "cb6de72c2a97eb703799e49d02d0afb434680271af7aa6a815773c476e74f040"), looks := false }, kinds := [], alts := [], laidByText := true, laidKinds := [.data, .data, .data], laidTests := true, laidLooks := .later }
def DurationFlagsCardSaid : Prop := Claim7.holds Tryd.pinned (.plain (OpenSpec.ofChange durationFlagsSpec)) durationFlagsCard

/-- THE TIED CARD OF 'hemiolalaw02.DurationTicks'. -/
def durationTicksCard : Claim7 := { stood := { row := durationTicksRow, standIns := [], harness := (true, "cb6de72c2a97eb703799e49d02d0afb434680271af7aa6a815773c476e74f040"), looks := false }, kinds := [], alts := [], laidByText := true, laidKinds := [.data, .data, .data], laidTests := true, laidLooks := .later }
def DurationTicksCardSaid : Prop := Claim7.holds Tryd.pinned (.plain (OpenSpec.ofChange durationTicksSpec)) durationTicksCard

/-- THE TIED CARD OF 'hemiolalaw02.DurationFinds'. -/
def durationFindsCard : Claim7 := { stood := { row := durationFindsRow, standIns := [], harness := (true, "cb6de72c2a97eb703799e49d02d0afb434680271af7aa6a815773c476e74f040"), looks := false }, kinds := [], alts := [], laidByText := true, laidKinds := [.data, .data, .data], laidTests := true, laidLooks := .later }
def DurationFindsCardSaid : Prop := Claim7.holds Tryd.pinned (.plain (OpenSpec.ofChange durationFindsSpec)) durationFindsCard

/-- THE TIED CARD OF 'hemiolalaw02.DurationScales'. -/
def durationScalesCard : Claim7 := { stood := { row := durationScalesRow, standIns := [], harness := (true, "cb6de72c2a97eb703799e49d02d0afb434680271af7aa6a815773c476e74f040"), looks := false }, kinds := [], alts := [], laidByText := true, laidKinds := [.data, .data, .data], laidTests := true, laidLooks := .later }
def DurationScalesCardSaid : Prop := Claim7.holds Tryd.pinned (.plain (OpenSpec.ofChange durationScalesSpec)) durationScalesCard

/-- THE TIED CARD OF 'hemiolalaw02.DurationDecomposes'. -/
def durationDecomposesCard : Claim7 := { stood := { row := durationDecomposesRow, standIns := [], harness := (true, "cb6de72c2a97eb703799e49d02d0afb434680271af7aa6a815773c476e74f040"), looks := false }, kinds := [], alts := [], laidByText := true, laidKinds := [.data, .data, .data], laidTests := true, laidLooks := .later }
def DurationDecomposesCardSaid : Prop := Claim7.holds Tryd.pinned (.plain (OpenSpec.ofChange durationDecomposesSpec)) durationDecomposesCard

/-- THE TIED CARD OF 'hemiolalaw02.DurationSums'. -/
def durationSumsCard : Claim7 := { stood := { row := durationSumsRow, standIns := [], harness := (true, "cb6de72c2a97eb703799e49d02d0afb434680271af7aa6a815773c476e74f040"), looks := false }, kinds := [], alts := [], laidByText := true, laidKinds := [.data, .data, .data], laidTests := true, laidLooks := .later }
def DurationSumsCardSaid : Prop := Claim7.holds Tryd.pinned (.plain (OpenSpec.ofChange durationSumsSpec)) durationSumsCard

/-- THE TIED CARD OF 'hemiolalaw02.DurationParses'. -/
def durationParsesCard : Claim7 := { stood := { row := durationParsesRow, standIns := [], harness := (true, "cb6de72c2a97eb703799e49d02d0afb434680271af7aa6a815773c476e74f040"), looks := false }, kinds := [], alts := [], laidByText := true, laidKinds := [.data, .data, .data], laidTests := true, laidLooks := .later }
def DurationParsesCardSaid : Prop := Claim7.holds Tryd.pinned (.plain (OpenSpec.ofChange durationParsesSpec)) durationParsesCard

/-- THE TIED CARD OF 'hemiolalaw02.DurationTexts'. -/
def durationTextsCard : Claim7 := { stood := { row := durationTextsRow, standIns := [], harness := (true, "cb6de72c2a97eb703799e49d02d0afb434680271af7aa6a815773c476e74f040"), looks := false }, kinds := [], alts := [], laidByText := true, laidKinds := [.data, .data, .data], laidTests := true, laidLooks := .later }
def DurationTextsCardSaid : Prop := Claim7.holds Tryd.pinned (.plain (OpenSpec.ofChange durationTextsSpec)) durationTextsCard

/-- THE SECOND FORM's CARD OF 'hemiolalaw02.DurationAll'. -/
def durationAllUptoCard : Claim7 := { stood := { row := durationAllUptoRow, standIns := [], harness := (true, "cb6de72c2a97eb703799e49d02d0afb434680271af7aa6a815773c476e74f040"), looks := false }, kinds := [], alts := [], laidByText := true, laidKinds := [.data, .data, .data], laidTests := true, laidLooks := .later }
def DurationAllUptoCardSaid : Prop := Claim7.holds Tryd.pinned (.plain (OpenSpec.upto durationAllSpec)) durationAllUptoCard

/-- THE SECOND FORM's CARD OF 'hemiolalaw02.DurationFewest'. -/
def durationFewestUptoCard : Claim7 := { stood := { row := durationFewestUptoRow, standIns := [], harness := (true, "cb6de72c2a97eb703799e49d02d0afb434680271af7aa6a815773c476e74f040"), looks := false }, kinds := [], alts := [], laidByText := true, laidKinds := [.data, .data, .data], laidTests := true, laidLooks := .later }
def DurationFewestUptoCardSaid : Prop := Claim7.holds Tryd.pinned (.plain (OpenSpec.upto durationFewestSpec)) durationFewestUptoCard

/-- THE SECOND FORM's CARD OF 'hemiolalaw02.DurationFlags'. -/
def durationFlagsUptoCard : Claim7 := { stood := { row := durationFlagsUptoRow, standIns := [], harness := (true, "cb6de72c2a97eb703799e49d02d0afb434680271af7aa6a815773c476e74f040"), looks := false }, kinds := [], alts := [], laidByText := true, laidKinds := [.data, .data, .data], laidTests := true, laidLooks := .later }
def DurationFlagsUptoCardSaid : Prop := Claim7.holds Tryd.pinned (.plain (OpenSpec.upto durationFlagsSpec)) durationFlagsUptoCard

/-- THE SECOND FORM's CARD OF 'hemiolalaw02.DurationTicks'. -/
def durationTicksUptoCard : Claim7 := { stood := { row := durationTicksUptoRow, standIns := [], harness := (true, "cb6de72c2a97eb703799e49d02d0afb434680271af7aa6a815773c476e74f040"), looks := false }, kinds := [], alts := [], laidByText := true, laidKinds := [.data, .data, .data], laidTests := true, laidLooks := .later }
def DurationTicksUptoCardSaid : Prop := Claim7.holds Tryd.pinned (.plain (OpenSpec.upto durationTicksSpec)) durationTicksUptoCard

/-- THE SECOND FORM's CARD OF 'hemiolalaw02.DurationFinds'. -/
def durationFindsUptoCard : Claim7 := { stood := { row := durationFindsUptoRow, standIns := [], harness := (true, "cb6de72c2a97eb703799e49d02d0afb434680271af7aa6a815773c476e74f040"), looks := false }, kinds := [], alts := [], laidByText := true, laidKinds := [.data, .data, .data], laidTests := true, laidLooks := .later }
def DurationFindsUptoCardSaid : Prop := Claim7.holds Tryd.pinned (.plain (OpenSpec.upto durationFindsSpec)) durationFindsUptoCard

/-- THE SECOND FORM's CARD OF 'hemiolalaw02.DurationScales'. -/
def durationScalesUptoCard : Claim7 := { stood := { row := durationScalesUptoRow, standIns := [], harness := (true, "cb6de72c2a97eb703799e49d02d0afb434680271af7aa6a815773c476e74f040"), looks := false }, kinds := [], alts := [], laidByText := true, laidKinds := [.data, .data, .data], laidTests := true, laidLooks := .later }
def DurationScalesUptoCardSaid : Prop := Claim7.holds Tryd.pinned (.plain (OpenSpec.upto durationScalesSpec)) durationScalesUptoCard

/-- THE SECOND FORM's CARD OF 'hemiolalaw02.DurationDecomposes'. -/
def durationDecomposesUptoCard : Claim7 := { stood := { row := durationDecomposesUptoRow, standIns := [], harness := (true, "cb6de72c2a97eb703799e49d02d0afb434680271af7aa6a815773c476e74f040"), looks := false }, kinds := [], alts := [], laidByText := true, laidKinds := [.data, .data, .data], laidTests := true, laidLooks := .later }
def DurationDecomposesUptoCardSaid : Prop := Claim7.holds Tryd.pinned (.plain (OpenSpec.upto durationDecomposesSpec)) durationDecomposesUptoCard

/-- THE SECOND FORM's CARD OF 'hemiolalaw02.DurationSums'. -/
def durationSumsUptoCard : Claim7 := { stood := { row := durationSumsUptoRow, standIns := [], harness := (true, "cb6de72c2a97eb703799e49d02d0afb434680271af7aa6a815773c476e74f040"), looks := false }, kinds := [], alts := [], laidByText := true, laidKinds := [.data, .data, .data], laidTests := true, laidLooks := .later }
def DurationSumsUptoCardSaid : Prop := Claim7.holds Tryd.pinned (.plain (OpenSpec.upto durationSumsSpec)) durationSumsUptoCard

/-- THE SECOND FORM's CARD OF 'hemiolalaw02.DurationParses'. -/
def durationParsesUptoCard : Claim7 := { stood := { row := durationParsesUptoRow, standIns := [], harness := (true, "cb6de72c2a97eb703799e49d02d0afb434680271af7aa6a815773c476e74f040"), looks := false }, kinds := [], alts := [], laidByText := true, laidKinds := [.data, .data, .data], laidTests := true, laidLooks := .later }
def DurationParsesUptoCardSaid : Prop := Claim7.holds Tryd.pinned (.plain (OpenSpec.upto durationParsesSpec)) durationParsesUptoCard

/-- THE SECOND FORM's CARD OF 'hemiolalaw02.DurationTexts'. -/
def durationTextsUptoCard : Claim7 := { stood := { row := durationTextsUptoRow, standIns := [], harness := (true, "cb6de72c2a97eb703799e49d02d0afb434680271af7aa6a815773c476e74f040"), looks := false }, kinds := [], alts := [], laidByText := true, laidKinds := [.data, .data, .data], laidTests := true, laidLooks := .later }
def DurationTextsUptoCardSaid : Prop := Claim7.holds Tryd.pinned (.plain (OpenSpec.upto durationTextsSpec)) durationTextsUptoCard
end Rows
end Go.Proofs.YtngapiffgoignaaDoor
