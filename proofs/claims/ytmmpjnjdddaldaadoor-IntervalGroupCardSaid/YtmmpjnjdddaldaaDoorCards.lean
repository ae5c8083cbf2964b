/-
  DERIVED. GIVEN WITH THE SEED: THE CARDS: each row of YtmmpjnjdddaldaaDoorRows.lean that lists a variable, with what it lists TIED to the program's text (the seventh form; the later family's looks); each row that meets fmt, with fmt's text TOLD by the authors' own Lean function (tested against real Go, not proved from fmt's source: count such statements apart). THE CARD IS WHAT COUNTS. Prove the row's statement (the work); the ties are given (YtmmpjnjdddaldaaDoorTie.lean); close each card by the builder's one call (the guide's Derived/Test/ToyasCard.lean, 'card_holds'). Laid BY PROGRAM, IN A SANDBOX (cutbox-door.mjs). By AI agents, Wed Nov 11 2026. No macro, syntax, notation, axiom, sorry.
-/
import Derived.Test.YtmmpjnjdddaldaaDoorRows
import GoSem.ClaimSeven
namespace Go.Proofs.YtmmpjnjdddaldaaDoor
namespace Rows

/-- THE TIED CARD OF 'hemiolalaw06.IntervalTransposes'. -/
def intervalTransposesCard : Claim7 := { stood := { row := intervalTransposesRow, standIns := [], harness := (true, "37dbcdbe293f4c9e6d83a2fb54125cf61ce7055996eae6a7a73bff66c2c8918c"), looks := false }, kinds := [], alts := [], laidByText := true, laidKinds := [.data, .data, .data], laidTests := true, laidLooks := .later }
def IntervalTransposesCardSaid : Prop := Claim7.holds Tryd.pinned (.plain (OpenSpec.ofChange intervalTransposesSpec)) intervalTransposesCard

/-- THE TIED CARD OF 'hemiolalaw06.IntervalEnharmonics'. -/
def intervalEnharmonicsCard : Claim7 := { stood := { row := intervalEnharmonicsRow, standIns := [], harness := (true, "37dbcdbe293f4c9e6d83a2fb54125cf61ce7055996eae6a7a73bff66c2c8918c"), looks := false }, kinds := [], alts := [], laidByText := true, laidKinds := [.data, .data, .data], laidTests := true, laidLooks := .later }
def IntervalEnharmonicsCardSaid : Prop := Claim7.holds Tryd.pinned (.plain (OpenSpec.ofChange intervalEnharmonicsSpec)) intervalEnharmonicsCard

/-- THE TIED CARD OF 'hemiolalaw06.IntervalAdds'. -/
def intervalAddsCard : Claim7 := { stood := { row := intervalAddsRow, standIns := [], harness := (true, "37dbcdbe293f4c9e6d83a2fb54125cf61ce7055996eae6a7a73bff66c2c8918c"), looks := false }, kinds := [], alts := [], laidByText := true, laidKinds := [.data, .data, .data], laidTests := true, laidLooks := .later }
def IntervalAddsCardSaid : Prop := Claim7.holds Tryd.pinned (.plain (OpenSpec.ofChange intervalAddsSpec)) intervalAddsCard

/-- THE TIED CARD OF 'hemiolalaw06.IntervalGroup'. -/
def intervalGroupCard : Claim7 := { stood := { row := intervalGroupRow, standIns := [], harness := (true, "37dbcdbe293f4c9e6d83a2fb54125cf61ce7055996eae6a7a73bff66c2c8918c"), looks := false }, kinds := [], alts := [], laidByText := true, laidKinds := [.data, .data, .data], laidTests := true, laidLooks := .later }
def IntervalGroupCardSaid : Prop := Claim7.holds Tryd.pinned (.plain (OpenSpec.ofChange intervalGroupSpec)) intervalGroupCard

/-- THE TIED CARD OF 'hemiolalaw06.IntervalBetween'. -/
def intervalBetweenCard : Claim7 := { stood := { row := intervalBetweenRow, standIns := [], harness := (true, "37dbcdbe293f4c9e6d83a2fb54125cf61ce7055996eae6a7a73bff66c2c8918c"), looks := false }, kinds := [], alts := [], laidByText := true, laidKinds := [.data, .data, .data], laidTests := true, laidLooks := .later }
def IntervalBetweenCardSaid : Prop := Claim7.holds Tryd.pinned (.plain (OpenSpec.ofChange intervalBetweenSpec)) intervalBetweenCard

/-- THE TIED CARD OF 'hemiolalaw06.IntervalExact'. -/
def intervalExactCard : Claim7 := { stood := { row := intervalExactRow, standIns := [], harness := (true, "37dbcdbe293f4c9e6d83a2fb54125cf61ce7055996eae6a7a73bff66c2c8918c"), looks := false }, kinds := [], alts := [], laidByText := true, laidKinds := [.data, .data, .data], laidTests := true, laidLooks := .later }
def IntervalExactCardSaid : Prop := Claim7.holds Tryd.pinned (.plain (OpenSpec.ofChange intervalExactSpec)) intervalExactCard

/-- THE TIED CARD OF 'hemiolalaw06.IntervalActs'. -/
def intervalActsCard : Claim7 := { stood := { row := intervalActsRow, standIns := [], harness := (true, "37dbcdbe293f4c9e6d83a2fb54125cf61ce7055996eae6a7a73bff66c2c8918c"), looks := false }, kinds := [], alts := [], laidByText := true, laidKinds := [.data, .data, .data], laidTests := true, laidLooks := .later }
def IntervalActsCardSaid : Prop := Claim7.holds Tryd.pinned (.plain (OpenSpec.ofChange intervalActsSpec)) intervalActsCard

/-- THE TIED CARD OF 'hemiolalaw06.IntervalQualities'. -/
def intervalQualitiesCard : Claim7 := { stood := { row := intervalQualitiesRow, standIns := [], harness := (true, "37dbcdbe293f4c9e6d83a2fb54125cf61ce7055996eae6a7a73bff66c2c8918c"), looks := false }, kinds := [], alts := [], laidByText := true, laidKinds := [.data, .data, .data], laidTests := true, laidLooks := .later }
def IntervalQualitiesCardSaid : Prop := Claim7.holds Tryd.pinned (.plain (OpenSpec.ofChange intervalQualitiesSpec)) intervalQualitiesCard

/-- THE SECOND FORM's CARD OF 'hemiolalaw06.IntervalTransposes'. -/
def intervalTransposesUptoCard : Claim7 := { stood := { row := intervalTransposesUptoRow, standIns := [], harness := (true, "37dbcdbe293f4c9e6d83a2fb54125cf61ce7055996eae6a7a73bff66c2c8918c"), looks := false }, kinds := [], alts := [], laidByText := true, laidKinds := [.data, .data, .data], laidTests := true, laidLooks := .later }
def IntervalTransposesUptoCardSaid : Prop := Claim7.holds Tryd.pinned (.plain (OpenSpec.upto intervalTransposesSpec)) intervalTransposesUptoCard

/-- THE SECOND FORM's CARD OF 'hemiolalaw06.IntervalEnharmonics'. -/
def intervalEnharmonicsUptoCard : Claim7 := { stood := { row := intervalEnharmonicsUptoRow, standIns := [], harness := (true, "37dbcdbe293f4c9e6d83a2fb54125cf61ce7055996eae6a7a73bff66c2c8918c"), looks := false }, kinds := [], alts := [], laidByText := true, laidKinds := [.data, .data, .data], laidTests := true, laidLooks := .later }
def IntervalEnharmonicsUptoCardSaid : Prop := Claim7.holds Tryd.pinned (.plain (OpenSpec.upto intervalEnharmonicsSpec)) intervalEnharmonicsUptoCard

/-- THE SECOND FORM's CARD OF 'hemiolalaw06.IntervalAdds'. -/
def intervalAddsUptoCard : Claim7 := { stood := { row := intervalAddsUptoRow, standIns := [], harness := (true, "37dbcdbe293f4c9e6d83a2fb54125cf61ce7055996eae6a7a73bff66c2c8918c"), looks := false }, kinds := [], alts := [], laidByText := true, laidKinds := [.data, .data, .data], laidTests := true, laidLooks := .later }
def IntervalAddsUptoCardSaid : Prop := Claim7.holds Tryd.pinned (.plain (OpenSpec.upto intervalAddsSpec)) intervalAddsUptoCard

/-- THE SECOND FORM's CARD OF 'hemiolalaw06.IntervalGroup'. -/
def intervalGroupUptoCard : Claim7 := { stood := { row := intervalGroupUptoRow, standIns := [], harness := (true, "37dbcdbe293f4c9e6d83a2fb54125cf61ce7055996eae6a7a73bff66c2c8918c"), looks := false }, kinds := [], alts := [], laidByText := true, laidKinds := [.data, .data, .data], laidTests := true, laidLooks := .later }
def IntervalGroupUptoCardSaid : Prop := Claim7.holds Tryd.pinned (.plain (OpenSpec.upto intervalGroupSpec)) intervalGroupUptoCard

/-- THE SECOND FORM's CARD OF 'hemiolalaw06.IntervalBetween'. -/
def intervalBetweenUptoCard : Claim7 := { stood := { row := intervalBetweenUptoRow, standIns := [], harness := (true, "37dbcdbe293f4c9e6d83a2fb54125cf61ce7055996eae6a7a73bff66c2c8918c"), looks := false }, kinds := [], alts := [], laidByText := true, laidKinds := [.data, .data, .data], laidTests := true, laidLooks := .later }
def IntervalBetweenUptoCardSaid : Prop := Claim7.holds Tryd.pinned (.plain (OpenSpec.upto intervalBetweenSpec)) intervalBetweenUptoCard

/-- THE SECOND FORM's CARD OF 'hemiolalaw06.IntervalExact'. -/
def intervalExactUptoCard : Claim7 := { stood := { row := intervalExactUptoRow, standIns := [], harness := (true, "37dbcdbe293f4c9e6d83a2fb54125cf61ce7055996eae6a7a73bff66c2c8918c"), looks := false }, kinds := [], alts := [], laidByText := true, laidKinds := [.data, .data, .data], laidTests := true, laidLooks := .later }
def IntervalExactUptoCardSaid : Prop := Claim7.holds Tryd.pinned (.plain (OpenSpec.upto intervalExactSpec)) intervalExactUptoCard

/-- THE SECOND FORM's CARD OF 'hemiolalaw06.IntervalActs'. -/
def intervalActsUptoCard : Claim7 := { stood := { row := intervalActsUptoRow, standIns := [], harness := (true, "37dbcdbe293f4c9e6d83a2fb54125cf61ce7055996eae6a7a73bff66c2c8918c"), looks := false }, kinds := [], alts := [], laidByText := true, laidKinds := [.data, .data, .data], laidTests := true, laidLooks := .later }
def IntervalActsUptoCardSaid : Prop := Claim7.holds Tryd.pinned (.plain (OpenSpec.upto intervalActsSpec)) intervalActsUptoCard

/-- THE SECOND FORM's CARD OF 'hemiolalaw06.IntervalQualities'. -/
def intervalQualitiesUptoCard : Claim7 := { stood := { row := intervalQualitiesUptoRow, standIns := [], harness := (true, "37dbcdbe293f4c9e6d83a2fb54125cf61ce7055996eae6a7a73bff66c2c8918c"), looks := false }, kinds := [], alts := [], laidByText := true, laidKinds := [.data, .data, .data], laidTests := true, laidLooks := .later }
def IntervalQualitiesUptoCardSaid : Prop := Claim7.holds Tryd.pinned (.plain (OpenSpec.upto intervalQualitiesSpec)) intervalQualitiesUptoCard
end Rows
end Go.Proofs.YtmmpjnjdddaldaaDoor
