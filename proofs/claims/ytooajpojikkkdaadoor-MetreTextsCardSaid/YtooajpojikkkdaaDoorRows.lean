/-
  NARROWER THAN 'FOR EVERY INPUT', by the rows' own cells (each row's printed sentence says how): MetreSplits: laid · MetreDivides: laid · MetreOffsets: laid · MetreLevels: laid · MetreChecks: laid · MetreSums: laid · MetreBeats: laid · MetreRepeats: laid · MetreTexts: laid · MetreParses: laid.
  DERIVED. THE GIVEN ROWS OF THIS SEAT. 10 by the template 'for every input the law returns true; each argument reads behind the call as it read before'; 0 by the template 'total and deterministic' (their statements: YtooajpojikkkdaaDoorTotals.lean).
  GIVEN WITH THE SEED: the statements are not yours to turn. If you find one false, say at which input.
  Laid BY PROGRAM, IN A SANDBOX (cutbox-rows.mjs): the forced cells as the released guide's own fill.sh prints them over the translation 50c56a983d1d7035… (all of the seat's roots in one cut). By AI agents, Wed Nov 11 2026. No macro, syntax, notation, axiom, sorry.
-/
import Derived.Test.YtooajpojikkkdaaDoorChecked
import GoSem.PinnedTables
import GoSem.Claim
import GoSem.ClaimJoined
import GoSem.ClaimMapViews
import Derived.JoinedTies
import Derived.KernelRfl
namespace Go.Proofs.YtooajpojikkkdaaDoor
/- THE CELL 'sum', in the pinned program and in every row, IS THE sha256 OF THE DUMP (.gsa) THAT YtooajpojikkkdaaDoorProg.lean LOADS. Nothing in Lean hashes anything: it is a label: what it is worth is what the hold of that sum in a sandbox is worth. -/
noncomputable def Tryd.pinned : Pinned := { name := "ytooajpojikkkdaadoor", sum := "50c56a983d1d703563b07af2c8182f39fd8dff3734dfbc6cb20e983cbbb78b75", checked := Tryd.checked }
namespace Rows
def none {H : Type} : Left H := { results := [], args := [] }

/- WHAT THE LISTED PACKAGE-LEVEL VARIABLES READ AS WHEN THE CALL BEGINS. Each datum BY PROGRAM (the guide's laid-datum.mjs) off the statement by which the dump's own 'gosem.cut.vars' lays the variable. In a bare row this is a premise. The card (YtooajpojikkkdaaDoorCards.lean) ties it to the program's text. -/
def laid_math_bits_deBruijn32tab {H : Type} : DataW H := .agg [.lit (.int .u8 0), .lit (.int .u8 1), .lit (.int .u8 28), .lit (.int .u8 2), .lit (.int .u8 29), .lit (.int .u8 14), .lit (.int .u8 24), .lit (.int .u8 3), .lit (.int .u8 30), .lit (.int .u8 22), .lit (.int .u8 20), .lit (.int .u8 15), .lit (.int .u8 25), .lit (.int .u8 17), .lit (.int .u8 4), .lit (.int .u8 8), .lit (.int .u8 31), .lit (.int .u8 27), .lit (.int .u8 13), .lit (.int .u8 23), .lit (.int .u8 21), .lit (.int .u8 19), .lit (.int .u8 16), .lit (.int .u8 7), .lit (.int .u8 26), .lit (.int .u8 12), .lit (.int .u8 18), .lit (.int .u8 6), .lit (.int .u8 11), .lit (.int .u8 5), .lit (.int .u8 10), .lit (.int .u8 9)]
def laid_math_bits_deBruijn64tab {H : Type} : DataW H := .agg [.lit (.int .u8 0), .lit (.int .u8 1), .lit (.int .u8 56), .lit (.int .u8 2), .lit (.int .u8 57), .lit (.int .u8 49), .lit (.int .u8 28), .lit (.int .u8 3), .lit (.int .u8 61), .lit (.int .u8 58), .lit (.int .u8 42), .lit (.int .u8 50), .lit (.int .u8 38), .lit (.int .u8 29), .lit (.int .u8 17), .lit (.int .u8 4), .lit (.int .u8 62), .lit (.int .u8 47), .lit (.int .u8 59), .lit (.int .u8 36), .lit (.int .u8 45), .lit (.int .u8 43), .lit (.int .u8 51), .lit (.int .u8 22), .lit (.int .u8 53), .lit (.int .u8 39), .lit (.int .u8 33), .lit (.int .u8 30), .lit (.int .u8 24), .lit (.int .u8 18), .lit (.int .u8 12), .lit (.int .u8 5), .lit (.int .u8 63), .lit (.int .u8 55), .lit (.int .u8 48), .lit (.int .u8 27), .lit (.int .u8 60), .lit (.int .u8 41), .lit (.int .u8 37), .lit (.int .u8 16), .lit (.int .u8 46), .lit (.int .u8 35), .lit (.int .u8 44), .lit (.int .u8 21), .lit (.int .u8 52), .lit (.int .u8 32), .lit (.int .u8 23), .lit (.int .u8 11), .lit (.int .u8 54), .lit (.int .u8 26), .lit (.int .u8 40), .lit (.int .u8 15), .lit (.int .u8 34), .lit (.int .u8 20), .lit (.int .u8 31), .lit (.int .u8 10), .lit (.int .u8 25), .lit (.int .u8 14), .lit (.int .u8 19), .lit (.int .u8 9), .lit (.int .u8 13), .lit (.int .u8 8), .lit (.int .u8 7), .lit (.int .u8 6)]
def laid_internal_strconv_uint64pow10 {H : Type} : DataW H := .agg [.lit (.int .u64 1), .lit (.int .u64 10), .lit (.int .u64 100), .lit (.int .u64 1000), .lit (.int .u64 10000), .lit (.int .u64 100000), .lit (.int .u64 1000000), .lit (.int .u64 10000000), .lit (.int .u64 100000000), .lit (.int .u64 1000000000), .lit (.int .u64 10000000000), .lit (.int .u64 100000000000), .lit (.int .u64 1000000000000), .lit (.int .u64 10000000000000), .lit (.int .u64 100000000000000), .lit (.int .u64 1000000000000000), .lit (.int .u64 10000000000000000), .lit (.int .u64 100000000000000000), .lit (.int .u64 1000000000000000000), .lit (.int .u64 10000000000000000000)]
def laid_unicode_utf8_acceptRanges {H : Type} : DataW H := .agg [.agg [.lit (.int .u8 128), .lit (.int .u8 191)], .agg [.lit (.int .u8 160), .lit (.int .u8 191)], .agg [.lit (.int .u8 128), .lit (.int .u8 159)], .agg [.lit (.int .u8 144), .lit (.int .u8 191)], .agg [.lit (.int .u8 128), .lit (.int .u8 143)], .agg [.lit (.int .u8 0), .lit (.int .u8 0)], .agg [.lit (.int .u8 0), .lit (.int .u8 0)], .agg [.lit (.int .u8 0), .lit (.int .u8 0)], .agg [.lit (.int .u8 0), .lit (.int .u8 0)], .agg [.lit (.int .u8 0), .lit (.int .u8 0)], .agg [.lit (.int .u8 0), .lit (.int .u8 0)], .agg [.lit (.int .u8 0), .lit (.int .u8 0)], .agg [.lit (.int .u8 0), .lit (.int .u8 0)], .agg [.lit (.int .u8 0), .lit (.int .u8 0)], .agg [.lit (.int .u8 0), .lit (.int .u8 0)], .agg [.lit (.int .u8 0), .lit (.int .u8 0)]]
def laid_strconv_ErrRange {H : Type} : DataW H := .iface "*errors.errorString" (.ptr (.agg [.lit (.string [118, 97, 108, 117, 101, 32, 111, 117, 116, 32, 111, 102, 32, 114, 97, 110, 103, 101])]))
def laid_strconv_ErrSyntax {H : Type} : DataW H := .iface "*errors.errorString" (.ptr (.agg [.lit (.string [105, 110, 118, 97, 108, 105, 100, 32, 115, 121, 110, 116, 97, 120])]))
/-- One of Go's own tables, pinned by name: the form's constant. -/
def laid_unicode_utf8_first : DataW Unit := Go.Pinned.utf8First

/-- 'hemiolalaw04.MetreSplits': WHATEVER THE INPUT: true; the input reads as it did. -/
def metreSplitsSpec : ChangeSpec := { name := "metreSplits", fn := fun _ => fun
  | [d1, d2, d3] => { results := [.lit (.bool true)], args := [d1, d2, d3] }
  | _ => none }
def metreSplitsRow : OpenClaim := { program := "ytooajpojikkkdaadoor", sum := "50c56a983d1d703563b07af2c8182f39fd8dff3734dfbc6cb20e983cbbb78b75", func := "hemiola/hemiolalaw04.MetreSplits", spec := "metreSplits", inPlace := ["internal/abi.NoEscape", "internal/bytealg.MakeNoZero"], unfollowed := true, recurses := true, named := ["internal/strconv.uint64pow10", "math/bits.deBruijn32tab", "math/bits.deBruijn64tab"], apart := false, laid := [("math/bits.deBruijn32tab", laid_math_bits_deBruijn32tab), ("math/bits.deBruijn64tab", laid_math_bits_deBruijn64tab), ("internal/strconv.uint64pow10", laid_internal_strconv_uint64pow10)] }
def MetreSplitsSaid : Prop := metreSplitsRow.holds Tryd.pinned (OpenSpec.ofChange metreSplitsSpec)

/-- ITS FALSE NEIGHBOUR: 'it returns false'. Refute it at one input. -/
def metreSplitsWrong : ChangeSpec := { name := "metreSplits", fn := fun _ => fun
  | [d1, d2, d3] => { results := [.lit (.bool false)], args := [d1, d2, d3] }
  | _ => none }
def MetreSplitsWrongFalsely : Prop := metreSplitsRow.holds Tryd.pinned (OpenSpec.ofChange metreSplitsWrong)

/-- 'hemiolalaw04.MetreDivides': WHATEVER THE INPUT: true; the input reads as it did. -/
def metreDividesSpec : ChangeSpec := { name := "metreDivides", fn := fun _ => fun
  | [d1, d2, d3] => { results := [.lit (.bool true)], args := [d1, d2, d3] }
  | _ => none }
def metreDividesRow : OpenClaim := { program := "ytooajpojikkkdaadoor", sum := "50c56a983d1d703563b07af2c8182f39fd8dff3734dfbc6cb20e983cbbb78b75", func := "hemiola/hemiolalaw04.MetreDivides", spec := "metreDivides", inPlace := ["internal/abi.NoEscape", "internal/bytealg.MakeNoZero"], unfollowed := true, recurses := true, named := ["internal/strconv.uint64pow10", "math/bits.deBruijn32tab", "math/bits.deBruijn64tab"], apart := false, laid := [("math/bits.deBruijn32tab", laid_math_bits_deBruijn32tab), ("math/bits.deBruijn64tab", laid_math_bits_deBruijn64tab), ("internal/strconv.uint64pow10", laid_internal_strconv_uint64pow10)] }
def MetreDividesSaid : Prop := metreDividesRow.holds Tryd.pinned (OpenSpec.ofChange metreDividesSpec)

/-- ITS FALSE NEIGHBOUR: 'it returns false'. Refute it at one input. -/
def metreDividesWrong : ChangeSpec := { name := "metreDivides", fn := fun _ => fun
  | [d1, d2, d3] => { results := [.lit (.bool false)], args := [d1, d2, d3] }
  | _ => none }
def MetreDividesWrongFalsely : Prop := metreDividesRow.holds Tryd.pinned (OpenSpec.ofChange metreDividesWrong)

/-- 'hemiolalaw04.MetreOffsets': WHATEVER THE INPUT: true; the input reads as it did. -/
def metreOffsetsSpec : ChangeSpec := { name := "metreOffsets", fn := fun _ => fun
  | [d1, d2] => { results := [.lit (.bool true)], args := [d1, d2] }
  | _ => none }
def metreOffsetsRow : OpenClaim := { program := "ytooajpojikkkdaadoor", sum := "50c56a983d1d703563b07af2c8182f39fd8dff3734dfbc6cb20e983cbbb78b75", func := "hemiola/hemiolalaw04.MetreOffsets", spec := "metreOffsets", inPlace := ["internal/abi.NoEscape", "internal/bytealg.MakeNoZero"], unfollowed := true, recurses := true, named := ["internal/strconv.uint64pow10", "math/bits.deBruijn32tab", "math/bits.deBruijn64tab"], apart := false, laid := [("math/bits.deBruijn32tab", laid_math_bits_deBruijn32tab), ("math/bits.deBruijn64tab", laid_math_bits_deBruijn64tab), ("internal/strconv.uint64pow10", laid_internal_strconv_uint64pow10)] }
def MetreOffsetsSaid : Prop := metreOffsetsRow.holds Tryd.pinned (OpenSpec.ofChange metreOffsetsSpec)

/-- ITS FALSE NEIGHBOUR: 'it returns false'. Refute it at one input. -/
def metreOffsetsWrong : ChangeSpec := { name := "metreOffsets", fn := fun _ => fun
  | [d1, d2] => { results := [.lit (.bool false)], args := [d1, d2] }
  | _ => none }
def MetreOffsetsWrongFalsely : Prop := metreOffsetsRow.holds Tryd.pinned (OpenSpec.ofChange metreOffsetsWrong)

/-- 'hemiolalaw04.MetreLevels': WHATEVER THE INPUT: true; the input reads as it did. -/
def metreLevelsSpec : ChangeSpec := { name := "metreLevels", fn := fun _ => fun
  | [d1, d2] => { results := [.lit (.bool true)], args := [d1, d2] }
  | _ => none }
def metreLevelsRow : OpenClaim := { program := "ytooajpojikkkdaadoor", sum := "50c56a983d1d703563b07af2c8182f39fd8dff3734dfbc6cb20e983cbbb78b75", func := "hemiola/hemiolalaw04.MetreLevels", spec := "metreLevels", inPlace := ["internal/abi.NoEscape", "internal/bytealg.MakeNoZero"], unfollowed := true, recurses := true, named := ["internal/strconv.uint64pow10", "math/bits.deBruijn32tab", "math/bits.deBruijn64tab"], apart := false, laid := [("math/bits.deBruijn32tab", laid_math_bits_deBruijn32tab), ("math/bits.deBruijn64tab", laid_math_bits_deBruijn64tab), ("internal/strconv.uint64pow10", laid_internal_strconv_uint64pow10)] }
def MetreLevelsSaid : Prop := metreLevelsRow.holds Tryd.pinned (OpenSpec.ofChange metreLevelsSpec)

/-- ITS FALSE NEIGHBOUR: 'it returns false'. Refute it at one input. -/
def metreLevelsWrong : ChangeSpec := { name := "metreLevels", fn := fun _ => fun
  | [d1, d2] => { results := [.lit (.bool false)], args := [d1, d2] }
  | _ => none }
def MetreLevelsWrongFalsely : Prop := metreLevelsRow.holds Tryd.pinned (OpenSpec.ofChange metreLevelsWrong)

/-- 'hemiolalaw04.MetreChecks': WHATEVER THE INPUT: true; the input reads as it did. -/
def metreChecksSpec : ChangeSpec := { name := "metreChecks", fn := fun _ => fun
  | [d] => { results := [.lit (.bool true)], args := [d] }
  | _ => none }
def metreChecksRow : OpenClaim := { program := "ytooajpojikkkdaadoor", sum := "50c56a983d1d703563b07af2c8182f39fd8dff3734dfbc6cb20e983cbbb78b75", func := "hemiola/hemiolalaw04.MetreChecks", spec := "metreChecks", inPlace := ["internal/abi.NoEscape", "internal/bytealg.MakeNoZero"], unfollowed := true, recurses := true, named := ["internal/strconv.uint64pow10", "math/bits.deBruijn32tab", "math/bits.deBruijn64tab"], apart := false, laid := [("math/bits.deBruijn32tab", laid_math_bits_deBruijn32tab), ("math/bits.deBruijn64tab", laid_math_bits_deBruijn64tab), ("internal/strconv.uint64pow10", laid_internal_strconv_uint64pow10)] }
def MetreChecksSaid : Prop := metreChecksRow.holds Tryd.pinned (OpenSpec.ofChange metreChecksSpec)

/-- ITS FALSE NEIGHBOUR: 'it returns false'. Refute it at one input. -/
def metreChecksWrong : ChangeSpec := { name := "metreChecks", fn := fun _ => fun
  | [d] => { results := [.lit (.bool false)], args := [d] }
  | _ => none }
def MetreChecksWrongFalsely : Prop := metreChecksRow.holds Tryd.pinned (OpenSpec.ofChange metreChecksWrong)

/-- 'hemiolalaw04.MetreSums': WHATEVER THE INPUT: true; the input reads as it did. -/
def metreSumsSpec : ChangeSpec := { name := "metreSums", fn := fun _ => fun
  | [d1, d2, d3] => { results := [.lit (.bool true)], args := [d1, d2, d3] }
  | _ => none }
def metreSumsRow : OpenClaim := { program := "ytooajpojikkkdaadoor", sum := "50c56a983d1d703563b07af2c8182f39fd8dff3734dfbc6cb20e983cbbb78b75", func := "hemiola/hemiolalaw04.MetreSums", spec := "metreSums", inPlace := ["internal/abi.NoEscape", "internal/bytealg.MakeNoZero"], unfollowed := true, recurses := true, named := ["internal/strconv.uint64pow10", "math/bits.deBruijn32tab", "math/bits.deBruijn64tab"], apart := false, laid := [("math/bits.deBruijn32tab", laid_math_bits_deBruijn32tab), ("math/bits.deBruijn64tab", laid_math_bits_deBruijn64tab), ("internal/strconv.uint64pow10", laid_internal_strconv_uint64pow10)] }
def MetreSumsSaid : Prop := metreSumsRow.holds Tryd.pinned (OpenSpec.ofChange metreSumsSpec)

/-- ITS FALSE NEIGHBOUR: 'it returns false'. Refute it at one input. -/
def metreSumsWrong : ChangeSpec := { name := "metreSums", fn := fun _ => fun
  | [d1, d2, d3] => { results := [.lit (.bool false)], args := [d1, d2, d3] }
  | _ => none }
def MetreSumsWrongFalsely : Prop := metreSumsRow.holds Tryd.pinned (OpenSpec.ofChange metreSumsWrong)

/-- 'hemiolalaw04.MetreBeats': WHATEVER THE INPUT: true; the input reads as it did. -/
def metreBeatsSpec : ChangeSpec := { name := "metreBeats", fn := fun _ => fun
  | [d1, d2] => { results := [.lit (.bool true)], args := [d1, d2] }
  | _ => none }
def metreBeatsRow : OpenClaim := { program := "ytooajpojikkkdaadoor", sum := "50c56a983d1d703563b07af2c8182f39fd8dff3734dfbc6cb20e983cbbb78b75", func := "hemiola/hemiolalaw04.MetreBeats", spec := "metreBeats", inPlace := ["internal/abi.NoEscape", "internal/bytealg.MakeNoZero"], unfollowed := true, recurses := true, named := ["internal/strconv.uint64pow10", "math/bits.deBruijn32tab", "math/bits.deBruijn64tab"], apart := false, laid := [("math/bits.deBruijn32tab", laid_math_bits_deBruijn32tab), ("math/bits.deBruijn64tab", laid_math_bits_deBruijn64tab), ("internal/strconv.uint64pow10", laid_internal_strconv_uint64pow10)] }
def MetreBeatsSaid : Prop := metreBeatsRow.holds Tryd.pinned (OpenSpec.ofChange metreBeatsSpec)

/-- ITS FALSE NEIGHBOUR: 'it returns false'. Refute it at one input. -/
def metreBeatsWrong : ChangeSpec := { name := "metreBeats", fn := fun _ => fun
  | [d1, d2] => { results := [.lit (.bool false)], args := [d1, d2] }
  | _ => none }
def MetreBeatsWrongFalsely : Prop := metreBeatsRow.holds Tryd.pinned (OpenSpec.ofChange metreBeatsWrong)

/-- 'hemiolalaw04.MetreRepeats': WHATEVER THE INPUT: true; the input reads as it did. -/
def metreRepeatsSpec : ChangeSpec := { name := "metreRepeats", fn := fun _ => fun
  | [d1, d2, d3] => { results := [.lit (.bool true)], args := [d1, d2, d3] }
  | _ => none }
def metreRepeatsRow : OpenClaim := { program := "ytooajpojikkkdaadoor", sum := "50c56a983d1d703563b07af2c8182f39fd8dff3734dfbc6cb20e983cbbb78b75", func := "hemiola/hemiolalaw04.MetreRepeats", spec := "metreRepeats", inPlace := ["internal/abi.NoEscape", "internal/bytealg.MakeNoZero"], unfollowed := true, recurses := true, named := ["internal/strconv.uint64pow10", "math/bits.deBruijn32tab", "math/bits.deBruijn64tab"], apart := false, laid := [("math/bits.deBruijn32tab", laid_math_bits_deBruijn32tab), ("math/bits.deBruijn64tab", laid_math_bits_deBruijn64tab), ("internal/strconv.uint64pow10", laid_internal_strconv_uint64pow10)] }
def MetreRepeatsSaid : Prop := metreRepeatsRow.holds Tryd.pinned (OpenSpec.ofChange metreRepeatsSpec)

/-- ITS FALSE NEIGHBOUR: 'it returns false'. Refute it at one input. -/
def metreRepeatsWrong : ChangeSpec := { name := "metreRepeats", fn := fun _ => fun
  | [d1, d2, d3] => { results := [.lit (.bool false)], args := [d1, d2, d3] }
  | _ => none }
def MetreRepeatsWrongFalsely : Prop := metreRepeatsRow.holds Tryd.pinned (OpenSpec.ofChange metreRepeatsWrong)

/-- 'hemiolalaw04.MetreTexts': WHATEVER THE INPUT: true; the input reads as it did. -/
def metreTextsSpec : ChangeSpec := { name := "metreTexts", fn := fun _ => fun
  | [d] => { results := [.lit (.bool true)], args := [d] }
  | _ => none }
def metreTextsRow : OpenClaim := { program := "ytooajpojikkkdaadoor", sum := "50c56a983d1d703563b07af2c8182f39fd8dff3734dfbc6cb20e983cbbb78b75", func := "hemiola/hemiolalaw04.MetreTexts", spec := "metreTexts", inPlace := ["internal/abi.NoEscape", "internal/bytealg.MakeNoZero", "internal/bytealg.IndexByteString", "internal/bytealg.IndexString", "internal/bytealg.CountString"], unfollowed := true, recurses := true, named := ["internal/strconv.uint64pow10", "math/bits.deBruijn32tab", "math/bits.deBruijn64tab", "internal/bytealg.MaxLen", "unicode/utf8.first", "unicode/utf8.acceptRanges", "strconv.ErrSyntax", "strconv.ErrRange"], apart := false, laid := [("math/bits.deBruijn32tab", laid_math_bits_deBruijn32tab), ("math/bits.deBruijn64tab", laid_math_bits_deBruijn64tab), ("internal/strconv.uint64pow10", laid_internal_strconv_uint64pow10), ("unicode/utf8.acceptRanges", laid_unicode_utf8_acceptRanges), ("strconv.ErrRange", laid_strconv_ErrRange), ("strconv.ErrSyntax", laid_strconv_ErrSyntax), ("unicode/utf8.first", laid_unicode_utf8_first)] }
def MetreTextsSaid : Prop := metreTextsRow.holds Tryd.pinned (OpenSpec.ofChange metreTextsSpec)

/-- ITS FALSE NEIGHBOUR: 'it returns false'. Refute it at one input. -/
def metreTextsWrong : ChangeSpec := { name := "metreTexts", fn := fun _ => fun
  | [d] => { results := [.lit (.bool false)], args := [d] }
  | _ => none }
def MetreTextsWrongFalsely : Prop := metreTextsRow.holds Tryd.pinned (OpenSpec.ofChange metreTextsWrong)

/-- 'hemiolalaw04.MetreParses': WHATEVER THE INPUT: true; the input reads as it did. -/
def metreParsesSpec : ChangeSpec := { name := "metreParses", fn := fun _ => fun
  | [d] => { results := [.lit (.bool true)], args := [d] }
  | _ => none }
def metreParsesRow : OpenClaim := { program := "ytooajpojikkkdaadoor", sum := "50c56a983d1d703563b07af2c8182f39fd8dff3734dfbc6cb20e983cbbb78b75", func := "hemiola/hemiolalaw04.MetreParses", spec := "metreParses", inPlace := ["internal/abi.NoEscape", "internal/bytealg.MakeNoZero", "internal/bytealg.IndexByteString", "internal/bytealg.IndexString", "internal/bytealg.CountString"], unfollowed := true, recurses := true, named := ["internal/strconv.uint64pow10", "math/bits.deBruijn32tab", "math/bits.deBruijn64tab", "internal/bytealg.MaxLen", "unicode/utf8.first", "unicode/utf8.acceptRanges", "strconv.ErrSyntax", "strconv.ErrRange"], apart := false, laid := [("math/bits.deBruijn32tab", laid_math_bits_deBruijn32tab), ("math/bits.deBruijn64tab", laid_math_bits_deBruijn64tab), ("internal/strconv.uint64pow10", laid_internal_strconv_uint64pow10), ("unicode/utf8.acceptRanges", laid_unicode_utf8_acceptRanges), ("strconv.ErrRange", laid_strconv_ErrRange), ("strconv.ErrSyntax", laid_strconv_ErrSyntax), ("unicode/utf8.first", laid_unicode_utf8_first)] }
def MetreParsesSaid : Prop := metreParsesRow.holds Tryd.pinned (OpenSpec.ofChange metreParsesSpec)

/-- ITS FALSE NEIGHBOUR: 'it returns false'. Refute it at one input. -/
def metreParsesWrong : ChangeSpec := { name := "metreParses", fn := fun _ => fun
  | [d] => { results := [.lit (.bool false)], args := [d] }
  | _ => none }
def MetreParsesWrongFalsely : Prop := metreParsesRow.holds Tryd.pinned (OpenSpec.ofChange metreParsesWrong)

/- THE SECOND FORM. 'bulk': how many values and letters a reading holds, each counted each time it is reached (what is shared counts as often as it is met; a slice's spare places count too). A statement '..UptoSaid' is the law's where the arguments, and the package variables that the reading takes, are together of bulk at most 1048576: NARROWER than '..Said'. Prove '..Said' where nothing that the law and all that it calls make is longer than what came in: it says more and counts as full. Else prove '..UptoSaid'. A law counts once. -/
mutual
def uptoBulk {H : Type} : DataW H → Nat
  | .lit (.string bytes) => bytes.length + 1
  | .lit _ => 1
  | .nil => 1
  | .ptr d => uptoBulk d + 1
  | .slice elems spare => uptoBulkAll elems + uptoBulkAll spare + 1
  | .agg parts => uptoBulkAll parts + 1
  | .iface _ d => uptoBulk d + 1
  | .map entries => uptoBulkEntries entries + 1
  | .held _ => 1
def uptoBulkAll {H : Type} : List (DataW H) → Nat
  | [] => 0
  | d :: r => uptoBulk d + uptoBulkAll r
def uptoBulkEntries {H : Type} : List (Lit × DataW H) → Nat
  | [] => 0
  | x :: r => uptoBulkEntry x + uptoBulkEntries r
def uptoBulkEntry {H : Type} : Lit × DataW H → Nat
  | (.string bytes, d) => bytes.length + uptoBulk d + 1
  | (_, d) => uptoBulk d + 1
 end
def uptoSmall : (H : Type) → List (DataW H) → Bool := fun _ ds => decide (uptoBulkAll ds ≤ 1048576)
def OpenSpec.upto (s : _root_.Go.ChangeSpec) : _root_.Go.OpenSpec := { _root_.Go.OpenSpec.ofChange s with cond := some uptoSmall }

/-- 'hemiolalaw04.MetreSplits', WHERE WHAT IT READS IS OF BULK AT MOST 1048576: true; the input reads as it did. -/
def metreSplitsUptoRow : OpenClaim := { program := "ytooajpojikkkdaadoor", sum := "50c56a983d1d703563b07af2c8182f39fd8dff3734dfbc6cb20e983cbbb78b75", func := "hemiola/hemiolalaw04.MetreSplits", spec := "metreSplits", inPlace := ["internal/abi.NoEscape", "internal/bytealg.MakeNoZero"], unfollowed := true, recurses := true, named := ["internal/strconv.uint64pow10", "math/bits.deBruijn32tab", "math/bits.deBruijn64tab"], apart := false, laid := [("math/bits.deBruijn32tab", laid_math_bits_deBruijn32tab), ("math/bits.deBruijn64tab", laid_math_bits_deBruijn64tab), ("internal/strconv.uint64pow10", laid_internal_strconv_uint64pow10)], narrowed := true }
def MetreSplitsUptoSaid : Prop := metreSplitsUptoRow.holds Tryd.pinned (OpenSpec.upto metreSplitsSpec)

/-- 'hemiolalaw04.MetreDivides', WHERE WHAT IT READS IS OF BULK AT MOST 1048576: true; the input reads as it did. -/
def metreDividesUptoRow : OpenClaim := { program := "ytooajpojikkkdaadoor", sum := "50c56a983d1d703563b07af2c8182f39fd8dff3734dfbc6cb20e983cbbb78b75", func := "hemiola/hemiolalaw04.MetreDivides", spec := "metreDivides", inPlace := ["internal/abi.NoEscape", "internal/bytealg.MakeNoZero"], unfollowed := true, recurses := true, named := ["internal/strconv.uint64pow10", "math/bits.deBruijn32tab", "math/bits.deBruijn64tab"], apart := false, laid := [("math/bits.deBruijn32tab", laid_math_bits_deBruijn32tab), ("math/bits.deBruijn64tab", laid_math_bits_deBruijn64tab), ("internal/strconv.uint64pow10", laid_internal_strconv_uint64pow10)], narrowed := true }
def MetreDividesUptoSaid : Prop := metreDividesUptoRow.holds Tryd.pinned (OpenSpec.upto metreDividesSpec)

/-- 'hemiolalaw04.MetreOffsets', WHERE WHAT IT READS IS OF BULK AT MOST 1048576: true; the input reads as it did. -/
def metreOffsetsUptoRow : OpenClaim := { program := "ytooajpojikkkdaadoor", sum := "50c56a983d1d703563b07af2c8182f39fd8dff3734dfbc6cb20e983cbbb78b75", func := "hemiola/hemiolalaw04.MetreOffsets", spec := "metreOffsets", inPlace := ["internal/abi.NoEscape", "internal/bytealg.MakeNoZero"], unfollowed := true, recurses := true, named := ["internal/strconv.uint64pow10", "math/bits.deBruijn32tab", "math/bits.deBruijn64tab"], apart := false, laid := [("math/bits.deBruijn32tab", laid_math_bits_deBruijn32tab), ("math/bits.deBruijn64tab", laid_math_bits_deBruijn64tab), ("internal/strconv.uint64pow10", laid_internal_strconv_uint64pow10)], narrowed := true }
def MetreOffsetsUptoSaid : Prop := metreOffsetsUptoRow.holds Tryd.pinned (OpenSpec.upto metreOffsetsSpec)

/-- 'hemiolalaw04.MetreLevels', WHERE WHAT IT READS IS OF BULK AT MOST 1048576: true; the input reads as it did. -/
def metreLevelsUptoRow : OpenClaim := { program := "ytooajpojikkkdaadoor", sum := "50c56a983d1d703563b07af2c8182f39fd8dff3734dfbc6cb20e983cbbb78b75", func := "hemiola/hemiolalaw04.MetreLevels", spec := "metreLevels", inPlace := ["internal/abi.NoEscape", "internal/bytealg.MakeNoZero"], unfollowed := true, recurses := true, named := ["internal/strconv.uint64pow10", "math/bits.deBruijn32tab", "math/bits.deBruijn64tab"], apart := false, laid := [("math/bits.deBruijn32tab", laid_math_bits_deBruijn32tab), ("math/bits.deBruijn64tab", laid_math_bits_deBruijn64tab), ("internal/strconv.uint64pow10", laid_internal_strconv_uint64pow10)], narrowed := true }
def MetreLevelsUptoSaid : Prop := metreLevelsUptoRow.holds Tryd.pinned (OpenSpec.upto metreLevelsSpec)

/-- 'hemiolalaw04.MetreChecks', WHERE WHAT IT READS IS OF BULK AT MOST 1048576: true; the input reads as it did. -/
def metreChecksUptoRow : OpenClaim := { program := "ytooajpojikkkdaadoor", sum := "50c56a983d1d703563b07af2c8182f39fd8dff3734dfbc6cb20e983cbbb78b75", func := "hemiola/hemiolalaw04.MetreChecks", spec := "metreChecks", inPlace := ["internal/abi.NoEscape", "internal/bytealg.MakeNoZero"], unfollowed := true, recurses := true, named := ["internal/strconv.uint64pow10", "math/bits.deBruijn32tab", "math/bits.deBruijn64tab"], apart := false, laid := [("math/bits.deBruijn32tab", laid_math_bits_deBruijn32tab), ("math/bits.deBruijn64tab", laid_math_bits_deBruijn64tab), ("internal/strconv.uint64pow10", laid_internal_strconv_uint64pow10)], narrowed := true }
def MetreChecksUptoSaid : Prop := metreChecksUptoRow.holds Tryd.pinned (OpenSpec.upto metreChecksSpec)

/-- 'hemiolalaw04.MetreSums', WHERE WHAT IT READS IS OF BULK AT MOST 1048576: true; the input reads as it did. -/
def metreSumsUptoRow : OpenClaim := { program := "ytooajpojikkkdaadoor", sum := "50c56a983d1d703563b07af2c8182f39fd8dff3734dfbc6cb20e983cbbb78b75", func := "hemiola/hemiolalaw04.MetreSums", spec := "metreSums", inPlace := ["internal/abi.NoEscape", "internal/bytealg.MakeNoZero"], unfollowed := true, recurses := true, named := ["internal/strconv.uint64pow10", "math/bits.deBruijn32tab", "math/bits.deBruijn64tab"], apart := false, laid := [("math/bits.deBruijn32tab", laid_math_bits_deBruijn32tab), ("math/bits.deBruijn64tab", laid_math_bits_deBruijn64tab), ("internal/strconv.uint64pow10", laid_internal_strconv_uint64pow10)], narrowed := true }
def MetreSumsUptoSaid : Prop := metreSumsUptoRow.holds Tryd.pinned (OpenSpec.upto metreSumsSpec)

/-- 'hemiolalaw04.MetreBeats', WHERE WHAT IT READS IS OF BULK AT MOST 1048576: true; the input reads as it did. -/
def metreBeatsUptoRow : OpenClaim := { program := "ytooajpojikkkdaadoor", sum := "50c56a983d1d703563b07af2c8182f39fd8dff3734dfbc6cb20e983cbbb78b75", func := "hemiola/hemiolalaw04.MetreBeats", spec := "metreBeats", inPlace := ["internal/abi.NoEscape", "internal/bytealg.MakeNoZero"], unfollowed := true, recurses := true, named := ["internal/strconv.uint64pow10", "math/bits.deBruijn32tab", "math/bits.deBruijn64tab"], apart := false, laid := [("math/bits.deBruijn32tab", laid_math_bits_deBruijn32tab), ("math/bits.deBruijn64tab", laid_math_bits_deBruijn64tab), ("internal/strconv.uint64pow10", laid_internal_strconv_uint64pow10)], narrowed := true }
def MetreBeatsUptoSaid : Prop := metreBeatsUptoRow.holds Tryd.pinned (OpenSpec.upto metreBeatsSpec)

/-- 'hemiolalaw04.MetreRepeats', WHERE WHAT IT READS IS OF BULK AT MOST 1048576: true; the input reads as it did. -/
def metreRepeatsUptoRow : OpenClaim := { program := "ytooajpojikkkdaadoor", sum := "50c56a983d1d703563b07af2c8182f39fd8dff3734dfbc6cb20e983cbbb78b75", func := "hemiola/hemiolalaw04.MetreRepeats", spec := "metreRepeats", inPlace := ["internal/abi.NoEscape", "internal/bytealg.MakeNoZero"], unfollowed := true, recurses := true, named := ["internal/strconv.uint64pow10", "math/bits.deBruijn32tab", "math/bits.deBruijn64tab"], apart := false, laid := [("math/bits.deBruijn32tab", laid_math_bits_deBruijn32tab), ("math/bits.deBruijn64tab", laid_math_bits_deBruijn64tab), ("internal/strconv.uint64pow10", laid_internal_strconv_uint64pow10)], narrowed := true }
def MetreRepeatsUptoSaid : Prop := metreRepeatsUptoRow.holds Tryd.pinned (OpenSpec.upto metreRepeatsSpec)

/-- 'hemiolalaw04.MetreTexts', WHERE WHAT IT READS IS OF BULK AT MOST 1048576: true; the input reads as it did. -/
def metreTextsUptoRow : OpenClaim := { program := "ytooajpojikkkdaadoor", sum := "50c56a983d1d703563b07af2c8182f39fd8dff3734dfbc6cb20e983cbbb78b75", func := "hemiola/hemiolalaw04.MetreTexts", spec := "metreTexts", inPlace := ["internal/abi.NoEscape", "internal/bytealg.MakeNoZero", "internal/bytealg.IndexByteString", "internal/bytealg.IndexString", "internal/bytealg.CountString"], unfollowed := true, recurses := true, named := ["internal/strconv.uint64pow10", "math/bits.deBruijn32tab", "math/bits.deBruijn64tab", "internal/bytealg.MaxLen", "unicode/utf8.first", "unicode/utf8.acceptRanges", "strconv.ErrSyntax", "strconv.ErrRange"], apart := false, laid := [("math/bits.deBruijn32tab", laid_math_bits_deBruijn32tab), ("math/bits.deBruijn64tab", laid_math_bits_deBruijn64tab), ("internal/strconv.uint64pow10", laid_internal_strconv_uint64pow10), ("unicode/utf8.acceptRanges", laid_unicode_utf8_acceptRanges), ("strconv.ErrRange", laid_strconv_ErrRange), ("strconv.ErrSyntax", laid_strconv_ErrSyntax), ("unicode/utf8.first", laid_unicode_utf8_first)], narrowed := true }
def MetreTextsUptoSaid : Prop := metreTextsUptoRow.holds Tryd.pinned (OpenSpec.upto metreTextsSpec)

/-- 'hemiolalaw04.MetreParses', WHERE WHAT IT READS IS OF BULK AT MOST 1048576: true; the input reads as it did. -/
def metreParsesUptoRow : OpenClaim := { program := "ytooajpojikkkdaadoor", sum := "50c56a983d1d703563b07af2c8182f39fd8dff3734dfbc6cb20e983cbbb78b75", func := "hemiola/hemiolalaw04.MetreParses", spec := "metreParses", inPlace := ["internal/abi.NoEscape", "internal/bytealg.MakeNoZero", "internal/bytealg.IndexByteString", "internal/bytealg.IndexString", "internal/bytealg.CountString"], unfollowed := true, recurses := true, named := ["internal/strconv.uint64pow10", "math/bits.deBruijn32tab", "math/bits.deBruijn64tab", "internal/bytealg.MaxLen", "unicode/utf8.first", "unicode/utf8.acceptRanges", "strconv.ErrSyntax", "strconv.ErrRange"], apart := false, laid := [("math/bits.deBruijn32tab", laid_math_bits_deBruijn32tab), ("math/bits.deBruijn64tab", laid_math_bits_deBruijn64tab), ("internal/strconv.uint64pow10", laid_internal_strconv_uint64pow10), ("unicode/utf8.acceptRanges", laid_unicode_utf8_acceptRanges), ("strconv.ErrRange", laid_strconv_ErrRange), ("strconv.ErrSyntax", laid_strconv_ErrSyntax), ("unicode/utf8.first", laid_unicode_utf8_first)], narrowed := true }
def MetreParsesUptoSaid : Prop := metreParsesUptoRow.holds Tryd.pinned (OpenSpec.upto metreParsesSpec)

end Rows
end Go.Proofs.YtooajpojikkkdaaDoor
