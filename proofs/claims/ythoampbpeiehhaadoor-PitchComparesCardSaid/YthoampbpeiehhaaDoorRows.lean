/-
  NARROWER THAN 'FOR EVERY INPUT', by the rows' own cells (each row's printed sentence says how): PitchEnharmonics: laid · PitchRespells: laid · PitchNames: laid · PitchParses: laid · PitchFifths: laid · PitchOf: laid · PitchNumbers: laid · PitchSimple: laid · PitchCompares: laid.
  DERIVED. THE GIVEN ROWS OF THIS SEAT. 9 by the template 'for every input the law returns true; each argument reads behind the call as it read before'; 0 by the template 'total and deterministic' (their statements: YthoampbpeiehhaaDoorTotals.lean).
  GIVEN WITH THE SEED: the statements are not yours to turn. If you find one false, say at which input.
  Laid BY PROGRAM, IN A SANDBOX (cutbox-rows.mjs): the forced cells as the released guide's own fill.sh prints them over the translation c0b2ddc431f15d23… (all of the seat's roots in one cut). By AI agents, Wed Nov 11 2026. No macro, syntax, notation, axiom, sorry.
-/
import Derived.Test.YthoampbpeiehhaaDoorChecked
import GoSem.Claim
import GoSem.ClaimJoined
import GoSem.ClaimMapViews
import Derived.JoinedTies
import Derived.KernelRfl
namespace Go.Proofs.YthoampbpeiehhaaDoor
/- THE CELL 'sum', in the pinned program and in every row, IS THE sha256 OF THE DUMP (.gsa) THAT YthoampbpeiehhaaDoorProg.lean LOADS. Nothing in Lean hashes anything: it is a label: what it is worth is what the hold of that sum in a sandbox is worth. -/
noncomputable def Tryd.pinned : Pinned := { name := "ythoampbpeiehhaadoor", sum := "c0b2ddc431f15d234117962db014e063200aba89ff087cc911f8dd4986dbbf5c", checked := Tryd.checked }
namespace Rows
def none {H : Type} : Left H := { results := [], args := [] }

/- WHAT THE LISTED PACKAGE-LEVEL VARIABLES READ AS WHEN THE CALL BEGINS. Each datum BY PROGRAM (the guide's laid-datum.mjs) off the statement by which the dump's own 'gosem.cut.vars' lays the variable. In a bare row this is a premise. The card (YthoampbpeiehhaaDoorCards.lean) ties it to the program's text. -/
def laid_math_bits_deBruijn32tab {H : Type} : DataW H := .agg [.lit (.int .u8 0), .lit (.int .u8 1), .lit (.int .u8 28), .lit (.int .u8 2), .lit (.int .u8 29), .lit (.int .u8 14), .lit (.int .u8 24), .lit (.int .u8 3), .lit (.int .u8 30), .lit (.int .u8 22), .lit (.int .u8 20), .lit (.int .u8 15), .lit (.int .u8 25), .lit (.int .u8 17), .lit (.int .u8 4), .lit (.int .u8 8), .lit (.int .u8 31), .lit (.int .u8 27), .lit (.int .u8 13), .lit (.int .u8 23), .lit (.int .u8 21), .lit (.int .u8 19), .lit (.int .u8 16), .lit (.int .u8 7), .lit (.int .u8 26), .lit (.int .u8 12), .lit (.int .u8 18), .lit (.int .u8 6), .lit (.int .u8 11), .lit (.int .u8 5), .lit (.int .u8 10), .lit (.int .u8 9)]
def laid_math_bits_deBruijn64tab {H : Type} : DataW H := .agg [.lit (.int .u8 0), .lit (.int .u8 1), .lit (.int .u8 56), .lit (.int .u8 2), .lit (.int .u8 57), .lit (.int .u8 49), .lit (.int .u8 28), .lit (.int .u8 3), .lit (.int .u8 61), .lit (.int .u8 58), .lit (.int .u8 42), .lit (.int .u8 50), .lit (.int .u8 38), .lit (.int .u8 29), .lit (.int .u8 17), .lit (.int .u8 4), .lit (.int .u8 62), .lit (.int .u8 47), .lit (.int .u8 59), .lit (.int .u8 36), .lit (.int .u8 45), .lit (.int .u8 43), .lit (.int .u8 51), .lit (.int .u8 22), .lit (.int .u8 53), .lit (.int .u8 39), .lit (.int .u8 33), .lit (.int .u8 30), .lit (.int .u8 24), .lit (.int .u8 18), .lit (.int .u8 12), .lit (.int .u8 5), .lit (.int .u8 63), .lit (.int .u8 55), .lit (.int .u8 48), .lit (.int .u8 27), .lit (.int .u8 60), .lit (.int .u8 41), .lit (.int .u8 37), .lit (.int .u8 16), .lit (.int .u8 46), .lit (.int .u8 35), .lit (.int .u8 44), .lit (.int .u8 21), .lit (.int .u8 52), .lit (.int .u8 32), .lit (.int .u8 23), .lit (.int .u8 11), .lit (.int .u8 54), .lit (.int .u8 26), .lit (.int .u8 40), .lit (.int .u8 15), .lit (.int .u8 34), .lit (.int .u8 20), .lit (.int .u8 31), .lit (.int .u8 10), .lit (.int .u8 25), .lit (.int .u8 14), .lit (.int .u8 19), .lit (.int .u8 9), .lit (.int .u8 13), .lit (.int .u8 8), .lit (.int .u8 7), .lit (.int .u8 6)]
def laid_internal_strconv_uint64pow10 {H : Type} : DataW H := .agg [.lit (.int .u64 1), .lit (.int .u64 10), .lit (.int .u64 100), .lit (.int .u64 1000), .lit (.int .u64 10000), .lit (.int .u64 100000), .lit (.int .u64 1000000), .lit (.int .u64 10000000), .lit (.int .u64 100000000), .lit (.int .u64 1000000000), .lit (.int .u64 10000000000), .lit (.int .u64 100000000000), .lit (.int .u64 1000000000000), .lit (.int .u64 10000000000000), .lit (.int .u64 100000000000000), .lit (.int .u64 1000000000000000), .lit (.int .u64 10000000000000000), .lit (.int .u64 100000000000000000), .lit (.int .u64 1000000000000000000), .lit (.int .u64 10000000000000000000)]
def laid_strconv_ErrRange {H : Type} : DataW H := .iface "*errors.errorString" (.ptr (.agg [.lit (.string [118, 97, 108, 117, 101, 32, 111, 117, 116, 32, 111, 102, 32, 114, 97, 110, 103, 101])]))
def laid_strconv_ErrSyntax {H : Type} : DataW H := .iface "*errors.errorString" (.ptr (.agg [.lit (.string [105, 110, 118, 97, 108, 105, 100, 32, 115, 121, 110, 116, 97, 120])]))

/-- 'hemiolalaw05.PitchEnharmonics': WHATEVER THE INPUT: true; the input reads as it did. -/
def pitchEnharmonicsSpec : ChangeSpec := { name := "pitchEnharmonics", fn := fun _ => fun
  | [d] => { results := [.lit (.bool true)], args := [d] }
  | _ => none }
def pitchEnharmonicsRow : OpenClaim := { program := "ythoampbpeiehhaadoor", sum := "c0b2ddc431f15d234117962db014e063200aba89ff087cc911f8dd4986dbbf5c", func := "hemiola/hemiolalaw05.PitchEnharmonics", spec := "pitchEnharmonics", inPlace := ["internal/bytealg.IndexByteString"], named := ["strconv.ErrSyntax", "strconv.ErrRange", "internal/strconv.uint64pow10", "math/bits.deBruijn32tab", "math/bits.deBruijn64tab"], apart := false, laid := [("math/bits.deBruijn32tab", laid_math_bits_deBruijn32tab), ("math/bits.deBruijn64tab", laid_math_bits_deBruijn64tab), ("internal/strconv.uint64pow10", laid_internal_strconv_uint64pow10), ("strconv.ErrRange", laid_strconv_ErrRange), ("strconv.ErrSyntax", laid_strconv_ErrSyntax)] }
def PitchEnharmonicsSaid : Prop := pitchEnharmonicsRow.holds Tryd.pinned (OpenSpec.ofChange pitchEnharmonicsSpec)

/-- ITS FALSE NEIGHBOUR: 'it returns false'. Refute it at one input. -/
def pitchEnharmonicsWrong : ChangeSpec := { name := "pitchEnharmonics", fn := fun _ => fun
  | [d] => { results := [.lit (.bool false)], args := [d] }
  | _ => none }
def PitchEnharmonicsWrongFalsely : Prop := pitchEnharmonicsRow.holds Tryd.pinned (OpenSpec.ofChange pitchEnharmonicsWrong)

/-- 'hemiolalaw05.PitchRespells': WHATEVER THE INPUT: true; the input reads as it did. -/
def pitchRespellsSpec : ChangeSpec := { name := "pitchRespells", fn := fun _ => fun
  | [d1, d2] => { results := [.lit (.bool true)], args := [d1, d2] }
  | _ => none }
def pitchRespellsRow : OpenClaim := { program := "ythoampbpeiehhaadoor", sum := "c0b2ddc431f15d234117962db014e063200aba89ff087cc911f8dd4986dbbf5c", func := "hemiola/hemiolalaw05.PitchRespells", spec := "pitchRespells", inPlace := ["internal/bytealg.IndexByteString"], named := ["strconv.ErrSyntax", "strconv.ErrRange", "internal/strconv.uint64pow10", "math/bits.deBruijn32tab", "math/bits.deBruijn64tab"], apart := false, laid := [("math/bits.deBruijn32tab", laid_math_bits_deBruijn32tab), ("math/bits.deBruijn64tab", laid_math_bits_deBruijn64tab), ("internal/strconv.uint64pow10", laid_internal_strconv_uint64pow10), ("strconv.ErrRange", laid_strconv_ErrRange), ("strconv.ErrSyntax", laid_strconv_ErrSyntax)] }
def PitchRespellsSaid : Prop := pitchRespellsRow.holds Tryd.pinned (OpenSpec.ofChange pitchRespellsSpec)

/-- ITS FALSE NEIGHBOUR: 'it returns false'. Refute it at one input. -/
def pitchRespellsWrong : ChangeSpec := { name := "pitchRespells", fn := fun _ => fun
  | [d1, d2] => { results := [.lit (.bool false)], args := [d1, d2] }
  | _ => none }
def PitchRespellsWrongFalsely : Prop := pitchRespellsRow.holds Tryd.pinned (OpenSpec.ofChange pitchRespellsWrong)

/-- 'hemiolalaw05.PitchNames': WHATEVER THE INPUT: true; the input reads as it did. -/
def pitchNamesSpec : ChangeSpec := { name := "pitchNames", fn := fun _ => fun
  | [d] => { results := [.lit (.bool true)], args := [d] }
  | _ => none }
def pitchNamesRow : OpenClaim := { program := "ythoampbpeiehhaadoor", sum := "c0b2ddc431f15d234117962db014e063200aba89ff087cc911f8dd4986dbbf5c", func := "hemiola/hemiolalaw05.PitchNames", spec := "pitchNames", inPlace := ["internal/bytealg.IndexByteString"], named := ["internal/strconv.uint64pow10", "math/bits.deBruijn32tab", "math/bits.deBruijn64tab", "strconv.ErrSyntax", "strconv.ErrRange"], apart := false, laid := [("math/bits.deBruijn32tab", laid_math_bits_deBruijn32tab), ("math/bits.deBruijn64tab", laid_math_bits_deBruijn64tab), ("internal/strconv.uint64pow10", laid_internal_strconv_uint64pow10), ("strconv.ErrRange", laid_strconv_ErrRange), ("strconv.ErrSyntax", laid_strconv_ErrSyntax)] }
def PitchNamesSaid : Prop := pitchNamesRow.holds Tryd.pinned (OpenSpec.ofChange pitchNamesSpec)

/-- ITS FALSE NEIGHBOUR: 'it returns false'. Refute it at one input. -/
def pitchNamesWrong : ChangeSpec := { name := "pitchNames", fn := fun _ => fun
  | [d] => { results := [.lit (.bool false)], args := [d] }
  | _ => none }
def PitchNamesWrongFalsely : Prop := pitchNamesRow.holds Tryd.pinned (OpenSpec.ofChange pitchNamesWrong)

/-- 'hemiolalaw05.PitchParses': WHATEVER THE INPUT: true; the input reads as it did. -/
def pitchParsesSpec : ChangeSpec := { name := "pitchParses", fn := fun _ => fun
  | [d] => { results := [.lit (.bool true)], args := [d] }
  | _ => none }
def pitchParsesRow : OpenClaim := { program := "ythoampbpeiehhaadoor", sum := "c0b2ddc431f15d234117962db014e063200aba89ff087cc911f8dd4986dbbf5c", func := "hemiola/hemiolalaw05.PitchParses", spec := "pitchParses", inPlace := ["internal/bytealg.IndexByteString"], named := ["strconv.ErrSyntax", "strconv.ErrRange", "internal/strconv.uint64pow10", "math/bits.deBruijn32tab", "math/bits.deBruijn64tab"], apart := false, laid := [("math/bits.deBruijn32tab", laid_math_bits_deBruijn32tab), ("math/bits.deBruijn64tab", laid_math_bits_deBruijn64tab), ("internal/strconv.uint64pow10", laid_internal_strconv_uint64pow10), ("strconv.ErrRange", laid_strconv_ErrRange), ("strconv.ErrSyntax", laid_strconv_ErrSyntax)] }
def PitchParsesSaid : Prop := pitchParsesRow.holds Tryd.pinned (OpenSpec.ofChange pitchParsesSpec)

/-- ITS FALSE NEIGHBOUR: 'it returns false'. Refute it at one input. -/
def pitchParsesWrong : ChangeSpec := { name := "pitchParses", fn := fun _ => fun
  | [d] => { results := [.lit (.bool false)], args := [d] }
  | _ => none }
def PitchParsesWrongFalsely : Prop := pitchParsesRow.holds Tryd.pinned (OpenSpec.ofChange pitchParsesWrong)

/-- 'hemiolalaw05.PitchFifths': WHATEVER THE INPUT: true; the input reads as it did. -/
def pitchFifthsSpec : ChangeSpec := { name := "pitchFifths", fn := fun _ => fun
  | [d1, d2] => { results := [.lit (.bool true)], args := [d1, d2] }
  | _ => none }
def pitchFifthsRow : OpenClaim := { program := "ythoampbpeiehhaadoor", sum := "c0b2ddc431f15d234117962db014e063200aba89ff087cc911f8dd4986dbbf5c", func := "hemiola/hemiolalaw05.PitchFifths", spec := "pitchFifths", inPlace := ["internal/bytealg.IndexByteString"], named := ["strconv.ErrSyntax", "strconv.ErrRange", "internal/strconv.uint64pow10", "math/bits.deBruijn32tab", "math/bits.deBruijn64tab"], apart := false, laid := [("math/bits.deBruijn32tab", laid_math_bits_deBruijn32tab), ("math/bits.deBruijn64tab", laid_math_bits_deBruijn64tab), ("internal/strconv.uint64pow10", laid_internal_strconv_uint64pow10), ("strconv.ErrRange", laid_strconv_ErrRange), ("strconv.ErrSyntax", laid_strconv_ErrSyntax)] }
def PitchFifthsSaid : Prop := pitchFifthsRow.holds Tryd.pinned (OpenSpec.ofChange pitchFifthsSpec)

/-- ITS FALSE NEIGHBOUR: 'it returns false'. Refute it at one input. -/
def pitchFifthsWrong : ChangeSpec := { name := "pitchFifths", fn := fun _ => fun
  | [d1, d2] => { results := [.lit (.bool false)], args := [d1, d2] }
  | _ => none }
def PitchFifthsWrongFalsely : Prop := pitchFifthsRow.holds Tryd.pinned (OpenSpec.ofChange pitchFifthsWrong)

/-- 'hemiolalaw05.PitchOf': WHATEVER THE INPUT: true; the input reads as it did. -/
def pitchOfSpec : ChangeSpec := { name := "pitchOf", fn := fun _ => fun
  | [d1, d2] => { results := [.lit (.bool true)], args := [d1, d2] }
  | _ => none }
def pitchOfRow : OpenClaim := { program := "ythoampbpeiehhaadoor", sum := "c0b2ddc431f15d234117962db014e063200aba89ff087cc911f8dd4986dbbf5c", func := "hemiola/hemiolalaw05.PitchOf", spec := "pitchOf", inPlace := ["internal/bytealg.IndexByteString"], named := ["strconv.ErrSyntax", "strconv.ErrRange", "internal/strconv.uint64pow10", "math/bits.deBruijn32tab", "math/bits.deBruijn64tab"], apart := false, laid := [("math/bits.deBruijn32tab", laid_math_bits_deBruijn32tab), ("math/bits.deBruijn64tab", laid_math_bits_deBruijn64tab), ("internal/strconv.uint64pow10", laid_internal_strconv_uint64pow10), ("strconv.ErrRange", laid_strconv_ErrRange), ("strconv.ErrSyntax", laid_strconv_ErrSyntax)] }
def PitchOfSaid : Prop := pitchOfRow.holds Tryd.pinned (OpenSpec.ofChange pitchOfSpec)

/-- ITS FALSE NEIGHBOUR: 'it returns false'. Refute it at one input. -/
def pitchOfWrong : ChangeSpec := { name := "pitchOf", fn := fun _ => fun
  | [d1, d2] => { results := [.lit (.bool false)], args := [d1, d2] }
  | _ => none }
def PitchOfWrongFalsely : Prop := pitchOfRow.holds Tryd.pinned (OpenSpec.ofChange pitchOfWrong)

/-- 'hemiolalaw05.PitchNumbers': WHATEVER THE INPUT: true; the input reads as it did. -/
def pitchNumbersSpec : ChangeSpec := { name := "pitchNumbers", fn := fun _ => fun
  | [d] => { results := [.lit (.bool true)], args := [d] }
  | _ => none }
def pitchNumbersRow : OpenClaim := { program := "ythoampbpeiehhaadoor", sum := "c0b2ddc431f15d234117962db014e063200aba89ff087cc911f8dd4986dbbf5c", func := "hemiola/hemiolalaw05.PitchNumbers", spec := "pitchNumbers", inPlace := ["internal/bytealg.IndexByteString"], named := ["strconv.ErrSyntax", "strconv.ErrRange", "internal/strconv.uint64pow10", "math/bits.deBruijn32tab", "math/bits.deBruijn64tab"], apart := false, laid := [("math/bits.deBruijn32tab", laid_math_bits_deBruijn32tab), ("math/bits.deBruijn64tab", laid_math_bits_deBruijn64tab), ("internal/strconv.uint64pow10", laid_internal_strconv_uint64pow10), ("strconv.ErrRange", laid_strconv_ErrRange), ("strconv.ErrSyntax", laid_strconv_ErrSyntax)] }
def PitchNumbersSaid : Prop := pitchNumbersRow.holds Tryd.pinned (OpenSpec.ofChange pitchNumbersSpec)

/-- ITS FALSE NEIGHBOUR: 'it returns false'. Refute it at one input. -/
def pitchNumbersWrong : ChangeSpec := { name := "pitchNumbers", fn := fun _ => fun
  | [d] => { results := [.lit (.bool false)], args := [d] }
  | _ => none }
def PitchNumbersWrongFalsely : Prop := pitchNumbersRow.holds Tryd.pinned (OpenSpec.ofChange pitchNumbersWrong)

/-- 'hemiolalaw05.PitchSimple': WHATEVER THE INPUT: true; the input reads as it did. -/
def pitchSimpleSpec : ChangeSpec := { name := "pitchSimple", fn := fun _ => fun
  | [d1, d2] => { results := [.lit (.bool true)], args := [d1, d2] }
  | _ => none }
def pitchSimpleRow : OpenClaim := { program := "ythoampbpeiehhaadoor", sum := "c0b2ddc431f15d234117962db014e063200aba89ff087cc911f8dd4986dbbf5c", func := "hemiola/hemiolalaw05.PitchSimple", spec := "pitchSimple", inPlace := ["internal/bytealg.IndexByteString"], named := ["strconv.ErrSyntax", "strconv.ErrRange", "internal/strconv.uint64pow10", "math/bits.deBruijn32tab", "math/bits.deBruijn64tab"], apart := false, laid := [("math/bits.deBruijn32tab", laid_math_bits_deBruijn32tab), ("math/bits.deBruijn64tab", laid_math_bits_deBruijn64tab), ("internal/strconv.uint64pow10", laid_internal_strconv_uint64pow10), ("strconv.ErrRange", laid_strconv_ErrRange), ("strconv.ErrSyntax", laid_strconv_ErrSyntax)] }
def PitchSimpleSaid : Prop := pitchSimpleRow.holds Tryd.pinned (OpenSpec.ofChange pitchSimpleSpec)

/-- ITS FALSE NEIGHBOUR: 'it returns false'. Refute it at one input. -/
def pitchSimpleWrong : ChangeSpec := { name := "pitchSimple", fn := fun _ => fun
  | [d1, d2] => { results := [.lit (.bool false)], args := [d1, d2] }
  | _ => none }
def PitchSimpleWrongFalsely : Prop := pitchSimpleRow.holds Tryd.pinned (OpenSpec.ofChange pitchSimpleWrong)

/-- 'hemiolalaw05.PitchCompares': WHATEVER THE INPUT: true; the input reads as it did. -/
def pitchComparesSpec : ChangeSpec := { name := "pitchCompares", fn := fun _ => fun
  | [d1, d2, d3] => { results := [.lit (.bool true)], args := [d1, d2, d3] }
  | _ => none }
def pitchComparesRow : OpenClaim := { program := "ythoampbpeiehhaadoor", sum := "c0b2ddc431f15d234117962db014e063200aba89ff087cc911f8dd4986dbbf5c", func := "hemiola/hemiolalaw05.PitchCompares", spec := "pitchCompares", inPlace := ["internal/bytealg.IndexByteString"], named := ["strconv.ErrSyntax", "strconv.ErrRange", "internal/strconv.uint64pow10", "math/bits.deBruijn32tab", "math/bits.deBruijn64tab"], apart := false, laid := [("math/bits.deBruijn32tab", laid_math_bits_deBruijn32tab), ("math/bits.deBruijn64tab", laid_math_bits_deBruijn64tab), ("internal/strconv.uint64pow10", laid_internal_strconv_uint64pow10), ("strconv.ErrRange", laid_strconv_ErrRange), ("strconv.ErrSyntax", laid_strconv_ErrSyntax)] }
def PitchComparesSaid : Prop := pitchComparesRow.holds Tryd.pinned (OpenSpec.ofChange pitchComparesSpec)

/-- ITS FALSE NEIGHBOUR: 'it returns false'. Refute it at one input. -/
def pitchComparesWrong : ChangeSpec := { name := "pitchCompares", fn := fun _ => fun
  | [d1, d2, d3] => { results := [.lit (.bool false)], args := [d1, d2, d3] }
  | _ => none }
def PitchComparesWrongFalsely : Prop := pitchComparesRow.holds Tryd.pinned (OpenSpec.ofChange pitchComparesWrong)

/- THE SECOND FORM. 'bulk': how many values and letters a reading holds, each counted each time it is reached (what is shared counts as often as it is met; a slice's spare places count too). A statement '..UptoSaid' is the law's where the arguments, and the package variables that the reading takes, are together of bulk at most 1048576: NARROWER than '..Said'. Prove '..Said' where nothing that the law and all that it calls make is longer than what came in: it says more and counts as full. Else prove '..UptoSaid'. A law counts once. -/
mutual
def uptoBulk {H : Type} : DataW H → Nat
  | .lit (.string bytes) => bytes.length + 1
  | .lit _ => 1
  | .nil => 1
  | .ptr d => uptoBulk d + 1
  | .slice elems spare => uptoBulkAll elems + uptoBulkAll spare + 1
  | .agg parts => uptoBulkAll parts + 1
  | .iface _ d => uptoBulk d + 1
  | .map entries => uptoBulkEntries entries + 1
  | .held _ => 1
def uptoBulkAll {H : Type} : List (DataW H) → Nat
  | [] => 0
  | d :: r => uptoBulk d + uptoBulkAll r
def uptoBulkEntries {H : Type} : List (Lit × DataW H) → Nat
  | [] => 0
  | x :: r => uptoBulkEntry x + uptoBulkEntries r
def uptoBulkEntry {H : Type} : Lit × DataW H → Nat
  | (.string bytes, d) => bytes.length + uptoBulk d + 1
  | (_, d) => uptoBulk d + 1
 end
def uptoSmall : (H : Type) → List (DataW H) → Bool := fun _ ds => decide (uptoBulkAll ds ≤ 1048576)
def OpenSpec.upto (s : _root_.Go.ChangeSpec) : _root_.Go.OpenSpec := { _root_.Go.OpenSpec.ofChange s with cond := some uptoSmall }

/-- 'hemiolalaw05.PitchEnharmonics', WHERE WHAT IT READS IS OF BULK AT MOST 1048576: true; the input reads as it did. -/
def pitchEnharmonicsUptoRow : OpenClaim := { program := "ythoampbpeiehhaadoor", sum := "c0b2ddc431f15d234117962db014e063200aba89ff087cc911f8dd4986dbbf5c", func := "hemiola/hemiolalaw05.PitchEnharmonics", spec := "pitchEnharmonics", inPlace := ["internal/bytealg.IndexByteString"], named := ["strconv.ErrSyntax", "strconv.ErrRange", "internal/strconv.uint64pow10", "math/bits.deBruijn32tab", "math/bits.deBruijn64tab"], apart := false, laid := [("math/bits.deBruijn32tab", laid_math_bits_deBruijn32tab), ("math/bits.deBruijn64tab", laid_math_bits_deBruijn64tab), ("internal/strconv.uint64pow10", laid_internal_strconv_uint64pow10), ("strconv.ErrRange", laid_strconv_ErrRange), ("strconv.ErrSyntax", laid_strconv_ErrSyntax)], narrowed := true }
def PitchEnharmonicsUptoSaid : Prop := pitchEnharmonicsUptoRow.holds Tryd.pinned (OpenSpec.upto pitchEnharmonicsSpec)

/-- 'hemiolalaw05.PitchRespells', WHERE WHAT IT READS IS OF BULK AT MOST 1048576: true; the input reads as it did. -/
def pitchRespellsUptoRow : OpenClaim := { program := "ythoampbpeiehhaadoor", sum := "c0b2ddc431f15d234117962db014e063200aba89ff087cc911f8dd4986dbbf5c", func := "hemiola/hemiolalaw05.PitchRespells", spec := "pitchRespells", inPlace := ["internal/bytealg.IndexByteString"], named := ["strconv.ErrSyntax", "strconv.ErrRange", "internal/strconv.uint64pow10", "math/bits.deBruijn32tab", "math/bits.deBruijn64tab"], apart := false, laid := [("math/bits.deBruijn32tab", laid_math_bits_deBruijn32tab), ("math/bits.deBruijn64tab", laid_math_bits_deBruijn64tab), ("internal/strconv.uint64pow10", laid_internal_strconv_uint64pow10), ("strconv.ErrRange", laid_strconv_ErrRange), ("strconv.ErrSyntax", laid_strconv_ErrSyntax)], narrowed := true }
def PitchRespellsUptoSaid : Prop := pitchRespellsUptoRow.holds Tryd.pinned (OpenSpec.upto pitchRespellsSpec)

/-- 'hemiolalaw05.PitchNames', WHERE WHAT IT READS IS OF BULK AT MOST 1048576: true; the input reads as it did. -/
def pitchNamesUptoRow : OpenClaim := { program := "ythoampbpeiehhaadoor", sum := "c0b2ddc431f15d234117962db014e063200aba89ff087cc911f8dd4986dbbf5c", func := "hemiola/hemiolalaw05.PitchNames", spec := "pitchNames", inPlace := ["internal/bytealg.IndexByteString"], named := ["internal/strconv.uint64pow10", "math/bits.deBruijn32tab", "math/bits.deBruijn64tab", "strconv.ErrSyntax", "strconv.ErrRange"], apart := false, laid := [("math/bits.deBruijn32tab", laid_math_bits_deBruijn32tab), ("math/bits.deBruijn64tab", laid_math_bits_deBruijn64tab), ("internal/strconv.uint64pow10", laid_internal_strconv_uint64pow10), ("strconv.ErrRange", laid_strconv_ErrRange), ("strconv.ErrSyntax", laid_strconv_ErrSyntax)], narrowed := true }
def PitchNamesUptoSaid : Prop := pitchNamesUptoRow.holds Tryd.pinned (OpenSpec.upto pitchNamesSpec)

/-- 'hemiolalaw05.PitchParses', WHERE WHAT IT READS IS OF BULK AT MOST 1048576: true; the input reads as it did. -/
def pitchParsesUptoRow : OpenClaim := { program := "ythoampbpeiehhaadoor", sum := "c0b2ddc431f15d234117962db014e063200aba89ff087cc911f8dd4986dbbf5c", func := "hemiola/hemiolalaw05.PitchParses", spec := "pitchParses", inPlace := ["internal/bytealg.IndexByteString"], named := ["strconv.ErrSyntax", "strconv.ErrRange", "internal/strconv.uint64pow10", "math/bits.deBruijn32tab", "math/bits.deBruijn64tab"], apart := false, laid := [("math/bits.deBruijn32tab", laid_math_bits_deBruijn32tab), ("math/bits.deBruijn64tab", laid_math_bits_deBruijn64tab), ("internal/strconv.uint64pow10", laid_internal_strconv_uint64pow10), ("strconv.ErrRange", laid_strconv_ErrRange), ("strconv.ErrSyntax", laid_strconv_ErrSyntax)], narrowed := true }
def PitchParsesUptoSaid : Prop := pitchParsesUptoRow.holds Tryd.pinned (OpenSpec.upto pitchParsesSpec)

/-- 'hemiolalaw05.PitchFifths', WHERE WHAT IT READS IS OF BULK AT MOST 1048576: true; the input reads as it did. -/
def pitchFifthsUptoRow : OpenClaim := { program := "ythoampbpeiehhaadoor", sum := "c0b2ddc431f15d234117962db014e063200aba89ff087cc911f8dd4986dbbf5c", func := "hemiola/hemiolalaw05.PitchFifths", spec := "pitchFifths", inPlace := ["internal/bytealg.IndexByteString"], named := ["strconv.ErrSyntax", "strconv.ErrRange", "internal/strconv.uint64pow10", "math/bits.deBruijn32tab", "math/bits.deBruijn64tab"], apart := false, laid := [("math/bits.deBruijn32tab", laid_math_bits_deBruijn32tab), ("math/bits.deBruijn64tab", laid_math_bits_deBruijn64tab), ("internal/strconv.uint64pow10", laid_internal_strconv_uint64pow10), ("strconv.ErrRange", laid_strconv_ErrRange), ("strconv.ErrSyntax", laid_strconv_ErrSyntax)], narrowed := true }
def PitchFifthsUptoSaid : Prop := pitchFifthsUptoRow.holds Tryd.pinned (OpenSpec.upto pitchFifthsSpec)

/-- 'hemiolalaw05.PitchOf', WHERE WHAT IT READS IS OF BULK AT MOST 1048576: true; the input reads as it did. -/
def pitchOfUptoRow : OpenClaim := { program := "ythoampbpeiehhaadoor", sum := "c0b2ddc431f15d234117962db014e063200aba89ff087cc911f8dd4986dbbf5c", func := "hemiola/hemiolalaw05.PitchOf", spec := "pitchOf", inPlace := ["internal/bytealg.IndexByteString"], named := ["strconv.ErrSyntax", "strconv.ErrRange", "internal/strconv.uint64pow10", "math/bits.deBruijn32tab", "math/bits.deBruijn64tab"], apart := false, laid := [("math/bits.deBruijn32tab", laid_math_bits_deBruijn32tab), ("math/bits.deBruijn64tab", laid_math_bits_deBruijn64tab), ("internal/strconv.uint64pow10", laid_internal_strconv_uint64pow10), ("strconv.ErrRange", laid_strconv_ErrRange), ("strconv.ErrSyntax", laid_strconv_ErrSyntax)], narrowed := true }
def PitchOfUptoSaid : Prop := pitchOfUptoRow.holds Tryd.pinned (OpenSpec.upto pitchOfSpec)

/-- 'hemiolalaw05.PitchNumbers', WHERE WHAT IT READS IS OF BULK AT MOST 1048576: true; the input reads as it did. -/
def pitchNumbersUptoRow : OpenClaim := { program := "ythoampbpeiehhaadoor", sum := "c0b2ddc431f15d234117962db014e063200aba89ff087cc911f8dd4986dbbf5c", func := "hemiola/hemiolalaw05.PitchNumbers", spec := "pitchNumbers", inPlace := ["internal/bytealg.IndexByteString"], named := ["strconv.ErrSyntax", "strconv.ErrRange", "internal/strconv.uint64pow10", "math/bits.deBruijn32tab", "math/bits.deBruijn64tab"], apart := false, laid := [("math/bits.deBruijn32tab", laid_math_bits_deBruijn32tab), ("math/bits.deBruijn64tab", laid_math_bits_deBruijn64tab), ("internal/strconv.uint64pow10", laid_internal_strconv_uint64pow10), ("strconv.ErrRange", laid_strconv_ErrRange), ("strconv.ErrSyntax", laid_strconv_ErrSyntax)], narrowed := true }
def PitchNumbersUptoSaid : Prop := pitchNumbersUptoRow.holds Tryd.pinned (OpenSpec.upto pitchNumbersSpec)

/-- 'hemiolalaw05.PitchSimple', WHERE WHAT IT READS IS OF BULK AT MOST 1048576: true; the input reads as it did. -/
def pitchSimpleUptoRow : OpenClaim := { program := "ythoampbpeiehhaadoor", sum := "c0b2ddc431f15d234117962db014e063200aba89ff087cc911f8dd4986dbbf5c", func := "hemiola/hemiolalaw05.PitchSimple", spec := "pitchSimple", inPlace := ["internal/bytealg.IndexByteString"], named := ["strconv.ErrSyntax", "strconv.ErrRange", "internal/strconv.uint64pow10", "math/bits.deBruijn32tab", "math/bits.deBruijn64tab"], apart := false, laid := [("math/bits.deBruijn32tab", laid_math_bits_deBruijn32tab), ("math/bits.deBruijn64tab", laid_math_bits_deBruijn64tab), ("internal/strconv.uint64pow10", laid_internal_strconv_uint64pow10), ("strconv.ErrRange", laid_strconv_ErrRange), ("strconv.ErrSyntax", laid_strconv_ErrSyntax)], narrowed := true }
def PitchSimpleUptoSaid : Prop := pitchSimpleUptoRow.holds Tryd.pinned (OpenSpec.upto pitchSimpleSpec)

/-- 'hemiolalaw05.PitchCompares', WHERE WHAT IT READS IS OF BULK AT MOST 1048576: true; the input reads as it did. -/
def pitchComparesUptoRow : OpenClaim := { program := "ythoampbpeiehhaadoor", sum := "c0b2ddc431f15d234117962db014e063200aba89ff087cc911f8dd4986dbbf5c", func := "hemiola/hemiolalaw05.PitchCompares", spec := "pitchCompares", inPlace := ["internal/bytealg.IndexByteString"], named := ["strconv.ErrSyntax", "strconv.ErrRange", "internal/strconv.uint64pow10", "math/bits.deBruijn32tab", "math/bits.deBruijn64tab"], apart := false, laid := [("math/bits.deBruijn32tab", laid_math_bits_deBruijn32tab), ("math/bits.deBruijn64tab", laid_math_bits_deBruijn64tab), ("internal/strconv.uint64pow10", laid_internal_strconv_uint64pow10), ("strconv.ErrRange", laid_strconv_ErrRange), ("strconv.ErrSyntax", laid_strconv_ErrSyntax)], narrowed := true }
def PitchComparesUptoSaid : Prop := pitchComparesUptoRow.holds Tryd.pinned (OpenSpec.upto pitchComparesSpec)

end Rows
end Go.Proofs.YthoampbpeiehhaaDoor
