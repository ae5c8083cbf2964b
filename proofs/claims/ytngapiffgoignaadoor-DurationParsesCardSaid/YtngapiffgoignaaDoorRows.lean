/-
  NARROWER THAN 'FOR EVERY INPUT', by the rows' own cells (each row's printed sentence says how): DurationAll: laid · DurationFewest: laid · DurationFlags: laid · DurationTicks: laid · DurationFinds: laid · DurationScales: laid · DurationDecomposes: laid · DurationSums: laid · DurationParses: laid · DurationTexts: laid.
  DERIVED. THE GIVEN ROWS OF THIS SEAT. 10 by the template 'for every input the law returns true; each argument reads behind the call as it read before'; 0 by the template 'total and deterministic' (their statements: YtngapiffgoignaaDoorTotals.lean).
  GIVEN WITH THE SEED: the statements are not yours to turn. If you find one false, say at which input.
  Laid BY PROGRAM, IN A SANDBOX (cutbox-rows.mjs): the forced cells as the released guide's own fill.sh prints them over the translation 1c9e64c7d26b2e42… (all of the seat's roots in one cut). By AI agents, Wed Nov 11 2026. No macro, syntax, notation, axiom, sorry.
-/
import Derived.Test.YtngapiffgoignaaDoorChecked
import GoSem.Claim
import GoSem.ClaimJoined
import GoSem.ClaimMapViews
import Derived.JoinedTies
import Derived.KernelRfl
namespace Go.Proofs.YtngapiffgoignaaDoor
/- THE CELL 'sum', in the pinned program and in every row, IS THE sha256 OF THE DUMP (.gsa) THAT YtngapiffgoignaaDoorProg.lean LOADS. Nothing in Lean hashes anything: it is a label: what it is worth is what the hold of that sum in a sandbox is worth. -/
noncomputable def Tryd.pinned : Pinned := { name := "ytngapiffgoignaadoor", sum := "1c9e64c7d26b2e42ac3a2334197deb49c7ee85741fd5a581e05c27a707800324", checked := Tryd.checked }
namespace Rows
def none {H : Type} : Left H := { results := [], args := [] }

/- WHAT THE LISTED PACKAGE-LEVEL VARIABLES READ AS WHEN THE CALL BEGINS. Each datum BY PROGRAM (the guide's laid-datum.mjs) off the statement by which the dump's own 'gosem.cut.vars' lays the variable. In a bare row this is a premise. The card (YtngapiffgoignaaDoorCards.lean) ties it to the program's text. -/
def laid_math_bits_deBruijn32tab {H : Type} : DataW H := .agg [.lit (.int .u8 0), .lit (.int .u8 1), .lit (.int .u8 28), .lit (.int .u8 2), .lit (.int .u8 29), .lit (.int .u8 14), .lit (.int .u8 24), .lit (.int .u8 3), .lit (.int .u8 30), .lit (.int .u8 22), .lit (.int .u8 20), .lit (.int .u8 15), .lit (.int .u8 25), .lit (.int .u8 17), .lit (.int .u8 4), .lit (.int .u8 8), .lit (.int .u8 31), .lit (.int .u8 27), .lit (.int .u8 13), .lit (.int .u8 23), .lit (.int .u8 21), .lit (.int .u8 19), .lit (.int .u8 16), .lit (.int .u8 7), .lit (.int .u8 26), .lit (.int .u8 12), .lit (.int .u8 18), .lit (.int .u8 6), .lit (.int .u8 11), .lit (.int .u8 5), .lit (.int .u8 10), .lit (.int .u8 9)]
def laid_math_bits_deBruijn64tab {H : Type} : DataW H := .agg [.lit (.int .u8 0), .lit (.int .u8 1), .lit (.int .u8 56), .lit (.int .u8 2), .lit (.int .u8 57), .lit (.int .u8 49), .lit (.int .u8 28), .lit (.int .u8 3), .lit (.int .u8 61), .lit (.int .u8 58), .lit (.int .u8 42), .lit (.int .u8 50), .lit (.int .u8 38), .lit (.int .u8 29), .lit (.int .u8 17), .lit (.int .u8 4), .lit (.int .u8 62), .lit (.int .u8 47), .lit (.int .u8 59), .lit (.int .u8 36), .lit (.int .u8 45), .lit (.int .u8 43), .lit (.int .u8 51), .lit (.int .u8 22), .lit (.int .u8 53), .lit (.int .u8 39), .lit (.int .u8 33), .lit (.int .u8 30), .lit (.int .u8 24), .lit (.int .u8 18), .lit (.int .u8 12), .lit (.int .u8 5), .lit (.int .u8 63), .lit (.int .u8 55), .lit (.int .u8 48), .lit (.int .u8 27), .lit (.int .u8 60), .lit (.int .u8 41), .lit (.int .u8 37), .lit (.int .u8 16), .lit (.int .u8 46), .lit (.int .u8 35), .lit (.int .u8 44), .lit (.int .u8 21), .lit (.int .u8 52), .lit (.int .u8 32), .lit (.int .u8 23), .lit (.int .u8 11), .lit (.int .u8 54), .lit (.int .u8 26), .lit (.int .u8 40), .lit (.int .u8 15), .lit (.int .u8 34), .lit (.int .u8 20), .lit (.int .u8 31), .lit (.int .u8 10), .lit (.int .u8 25), .lit (.int .u8 14), .lit (.int .u8 19), .lit (.int .u8 9), .lit (.int .u8 13), .lit (.int .u8 8), .lit (.int .u8 7), .lit (.int .u8 6)]
def laid_internal_strconv_uint64pow10 {H : Type} : DataW H := .agg [.lit (.int .u64 1), .lit (.int .u64 10), .lit (.int .u64 100), .lit (.int .u64 1000), .lit (.int .u64 10000), .lit (.int .u64 100000), .lit (.int .u64 1000000), .lit (.int .u64 10000000), .lit (.int .u64 100000000), .lit (.int .u64 1000000000), .lit (.int .u64 10000000000), .lit (.int .u64 100000000000), .lit (.int .u64 1000000000000), .lit (.int .u64 10000000000000), .lit (.int .u64 100000000000000), .lit (.int .u64 1000000000000000), .lit (.int .u64 10000000000000000), .lit (.int .u64 100000000000000000), .lit (.int .u64 1000000000000000000), .lit (.int .u64 10000000000000000000)]

/-- 'hemiolalaw02.DurationAll': WHATEVER THE INPUT: true; the input reads as it did. -/
def durationAllSpec : ChangeSpec := { name := "durationAll", fn := fun _ => fun
  | [d] => { results := [.lit (.bool true)], args := [d] }
  | _ => none }
def durationAllRow : OpenClaim := { program := "ytngapiffgoignaadoor", sum := "1c9e64c7d26b2e42ac3a2334197deb49c7ee85741fd5a581e05c27a707800324", func := "hemiola/hemiolalaw02.DurationAll", spec := "durationAll", inPlace := ["internal/abi.NoEscape", "internal/bytealg.MakeNoZero"], unfollowed := true, recurses := true, named := ["internal/strconv.uint64pow10", "math/bits.deBruijn32tab", "math/bits.deBruijn64tab"], apart := false, laid := [("math/bits.deBruijn32tab", laid_math_bits_deBruijn32tab), ("math/bits.deBruijn64tab", laid_math_bits_deBruijn64tab), ("internal/strconv.uint64pow10", laid_internal_strconv_uint64pow10)] }
def DurationAllSaid : Prop := durationAllRow.holds Tryd.pinned (OpenSpec.ofChange durationAllSpec)

/-- ITS FALSE NEIGHBOUR: 'it returns false'. Refute it at one input. -/
def durationAllWrong : ChangeSpec := { name := "durationAll", fn := fun _ => fun
  | [d] => { results := [.lit (.bool false)], args := [d] }
  | _ => none }
def DurationAllWrongFalsely : Prop := durationAllRow.holds Tryd.pinned (OpenSpec.ofChange durationAllWrong)

/-- 'hemiolalaw02.DurationFewest': WHATEVER THE INPUT: true; the input reads as it did. -/
def durationFewestSpec : ChangeSpec := { name := "durationFewest", fn := fun _ => fun
  | [d] => { results := [.lit (.bool true)], args := [d] }
  | _ => none }
def durationFewestRow : OpenClaim := { program := "ytngapiffgoignaadoor", sum := "1c9e64c7d26b2e42ac3a2334197deb49c7ee85741fd5a581e05c27a707800324", func := "hemiola/hemiolalaw02.DurationFewest", spec := "durationFewest", inPlace := ["internal/abi.NoEscape", "internal/bytealg.MakeNoZero"], unfollowed := true, recurses := true, named := ["internal/strconv.uint64pow10", "math/bits.deBruijn32tab", "math/bits.deBruijn64tab"], apart := false, laid := [("math/bits.deBruijn32tab", laid_math_bits_deBruijn32tab), ("math/bits.deBruijn64tab", laid_math_bits_deBruijn64tab), ("internal/strconv.uint64pow10", laid_internal_strconv_uint64pow10)] }
def DurationFewestSaid : Prop := durationFewestRow.holds Tryd.pinned (OpenSpec.ofChange durationFewestSpec)

/-- ITS FALSE NEIGHBOUR: 'it returns false'. Refute it at one input. -/
def durationFewestWrong : ChangeSpec := { name := "durationFewest", fn := fun _ => fun
  | [d] => { results := [.lit (.bool false)], args := [d] }
  | _ => none }
def DurationFewestWrongFalsely : Prop := durationFewestRow.holds Tryd.pinned (OpenSpec.ofChange durationFewestWrong)

/-- 'hemiolalaw02.DurationFlags': WHATEVER THE INPUT: true; the input reads as it did. -/
def durationFlagsSpec : ChangeSpec := { name := "durationFlags", fn := fun _ => fun
  | [d] => { results := [.lit (.bool true)], args := [d] }
  | _ => none }
def durationFlagsRow : OpenClaim := { program := "ytngapiffgoignaadoor", sum := "1c9e64c7d26b2e42ac3a2334197deb49c7ee85741fd5a581e05c27a707800324", func := "hemiola/hemiolalaw02.DurationFlags", spec := "durationFlags", inPlace := ["internal/abi.NoEscape", "internal/bytealg.MakeNoZero"], unfollowed := true, recurses := true, named := ["internal/strconv.uint64pow10", "math/bits.deBruijn32tab", "math/bits.deBruijn64tab"], apart := false, laid := [("math/bits.deBruijn32tab", laid_math_bits_deBruijn32tab), ("math/bits.deBruijn64tab", laid_math_bits_deBruijn64tab), ("internal/strconv.uint64pow10", laid_internal_strconv_uint64pow10)] }
def DurationFlagsSaid : Prop := durationFlagsRow.holds Tryd.pinned (OpenSpec.ofChange durationFlagsSpec)

/-- ITS FALSE NEIGHBOUR: 'it returns false'. Refute it at one input. -/
def durationFlagsWrong : ChangeSpec := { name := "durationFlags", fn := fun _ => fun
  | [d] => { results := [.lit (.bool false)], args := [d] }
  | _ => none }
def DurationFlagsWrongFalsely : Prop := durationFlagsRow.holds Tryd.pinned (OpenSpec.ofChange durationFlagsWrong)

/-- 'hemiolalaw02.DurationTicks': WHATEVER THE INPUT: true; the input reads as it did. -/
def durationTicksSpec : ChangeSpec := { name := "durationTicks", fn := fun _ => fun
  | [d] => { results := [.lit (.bool true)], args := [d] }
  | _ => none }
def durationTicksRow : OpenClaim := { program := "ytngapiffgoignaadoor", sum := "1c9e64c7d26b2e42ac3a2334197deb49c7ee85741fd5a581e05c27a707800324", func := "hemiola/hemiolalaw02.DurationTicks", spec := "durationTicks", inPlace := ["internal/abi.NoEscape", "internal/bytealg.MakeNoZero"], unfollowed := true, recurses := true, named := ["internal/strconv.uint64pow10", "math/bits.deBruijn32tab", "math/bits.deBruijn64tab"], apart := false, laid := [("math/bits.deBruijn32tab", laid_math_bits_deBruijn32tab), ("math/bits.deBruijn64tab", laid_math_bits_deBruijn64tab), ("internal/strconv.uint64pow10", laid_internal_strconv_uint64pow10)] }
def DurationTicksSaid : Prop := durationTicksRow.holds Tryd.pinned (OpenSpec.ofChange durationTicksSpec)

/-- ITS FALSE NEIGHBOUR: 'it returns false'. Refute it at one input. -/
def durationTicksWrong : ChangeSpec := { name := "durationTicks", fn := fun _ => fun
  | [d] => { results := [.lit (.bool false)], args := [d] }
  | _ => none }
def DurationTicksWrongFalsely : Prop := durationTicksRow.holds Tryd.pinned (OpenSpec.ofChange durationTicksWrong)

/-- 'hemiolalaw02.DurationFinds': WHATEVER THE INPUT: true; the input reads as it did. -/
def durationFindsSpec : ChangeSpec := { name := "durationFinds", fn := fun _ => fun
  | [d] => { results := [.lit (.bool true)], args := [d] }
  | _ => none }
def durationFindsRow : OpenClaim := { program := "ytngapiffgoignaadoor", sum := "1c9e64c7d26b2e42ac3a2334197deb49c7ee85741fd5a581e05c27a707800324", func := "hemiola/hemiolalaw02.DurationFinds", spec := "durationFinds", inPlace := ["internal/abi.NoEscape", "internal/bytealg.MakeNoZero"], unfollowed := true, recurses := true, named := ["internal/strconv.uint64pow10", "math/bits.deBruijn32tab", "math/bits.deBruijn64tab"], apart := false, laid := [("math/bits.deBruijn32tab", laid_math_bits_deBruijn32tab), ("math/bits.deBruijn64tab", laid_math_bits_deBruijn64tab), ("internal/strconv.uint64pow10", laid_internal_strconv_uint64pow10)] }
def DurationFindsSaid : Prop := durationFindsRow.holds Tryd.pinned (OpenSpec.ofChange durationFindsSpec)

/-- ITS FALSE NEIGHBOUR: 'it returns false'. Refute it at one input. -/
def durationFindsWrong : ChangeSpec := { name := "durationFinds", fn := fun _ => fun
  | [d] => { results := [.lit (.bool false)], args := [d] }
  | _ => none }
def DurationFindsWrongFalsely : Prop := durationFindsRow.holds Tryd.pinned (OpenSpec.ofChange durationFindsWrong)

/-- 'hemiolalaw02.DurationScales': WHATEVER THE INPUT: true; the input reads as it did. -/
def durationScalesSpec : ChangeSpec := { name := "durationScales", fn := fun _ => fun
  | [d1, d2] => { results := [.lit (.bool true)], args := [d1, d2] }
  | _ => none }
def durationScalesRow : OpenClaim := { program := "ytngapiffgoignaadoor", sum := "1c9e64c7d26b2e42ac3a2334197deb49c7ee85741fd5a581e05c27a707800324", func := "hemiola/hemiolalaw02.DurationScales", spec := "durationScales", inPlace := ["internal/abi.NoEscape", "internal/bytealg.MakeNoZero"], unfollowed := true, recurses := true, named := ["internal/strconv.uint64pow10", "math/bits.deBruijn32tab", "math/bits.deBruijn64tab"], apart := false, laid := [("math/bits.deBruijn32tab", laid_math_bits_deBruijn32tab), ("math/bits.deBruijn64tab", laid_math_bits_deBruijn64tab), ("internal/strconv.uint64pow10", laid_internal_strconv_uint64pow10)] }
def DurationScalesSaid : Prop := durationScalesRow.holds Tryd.pinned (OpenSpec.ofChange durationScalesSpec)

/-- ITS FALSE NEIGHBOUR: 'it returns false'. Refute it at one input. -/
def durationScalesWrong : ChangeSpec := { name := "durationScales", fn := fun _ => fun
  | [d1, d2] => { results := [.lit (.bool false)], args := [d1, d2] }
  | _ => none }
def DurationScalesWrongFalsely : Prop := durationScalesRow.holds Tryd.pinned (OpenSpec.ofChange durationScalesWrong)

/-- 'hemiolalaw02.DurationDecomposes': WHATEVER THE INPUT: true; the input reads as it did. -/
def durationDecomposesSpec : ChangeSpec := { name := "durationDecomposes", fn := fun _ => fun
  | [d] => { results := [.lit (.bool true)], args := [d] }
  | _ => none }
def durationDecomposesRow : OpenClaim := { program := "ytngapiffgoignaadoor", sum := "1c9e64c7d26b2e42ac3a2334197deb49c7ee85741fd5a581e05c27a707800324", func := "hemiola/hemiolalaw02.DurationDecomposes", spec := "durationDecomposes", inPlace := ["internal/abi.NoEscape", "internal/bytealg.MakeNoZero"], unfollowed := true, recurses := true, named := ["internal/strconv.uint64pow10", "math/bits.deBruijn32tab", "math/bits.deBruijn64tab"], apart := false, laid := [("math/bits.deBruijn32tab", laid_math_bits_deBruijn32tab), ("math/bits.deBruijn64tab", laid_math_bits_deBruijn64tab), ("internal/strconv.uint64pow10", laid_internal_strconv_uint64pow10)] }
def DurationDecomposesSaid : Prop := durationDecomposesRow.holds Tryd.pinned (OpenSpec.ofChange durationDecomposesSpec)

/-- ITS FALSE NEIGHBOUR: 'it returns false'. Refute it at one input. -/
def durationDecomposesWrong : ChangeSpec := { name := "durationDecomposes", fn := fun _ => fun
  | [d] => { results := [.lit (.bool false)], args := [d] }
  | _ => none }
def DurationDecomposesWrongFalsely : Prop := durationDecomposesRow.holds Tryd.pinned (OpenSpec.ofChange durationDecomposesWrong)

/-- 'hemiolalaw02.DurationSums': WHATEVER THE INPUT: true; the input reads as it did. -/
def durationSumsSpec : ChangeSpec := { name := "durationSums", fn := fun _ => fun
  | [d1, d2] => { results := [.lit (.bool true)], args := [d1, d2] }
  | _ => none }
def durationSumsRow : OpenClaim := { program := "ytngapiffgoignaadoor", sum := "1c9e64c7d26b2e42ac3a2334197deb49c7ee85741fd5a581e05c27a707800324", func := "hemiola/hemiolalaw02.DurationSums", spec := "durationSums", inPlace := ["internal/abi.NoEscape", "internal/bytealg.MakeNoZero"], unfollowed := true, recurses := true, named := ["internal/strconv.uint64pow10", "math/bits.deBruijn32tab", "math/bits.deBruijn64tab"], apart := false, laid := [("math/bits.deBruijn32tab", laid_math_bits_deBruijn32tab), ("math/bits.deBruijn64tab", laid_math_bits_deBruijn64tab), ("internal/strconv.uint64pow10", laid_internal_strconv_uint64pow10)] }
def DurationSumsSaid : Prop := durationSumsRow.holds Tryd.pinned (OpenSpec.ofChange durationSumsSpec)

/-- ITS FALSE NEIGHBOUR: 'it returns false'. Refute it at one input. -/
def durationSumsWrong : ChangeSpec := { name := "durationSums", fn := fun _ => fun
  | [d1, d2] => { results := [.lit (.bool false)], args := [d1, d2] }
  | _ => none }
def DurationSumsWrongFalsely : Prop := durationSumsRow.holds Tryd.pinned (OpenSpec.ofChange durationSumsWrong)

/-- 'hemiolalaw02.DurationParses': WHATEVER THE INPUT: true; the input reads as it did. -/
def durationParsesSpec : ChangeSpec := { name := "durationParses", fn := fun _ => fun
  | [d] => { results := [.lit (.bool true)], args := [d] }
  | _ => none }
def durationParsesRow : OpenClaim := { program := "ytngapiffgoignaadoor", sum := "1c9e64c7d26b2e42ac3a2334197deb49c7ee85741fd5a581e05c27a707800324", func := "hemiola/hemiolalaw02.DurationParses", spec := "durationParses", inPlace := ["internal/abi.NoEscape", "internal/bytealg.MakeNoZero"], unfollowed := true, recurses := true, named := ["internal/strconv.uint64pow10", "math/bits.deBruijn32tab", "math/bits.deBruijn64tab"], apart := false, laid := [("math/bits.deBruijn32tab", laid_math_bits_deBruijn32tab), ("math/bits.deBruijn64tab", laid_math_bits_deBruijn64tab), ("internal/strconv.uint64pow10", laid_internal_strconv_uint64pow10)] }
def DurationParsesSaid : Prop := durationParsesRow.holds Tryd.pinned (OpenSpec.ofChange durationParsesSpec)

/-- ITS FALSE NEIGHBOUR: 'it returns false'. Refute it at one input. -/
def durationParsesWrong : ChangeSpec := { name := "durationParses", fn := fun _ => fun
  | [d] => { results := [.lit (.bool false)], args := [d] }
  | _ => none }
def DurationParsesWrongFalsely : Prop := durationParsesRow.holds Tryd.pinned (OpenSpec.ofChange durationParsesWrong)

/-- 'hemiolalaw02.DurationTexts': WHATEVER THE INPUT: true; the input reads as it did. -/
def durationTextsSpec : ChangeSpec := { name := "durationTexts", fn := fun _ => fun
  | [d] => { results := [.lit (.bool true)], args := [d] }
  | _ => none }
def durationTextsRow : OpenClaim := { program := "ytngapiffgoignaadoor", sum := "1c9e64c7d26b2e42ac3a2334197deb49c7ee85741fd5a581e05c27a707800324", func := "hemiola/hemiolalaw02.DurationTexts", spec := "durationTexts", inPlace := ["internal/abi.NoEscape", "internal/bytealg.MakeNoZero"], unfollowed := true, recurses := true, named := ["internal/strconv.uint64pow10", "math/bits.deBruijn32tab", "math/bits.deBruijn64tab"], apart := false, laid := [("math/bits.deBruijn32tab", laid_math_bits_deBruijn32tab), ("math/bits.deBruijn64tab", laid_math_bits_deBruijn64tab), ("internal/strconv.uint64pow10", laid_internal_strconv_uint64pow10)] }
def DurationTextsSaid : Prop := durationTextsRow.holds Tryd.pinned (OpenSpec.ofChange durationTextsSpec)

/-- ITS FALSE NEIGHBOUR: 'it returns false'. Refute it at one input. -/
def durationTextsWrong : ChangeSpec := { name := "durationTexts", fn := fun _ => fun
  | [d] => { results := [.lit (.bool false)], args := [d] }
  | _ => none }
def DurationTextsWrongFalsely : Prop := durationTextsRow.holds Tryd.pinned (OpenSpec.ofChange durationTextsWrong)

/- THE SECOND FORM. 'bulk': how many values and letters a reading holds, each counted each time it is reached (what is shared counts as often as it is met; a slice's spare places count too). A statement '..UptoSaid' is the law's where the arguments, and the package variables that the reading takes, are together of bulk at most 1048576: NARROWER than '..Said'. Prove '..Said' where nothing that the law and all that it calls make is longer than what came in: it says more and counts as full. Else prove '..UptoSaid'. A law counts once. -/
mutual
def uptoBulk {H : Type} : DataW H → Nat
  | .lit (.string bytes) => bytes.length + 1
  | .lit _ => 1
  | .nil => 1
  | .ptr d => uptoBulk d + 1
  | .slice elems spare => uptoBulkAll elems + uptoBulkAll spare + 1
  | .agg parts => uptoBulkAll parts + 1
  | .iface _ d => uptoBulk d + 1
  | .map entries => uptoBulkEntries entries + 1
  | .held _ => 1
def uptoBulkAll {H : Type} : List (DataW H) → Nat
  | [] => 0
  | d :: r => uptoBulk d + uptoBulkAll r
def uptoBulkEntries {H : Type} : List (Lit × DataW H) → Nat
  | [] => 0
  | x :: r => uptoBulkEntry x + uptoBulkEntries r
def uptoBulkEntry {H : Type} : Lit × DataW H → Nat
  | (.string bytes, d) => bytes.length + uptoBulk d + 1
  | (_, d) => uptoBulk d + 1
 end
def uptoSmall : (H : Type) → List (DataW H) → Bool := fun _ ds => decide (uptoBulkAll ds ≤ 1048576)
def OpenSpec.upto (s : _root_.Go.ChangeSpec) : _root_.Go.OpenSpec := { _root_.Go.OpenSpec.ofChange s with cond := some uptoSmall }

/-- 'hemiolalaw02.DurationAll', WHERE WHAT IT READS IS OF BULK AT MOST 1048576: true; the input reads as it did. -/
def durationAllUptoRow : OpenClaim := { program := "ytngapiffgoignaadoor", sum := "1c9e64c7d26b2e42ac3a2334197deb49c7ee85741fd5a581e05c27a707800324", func := "hemiola/hemiolalaw02.DurationAll", spec := "durationAll", inPlace := ["internal/abi.NoEscape", "internal/bytealg.MakeNoZero"], unfollowed := true, recurses := true, named := ["internal/strconv.uint64pow10", "math/bits.deBruijn32tab", "math/bits.deBruijn64tab"], apart := false, laid := [("math/bits.deBruijn32tab", laid_math_bits_deBruijn32tab), ("math/bits.deBruijn64tab", laid_math_bits_deBruijn64tab), ("internal/strconv.uint64pow10", laid_internal_strconv_uint64pow10)], narrowed := true }
def DurationAllUptoSaid : Prop := durationAllUptoRow.holds Tryd.pinned (OpenSpec.upto durationAllSpec)

/-- 'hemiolalaw02.DurationFewest', WHERE WHAT IT READS IS OF BULK AT MOST 1048576: true; the input reads as it did. -/
def durationFewestUptoRow : OpenClaim := { program := "ytngapiffgoignaadoor", sum := "1c9e64c7d26b2e42ac3a2334197deb49c7ee85741fd5a581e05c27a707800324", func := "hemiola/hemiolalaw02.DurationFewest", spec := "durationFewest", inPlace := ["internal/abi.NoEscape", "internal/bytealg.MakeNoZero"], unfollowed := true, recurses := true, named := ["internal/strconv.uint64pow10", "math/bits.deBruijn32tab", "math/bits.deBruijn64tab"], apart := false, laid := [("math/bits.deBruijn32tab", laid_math_bits_deBruijn32tab), ("math/bits.deBruijn64tab", laid_math_bits_deBruijn64tab), ("internal/strconv.uint64pow10", laid_internal_strconv_uint64pow10)], narrowed := true }
def DurationFewestUptoSaid : Prop := durationFewestUptoRow.holds Tryd.pinned (OpenSpec.upto durationFewestSpec)

/-- 'hemiolalaw02.DurationFlags', WHERE WHAT IT READS IS OF BULK AT MOST 1048576: true; the input reads as it did. -/
def durationFlagsUptoRow : OpenClaim := { program := "ytngapiffgoignaadoor", sum := "1c9e64c7d26b2e42ac3a2334197deb49c7ee85741fd5a581e05c27a707800324", func := "hemiola/hemiolalaw02.DurationFlags", spec := "durationFlags", inPlace := ["internal/abi.NoEscape", "internal/bytealg.MakeNoZero"], unfollowed := true, recurses := true, named := ["internal/strconv.uint64pow10", "math/bits.deBruijn32tab", "math/bits.deBruijn64tab"], apart := false, laid := [("math/bits.deBruijn32tab", laid_math_bits_deBruijn32tab), ("math/bits.deBruijn64tab", laid_math_bits_deBruijn64tab), ("internal/strconv.uint64pow10", laid_internal_strconv_uint64pow10)], narrowed := true }
def DurationFlagsUptoSaid : Prop := durationFlagsUptoRow.holds Tryd.pinned (OpenSpec.upto durationFlagsSpec)

/-- 'hemiolalaw02.DurationTicks', WHERE WHAT IT READS IS OF BULK AT MOST 1048576: true; the input reads as it did. -/
def durationTicksUptoRow : OpenClaim := { program := "ytngapiffgoignaadoor", sum := "1c9e64c7d26b2e42ac3a2334197deb49c7ee85741fd5a581e05c27a707800324", func := "hemiola/hemiolalaw02.DurationTicks", spec := "durationTicks", inPlace := ["internal/abi.NoEscape", "internal/bytealg.MakeNoZero"], unfollowed := true, recurses := true, named := ["internal/strconv.uint64pow10", "math/bits.deBruijn32tab", "math/bits.deBruijn64tab"], apart := false, laid := [("math/bits.deBruijn32tab", laid_math_bits_deBruijn32tab), ("math/bits.deBruijn64tab", laid_math_bits_deBruijn64tab), ("internal/strconv.uint64pow10", laid_internal_strconv_uint64pow10)], narrowed := true }
def DurationTicksUptoSaid : Prop := durationTicksUptoRow.holds Tryd.pinned (OpenSpec.upto durationTicksSpec)

/-- 'hemiolalaw02.DurationFinds', WHERE WHAT IT READS IS OF BULK AT MOST 1048576: true; the input reads as it did. -/
def durationFindsUptoRow : OpenClaim := { program := "ytngapiffgoignaadoor", sum := "1c9e64c7d26b2e42ac3a2334197deb49c7ee85741fd5a581e05c27a707800324", func := "hemiola/hemiolalaw02.DurationFinds", spec := "durationFinds", inPlace := ["internal/abi.NoEscape", "internal/bytealg.MakeNoZero"], unfollowed := true, recurses := true, named := ["internal/strconv.uint64pow10", "math/bits.deBruijn32tab", "math/bits.deBruijn64tab"], apart := false, laid := [("math/bits.deBruijn32tab", laid_math_bits_deBruijn32tab), ("math/bits.deBruijn64tab", laid_math_bits_deBruijn64tab), ("internal/strconv.uint64pow10", laid_internal_strconv_uint64pow10)], narrowed := true }
def DurationFindsUptoSaid : Prop := durationFindsUptoRow.holds Tryd.pinned (OpenSpec.upto durationFindsSpec)

/-- 'hemiolalaw02.DurationScales', WHERE WHAT IT READS IS OF BULK AT MOST 1048576: true; the input reads as it did. -/
def durationScalesUptoRow : OpenClaim := { program := "ytngapiffgoignaadoor", sum := "1c9e64c7d26b2e42ac3a2334197deb49c7ee85741fd5a581e05c27a707800324", func := "hemiola/hemiolalaw02.DurationScales", spec := "durationScales", inPlace := ["internal/abi.NoEscape", "internal/bytealg.MakeNoZero"], unfollowed := true, recurses := true, named := ["internal/strconv.uint64pow10", "math/bits.deBruijn32tab", "math/bits.deBruijn64tab"], apart := false, laid := [("math/bits.deBruijn32tab", laid_math_bits_deBruijn32tab), ("math/bits.deBruijn64tab", laid_math_bits_deBruijn64tab), ("internal/strconv.uint64pow10", laid_internal_strconv_uint64pow10)], narrowed := true }
def DurationScalesUptoSaid : Prop := durationScalesUptoRow.holds Tryd.pinned (OpenSpec.upto durationScalesSpec)

/-- 'hemiolalaw02.DurationDecomposes', WHERE WHAT IT READS IS OF BULK AT MOST 1048576: true; the input reads as it did. -/
def durationDecomposesUptoRow : OpenClaim := { program := "ytngapiffgoignaadoor", sum := "1c9e64c7d26b2e42ac3a2334197deb49c7ee85741fd5a581e05c27a707800324", func := "hemiola/hemiolalaw02.DurationDecomposes", spec := "durationDecomposes", inPlace := ["internal/abi.NoEscape", "internal/bytealg.MakeNoZero"], unfollowed := true, recurses := true, named := ["internal/strconv.uint64pow10", "math/bits.deBruijn32tab", "math/bits.deBruijn64tab"], apart := false, laid := [("math/bits.deBruijn32tab", laid_math_bits_deBruijn32tab), ("math/bits.deBruijn64tab", laid_math_bits_deBruijn64tab), ("internal/strconv.uint64pow10", laid_internal_strconv_uint64pow10)], narrowed := true }
def DurationDecomposesUptoSaid : Prop := durationDecomposesUptoRow.holds Tryd.pinned (OpenSpec.upto durationDecomposesSpec)

/-- 'hemiolalaw02.DurationSums', WHERE WHAT IT READS IS OF BULK AT MOST 1048576: true; the input reads as it did. -/
def durationSumsUptoRow : OpenClaim := { program := "ytngapiffgoignaadoor", sum := "1c9e64c7d26b2e42ac3a2334197deb49c7ee85741fd5a581e05c27a707800324", func := "hemiola/hemiolalaw02.DurationSums", spec := "durationSums", inPlace := ["internal/abi.NoEscape", "internal/bytealg.MakeNoZero"], unfollowed := true, recurses := true, named := ["internal/strconv.uint64pow10", "math/bits.deBruijn32tab", "math/bits.deBruijn64tab"], apart := false, laid := [("math/bits.deBruijn32tab", laid_math_bits_deBruijn32tab), ("math/bits.deBruijn64tab", laid_math_bits_deBruijn64tab), ("internal/strconv.uint64pow10", laid_internal_strconv_uint64pow10)], narrowed := true }
def DurationSumsUptoSaid : Prop := durationSumsUptoRow.holds Tryd.pinned (OpenSpec.upto durationSumsSpec)

/-- 'hemiolalaw02.DurationParses', WHERE WHAT IT READS IS OF BULK AT MOST 1048576: true; the input reads as it did. -/
def durationParsesUptoRow : OpenClaim := { program := "ytngapiffgoignaadoor", sum := "1c9e64c7d26b2e42ac3a2334197deb49c7ee85741fd5a581e05c27a707800324", func := "hemiola/hemiolalaw02.DurationParses", spec := "durationParses", inPlace := ["internal/abi.NoEscape", "internal/bytealg.MakeNoZero"], unfollowed := true, recurses := true, named := ["internal/strconv.uint64pow10", "math/bits.deBruijn32tab", "math/bits.deBruijn64tab"], apart := false, laid := [("math/bits.deBruijn32tab", laid_math_bits_deBruijn32tab), ("math/bits.deBruijn64tab", laid_math_bits_deBruijn64tab), ("internal/strconv.uint64pow10", laid_internal_strconv_uint64pow10)], narrowed := true }
def DurationParsesUptoSaid : Prop := durationParsesUptoRow.holds Tryd.pinned (OpenSpec.upto durationParsesSpec)

/-- 'hemiolalaw02.DurationTexts', WHERE WHAT IT READS IS OF BULK AT MOST 1048576: true; the input reads as it did. -/
def durationTextsUptoRow : OpenClaim := { program := "ytngapiffgoignaadoor", sum := "1c9e64c7d26b2e42ac3a2334197deb49c7ee85741fd5a581e05c27a707800324", func := "hemiola/hemiolalaw02.DurationTexts", spec := "durationTexts", inPlace := ["internal/abi.NoEscape", "internal/bytealg.MakeNoZero"], unfollowed := true, recurses := true, named := ["internal/strconv.uint64pow10", "math/bits.deBruijn32tab", "math/bits.deBruijn64tab"], apart := false, laid := [("math/bits.deBruijn32tab", laid_math_bits_deBruijn32tab), ("math/bits.deBruijn64tab", laid_math_bits_deBruijn64tab), ("internal/strconv.uint64pow10", laid_internal_strconv_uint64pow10)], narrowed := true }
def DurationTextsUptoSaid : Prop := durationTextsUptoRow.holds Tryd.pinned (OpenSpec.upto durationTextsSpec)

end Rows
end Go.Proofs.YtngapiffgoignaaDoor
