/-
  NARROWER THAN 'FOR EVERY INPUT', by the rows' own cells (each row's printed sentence says how): RunTurned: laid · RunMore: laid · RunWindow: laid · RunTwice: laid · RunBytes: laid · TopPairs: laid · TopRising: laid.
  DERIVED. THE GIVEN ROWS OF THIS SEAT. 7 by the template 'for every input the law returns true; each argument reads behind the call as it read before'; 0 by the template 'total and deterministic' (their statements: YtcojnojdgigmdaaDoorTotals.lean).
  GIVEN WITH THE SEED: the statements are not yours to turn. If you find one false, say at which input.
  Laid BY PROGRAM, IN A SANDBOX (cutbox-rows.mjs): the forced cells as the released guide's own fill.sh prints them over the translation 6221c92fd92199d5… (all of the seat's roots in one cut). By AI agents, Wed Nov 11 2026. No macro, syntax, notation, axiom, sorry.
-/
import Derived.Test.YtcojnojdgigmdaaDoorChecked
import GoSem.Claim
import GoSem.ClaimJoined
import GoSem.ClaimMapViews
import Derived.JoinedTies
import Derived.KernelRfl
namespace Go.Proofs.YtcojnojdgigmdaaDoor
/- THE CELL 'sum', in the pinned program and in every row, IS THE sha256 OF THE DUMP (.gsa) THAT YtcojnojdgigmdaaDoorProg.lean LOADS. Nothing in Lean hashes anything: it is a label: what it is worth is what the hold of that sum in a sandbox is worth. -/
noncomputable def Tryd.pinned : Pinned := { name := "ytcojnojdgigmdaadoor", sum := "6221c92fd92199d5b5776cedf206093804b6f67aa963b24c71682a9ce606de9a", checked := Tryd.checked }
namespace Rows
def none {H : Type} : Left H := { results := [], args := [] }

/- WHAT THE LISTED PACKAGE-LEVEL VARIABLES READ AS WHEN THE CALL BEGINS. Each datum BY PROGRAM (the guide's laid-datum.mjs) off the statement by which the dump's own 'gosem.cut.vars' lays the variable. In a bare row this is a premise. The card (YtcojnojdgigmdaaDoorCards.lean) ties it to the program's text. -/
def laid_math_bits_deBruijn32tab {H : Type} : DataW H := .agg [.lit (.int .u8 0), .lit (.int .u8 1), .lit (.int .u8 28), .lit (.int .u8 2), .lit (.int .u8 29), .lit (.int .u8 14), .lit (.int .u8 24), .lit (.int .u8 3), .lit (.int .u8 30), .lit (.int .u8 22), .lit (.int .u8 20), .lit (.int .u8 15), .lit (.int .u8 25), .lit (.int .u8 17), .lit (.int .u8 4), .lit (.int .u8 8), .lit (.int .u8 31), .lit (.int .u8 27), .lit (.int .u8 13), .lit (.int .u8 23), .lit (.int .u8 21), .lit (.int .u8 19), .lit (.int .u8 16), .lit (.int .u8 7), .lit (.int .u8 26), .lit (.int .u8 12), .lit (.int .u8 18), .lit (.int .u8 6), .lit (.int .u8 11), .lit (.int .u8 5), .lit (.int .u8 10), .lit (.int .u8 9)]
def laid_math_bits_deBruijn64tab {H : Type} : DataW H := .agg [.lit (.int .u8 0), .lit (.int .u8 1), .lit (.int .u8 56), .lit (.int .u8 2), .lit (.int .u8 57), .lit (.int .u8 49), .lit (.int .u8 28), .lit (.int .u8 3), .lit (.int .u8 61), .lit (.int .u8 58), .lit (.int .u8 42), .lit (.int .u8 50), .lit (.int .u8 38), .lit (.int .u8 29), .lit (.int .u8 17), .lit (.int .u8 4), .lit (.int .u8 62), .lit (.int .u8 47), .lit (.int .u8 59), .lit (.int .u8 36), .lit (.int .u8 45), .lit (.int .u8 43), .lit (.int .u8 51), .lit (.int .u8 22), .lit (.int .u8 53), .lit (.int .u8 39), .lit (.int .u8 33), .lit (.int .u8 30), .lit (.int .u8 24), .lit (.int .u8 18), .lit (.int .u8 12), .lit (.int .u8 5), .lit (.int .u8 63), .lit (.int .u8 55), .lit (.int .u8 48), .lit (.int .u8 27), .lit (.int .u8 60), .lit (.int .u8 41), .lit (.int .u8 37), .lit (.int .u8 16), .lit (.int .u8 46), .lit (.int .u8 35), .lit (.int .u8 44), .lit (.int .u8 21), .lit (.int .u8 52), .lit (.int .u8 32), .lit (.int .u8 23), .lit (.int .u8 11), .lit (.int .u8 54), .lit (.int .u8 26), .lit (.int .u8 40), .lit (.int .u8 15), .lit (.int .u8 34), .lit (.int .u8 20), .lit (.int .u8 31), .lit (.int .u8 10), .lit (.int .u8 25), .lit (.int .u8 14), .lit (.int .u8 19), .lit (.int .u8 9), .lit (.int .u8 13), .lit (.int .u8 8), .lit (.int .u8 7), .lit (.int .u8 6)]
def laid_internal_strconv_uint64pow10 {H : Type} : DataW H := .agg [.lit (.int .u64 1), .lit (.int .u64 10), .lit (.int .u64 100), .lit (.int .u64 1000), .lit (.int .u64 10000), .lit (.int .u64 100000), .lit (.int .u64 1000000), .lit (.int .u64 10000000), .lit (.int .u64 100000000), .lit (.int .u64 1000000000), .lit (.int .u64 10000000000), .lit (.int .u64 100000000000), .lit (.int .u64 1000000000000), .lit (.int .u64 10000000000000), .lit (.int .u64 100000000000000), .lit (.int .u64 1000000000000000), .lit (.int .u64 10000000000000000), .lit (.int .u64 100000000000000000), .lit (.int .u64 1000000000000000000), .lit (.int .u64 10000000000000000000)]

/-- 'oxbowlaw21.RunTurned': WHATEVER THE INPUT: true; the input reads as it did. -/
def runTurnedSpec : ChangeSpec := { name := "runTurned", fn := fun _ => fun
  | [d1, d2, d3] => { results := [.lit (.bool true)], args := [d1, d2, d3] }
  | _ => none }
def runTurnedRow : OpenClaim := { program := "ytcojnojdgigmdaadoor", sum := "6221c92fd92199d5b5776cedf206093804b6f67aa963b24c71682a9ce606de9a", func := "oxbow/oxbowlaw21.RunTurned", spec := "runTurned", inPlace := ["internal/abi.NoEscape", "internal/bytealg.MakeNoZero"], unfollowed := true, recurses := true, named := ["internal/strconv.uint64pow10", "math/bits.deBruijn32tab", "math/bits.deBruijn64tab"], apart := false, laid := [("math/bits.deBruijn32tab", laid_math_bits_deBruijn32tab), ("math/bits.deBruijn64tab", laid_math_bits_deBruijn64tab), ("internal/strconv.uint64pow10", laid_internal_strconv_uint64pow10)] }
def RunTurnedSaid : Prop := runTurnedRow.holds Tryd.pinned (OpenSpec.ofChange runTurnedSpec)

/-- ITS FALSE NEIGHBOUR: 'it returns false'. Refute it at one input. -/
def runTurnedWrong : ChangeSpec := { name := "runTurned", fn := fun _ => fun
  | [d1, d2, d3] => { results := [.lit (.bool false)], args := [d1, d2, d3] }
  | _ => none }
def RunTurnedWrongFalsely : Prop := runTurnedRow.holds Tryd.pinned (OpenSpec.ofChange runTurnedWrong)

/-- 'oxbowlaw21.RunMore': WHATEVER THE INPUT: true; the input reads as it did. -/
def runMoreSpec : ChangeSpec := { name := "runMore", fn := fun _ => fun
  | [d1, d2, d3] => { results := [.lit (.bool true)], args := [d1, d2, d3] }
  | _ => none }
def runMoreRow : OpenClaim := { program := "ytcojnojdgigmdaadoor", sum := "6221c92fd92199d5b5776cedf206093804b6f67aa963b24c71682a9ce606de9a", func := "oxbow/oxbowlaw21.RunMore", spec := "runMore", inPlace := ["internal/abi.NoEscape", "internal/bytealg.MakeNoZero"], unfollowed := true, recurses := true, named := ["internal/strconv.uint64pow10", "math/bits.deBruijn32tab", "math/bits.deBruijn64tab"], apart := false, laid := [("math/bits.deBruijn32tab", laid_math_bits_deBruijn32tab), ("math/bits.deBruijn64tab", laid_math_bits_deBruijn64tab), ("internal/strconv.uint64pow10", laid_internal_strconv_uint64pow10)] }
def RunMoreSaid : Prop := runMoreRow.holds Tryd.pinned (OpenSpec.ofChange runMoreSpec)

/-- ITS FALSE NEIGHBOUR: 'it returns false'. Refute it at one input. -/
def runMoreWrong : ChangeSpec := { name := "runMore", fn := fun _ => fun
  | [d1, d2, d3] => { results := [.lit (.bool false)], args := [d1, d2, d3] }
  | _ => none }
def RunMoreWrongFalsely : Prop := runMoreRow.holds Tryd.pinned (OpenSpec.ofChange runMoreWrong)

/-- 'oxbowlaw21.RunWindow': WHATEVER THE INPUT: true; the input reads as it did. -/
def runWindowSpec : ChangeSpec := { name := "runWindow", fn := fun _ => fun
  | [d1, d2, d3] => { results := [.lit (.bool true)], args := [d1, d2, d3] }
  | _ => none }
def runWindowRow : OpenClaim := { program := "ytcojnojdgigmdaadoor", sum := "6221c92fd92199d5b5776cedf206093804b6f67aa963b24c71682a9ce606de9a", func := "oxbow/oxbowlaw21.RunWindow", spec := "runWindow", inPlace := ["internal/abi.NoEscape", "internal/bytealg.MakeNoZero"], unfollowed := true, recurses := true, named := ["internal/strconv.uint64pow10", "math/bits.deBruijn32tab", "math/bits.deBruijn64tab"], apart := false, laid := [("math/bits.deBruijn32tab", laid_math_bits_deBruijn32tab), ("math/bits.deBruijn64tab", laid_math_bits_deBruijn64tab), ("internal/strconv.uint64pow10", laid_internal_strconv_uint64pow10)] }
def RunWindowSaid : Prop := runWindowRow.holds Tryd.pinned (OpenSpec.ofChange runWindowSpec)

/-- ITS FALSE NEIGHBOUR: 'it returns false'. Refute it at one input. -/
def runWindowWrong : ChangeSpec := { name := "runWindow", fn := fun _ => fun
  | [d1, d2, d3] => { results := [.lit (.bool false)], args := [d1, d2, d3] }
  | _ => none }
def RunWindowWrongFalsely : Prop := runWindowRow.holds Tryd.pinned (OpenSpec.ofChange runWindowWrong)

/-- 'oxbowlaw21.RunTwice': WHATEVER THE INPUT: true; the input reads as it did. -/
def runTwiceSpec : ChangeSpec := { name := "runTwice", fn := fun _ => fun
  | [d1, d2, d3] => { results := [.lit (.bool true)], args := [d1, d2, d3] }
  | _ => none }
def runTwiceRow : OpenClaim := { program := "ytcojnojdgigmdaadoor", sum := "6221c92fd92199d5b5776cedf206093804b6f67aa963b24c71682a9ce606de9a", func := "oxbow/oxbowlaw21.RunTwice", spec := "runTwice", inPlace := ["internal/abi.NoEscape", "internal/bytealg.MakeNoZero"], unfollowed := true, recurses := true, named := ["internal/strconv.uint64pow10", "math/bits.deBruijn32tab", "math/bits.deBruijn64tab"], apart := false, laid := [("math/bits.deBruijn32tab", laid_math_bits_deBruijn32tab), ("math/bits.deBruijn64tab", laid_math_bits_deBruijn64tab), ("internal/strconv.uint64pow10", laid_internal_strconv_uint64pow10)] }
def RunTwiceSaid : Prop := runTwiceRow.holds Tryd.pinned (OpenSpec.ofChange runTwiceSpec)

/-- ITS FALSE NEIGHBOUR: 'it returns false'. Refute it at one input. -/
def runTwiceWrong : ChangeSpec := { name := "runTwice", fn := fun _ => fun
  | [d1, d2, d3] => { results := [.lit (.bool false)], args := [d1, d2, d3] }
  | _ => none }
def RunTwiceWrongFalsely : Prop := runTwiceRow.holds Tryd.pinned (OpenSpec.ofChange runTwiceWrong)

/-- 'oxbowlaw21.RunBytes': WHATEVER THE INPUT: true; the input reads as it did. -/
def runBytesSpec : ChangeSpec := { name := "runBytes", fn := fun _ => fun
  | [d1, d2, d3] => { results := [.lit (.bool true)], args := [d1, d2, d3] }
  | _ => none }
def runBytesRow : OpenClaim := { program := "ytcojnojdgigmdaadoor", sum := "6221c92fd92199d5b5776cedf206093804b6f67aa963b24c71682a9ce606de9a", func := "oxbow/oxbowlaw21.RunBytes", spec := "runBytes", inPlace := ["internal/abi.NoEscape", "internal/bytealg.MakeNoZero"], unfollowed := true, recurses := true, named := ["internal/strconv.uint64pow10", "math/bits.deBruijn32tab", "math/bits.deBruijn64tab"], apart := false, laid := [("math/bits.deBruijn32tab", laid_math_bits_deBruijn32tab), ("math/bits.deBruijn64tab", laid_math_bits_deBruijn64tab), ("internal/strconv.uint64pow10", laid_internal_strconv_uint64pow10)] }
def RunBytesSaid : Prop := runBytesRow.holds Tryd.pinned (OpenSpec.ofChange runBytesSpec)

/-- ITS FALSE NEIGHBOUR: 'it returns false'. Refute it at one input. -/
def runBytesWrong : ChangeSpec := { name := "runBytes", fn := fun _ => fun
  | [d1, d2, d3] => { results := [.lit (.bool false)], args := [d1, d2, d3] }
  | _ => none }
def RunBytesWrongFalsely : Prop := runBytesRow.holds Tryd.pinned (OpenSpec.ofChange runBytesWrong)

/-- 'oxbowtop.TopPairs': WHATEVER THE INPUT: true; the input reads as it did. -/
def topPairsSpec : ChangeSpec := { name := "topPairs", fn := fun _ => fun
  | [d1, d2, d3] => { results := [.lit (.bool true)], args := [d1, d2, d3] }
  | _ => none }
def topPairsRow : OpenClaim := { program := "ytcojnojdgigmdaadoor", sum := "6221c92fd92199d5b5776cedf206093804b6f67aa963b24c71682a9ce606de9a", func := "oxbow/oxbowtop.TopPairs", spec := "topPairs", inPlace := ["internal/abi.NoEscape", "internal/bytealg.MakeNoZero"], unfollowed := true, recurses := true, named := ["internal/strconv.uint64pow10", "math/bits.deBruijn32tab", "math/bits.deBruijn64tab"], apart := false, laid := [("math/bits.deBruijn32tab", laid_math_bits_deBruijn32tab), ("math/bits.deBruijn64tab", laid_math_bits_deBruijn64tab), ("internal/strconv.uint64pow10", laid_internal_strconv_uint64pow10)] }
def TopPairsSaid : Prop := topPairsRow.holds Tryd.pinned (OpenSpec.ofChange topPairsSpec)

/-- ITS FALSE NEIGHBOUR: 'it returns false'. Refute it at one input. -/
def topPairsWrong : ChangeSpec := { name := "topPairs", fn := fun _ => fun
  | [d1, d2, d3] => { results := [.lit (.bool false)], args := [d1, d2, d3] }
  | _ => none }
def TopPairsWrongFalsely : Prop := topPairsRow.holds Tryd.pinned (OpenSpec.ofChange topPairsWrong)

/-- 'oxbowtop.TopRising': WHATEVER THE INPUT: true; the input reads as it did. -/
def topRisingSpec : ChangeSpec := { name := "topRising", fn := fun _ => fun
  | [d1, d2] => { results := [.lit (.bool true)], args := [d1, d2] }
  | _ => none }
def topRisingRow : OpenClaim := { program := "ytcojnojdgigmdaadoor", sum := "6221c92fd92199d5b5776cedf206093804b6f67aa963b24c71682a9ce606de9a", func := "oxbow/oxbowtop.TopRising", spec := "topRising", inPlace := ["internal/abi.NoEscape", "internal/bytealg.MakeNoZero"], unfollowed := true, recurses := true, named := ["internal/strconv.uint64pow10", "math/bits.deBruijn32tab", "math/bits.deBruijn64tab"], apart := false, laid := [("math/bits.deBruijn32tab", laid_math_bits_deBruijn32tab), ("math/bits.deBruijn64tab", laid_math_bits_deBruijn64tab), ("internal/strconv.uint64pow10", laid_internal_strconv_uint64pow10)] }
def TopRisingSaid : Prop := topRisingRow.holds Tryd.pinned (OpenSpec.ofChange topRisingSpec)

/-- ITS FALSE NEIGHBOUR: 'it returns false'. Refute it at one input. -/
def topRisingWrong : ChangeSpec := { name := "topRising", fn := fun _ => fun
  | [d1, d2] => { results := [.lit (.bool false)], args := [d1, d2] }
  | _ => none }
def TopRisingWrongFalsely : Prop := topRisingRow.holds Tryd.pinned (OpenSpec.ofChange topRisingWrong)

/- THE SECOND FORM. 'bulk': how many values and letters a reading holds, each counted each time it is reached (what is shared counts as often as it is met; a slice's spare places count too). A statement '..UptoSaid' is the law's where the arguments, and the package variables that the reading takes, are together of bulk at most 1048576: NARROWER than '..Said'. Prove '..Said' where nothing that the law and all that it calls make is longer than what came in: it says more and counts as full. Else prove '..UptoSaid'. A law counts once. -/
mutual
def uptoBulk {H : Type} : DataW H → Nat
  | .lit (.string bytes) => bytes.length + 1
  | .lit _ => 1
  | .nil => 1
  | .ptr d => uptoBulk d + 1
  | .slice elems spare => uptoBulkAll elems + uptoBulkAll spare + 1
  | .agg parts => uptoBulkAll parts + 1
  | .iface _ d => uptoBulk d + 1
  | .map entries => uptoBulkEntries entries + 1
  | .held _ => 1
def uptoBulkAll {H : Type} : List (DataW H) → Nat
  | [] => 0
  | d :: r => uptoBulk d + uptoBulkAll r
def uptoBulkEntries {H : Type} : List (Lit × DataW H) → Nat
  | [] => 0
  | x :: r => uptoBulkEntry x + uptoBulkEntries r
def uptoBulkEntry {H : Type} : Lit × DataW H → Nat
  | (.string bytes, d) => bytes.length + uptoBulk d + 1
  | (_, d) => uptoBulk d + 1
 end
def uptoSmall : (H : Type) → List (DataW H) → Bool := fun _ ds => decide (uptoBulkAll ds ≤ 1048576)
def OpenSpec.upto (s : _root_.Go.ChangeSpec) : _root_.Go.OpenSpec := { _root_.Go.OpenSpec.ofChange s with cond := some uptoSmall }

/-- 'oxbowlaw21.RunTurned', WHERE WHAT IT READS IS OF BULK AT MOST 1048576: true; the input reads as it did. -/
def runTurnedUptoRow : OpenClaim := { program := "ytcojnojdgigmdaadoor", sum := "6221c92fd92199d5b5776cedf206093804b6f67aa963b24c71682a9ce606de9a", func := "oxbow/oxbowlaw21.RunTurned", spec := "runTurned", inPlace := ["internal/abi.NoEscape", "internal/bytealg.MakeNoZero"], unfollowed := true, recurses := true, named := ["internal/strconv.uint64pow10", "math/bits.deBruijn32tab", "math/bits.deBruijn64tab"], apart := false, laid := [("math/bits.deBruijn32tab", laid_math_bits_deBruijn32tab), ("math/bits.deBruijn64tab", laid_math_bits_deBruijn64tab), ("internal/strconv.uint64pow10", laid_internal_strconv_uint64pow10)], narrowed := true }
def RunTurnedUptoSaid : Prop := runTurnedUptoRow.holds Tryd.pinned (OpenSpec.upto runTurnedSpec)

/-- 'oxbowlaw21.RunMore', WHERE WHAT IT READS IS OF BULK AT MOST 1048576: true; the input reads as it did. -/
def runMoreUptoRow : OpenClaim := { program := "ytcojnojdgigmdaadoor", sum := "6221c92fd92199d5b5776cedf206093804b6f67aa963b24c71682a9ce606de9a", func := "oxbow/oxbowlaw21.RunMore", spec := "runMore", inPlace := ["internal/abi.NoEscape", "internal/bytealg.MakeNoZero"], unfollowed := true, recurses := true, named := ["internal/strconv.uint64pow10", "math/bits.deBruijn32tab", "math/bits.deBruijn64tab"], apart := false, laid := [("math/bits.deBruijn32tab", laid_math_bits_deBruijn32tab), ("math/bits.deBruijn64tab", laid_math_bits_deBruijn64tab), ("internal/strconv.uint64pow10", laid_internal_strconv_uint64pow10)], narrowed := true }
def RunMoreUptoSaid : Prop := runMoreUptoRow.holds Tryd.pinned (OpenSpec.upto runMoreSpec)

/-- 'oxbowlaw21.RunWindow', WHERE WHAT IT READS IS OF BULK AT MOST 1048576: true; the input reads as it did. -/
def runWindowUptoRow : OpenClaim := { program := "ytcojnojdgigmdaadoor", sum := "6221c92fd92199d5b5776cedf206093804b6f67aa963b24c71682a9ce606de9a", func := "oxbow/oxbowlaw21.RunWindow", spec := "runWindow", inPlace := ["internal/abi.NoEscape", "internal/bytealg.MakeNoZero"], unfollowed := true, recurses := true, named := ["internal/strconv.uint64pow10", "math/bits.deBruijn32tab", "math/bits.deBruijn64tab"], apart := false, laid := [("math/bits.deBruijn32tab", laid_math_bits_deBruijn32tab), ("math/bits.deBruijn64tab", laid_math_bits_deBruijn64tab), ("internal/strconv.uint64pow10", laid_internal_strconv_uint64pow10)], narrowed := true }
def RunWindowUptoSaid : Prop := runWindowUptoRow.holds Tryd.pinned (OpenSpec.upto runWindowSpec)

/-- 'oxbowlaw21.RunTwice', WHERE WHAT IT READS IS OF BULK AT MOST 1048576: true; the input reads as it did. -/
def runTwiceUptoRow : OpenClaim := { program := "ytcojnojdgigmdaadoor", sum := "6221c92fd92199d5b5776cedf206093804b6f67aa963b24c71682a9ce606de9a", func := "oxbow/oxbowlaw21.RunTwice", spec := "runTwice", inPlace := ["internal/abi.NoEscape", "internal/bytealg.MakeNoZero"], unfollowed := true, recurses := true, named := ["internal/strconv.uint64pow10", "math/bits.deBruijn32tab", "math/bits.deBruijn64tab"], apart := false, laid := [("math/bits.deBruijn32tab", laid_math_bits_deBruijn32tab), ("math/bits.deBruijn64tab", laid_math_bits_deBruijn64tab), ("internal/strconv.uint64pow10", laid_internal_strconv_uint64pow10)], narrowed := true }
def RunTwiceUptoSaid : Prop := runTwiceUptoRow.holds Tryd.pinned (OpenSpec.upto runTwiceSpec)

/-- 'oxbowlaw21.RunBytes', WHERE WHAT IT READS IS OF BULK AT MOST 1048576: true; the input reads as it did. -/
def runBytesUptoRow : OpenClaim := { program := "ytcojnojdgigmdaadoor", sum := "6221c92fd92199d5b5776cedf206093804b6f67aa963b24c71682a9ce606de9a", func := "oxbow/oxbowlaw21.RunBytes", spec := "runBytes", inPlace := ["internal/abi.NoEscape", "internal/bytealg.MakeNoZero"], unfollowed := true, recurses := true, named := ["internal/strconv.uint64pow10", "math/bits.deBruijn32tab", "math/bits.deBruijn64tab"], apart := false, laid := [("math/bits.deBruijn32tab", laid_math_bits_deBruijn32tab), ("math/bits.deBruijn64tab", laid_math_bits_deBruijn64tab), ("internal/strconv.uint64pow10", laid_internal_strconv_uint64pow10)], narrowed := true }
def RunBytesUptoSaid : Prop := runBytesUptoRow.holds Tryd.pinned (OpenSpec.upto runBytesSpec)

/-- 'oxbowtop.TopPairs', WHERE WHAT IT READS IS OF BULK AT MOST 1048576: true; the input reads as it did. -/
def topPairsUptoRow : OpenClaim := { program := "ytcojnojdgigmdaadoor", sum := "6221c92fd92199d5b5776cedf206093804b6f67aa963b24c71682a9ce606de9a", func := "oxbow/oxbowtop.TopPairs", spec := "topPairs", inPlace := ["internal/abi.NoEscape", "internal/bytealg.MakeNoZero"], unfollowed := true, recurses := true, named := ["internal/strconv.uint64pow10", "math/bits.deBruijn32tab", "math/bits.deBruijn64tab"], apart := false, laid := [("math/bits.deBruijn32tab", laid_math_bits_deBruijn32tab), ("math/bits.deBruijn64tab", laid_math_bits_deBruijn64tab), ("internal/strconv.uint64pow10", laid_internal_strconv_uint64pow10)], narrowed := true }
def TopPairsUptoSaid : Prop := topPairsUptoRow.holds Tryd.pinned (OpenSpec.upto topPairsSpec)

/-- 'oxbowtop.TopRising', WHERE WHAT IT READS IS OF BULK AT MOST 1048576: true; the input reads as it did. -/
def topRisingUptoRow : OpenClaim := { program := "ytcojnojdgigmdaadoor", sum := "6221c92fd92199d5b5776cedf206093804b6f67aa963b24c71682a9ce606de9a", func := "oxbow/oxbowtop.TopRising", spec := "topRising", inPlace := ["internal/abi.NoEscape", "internal/bytealg.MakeNoZero"], unfollowed := true, recurses := true, named := ["internal/strconv.uint64pow10", "math/bits.deBruijn32tab", "math/bits.deBruijn64tab"], apart := false, laid := [("math/bits.deBruijn32tab", laid_math_bits_deBruijn32tab), ("math/bits.deBruijn64tab", laid_math_bits_deBruijn64tab), ("internal/strconv.uint64pow10", laid_internal_strconv_uint64pow10)], narrowed := true }
def TopRisingUptoSaid : Prop := topRisingUptoRow.holds Tryd.pinned (OpenSpec.upto topRisingSpec)

end Rows
end Go.Proofs.YtcojnojdgigmdaaDoor
