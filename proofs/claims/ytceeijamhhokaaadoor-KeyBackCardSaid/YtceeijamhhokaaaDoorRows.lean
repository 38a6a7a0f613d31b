/-
  NARROWER THAN 'FOR EVERY INPUT', by the rows' own cells (each row's printed sentence says how): KeyMakes: laid · KeyAbove: laid · EventSpans: laid · KeyBack: laid · KeyCompares: laid · KeyOrders: laid · EventGood: laid · EventKeys: laid.
  DERIVED. THE GIVEN ROWS OF THIS SEAT. 8 by the template 'for every input the law returns true; each argument reads behind the call as it read before'; 0 by the template 'total and deterministic' (their statements: YtceeijamhhokaaaDoorTotals.lean).
  GIVEN WITH THE SEED: the statements are not yours to turn. If you find one false, say at which input.
  Laid BY PROGRAM, IN A SANDBOX (cutbox-rows.mjs): the forced cells as the released guide's own fill.sh prints them over the translation 588a6b54cf73122e… (all of the seat's roots in one cut). By AI agents, Wed Nov 11 2026. No macro, syntax, notation, axiom, sorry.
-/
import Derived.Test.YtceeijamhhokaaaDoorChecked
import GoSem.PinnedTables
import GoSem.Claim
import GoSem.ClaimJoined
import GoSem.ClaimMapViews
import Derived.JoinedTies
import Derived.KernelRfl
namespace Go.Proofs.YtceeijamhhokaaaDoor
/- THE CELL 'sum', in the pinned program and in every row, IS THE sha256 OF THE DUMP (.gsa) THAT YtceeijamhhokaaaDoorProg.lean LOADS. Nothing in Lean hashes anything: it is a label: what it is worth is what the hold of that sum in a sandbox is worth. -/
noncomputable def Tryd.pinned : Pinned := { name := "ytceeijamhhokaaadoor", sum := "588a6b54cf73122e250df1ffe4d1be2644766d6a15547e8aafd25d8a749cf444", checked := Tryd.checked }
namespace Rows
def none {H : Type} : Left H := { results := [], args := [] }

/- WHAT THE LISTED PACKAGE-LEVEL VARIABLES READ AS WHEN THE CALL BEGINS. Each datum BY PROGRAM (the guide's laid-datum.mjs) off the statement by which the dump's own 'gosem.cut.vars' lays the variable. In a bare row this is a premise. The card (YtceeijamhhokaaaDoorCards.lean) ties it to the program's text. -/
def laid_unicode_utf8_acceptRanges {H : Type} : DataW H := .agg [.agg [.lit (.int .u8 128), .lit (.int .u8 191)], .agg [.lit (.int .u8 160), .lit (.int .u8 191)], .agg [.lit (.int .u8 128), .lit (.int .u8 159)], .agg [.lit (.int .u8 144), .lit (.int .u8 191)], .agg [.lit (.int .u8 128), .lit (.int .u8 143)], .agg [.lit (.int .u8 0), .lit (.int .u8 0)], .agg [.lit (.int .u8 0), .lit (.int .u8 0)], .agg [.lit (.int .u8 0), .lit (.int .u8 0)], .agg [.lit (.int .u8 0), .lit (.int .u8 0)], .agg [.lit (.int .u8 0), .lit (.int .u8 0)], .agg [.lit (.int .u8 0), .lit (.int .u8 0)], .agg [.lit (.int .u8 0), .lit (.int .u8 0)], .agg [.lit (.int .u8 0), .lit (.int .u8 0)], .agg [.lit (.int .u8 0), .lit (.int .u8 0)], .agg [.lit (.int .u8 0), .lit (.int .u8 0)], .agg [.lit (.int .u8 0), .lit (.int .u8 0)]]
/-- One of Go's own tables, pinned by name: the form's constant. -/
def laid_unicode_utf8_first : DataW Unit := Go.Pinned.utf8First

/-- 'oxbowlaw02.KeyMakes': WHATEVER THE INPUT: true; the input reads as it did. -/
def keyMakesSpec : ChangeSpec := { name := "keyMakes", fn := fun _ => fun
  | [d] => { results := [.lit (.bool true)], args := [d] }
  | _ => none }
def keyMakesRow : OpenClaim := { program := "ytceeijamhhokaaadoor", sum := "588a6b54cf73122e250df1ffe4d1be2644766d6a15547e8aafd25d8a749cf444", func := "oxbow/oxbowlaw02.KeyMakes", spec := "keyMakes", inPlace := ["internal/bytealg.CountString", "internal/bytealg.IndexByteString", "internal/bytealg.IndexString", "internal/abi.NoEscape", "internal/bytealg.MakeNoZero"], named := ["internal/bytealg.MaxLen", "unicode/utf8.first", "unicode/utf8.acceptRanges"], apart := false, laid := [("unicode/utf8.acceptRanges", laid_unicode_utf8_acceptRanges), ("unicode/utf8.first", laid_unicode_utf8_first)] }
def KeyMakesSaid : Prop := keyMakesRow.holds Tryd.pinned (OpenSpec.ofChange keyMakesSpec)

/-- ITS FALSE NEIGHBOUR: 'it returns false'. Refute it at one input. -/
def keyMakesWrong : ChangeSpec := { name := "keyMakes", fn := fun _ => fun
  | [d] => { results := [.lit (.bool false)], args := [d] }
  | _ => none }
def KeyMakesWrongFalsely : Prop := keyMakesRow.holds Tryd.pinned (OpenSpec.ofChange keyMakesWrong)

/-- 'oxbowlaw02.KeyAbove': WHATEVER THE INPUT: true; the input reads as it did. -/
def keyAboveSpec : ChangeSpec := { name := "keyAbove", fn := fun _ => fun
  | [d1, d2, d3] => { results := [.lit (.bool true)], args := [d1, d2, d3] }
  | _ => none }
def keyAboveRow : OpenClaim := { program := "ytceeijamhhokaaadoor", sum := "588a6b54cf73122e250df1ffe4d1be2644766d6a15547e8aafd25d8a749cf444", func := "oxbow/oxbowlaw02.KeyAbove", spec := "keyAbove", inPlace := ["internal/bytealg.CountString", "internal/bytealg.IndexByteString", "internal/bytealg.IndexString", "internal/abi.NoEscape", "internal/bytealg.MakeNoZero"], named := ["internal/bytealg.MaxLen", "unicode/utf8.first", "unicode/utf8.acceptRanges"], apart := false, laid := [("unicode/utf8.acceptRanges", laid_unicode_utf8_acceptRanges), ("unicode/utf8.first", laid_unicode_utf8_first)] }
def KeyAboveSaid : Prop := keyAboveRow.holds Tryd.pinned (OpenSpec.ofChange keyAboveSpec)

/-- ITS FALSE NEIGHBOUR: 'it returns false'. Refute it at one input. -/
def keyAboveWrong : ChangeSpec := { name := "keyAbove", fn := fun _ => fun
  | [d1, d2, d3] => { results := [.lit (.bool false)], args := [d1, d2, d3] }
  | _ => none }
def KeyAboveWrongFalsely : Prop := keyAboveRow.holds Tryd.pinned (OpenSpec.ofChange keyAboveWrong)

/-- 'oxbowlaw18.EventSpans': WHATEVER THE INPUT: true; the input reads as it did. -/
def eventSpansSpec : ChangeSpec := { name := "eventSpans", fn := fun _ => fun
  | [d1, d2] => { results := [.lit (.bool true)], args := [d1, d2] }
  | _ => none }
def eventSpansRow : OpenClaim := { program := "ytceeijamhhokaaadoor", sum := "588a6b54cf73122e250df1ffe4d1be2644766d6a15547e8aafd25d8a749cf444", func := "oxbow/oxbowlaw18.EventSpans", spec := "eventSpans", inPlace := ["internal/bytealg.CountString", "internal/bytealg.IndexByteString", "internal/bytealg.IndexString", "internal/abi.NoEscape", "internal/bytealg.MakeNoZero"], named := ["internal/bytealg.MaxLen", "unicode/utf8.first", "unicode/utf8.acceptRanges"], apart := false, laid := [("unicode/utf8.acceptRanges", laid_unicode_utf8_acceptRanges), ("unicode/utf8.first", laid_unicode_utf8_first)] }
def EventSpansSaid : Prop := eventSpansRow.holds Tryd.pinned (OpenSpec.ofChange eventSpansSpec)

/-- ITS FALSE NEIGHBOUR: 'it returns false'. Refute it at one input. -/
def eventSpansWrong : ChangeSpec := { name := "eventSpans", fn := fun _ => fun
  | [d1, d2] => { results := [.lit (.bool false)], args := [d1, d2] }
  | _ => none }
def EventSpansWrongFalsely : Prop := eventSpansRow.holds Tryd.pinned (OpenSpec.ofChange eventSpansWrong)

/-- 'oxbowlaw02.KeyBack': WHATEVER THE INPUT: true; the input reads as it did. -/
def keyBackSpec : ChangeSpec := { name := "keyBack", fn := fun _ => fun
  | [d1, d2] => { results := [.lit (.bool true)], args := [d1, d2] }
  | _ => none }
def keyBackRow : OpenClaim := { program := "ytceeijamhhokaaadoor", sum := "588a6b54cf73122e250df1ffe4d1be2644766d6a15547e8aafd25d8a749cf444", func := "oxbow/oxbowlaw02.KeyBack", spec := "keyBack", inPlace := ["internal/bytealg.CountString", "internal/bytealg.IndexByteString", "internal/bytealg.IndexString", "internal/abi.NoEscape", "internal/bytealg.MakeNoZero"], named := ["internal/bytealg.MaxLen", "unicode/utf8.first", "unicode/utf8.acceptRanges"], apart := false, laid := [("unicode/utf8.acceptRanges", laid_unicode_utf8_acceptRanges), ("unicode/utf8.first", laid_unicode_utf8_first)] }
def KeyBackSaid : Prop := keyBackRow.holds Tryd.pinned (OpenSpec.ofChange keyBackSpec)

/-- ITS FALSE NEIGHBOUR: 'it returns false'. Refute it at one input. -/
def keyBackWrong : ChangeSpec := { name := "keyBack", fn := fun _ => fun
  | [d1, d2] => { results := [.lit (.bool false)], args := [d1, d2] }
  | _ => none }
def KeyBackWrongFalsely : Prop := keyBackRow.holds Tryd.pinned (OpenSpec.ofChange keyBackWrong)

/-- 'oxbowlaw02.KeyCompares': WHATEVER THE INPUT: true; the input reads as it did. -/
def keyComparesSpec : ChangeSpec := { name := "keyCompares", fn := fun _ => fun
  | [d1, d2] => { results := [.lit (.bool true)], args := [d1, d2] }
  | _ => none }
def keyComparesRow : OpenClaim := { program := "ytceeijamhhokaaadoor", sum := "588a6b54cf73122e250df1ffe4d1be2644766d6a15547e8aafd25d8a749cf444", func := "oxbow/oxbowlaw02.KeyCompares", spec := "keyCompares", inPlace := ["internal/bytealg.CountString", "internal/bytealg.IndexByteString", "internal/bytealg.IndexString", "internal/abi.NoEscape", "internal/bytealg.MakeNoZero", "internal/bytealg.abigen_runtime_cmpstring"], unfollowed := true, recurses := true, named := ["internal/bytealg.MaxLen", "unicode/utf8.first", "unicode/utf8.acceptRanges"], apart := false, laid := [("unicode/utf8.acceptRanges", laid_unicode_utf8_acceptRanges), ("unicode/utf8.first", laid_unicode_utf8_first)] }
def KeyComparesSaid : Prop := keyComparesRow.holds Tryd.pinned (OpenSpec.ofChange keyComparesSpec)

/-- ITS FALSE NEIGHBOUR: 'it returns false'. Refute it at one input. -/
def keyComparesWrong : ChangeSpec := { name := "keyCompares", fn := fun _ => fun
  | [d1, d2] => { results := [.lit (.bool false)], args := [d1, d2] }
  | _ => none }
def KeyComparesWrongFalsely : Prop := keyComparesRow.holds Tryd.pinned (OpenSpec.ofChange keyComparesWrong)

/-- 'oxbowlaw02.KeyOrders': WHATEVER THE INPUT: true; the input reads as it did. -/
def keyOrdersSpec : ChangeSpec := { name := "keyOrders", fn := fun _ => fun
  | [d1, d2] => { results := [.lit (.bool true)], args := [d1, d2] }
  | _ => none }
def keyOrdersRow : OpenClaim := { program := "ytceeijamhhokaaadoor", sum := "588a6b54cf73122e250df1ffe4d1be2644766d6a15547e8aafd25d8a749cf444", func := "oxbow/oxbowlaw02.KeyOrders", spec := "keyOrders", inPlace := ["internal/bytealg.CountString", "internal/bytealg.IndexByteString", "internal/bytealg.IndexString", "internal/abi.NoEscape", "internal/bytealg.MakeNoZero", "internal/bytealg.abigen_runtime_cmpstring"], unfollowed := true, recurses := true, named := ["internal/bytealg.MaxLen", "unicode/utf8.first", "unicode/utf8.acceptRanges"], apart := false, laid := [("unicode/utf8.acceptRanges", laid_unicode_utf8_acceptRanges), ("unicode/utf8.first", laid_unicode_utf8_first)] }
def KeyOrdersSaid : Prop := keyOrdersRow.holds Tryd.pinned (OpenSpec.ofChange keyOrdersSpec)

/-- ITS FALSE NEIGHBOUR: 'it returns false'. Refute it at one input. -/
def keyOrdersWrong : ChangeSpec := { name := "keyOrders", fn := fun _ => fun
  | [d1, d2] => { results := [.lit (.bool false)], args := [d1, d2] }
  | _ => none }
def KeyOrdersWrongFalsely : Prop := keyOrdersRow.holds Tryd.pinned (OpenSpec.ofChange keyOrdersWrong)

/-- 'oxbowlaw18.EventGood': WHATEVER THE INPUT: true; the input reads as it did. -/
def eventGoodSpec : ChangeSpec := { name := "eventGood", fn := fun _ => fun
  | [d1, d2] => { results := [.lit (.bool true)], args := [d1, d2] }
  | _ => none }
def eventGoodRow : OpenClaim := { program := "ytceeijamhhokaaadoor", sum := "588a6b54cf73122e250df1ffe4d1be2644766d6a15547e8aafd25d8a749cf444", func := "oxbow/oxbowlaw18.EventGood", spec := "eventGood", inPlace := ["internal/abi.NoEscape", "internal/bytealg.CountString", "internal/bytealg.IndexByteString", "internal/bytealg.IndexString", "internal/bytealg.MakeNoZero"], named := ["internal/bytealg.MaxLen", "unicode/utf8.first", "unicode/utf8.acceptRanges"], apart := false, laid := [("unicode/utf8.acceptRanges", laid_unicode_utf8_acceptRanges), ("unicode/utf8.first", laid_unicode_utf8_first)] }
def EventGoodSaid : Prop := eventGoodRow.holds Tryd.pinned (OpenSpec.ofChange eventGoodSpec)

/-- ITS FALSE NEIGHBOUR: 'it returns false'. Refute it at one input. -/
def eventGoodWrong : ChangeSpec := { name := "eventGood", fn := fun _ => fun
  | [d1, d2] => { results := [.lit (.bool false)], args := [d1, d2] }
  | _ => none }
def EventGoodWrongFalsely : Prop := eventGoodRow.holds Tryd.pinned (OpenSpec.ofChange eventGoodWrong)

/-- 'oxbowlaw18.EventKeys': WHATEVER THE INPUT: true; the input reads as it did. -/
def eventKeysSpec : ChangeSpec := { name := "eventKeys", fn := fun _ => fun
  | [d1, d2] => { results := [.lit (.bool true)], args := [d1, d2] }
  | _ => none }
def eventKeysRow : OpenClaim := { program := "ytceeijamhhokaaadoor", sum := "588a6b54cf73122e250df1ffe4d1be2644766d6a15547e8aafd25d8a749cf444", func := "oxbow/oxbowlaw18.EventKeys", spec := "eventKeys", inPlace := ["internal/abi.NoEscape", "internal/bytealg.CountString", "internal/bytealg.IndexByteString", "internal/bytealg.IndexString", "internal/bytealg.MakeNoZero"], named := ["internal/bytealg.MaxLen", "unicode/utf8.first", "unicode/utf8.acceptRanges"], apart := false, laid := [("unicode/utf8.acceptRanges", laid_unicode_utf8_acceptRanges), ("unicode/utf8.first", laid_unicode_utf8_first)] }
def EventKeysSaid : Prop := eventKeysRow.holds Tryd.pinned (OpenSpec.ofChange eventKeysSpec)

/-- ITS FALSE NEIGHBOUR: 'it returns false'. Refute it at one input. -/
def eventKeysWrong : ChangeSpec := { name := "eventKeys", fn := fun _ => fun
  | [d1, d2] => { results := [.lit (.bool false)], args := [d1, d2] }
  | _ => none }
def EventKeysWrongFalsely : Prop := eventKeysRow.holds Tryd.pinned (OpenSpec.ofChange eventKeysWrong)

/- THE SECOND FORM. 'bulk': how many values and letters a reading holds, each counted each time it is reached (what is shared counts as often as it is met; a slice's spare places count too). A statement '..UptoSaid' is the law's where the arguments, and the package variables that the reading takes, are together of bulk at most 1048576: NARROWER than '..Said'. Prove '..Said' where nothing that the law and all that it calls make is longer than what came in: it says more and counts as full. Else prove '..UptoSaid'. A law counts once. -/
mutual
def uptoBulk {H : Type} : DataW H → Nat
  | .lit (.string bytes) => bytes.length + 1
  | .lit _ => 1
  | .nil => 1
  | .ptr d => uptoBulk d + 1
  | .slice elems spare => uptoBulkAll elems + uptoBulkAll spare + 1
  | .agg parts => uptoBulkAll parts + 1
  | .iface _ d => uptoBulk d + 1
  | .map entries => uptoBulkEntries entries + 1
  | .held _ => 1
def uptoBulkAll {H : Type} : List (DataW H) → Nat
  | [] => 0
  | d :: r => uptoBulk d + uptoBulkAll r
def uptoBulkEntries {H : Type} : List (Lit × DataW H) → Nat
  | [] => 0
  | x :: r => uptoBulkEntry x + uptoBulkEntries r
def uptoBulkEntry {H : Type} : Lit × DataW H → Nat
  | (.string bytes, d) => bytes.length + uptoBulk d + 1
  | (_, d) => uptoBulk d + 1
 end
def uptoSmall : (H : Type) → List (DataW H) → Bool := fun _ ds => decide (uptoBulkAll ds ≤ 1048576)
def OpenSpec.upto (s : _root_.Go.ChangeSpec) : _root_.Go.OpenSpec := { _root_.Go.OpenSpec.ofChange s with cond := some uptoSmall }

/-- 'oxbowlaw02.KeyMakes', WHERE WHAT IT READS IS OF BULK AT MOST 1048576: true; the input reads as it did. -/
def keyMakesUptoRow : OpenClaim := { program := "ytceeijamhhokaaadoor", sum := "588a6b54cf73122e250df1ffe4d1be2644766d6a15547e8aafd25d8a749cf444", func := "oxbow/oxbowlaw02.KeyMakes", spec := "keyMakes", inPlace := ["internal/bytealg.CountString", "internal/bytealg.IndexByteString", "internal/bytealg.IndexString", "internal/abi.NoEscape", "internal/bytealg.MakeNoZero"], named := ["internal/bytealg.MaxLen", "unicode/utf8.first", "unicode/utf8.acceptRanges"], apart := false, laid := [("unicode/utf8.acceptRanges", laid_unicode_utf8_acceptRanges), ("unicode/utf8.first", laid_unicode_utf8_first)], narrowed := true }
def KeyMakesUptoSaid : Prop := keyMakesUptoRow.holds Tryd.pinned (OpenSpec.upto keyMakesSpec)

/-- 'oxbowlaw02.KeyAbove', WHERE WHAT IT READS IS OF BULK AT MOST 1048576: true; the input reads as it did. -/
def keyAboveUptoRow : OpenClaim := { program := "ytceeijamhhokaaadoor", sum := "588a6b54cf73122e250df1ffe4d1be2644766d6a15547e8aafd25d8a749cf444", func := "oxbow/oxbowlaw02.KeyAbove", spec := "keyAbove", inPlace := ["internal/bytealg.CountString", "internal/bytealg.IndexByteString", "internal/bytealg.IndexString", "internal/abi.NoEscape", "internal/bytealg.MakeNoZero"], named := ["internal/bytealg.MaxLen", "unicode/utf8.first", "unicode/utf8.acceptRanges"], apart := false, laid := [("unicode/utf8.acceptRanges", laid_unicode_utf8_acceptRanges), ("unicode/utf8.first", laid_unicode_utf8_first)], narrowed := true }
def KeyAboveUptoSaid : Prop := keyAboveUptoRow.holds Tryd.pinned (OpenSpec.upto keyAboveSpec)

/-- 'oxbowlaw18.EventSpans', WHERE WHAT IT READS IS OF BULK AT MOST 1048576: true; the input reads as it did. -/
def eventSpansUptoRow : OpenClaim := { program := "ytceeijamhhokaaadoor", sum := "588a6b54cf73122e250df1ffe4d1be2644766d6a15547e8aafd25d8a749cf444", func := "oxbow/oxbowlaw18.EventSpans", spec := "eventSpans", inPlace := ["internal/bytealg.CountString", "internal/bytealg.IndexByteString", "internal/bytealg.IndexString", "internal/abi.NoEscape", "internal/bytealg.MakeNoZero"], named := ["internal/bytealg.MaxLen", "unicode/utf8.first", "unicode/utf8.acceptRanges"], apart := false, laid := [("unicode/utf8.acceptRanges", laid_unicode_utf8_acceptRanges), ("unicode/utf8.first", laid_unicode_utf8_first)], narrowed := true }
def EventSpansUptoSaid : Prop := eventSpansUptoRow.holds Tryd.pinned (OpenSpec.upto eventSpansSpec)

/-- 'oxbowlaw02.KeyBack', WHERE WHAT IT READS IS OF BULK AT MOST 1048576: true; the input reads as it did. -/
def keyBackUptoRow : OpenClaim := { program := "ytceeijamhhokaaadoor", sum := "588a6b54cf73122e250df1ffe4d1be2644766d6a15547e8aafd25d8a749cf444", func := "oxbow/oxbowlaw02.KeyBack", spec := "keyBack", inPlace := ["internal/bytealg.CountString", "internal/bytealg.IndexByteString", "internal/bytealg.IndexString", "internal/abi.NoEscape", "internal/bytealg.MakeNoZero"], named := ["internal/bytealg.MaxLen", "unicode/utf8.first", "unicode/utf8.acceptRanges"], apart := false, laid := [("unicode/utf8.acceptRanges", laid_unicode_utf8_acceptRanges), ("unicode/utf8.first", laid_unicode_utf8_first)], narrowed := true }
def KeyBackUptoSaid : Prop := keyBackUptoRow.holds Tryd.pinned (OpenSpec.upto keyBackSpec)

/-- 'oxbowlaw02.KeyCompares', WHERE WHAT IT READS IS OF BULK AT MOST 1048576: true; the input reads as it did. -/
def keyComparesUptoRow : OpenClaim := { program := "ytceeijamhhokaaadoor", sum := "588a6b54cf73122e250df1ffe4d1be2644766d6a15547e8aafd25d8a749cf444", func := "oxbow/oxbowlaw02.KeyCompares", spec := "keyCompares", inPlace := ["internal/bytealg.CountString", "internal/bytealg.IndexByteString", "internal/bytealg.IndexString", "internal/abi.NoEscape", "internal/bytealg.MakeNoZero", "internal/bytealg.abigen_runtime_cmpstring"], unfollowed := true, recurses := true, named := ["internal/bytealg.MaxLen", "unicode/utf8.first", "unicode/utf8.acceptRanges"], apart := false, laid := [("unicode/utf8.acceptRanges", laid_unicode_utf8_acceptRanges), ("unicode/utf8.first", laid_unicode_utf8_first)], narrowed := true }
def KeyComparesUptoSaid : Prop := keyComparesUptoRow.holds Tryd.pinned (OpenSpec.upto keyComparesSpec)

/-- 'oxbowlaw02.KeyOrders', WHERE WHAT IT READS IS OF BULK AT MOST 1048576: true; the input reads as it did. -/
def keyOrdersUptoRow : OpenClaim := { program := "ytceeijamhhokaaadoor", sum := "588a6b54cf73122e250df1ffe4d1be2644766d6a15547e8aafd25d8a749cf444", func := "oxbow/oxbowlaw02.KeyOrders", spec := "keyOrders", inPlace := ["internal/bytealg.CountString", "internal/bytealg.IndexByteString", "internal/bytealg.IndexString", "internal/abi.NoEscape", "internal/bytealg.MakeNoZero", "internal/bytealg.abigen_runtime_cmpstring"], unfollowed := true, recurses := true, named := ["internal/bytealg.MaxLen", "unicode/utf8.first", "unicode/utf8.acceptRanges"], apart := false, laid := [("unicode/utf8.acceptRanges", laid_unicode_utf8_acceptRanges), ("unicode/utf8.first", laid_unicode_utf8_first)], narrowed := true }
def KeyOrdersUptoSaid : Prop := keyOrdersUptoRow.holds Tryd.pinned (OpenSpec.upto keyOrdersSpec)

/-- 'oxbowlaw18.EventGood', WHERE WHAT IT READS IS OF BULK AT MOST 1048576: true; the input reads as it did. -/
def eventGoodUptoRow : OpenClaim := { program := "ytceeijamhhokaaadoor", sum := "588a6b54cf73122e250df1ffe4d1be2644766d6a15547e8aafd25d8a749cf444", func := "oxbow/oxbowlaw18.EventGood", spec := "eventGood", inPlace := ["internal/abi.NoEscape", "internal/bytealg.CountString", "internal/bytealg.IndexByteString", "internal/bytealg.IndexString", "internal/bytealg.MakeNoZero"], named := ["internal/bytealg.MaxLen", "unicode/utf8.first", "unicode/utf8.acceptRanges"], apart := false, laid := [("unicode/utf8.acceptRanges", laid_unicode_utf8_acceptRanges), ("unicode/utf8.first", laid_unicode_utf8_first)], narrowed := true }
def EventGoodUptoSaid : Prop := eventGoodUptoRow.holds Tryd.pinned (OpenSpec.upto eventGoodSpec)

/-- 'oxbowlaw18.EventKeys', WHERE WHAT IT READS IS OF BULK AT MOST 1048576: true; the input reads as it did. -/
def eventKeysUptoRow : OpenClaim := { program := "ytceeijamhhokaaadoor", sum := "588a6b54cf73122e250df1ffe4d1be2644766d6a15547e8aafd25d8a749cf444", func := "oxbow/oxbowlaw18.EventKeys", spec := "eventKeys", inPlace := ["internal/abi.NoEscape", "internal/bytealg.CountString", "internal/bytealg.IndexByteString", "internal/bytealg.IndexString", "internal/bytealg.MakeNoZero"], named := ["internal/bytealg.MaxLen", "unicode/utf8.first", "unicode/utf8.acceptRanges"], apart := false, laid := [("unicode/utf8.acceptRanges", laid_unicode_utf8_acceptRanges), ("unicode/utf8.first", laid_unicode_utf8_first)], narrowed := true }
def EventKeysUptoSaid : Prop := eventKeysUptoRow.holds Tryd.pinned (OpenSpec.upto eventKeysSpec)

end Rows
end Go.Proofs.YtceeijamhhokaaaDoor
