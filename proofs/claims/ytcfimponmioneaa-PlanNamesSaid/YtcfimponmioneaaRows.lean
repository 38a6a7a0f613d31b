/-
  No cell of these rows narrows 'for every input' (looked for: loops, veiled, ifaces, maps, wideKeys, modest, calm, conditions, laid).
  DERIVED. THE GIVEN ROWS OF THIS SEAT. 9 by the template 'for every input the law returns true; each argument reads behind the call as it read before'; 0 by the template 'total and deterministic' (their statements: YtcfimponmioneaaTotals.lean).
  GIVEN WITH THE SEED: the statements are not yours to turn. If you find one false, say at which input.
  Laid BY PROGRAM, IN A SANDBOX (cutbox-rows.mjs): the forced cells as the released guide's own fill.sh prints them over the translation 07f57f7bafffbdb6… (all of the seat's roots in one cut). By AI agents, Wed Nov 11 2026. No macro, syntax, notation, axiom, sorry.
-/
import Derived.Test.YtcfimponmioneaaChecked
import GoSem.Claim
import GoSem.ClaimJoined
import GoSem.ClaimMapViews
import Derived.JoinedTies
import Derived.KernelRfl
namespace Go.Proofs.Ytcfimponmioneaa
/- THE CELL 'sum', in the pinned program and in every row, IS THE sha256 OF THE DUMP (.gsa) THAT YtcfimponmioneaaProg.lean LOADS. Nothing in Lean hashes anything: it is a label: what it is worth is what the hold of that sum in a sandbox is worth. -/
noncomputable def Try.pinned : Pinned := { name := "ytcfimponmioneaa", sum := "07f57f7bafffbdb61f473cba083eb4aa810d961da308c8badee2564a05d77ddc", checked := Try.checked }
namespace Rows
def none {H : Type} : Left H := { results := [], args := [] }

/-- 'oxbowlaw19.PatternParses': WHATEVER THE INPUT: true; the input reads as it did. -/
def patternParsesSpec : ChangeSpec := { name := "patternParses", fn := fun _ => fun
  | [d] => { results := [.lit (.bool true)], args := [d] }
  | _ => none }
def patternParsesRow : OpenClaim := { program := "ytcfimponmioneaa", sum := "07f57f7bafffbdb61f473cba083eb4aa810d961da308c8badee2564a05d77ddc", func := "oxbow/oxbowlaw19.PatternParses", spec := "patternParses", unfollowed := true, recurses := true, apart := false }
def PatternParsesSaid : Prop := patternParsesRow.holds Try.pinned (OpenSpec.ofChange patternParsesSpec)

/-- ITS FALSE NEIGHBOUR: 'it returns false'. Refute it at one input. -/
def patternParsesWrong : ChangeSpec := { name := "patternParses", fn := fun _ => fun
  | [d] => { results := [.lit (.bool false)], args := [d] }
  | _ => none }
def PatternParsesWrongFalsely : Prop := patternParsesRow.holds Try.pinned (OpenSpec.ofChange patternParsesWrong)

/-- 'oxbowlaw19.PatternPrefixes': WHATEVER THE INPUT: true; the input reads as it did. -/
def patternPrefixesSpec : ChangeSpec := { name := "patternPrefixes", fn := fun _ => fun
  | [d1, d2] => { results := [.lit (.bool true)], args := [d1, d2] }
  | _ => none }
def patternPrefixesRow : OpenClaim := { program := "ytcfimponmioneaa", sum := "07f57f7bafffbdb61f473cba083eb4aa810d961da308c8badee2564a05d77ddc", func := "oxbow/oxbowlaw19.PatternPrefixes", spec := "patternPrefixes", unfollowed := true, recurses := true, apart := false }
def PatternPrefixesSaid : Prop := patternPrefixesRow.holds Try.pinned (OpenSpec.ofChange patternPrefixesSpec)

/-- ITS FALSE NEIGHBOUR: 'it returns false'. Refute it at one input. -/
def patternPrefixesWrong : ChangeSpec := { name := "patternPrefixes", fn := fun _ => fun
  | [d1, d2] => { results := [.lit (.bool false)], args := [d1, d2] }
  | _ => none }
def PatternPrefixesWrongFalsely : Prop := patternPrefixesRow.holds Try.pinned (OpenSpec.ofChange patternPrefixesWrong)

/-- 'oxbowlaw19.PatternAppended': WHATEVER THE INPUT: true; the input reads as it did. -/
def patternAppendedSpec : ChangeSpec := { name := "patternAppended", fn := fun _ => fun
  | [d1, d2] => { results := [.lit (.bool true)], args := [d1, d2] }
  | _ => none }
def patternAppendedRow : OpenClaim := { program := "ytcfimponmioneaa", sum := "07f57f7bafffbdb61f473cba083eb4aa810d961da308c8badee2564a05d77ddc", func := "oxbow/oxbowlaw19.PatternAppended", spec := "patternAppended", unfollowed := true, recurses := true, apart := false }
def PatternAppendedSaid : Prop := patternAppendedRow.holds Try.pinned (OpenSpec.ofChange patternAppendedSpec)

/-- ITS FALSE NEIGHBOUR: 'it returns false'. Refute it at one input. -/
def patternAppendedWrong : ChangeSpec := { name := "patternAppended", fn := fun _ => fun
  | [d1, d2] => { results := [.lit (.bool false)], args := [d1, d2] }
  | _ => none }
def PatternAppendedWrongFalsely : Prop := patternAppendedRow.holds Try.pinned (OpenSpec.ofChange patternAppendedWrong)

/-- 'oxbowlaw19.PatternHolds': WHATEVER THE INPUT: true; the input reads as it did. -/
def patternHoldsSpec : ChangeSpec := { name := "patternHolds", fn := fun _ => fun
  | [d1, d2, d3] => { results := [.lit (.bool true)], args := [d1, d2, d3] }
  | _ => none }
def patternHoldsRow : OpenClaim := { program := "ytcfimponmioneaa", sum := "07f57f7bafffbdb61f473cba083eb4aa810d961da308c8badee2564a05d77ddc", func := "oxbow/oxbowlaw19.PatternHolds", spec := "patternHolds", unfollowed := true, recurses := true, apart := false }
def PatternHoldsSaid : Prop := patternHoldsRow.holds Try.pinned (OpenSpec.ofChange patternHoldsSpec)

/-- ITS FALSE NEIGHBOUR: 'it returns false'. Refute it at one input. -/
def patternHoldsWrong : ChangeSpec := { name := "patternHolds", fn := fun _ => fun
  | [d1, d2, d3] => { results := [.lit (.bool false)], args := [d1, d2, d3] }
  | _ => none }
def PatternHoldsWrongFalsely : Prop := patternHoldsRow.holds Try.pinned (OpenSpec.ofChange patternHoldsWrong)

/-- 'oxbowlaw20.PlanMakes': WHATEVER THE INPUT: true; the input reads as it did. -/
def planMakesSpec : ChangeSpec := { name := "planMakes", fn := fun _ => fun
  | [d] => { results := [.lit (.bool true)], args := [d] }
  | _ => none }
def planMakesRow : OpenClaim := { program := "ytcfimponmioneaa", sum := "07f57f7bafffbdb61f473cba083eb4aa810d961da308c8badee2564a05d77ddc", func := "oxbow/oxbowlaw20.PlanMakes", spec := "planMakes", unfollowed := true, recurses := true, apart := false }
def PlanMakesSaid : Prop := planMakesRow.holds Try.pinned (OpenSpec.ofChange planMakesSpec)

/-- ITS FALSE NEIGHBOUR: 'it returns false'. Refute it at one input. -/
def planMakesWrong : ChangeSpec := { name := "planMakes", fn := fun _ => fun
  | [d] => { results := [.lit (.bool false)], args := [d] }
  | _ => none }
def PlanMakesWrongFalsely : Prop := planMakesRow.holds Try.pinned (OpenSpec.ofChange planMakesWrong)

/-- 'oxbowlaw20.PlanCompiles': WHATEVER THE INPUT: true; the input reads as it did. -/
def planCompilesSpec : ChangeSpec := { name := "planCompiles", fn := fun _ => fun
  | [d] => { results := [.lit (.bool true)], args := [d] }
  | _ => none }
def planCompilesRow : OpenClaim := { program := "ytcfimponmioneaa", sum := "07f57f7bafffbdb61f473cba083eb4aa810d961da308c8badee2564a05d77ddc", func := "oxbow/oxbowlaw20.PlanCompiles", spec := "planCompiles", unfollowed := true, recurses := true, apart := false }
def PlanCompilesSaid : Prop := planCompilesRow.holds Try.pinned (OpenSpec.ofChange planCompilesSpec)

/-- ITS FALSE NEIGHBOUR: 'it returns false'. Refute it at one input. -/
def planCompilesWrong : ChangeSpec := { name := "planCompiles", fn := fun _ => fun
  | [d] => { results := [.lit (.bool false)], args := [d] }
  | _ => none }
def PlanCompilesWrongFalsely : Prop := planCompilesRow.holds Try.pinned (OpenSpec.ofChange planCompilesWrong)

/-- 'oxbowlaw20.PlanSteps': WHATEVER THE INPUT: true; the input reads as it did. -/
def planStepsSpec : ChangeSpec := { name := "planSteps", fn := fun _ => fun
  | [d1, d2] => { results := [.lit (.bool true)], args := [d1, d2] }
  | _ => none }
def planStepsRow : OpenClaim := { program := "ytcfimponmioneaa", sum := "07f57f7bafffbdb61f473cba083eb4aa810d961da308c8badee2564a05d77ddc", func := "oxbow/oxbowlaw20.PlanSteps", spec := "planSteps", unfollowed := true, recurses := true, apart := false }
def PlanStepsSaid : Prop := planStepsRow.holds Try.pinned (OpenSpec.ofChange planStepsSpec)

/-- ITS FALSE NEIGHBOUR: 'it returns false'. Refute it at one input. -/
def planStepsWrong : ChangeSpec := { name := "planSteps", fn := fun _ => fun
  | [d1, d2] => { results := [.lit (.bool false)], args := [d1, d2] }
  | _ => none }
def PlanStepsWrongFalsely : Prop := planStepsRow.holds Try.pinned (OpenSpec.ofChange planStepsWrong)

/-- 'oxbowlaw20.PlanAhead': WHATEVER THE INPUT: true; the input reads as it did. -/
def planAheadSpec : ChangeSpec := { name := "planAhead", fn := fun _ => fun
  | [d1, d2] => { results := [.lit (.bool true)], args := [d1, d2] }
  | _ => none }
def planAheadRow : OpenClaim := { program := "ytcfimponmioneaa", sum := "07f57f7bafffbdb61f473cba083eb4aa810d961da308c8badee2564a05d77ddc", func := "oxbow/oxbowlaw20.PlanAhead", spec := "planAhead", unfollowed := true, recurses := true, apart := false }
def PlanAheadSaid : Prop := planAheadRow.holds Try.pinned (OpenSpec.ofChange planAheadSpec)

/-- ITS FALSE NEIGHBOUR: 'it returns false'. Refute it at one input. -/
def planAheadWrong : ChangeSpec := { name := "planAhead", fn := fun _ => fun
  | [d1, d2] => { results := [.lit (.bool false)], args := [d1, d2] }
  | _ => none }
def PlanAheadWrongFalsely : Prop := planAheadRow.holds Try.pinned (OpenSpec.ofChange planAheadWrong)

/-- 'oxbowlaw20.PlanNames': WHATEVER THE INPUT: true; the input reads as it did. -/
def planNamesSpec : ChangeSpec := { name := "planNames", fn := fun _ => fun
  | [d1, d2] => { results := [.lit (.bool true)], args := [d1, d2] }
  | _ => none }
def planNamesRow : OpenClaim := { program := "ytcfimponmioneaa", sum := "07f57f7bafffbdb61f473cba083eb4aa810d961da308c8badee2564a05d77ddc", func := "oxbow/oxbowlaw20.PlanNames", spec := "planNames", unfollowed := true, recurses := true, apart := false }
def PlanNamesSaid : Prop := planNamesRow.holds Try.pinned (OpenSpec.ofChange planNamesSpec)

/-- ITS FALSE NEIGHBOUR: 'it returns false'. Refute it at one input. -/
def planNamesWrong : ChangeSpec := { name := "planNames", fn := fun _ => fun
  | [d1, d2] => { results := [.lit (.bool false)], args := [d1, d2] }
  | _ => none }
def PlanNamesWrongFalsely : Prop := planNamesRow.holds Try.pinned (OpenSpec.ofChange planNamesWrong)

/- THE SECOND FORM. 'bulk': how many values and letters a reading holds, each counted each time it is reached (what is shared counts as often as it is met; a slice's spare places count too). A statement '..UptoSaid' is the law's where the arguments, and the package variables that the reading takes, are together of bulk at most 1048576: NARROWER than '..Said'. Prove '..Said' where nothing that the law and all that it calls make is longer than what came in: it says more and counts as full. Else prove '..UptoSaid'. A law counts once. -/
mutual
def uptoBulk {H : Type} : DataW H → Nat
  | .lit (.string bytes) => bytes.length + 1
  | .lit _ => 1
  | .nil => 1
  | .ptr d => uptoBulk d + 1
  | .slice elems spare => uptoBulkAll elems + uptoBulkAll spare + 1
  | .agg parts => uptoBulkAll parts + 1
  | .iface _ d => uptoBulk d + 1
  | .map entries => uptoBulkEntries entries + 1
  | .held _ => 1
def uptoBulkAll {H : Type} : List (DataW H) → Nat
  | [] => 0
  | d :: r => uptoBulk d + uptoBulkAll r
def uptoBulkEntries {H : Type} : List (Lit × DataW H) → Nat
  | [] => 0
  | x :: r => uptoBulkEntry x + uptoBulkEntries r
def uptoBulkEntry {H : Type} : Lit × DataW H → Nat
  | (.string bytes, d) => bytes.length + uptoBulk d + 1
  | (_, d) => uptoBulk d + 1
 end
def uptoSmall : (H : Type) → List (DataW H) → Bool := fun _ ds => decide (uptoBulkAll ds ≤ 1048576)
def OpenSpec.upto (s : _root_.Go.ChangeSpec) : _root_.Go.OpenSpec := { _root_.Go.OpenSpec.ofChange s with cond := some uptoSmall }

/-- 'oxbowlaw19.PatternParses', WHERE WHAT IT READS IS OF BULK AT MOST 1048576: true; the input reads as it did. -/
def patternParsesUptoRow : OpenClaim := { program := "ytcfimponmioneaa", sum := "07f57f7bafffbdb61f473cba083eb4aa810d961da308c8badee2564a05d77ddc", func := "oxbow/oxbowlaw19.PatternParses", spec := "patternParses", unfollowed := true, recurses := true, apart := false, narrowed := true }
def PatternParsesUptoSaid : Prop := patternParsesUptoRow.holds Try.pinned (OpenSpec.upto patternParsesSpec)

/-- 'oxbowlaw19.PatternPrefixes', WHERE WHAT IT READS IS OF BULK AT MOST 1048576: true; the input reads as it did. -/
def patternPrefixesUptoRow : OpenClaim := { program := "ytcfimponmioneaa", sum := "07f57f7bafffbdb61f473cba083eb4aa810d961da308c8badee2564a05d77ddc", func := "oxbow/oxbowlaw19.PatternPrefixes", spec := "patternPrefixes", unfollowed := true, recurses := true, apart := false, narrowed := true }
def PatternPrefixesUptoSaid : Prop := patternPrefixesUptoRow.holds Try.pinned (OpenSpec.upto patternPrefixesSpec)

/-- 'oxbowlaw19.PatternAppended', WHERE WHAT IT READS IS OF BULK AT MOST 1048576: true; the input reads as it did. -/
def patternAppendedUptoRow : OpenClaim := { program := "ytcfimponmioneaa", sum := "07f57f7bafffbdb61f473cba083eb4aa810d961da308c8badee2564a05d77ddc", func := "oxbow/oxbowlaw19.PatternAppended", spec := "patternAppended", unfollowed := true, recurses := true, apart := false, narrowed := true }
def PatternAppendedUptoSaid : Prop := patternAppendedUptoRow.holds Try.pinned (OpenSpec.upto patternAppendedSpec)

/-- 'oxbowlaw19.PatternHolds', WHERE WHAT IT READS IS OF BULK AT MOST 1048576: true; the input reads as it did. -/
def patternHoldsUptoRow : OpenClaim := { program := "ytcfimponmioneaa", sum := "07f57f7bafffbdb61f473cba083eb4aa810d961da308c8badee2564a05d77ddc", func := "oxbow/oxbowlaw19.PatternHolds", spec := "patternHolds", unfollowed := true, recurses := true, apart := false, narrowed := true }
def PatternHoldsUptoSaid : Prop := patternHoldsUptoRow.holds Try.pinned (OpenSpec.upto patternHoldsSpec)

/-- 'oxbowlaw20.PlanMakes', WHERE WHAT IT READS IS OF BULK AT MOST 1048576: true; the input reads as it did. -/
def planMakesUptoRow : OpenClaim := { program := "ytcfimponmioneaa", sum := "07f57f7bafffbdb61f473cba083eb4aa810d961da308c8badee2564a05d77ddc", func := "oxbow/oxbowlaw20.PlanMakes", spec := "planMakes", unfollowed := true, recurses := true, apart := false, narrowed := true }
def PlanMakesUptoSaid : Prop := planMakesUptoRow.holds Try.pinned (OpenSpec.upto planMakesSpec)

/-- 'oxbowlaw20.PlanCompiles', WHERE WHAT IT READS IS OF BULK AT MOST 1048576: true; the input reads as it did. -/
def planCompilesUptoRow : OpenClaim := { program := "ytcfimponmioneaa", sum := "07f57f7bafffbdb61f473cba083eb4aa810d961da308c8badee2564a05d77ddc", func := "oxbow/oxbowlaw20.PlanCompiles", spec := "planCompiles", unfollowed := true, recurses := true, apart := false, narrowed := true }
def PlanCompilesUptoSaid : Prop := planCompilesUptoRow.holds Try.pinned (OpenSpec.upto planCompilesSpec)

/-- 'oxbowlaw20.PlanSteps', WHERE WHAT IT READS IS OF BULK AT MOST 1048576: true; the input reads as it did. -/
def planStepsUptoRow : OpenClaim := { program := "ytcfimponmioneaa", sum := "07f57f7bafffbdb61f473cba083eb4aa810d961da308c8badee2564a05d77ddc", func := "oxbow/oxbowlaw20.PlanSteps", spec := "planSteps", unfollowed := true, recurses := true, apart := false, narrowed := true }
def PlanStepsUptoSaid : Prop := planStepsUptoRow.holds Try.pinned (OpenSpec.upto planStepsSpec)

/-- 'oxbowlaw20.PlanAhead', WHERE WHAT IT READS IS OF BULK AT MOST 1048576: true; the input reads as it did. -/
def planAheadUptoRow : OpenClaim := { program := "ytcfimponmioneaa", sum := "07f57f7bafffbdb61f473cba083eb4aa810d961da308c8badee2564a05d77ddc", func := "oxbow/oxbowlaw20.PlanAhead", spec := "planAhead", unfollowed := true, recurses := true, apart := false, narrowed := true }
def PlanAheadUptoSaid : Prop := planAheadUptoRow.holds Try.pinned (OpenSpec.upto planAheadSpec)

/-- 'oxbowlaw20.PlanNames', WHERE WHAT IT READS IS OF BULK AT MOST 1048576: true; the input reads as it did. -/
def planNamesUptoRow : OpenClaim := { program := "ytcfimponmioneaa", sum := "07f57f7bafffbdb61f473cba083eb4aa810d961da308c8badee2564a05d77ddc", func := "oxbow/oxbowlaw20.PlanNames", spec := "planNames", unfollowed := true, recurses := true, apart := false, narrowed := true }
def PlanNamesUptoSaid : Prop := planNamesUptoRow.holds Try.pinned (OpenSpec.upto planNamesSpec)

end Rows
end Go.Proofs.Ytcfimponmioneaa
