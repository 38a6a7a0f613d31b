/-
  DERIVED. GIVEN WITH THE SEED: THE CARDS: each row of YtcfimponmioneaaDoorRows.lean that lists a variable, with what it lists TIED to the program's text (the seventh form; the later family's looks); each row that meets fmt, with fmt's text TOLD by the authors' own Lean function (tested against real Go, not proved from fmt's source: count such statements apart). THE CARD IS WHAT COUNTS. Prove the row's statement (the work); the ties are given (YtcfimponmioneaaDoorTie.lean); close each card by the builder's one call (the guide's Derived/Test/ToyasCard.lean, 'card_holds'). Laid BY PROGRAM, IN A SANDBOX (cutbox-door.mjs). By AI agents, Wed Nov 11 2026. No macro, syntax, notation, axiom, sorry.
-/
import Derived.Test.YtcfimponmioneaaDoorRows
import GoSem.ClaimSeven
namespace Go.Proofs.YtcfimponmioneaaDoor
namespace Rows

/-- THE TIED CARD OF 'oxbowlaw19.PatternShows'. -/
def patternShowsCard : Claim7 := { stood := { row := patternShowsRow, standIns := [], harness := (true, "f9943fc7a0ed9a3aabdf8e4aa33fd881b4db0fb34f03ca5760e29392185e95e0"), looks := true }, kinds := [], alts := [], laidByText := true, laidKinds := [.data, .data, .data, .data], laidTests := true, laidLooks := .later }
def PatternShowsCardSaid : Prop := Claim7.holds Tryd.pinned (.plain (OpenSpec.ofChange patternShowsSpec)) patternShowsCard

/-- THE TIED CARD OF 'oxbowlaw19.PatternBack'. -/
def patternBackCard : Claim7 := { stood := { row := patternBackRow, standIns := [], harness := (true, "f9943fc7a0ed9a3aabdf8e4aa33fd881b4db0fb34f03ca5760e29392185e95e0"), looks := true }, kinds := [], alts := [], laidByText := true, laidKinds := [.data, .data, .data, .data], laidTests := true, laidLooks := .later }
def PatternBackCardSaid : Prop := Claim7.holds Tryd.pinned (.plain (OpenSpec.ofChange patternBackSpec)) patternBackCard

/-- THE SECOND FORM's CARD OF 'oxbowlaw19.PatternShows'. -/
def patternShowsUptoCard : Claim7 := { stood := { row := patternShowsUptoRow, standIns := [], harness := (true, "f9943fc7a0ed9a3aabdf8e4aa33fd881b4db0fb34f03ca5760e29392185e95e0"), looks := true }, kinds := [], alts := [], laidByText := true, laidKinds := [.data, .data, .data, .data], laidTests := true, laidLooks := .later }
def PatternShowsUptoCardSaid : Prop := Claim7.holds Tryd.pinned (.plain (OpenSpec.upto patternShowsSpec)) patternShowsUptoCard

/-- THE SECOND FORM's CARD OF 'oxbowlaw19.PatternBack'. -/
def patternBackUptoCard : Claim7 := { stood := { row := patternBackUptoRow, standIns := [], harness := (true, "f9943fc7a0ed9a3aabdf8e4aa33fd881b4db0fb34f03ca5760e29392185e95e0"), looks := true }, kinds := [], alts := [], laidByText := true, laidKinds := [.data, .data, .data, .data], laidTests := true, laidLooks := .later }
def PatternBackUptoCardSaid : Prop := Claim7.holds Tryd.pinned (.plain (OpenSpec.upto patternBackSpec)) patternBackUptoCard
end Rows
end Go.Proofs.YtcfimponmioneaaDoor
