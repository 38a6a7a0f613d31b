/-
  DERIVED. GIVEN WITH THE SEED: THE CARDS: each row of YtcojnojdgigmdaaDoorRows.lean that lists a variable, with what it lists TIED to the program's text (the seventh form; the later family's looks); each row that meets fmt, with fmt's text TOLD by the authors' own Lean function (tested against real Go, not proved from fmt's source: count such statements apart). THE CARD IS WHAT COUNTS. Prove the row's statement (the work); the ties are given (YtcojnojdgigmdaaDoorTie.lean); close each card by the builder's one call (the guide's Derived/Test/ToyasCard.lean, 'card_holds'). Laid BY PROGRAM, IN A SANDBOX (cutbox-door.mjs). By AI agents, Wed Nov 11 2026. No macro, syntax, notation, axiom, sorry.
-/
import Derived.Test.YtcojnojdgigmdaaDoorRows
import GoSem.ClaimSeven
namespace Go.Proofs.YtcojnojdgigmdaaDoor
namespace Rows

/-- THE TIED CARD OF 'oxbowlaw21.RunTurned'. -/
def runTurnedCard : Claim7 := { stood := { row := runTurnedRow, standIns := [], harness := (true, "5318c175fbca1d0e58ee2841f2109b7043d260b059a5e7d3df801cee20fb3953"), looks := true }, kinds := [], alts := [], laidByText := true, laidKinds := [.data, .data, .data], laidTests := true, laidLooks := .later }
def RunTurnedCardSaid : Prop := Claim7.holds Tryd.pinned (.plain (OpenSpec.ofChange runTurnedSpec)) runTurnedCard

/-- THE TIED CARD OF 'oxbowlaw21.RunMore'. -/
def runMoreCard : Claim7 := { stood := { row := runMoreRow, standIns := [], harness := (true, "5318c175fbca1d0e58ee2841f2109b7043d260b059a5e7d3df801cee20fb3953"), looks := true }, kinds := [], alts := [], laidByText := true, laidKinds := [.data, .data, .data], laidTests := true, laidLooks := .later }
def RunMoreCardSaid : Prop := Claim7.holds Tryd.pinned (.plain (OpenSpec.ofChange runMoreSpec)) runMoreCard

/-- THE TIED CARD OF 'oxbowlaw21.RunWindow'. -/
def runWindowCard : Claim7 := { stood := { row := runWindowRow, standIns := [], harness := (true, "5318c175fbca1d0e58ee2841f2109b7043d260b059a5e7d3df801cee20fb3953"), looks := true }, kinds := [], alts := [], laidByText := true, laidKinds := [.data, .data, .data], laidTests := true, laidLooks := .later }
def RunWindowCardSaid : Prop := Claim7.holds Tryd.pinned (.plain (OpenSpec.ofChange runWindowSpec)) runWindowCard

/-- THE TIED CARD OF 'oxbowlaw21.RunTwice'. -/
def runTwiceCard : Claim7 := { stood := { row := runTwiceRow, standIns := [], harness := (true, "5318c175fbca1d0e58ee2841f2109b7043d260b059a5e7d3df801cee20fb3953"), looks := true }, kinds := [], alts := [], laidByText := true, laidKinds := [.data, .data, .data], laidTests := true, laidLooks := .later }
def RunTwiceCardSaid : Prop := Claim7.holds Tryd.pinned (.plain (OpenSpec.ofChange runTwiceSpec)) runTwiceCard

/-- THE TIED CARD OF 'oxbowlaw21.RunBytes'. -/
def runBytesCard : Claim7 := { stood := { row := runBytesRow, standIns := [], harness := (true, "5318c175fbca1d0e58ee2841f2109b7043d260b059a5e7d3df801cee20fb3953"), looks := true }, kinds := [], alts := [], laidByText := true, laidKinds := [.data, .data, .data], laidTests := true, laidLooks := .later }
def RunBytesCardSaid : Prop := Claim7.holds Tryd.pinned (.plain (OpenSpec.ofChange runBytesSpec)) runBytesCard

/-- THE TIED CARD OF 'oxbowtop.TopPairs'. -/
def topPairsCard : Claim7 := { stood := { row := topPairsRow, standIns := [], harness := (true, "5318c175fbca1d0e58ee2841f2109b7043d260b059a5e7d3df801cee20fb3953"), looks := true }, kinds := [], alts := [], laidByText := true, laidKinds := [.data, .data, .data], laidTests := true, laidLooks := .later }
def TopPairsCardSaid : Prop := Claim7.holds Tryd.pinned (.plain (OpenSpec.ofChange topPairsSpec)) topPairsCard

/-- THE TIED CARD OF 'oxbowtop.TopRising'. -/
def topRisingCard : Claim7 := { stood := { row := topRisingRow, standIns := [], harness := (true, "5318c175fbca1d0e58ee2841f2109b7043d260b059a5e7d3df801cee20fb3953"), looks := true }, kinds := [], alts := [], laidByText := true, laidKinds := [.data, .data, .data], laidTests := true, laidLooks := .later }
def TopRisingCardSaid : Prop := Claim7.holds Tryd.pinned (.plain (OpenSpec.ofChange topRisingSpec)) topRisingCard

/-- THE SECOND FORM's CARD OF 'oxbowlaw21.RunTurned'. -/
def runTurnedUptoCard : Claim7 := { stood := { row := runTurnedUptoRow, standIns := [], harness := (true, "5318c175fbca1d0e58ee2841f2109b7043d260b059a5e7d3df801cee20fb3953"), looks := true }, kinds := [], alts := [], laidByText := true, laidKinds := [.data, .data, .data], laidTests := true, laidLooks := .later }
def RunTurnedUptoCardSaid : Prop := Claim7.holds Tryd.pinned (.plain (OpenSpec.upto runTurnedSpec)) runTurnedUptoCard

/-- THE SECOND FORM's CARD OF 'oxbowlaw21.RunMore'. -/
def runMoreUptoCard : Claim7 := { stood := { row := runMoreUptoRow, standIns := [], harness := (true, "5318c175fbca1d0e58ee2841f2109b7043d260b059a5e7d3df801cee20fb3953"), looks := true }, kinds := [], alts := [], laidByText := true, laidKinds := [.data, .data, .data], laidTests := true, laidLooks := .later }
def RunMoreUptoCardSaid : Prop := Claim7.holds Tryd.pinned (.plain (OpenSpec.upto runMoreSpec)) runMoreUptoCard

/-- THE SECOND FORM's CARD OF 'oxbowlaw21.RunWindow'. -/
def runWindowUptoCard : Claim7 := { stood := { row := runWindowUptoRow, standIns := [], harness := (true, "5318c175fbca1d0e58ee2841f2109b7043d260b059a5e7d3df801cee20fb3953"), looks := true }, kinds := [], alts := [], laidByText := true, laidKinds := [.data, .data, .data], laidTests := true, laidLooks := .later }
def RunWindowUptoCardSaid : Prop := Claim7.holds Tryd.pinned (.plain (OpenSpec.upto runWindowSpec)) runWindowUptoCard

/-- THE SECOND FORM's CARD OF 'oxbowlaw21.RunTwice'. -/
def runTwiceUptoCard : Claim7 := { stood := { row := runTwiceUptoRow, standIns := [], harness := (true, "5318c175fbca1d0e58ee2841f2109b7043d260b059a5e7d3df801cee20fb3953"), looks := true }, kinds := [], alts := [], laidByText := true, laidKinds := [.data, .data, .data], laidTests := true, laidLooks := .later }
def RunTwiceUptoCardSaid : Prop := Claim7.holds Tryd.pinned (.plain (OpenSpec.upto runTwiceSpec)) runTwiceUptoCard

/-- THE SECOND FORM's CARD OF 'oxbowlaw21.RunBytes'. -/
def runBytesUptoCard : Claim7 := { stood := { row := runBytesUptoRow, standIns := [], harness := (true, "5318c175fbca1d0e58ee2841f2109b7043d260b059a5e7d3df801cee20fb3953"), looks := true }, kinds := [], alts := [], laidByText := true, laidKinds := [.data, .data, .data], laidTests := true, laidLooks := .later }
def RunBytesUptoCardSaid : Prop := Claim7.holds Tryd.pinned (.plain (OpenSpec.upto runBytesSpec)) runBytesUptoCard

/-- THE SECOND FORM's CARD OF 'oxbowtop.TopPairs'. -/
def topPairsUptoCard : Claim7 := { stood := { row := topPairsUptoRow, standIns := [], harness := (true, "5318c175fbca1d0e58ee2841f2109b7043d260b059a5e7d3df801cee20fb3953"), looks := true }, kinds := [], alts := [], laidByText := true, laidKinds := [.data, .data, .data], laidTests := true, laidLooks := .later }
def TopPairsUptoCardSaid : Prop := Claim7.holds Tryd.pinned (.plain (OpenSpec.upto topPairsSpec)) topPairsUptoCard

/-- THE SECOND FORM's CARD OF 'oxbowtop.TopRising'. -/
def topRisingUptoCard : Claim7 := { stood := { row := topRisingUptoRow, standIns := [], harness := (true, "5318c175fbca1d0e58ee2841f2109b7043d260b059a5e7d3df801cee20fb3953"), looks := true }, kinds := [], alts := [], laidByText := true, laidKinds := [.data, .data, .data], laidTests := true, laidLooks := .later }
def TopRisingUptoCardSaid : Prop := Claim7.holds Tryd.pinned (.plain (OpenSpec.upto topRisingSpec)) topRisingUptoCard
end Rows
end Go.Proofs.YtcojnojdgigmdaaDoor
