/-
  DERIVED. GIVEN WITH THE SEED: THE CARDS: each row of YtcojnojdgigmdaaGreatDoorRows.lean that lists a variable, with what it lists TIED to the program's text (the seventh form; the later family's looks); each row that meets fmt, with fmt's text TOLD by the authors' own Lean function (tested against real Go, not proved from fmt's source: count such statements apart). THE CARD IS WHAT COUNTS. Prove the row's statement (the work); the ties are given (YtcojnojdgigmdaaGreatDoorTie.lean); close each card by the builder's one call (the guide's Derived/Test/ToyasCard.lean, 'card_holds'). Laid BY PROGRAM, IN A SANDBOX (cutbox-door.mjs). By AI agents, Wed Nov 11 2026. No macro, syntax, notation, axiom, sorry.
-/
import Derived.Test.YtcojnojdgigmdaaGreatDoorRows
import GoSem.ClaimSeven
namespace Go.Proofs.YtcojnojdgigmdaaGreatDoor
namespace Rows

/-- THE TIED CARD OF 'oxbowlaw21.RunAll'. -/
def runAllCard : Claim7 := { stood := { row := runAllRow, standIns := [], harness := (true, "ad7841e8ec46f7fc8ebe3fd91ba1d699088a36188e7aea20a1317f0bfa2bcede"), looks := true }, kinds := [], alts := [], laidByText := true, laidKinds := [.data, .data, .data], laidTests := true, laidLooks := .later }
def RunAllCardSaid : Prop := Claim7.holds Tryz.pinned (.plain (OpenSpec.ofChange runAllSpec)) runAllCard

/-- THE TIED CARD OF 'oxbowlaw21.RunAdvances'. -/
def runAdvancesCard : Claim7 := { stood := { row := runAdvancesRow, standIns := [], harness := (true, "ad7841e8ec46f7fc8ebe3fd91ba1d699088a36188e7aea20a1317f0bfa2bcede"), looks := true }, kinds := [], alts := [], laidByText := true, laidKinds := [.data, .data, .data], laidTests := true, laidLooks := .later }
def RunAdvancesCardSaid : Prop := Claim7.holds Tryz.pinned (.plain (OpenSpec.ofChange runAdvancesSpec)) runAdvancesCard

/-- THE TIED CARD OF 'oxbowlaw21.RunSteps'. -/
def runStepsCard : Claim7 := { stood := { row := runStepsRow, standIns := [], harness := (true, "ad7841e8ec46f7fc8ebe3fd91ba1d699088a36188e7aea20a1317f0bfa2bcede"), looks := true }, kinds := [], alts := [], laidByText := true, laidKinds := [.data, .data, .data], laidTests := true, laidLooks := .later }
def RunStepsCardSaid : Prop := Claim7.holds Tryz.pinned (.plain (OpenSpec.ofChange runStepsSpec)) runStepsCard

/-- THE SECOND FORM's CARD OF 'oxbowlaw21.RunAll'. -/
def runAllUptoCard : Claim7 := { stood := { row := runAllUptoRow, standIns := [], harness := (true, "ad7841e8ec46f7fc8ebe3fd91ba1d699088a36188e7aea20a1317f0bfa2bcede"), looks := true }, kinds := [], alts := [], laidByText := true, laidKinds := [.data, .data, .data], laidTests := true, laidLooks := .later }
def RunAllUptoCardSaid : Prop := Claim7.holds Tryz.pinned (.plain (OpenSpec.upto runAllSpec)) runAllUptoCard

/-- THE SECOND FORM's CARD OF 'oxbowlaw21.RunAdvances'. -/
def runAdvancesUptoCard : Claim7 := { stood := { row := runAdvancesUptoRow, standIns := [], harness := (true, "ad7841e8ec46f7fc8ebe3fd91ba1d699088a36188e7aea20a1317f0bfa2bcede"), looks := true }, kinds := [], alts := [], laidByText := true, laidKinds := [.data, .data, .data], laidTests := true, laidLooks := .later }
def RunAdvancesUptoCardSaid : Prop := Claim7.holds Tryz.pinned (.plain (OpenSpec.upto runAdvancesSpec)) runAdvancesUptoCard

/-- THE SECOND FORM's CARD OF 'oxbowlaw21.RunSteps'. -/
def runStepsUptoCard : Claim7 := { stood := { row := runStepsUptoRow, standIns := [], harness := (true, "ad7841e8ec46f7fc8ebe3fd91ba1d699088a36188e7aea20a1317f0bfa2bcede"), looks := true }, kinds := [], alts := [], laidByText := true, laidKinds := [.data, .data, .data], laidTests := true, laidLooks := .later }
def RunStepsUptoCardSaid : Prop := Claim7.holds Tryz.pinned (.plain (OpenSpec.upto runStepsSpec)) runStepsUptoCard
end Rows
end Go.Proofs.YtcojnojdgigmdaaGreatDoor
