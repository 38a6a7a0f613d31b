/-
  DERIVED. GIVEN WITH THE SEED: THE CARDS: each row of YtceeijamhhokaaaDoorRows.lean that lists a variable, with what it lists TIED to the program's text (the seventh form; the later family's looks); each row that meets fmt, with fmt's text TOLD by the authors' own Lean function (tested against real Go, not proved from fmt's source: count such statements apart). THE CARD IS WHAT COUNTS. Prove the row's statement (the work); the ties are given (YtceeijamhhokaaaDoorTie.lean); close each card by the builder's one call (the guide's Derived/Test/ToyasCard.lean, 'card_holds'). Laid BY PROGRAM, IN A SANDBOX (cutbox-door.mjs). By AI agents, Wed Nov 11 2026. No macro, syntax, notation, axiom, sorry.
-/
import Derived.Test.YtceeijamhhokaaaDoorRows
import GoSem.ClaimSeven
namespace Go.Proofs.YtceeijamhhokaaaDoor
namespace Rows

/-- THE TIED CARD OF 'oxbowlaw02.KeyMakes'. -/
def keyMakesCard : Claim7 := { stood := { row := keyMakesRow, standIns := [], harness := (true, "02bc980107a6b10c4e06c178c0c8598d1c833c6df8e9ed49b423e8fc0397bb59"), looks := false }, kinds := [], alts := [], laidByText := true, laidKinds := [.data, .pinned], laidTests := true, laidLooks := .later }
def KeyMakesCardSaid : Prop := Claim7.holds Tryd.pinned (.plain (OpenSpec.ofChange keyMakesSpec)) keyMakesCard

/-- THE TIED CARD OF 'oxbowlaw02.KeyAbove'. -/
def keyAboveCard : Claim7 := { stood := { row := keyAboveRow, standIns := [], harness := (true, "02bc980107a6b10c4e06c178c0c8598d1c833c6df8e9ed49b423e8fc0397bb59"), looks := false }, kinds := [], alts := [], laidByText := true, laidKinds := [.data, .pinned], laidTests := true, laidLooks := .later }
def KeyAboveCardSaid : Prop := Claim7.holds Tryd.pinned (.plain (OpenSpec.ofChange keyAboveSpec)) keyAboveCard

/-- THE TIED CARD OF 'oxbowlaw18.EventSpans'. -/
def eventSpansCard : Claim7 := { stood := { row := eventSpansRow, standIns := [], harness := (true, "02bc980107a6b10c4e06c178c0c8598d1c833c6df8e9ed49b423e8fc0397bb59"), looks := false }, kinds := [], alts := [], laidByText := true, laidKinds := [.data, .pinned], laidTests := true, laidLooks := .later }
def EventSpansCardSaid : Prop := Claim7.holds Tryd.pinned (.plain (OpenSpec.ofChange eventSpansSpec)) eventSpansCard

/-- THE TIED CARD OF 'oxbowlaw02.KeyBack'. -/
def keyBackCard : Claim7 := { stood := { row := keyBackRow, standIns := [], harness := (true, "02bc980107a6b10c4e06c178c0c8598d1c833c6df8e9ed49b423e8fc0397bb59"), looks := false }, kinds := [], alts := [], laidByText := true, laidKinds := [.data, .pinned], laidTests := true, laidLooks := .later }
def KeyBackCardSaid : Prop := Claim7.holds Tryd.pinned (.plain (OpenSpec.ofChange keyBackSpec)) keyBackCard

/-- THE TIED CARD OF 'oxbowlaw02.KeyCompares'. -/
def keyComparesCard : Claim7 := { stood := { row := keyComparesRow, standIns := [], harness := (true, "02bc980107a6b10c4e06c178c0c8598d1c833c6df8e9ed49b423e8fc0397bb59"), looks := false }, kinds := [], alts := [], laidByText := true, laidKinds := [.data, .pinned], laidTests := true, laidLooks := .later }
def KeyComparesCardSaid : Prop := Claim7.holds Tryd.pinned (.plain (OpenSpec.ofChange keyComparesSpec)) keyComparesCard

/-- THE TIED CARD OF 'oxbowlaw02.KeyOrders'. -/
def keyOrdersCard : Claim7 := { stood := { row := keyOrdersRow, standIns := [], harness := (true, "02bc980107a6b10c4e06c178c0c8598d1c833c6df8e9ed49b423e8fc0397bb59"), looks := false }, kinds := [], alts := [], laidByText := true, laidKinds := [.data, .pinned], laidTests := true, laidLooks := .later }
def KeyOrdersCardSaid : Prop := Claim7.holds Tryd.pinned (.plain (OpenSpec.ofChange keyOrdersSpec)) keyOrdersCard

/-- THE TIED CARD OF 'oxbowlaw18.EventGood'. -/
def eventGoodCard : Claim7 := { stood := { row := eventGoodRow, standIns := [], harness := (true, "02bc980107a6b10c4e06c178c0c8598d1c833c6df8e9ed49b423e8fc0397bb59"), looks := false }, kinds := [], alts := [], laidByText := true, laidKinds := [.data, .pinned], laidTests := true, laidLooks := .later }
def EventGoodCardSaid : Prop := Claim7.holds Tryd.pinned (.plain (OpenSpec.ofChange eventGoodSpec)) eventGoodCard

/-- THE TIED CARD OF 'oxbowlaw18.EventKeys'. -/
def eventKeysCard : Claim7 := { stood := { row := eventKeysRow, standIns := [], harness := (true, "02bc980107a6b10c4e06c178c0c8598d1c833c6df8e9ed49b423e8fc0397bb59"), looks := false }, kinds := [], alts := [], laidByText := true, laidKinds := [.data, .pinned], laidTests := true, laidLooks := .later }
def EventKeysCardSaid : Prop := Claim7.holds Tryd.pinned (.plain (OpenSpec.ofChange eventKeysSpec)) eventKeysCard

/-- THE SECOND FORM's CARD OF 'oxbowlaw02.KeyMakes'. -/
def keyMakesUptoCard : Claim7 := { stood := { row := keyMakesUptoRow, standIns := [], harness := (true, "02bc980107a6b10c4e06c178c0c8598d1c833c6df8e9ed49b423e8fc0397bb59"), looks := false }, kinds := [], alts := [], laidByText := true, laidKinds := [.data, .pinned], laidTests := true, laidLooks := .later }
def KeyMakesUptoCardSaid : Prop := Claim7.holds Tryd.pinned (.plain (OpenSpec.upto keyMakesSpec)) keyMakesUptoCard

/-- THE SECOND FORM's CARD OF 'oxbowlaw02.KeyAbove'. -/
def keyAboveUptoCard : Claim7 := { stood := { row := keyAboveUptoRow, standIns := [], harness := (true, "02bc980107a6b10c4e06c178c0c8598d1c833c6df8e9ed49b423e8fc0397bb59"), looks := false }, kinds := [], alts := [], laidByText := true, laidKinds := [.data, .pinned], laidTests := true, laidLooks := .later }
def KeyAboveUptoCardSaid : Prop := Claim7.holds Tryd.pinned (.plain (OpenSpec.upto keyAboveSpec)) keyAboveUptoCard

/-- THE SECOND FORM's CARD OF 'oxbowlaw18.EventSpans'. -/
def eventSpansUptoCard : Claim7 := { stood := { row := eventSpansUptoRow, standIns := [], harness := (true, "02bc980107a6b10c4e06c178c0c8598d1c833c6df8e9ed49b423e8fc0397bb59"), looks := false }, kinds := [], alts := [], laidByText := true, laidKinds := [.data, .pinned], laidTests := true, laidLooks := .later }
def EventSpansUptoCardSaid : Prop := Claim7.holds Tryd.pinned (.plain (OpenSpec.upto eventSpansSpec)) eventSpansUptoCard

/-- THE SECOND FORM's CARD OF 'oxbowlaw02.KeyBack'. -/
def keyBackUptoCard : Claim7 := { stood := { row := keyBackUptoRow, standIns := [], harness := (true, "02bc980107a6b10c4e06c178c0c8598d1c833c6df8e9ed49b423e8fc0397bb59"), looks := false }, kinds := [], alts := [], laidByText := true, laidKinds := [.data, .pinned], laidTests := true, laidLooks := .later }
def KeyBackUptoCardSaid : Prop := Claim7.holds Tryd.pinned (.plain (OpenSpec.upto keyBackSpec)) keyBackUptoCard

/-- THE SECOND FORM's CARD OF 'oxbowlaw02.KeyCompares'. -/
def keyComparesUptoCard : Claim7 := { stood := { row := keyComparesUptoRow, standIns := [], harness := (true, "02bc980107a6b10c4e06c178c0c8598d1c833c6df8e9ed49b423e8fc0397bb59"), looks := false }, kinds := [], alts := [], laidByText := true, laidKinds := [.data, .pinned], laidTests := true, laidLooks := .later }
def KeyComparesUptoCardSaid : Prop := Claim7.holds Tryd.pinned (.plain (OpenSpec.upto keyComparesSpec)) keyComparesUptoCard

/-- THE SECOND FORM's CARD OF 'oxbowlaw02.KeyOrders'. -/
def keyOrdersUptoCard : Claim7 := { stood := { row := keyOrdersUptoRow, standIns := [], harness := (true, "02bc980107a6b10c4e06c178c0c8598d1c833c6df8e9ed49b423e8fc0397bb59"), looks := false }, kinds := [], alts := [], laidByText := true, laidKinds := [.data, .pinned], laidTests := true, laidLooks := .later }
def KeyOrdersUptoCardSaid : Prop := Claim7.holds Tryd.pinned (.plain (OpenSpec.upto keyOrdersSpec)) keyOrdersUptoCard

/-- THE SECOND FORM's CARD OF 'oxbowlaw18.EventGood'. -/
def eventGoodUptoCard : Claim7 := { stood := { row := eventGoodUptoRow, standIns := [], harness := (true, "02bc980107a6b10c4e06c178c0c8598d1c833c6df8e9ed49b423e8fc0397bb59"), looks := false }, kinds := [], alts := [], laidByText := true, laidKinds := [.data, .pinned], laidTests := true, laidLooks := .later }
def EventGoodUptoCardSaid : Prop := Claim7.holds Tryd.pinned (.plain (OpenSpec.upto eventGoodSpec)) eventGoodUptoCard

/-- THE SECOND FORM's CARD OF 'oxbowlaw18.EventKeys'. -/
def eventKeysUptoCard : Claim7 := { stood := { row := eventKeysUptoRow, standIns := [], harness := (true, "02bc980107a6b10c4e06c178c0c8598d1c833c6df8e9ed49b423e8fc0397bb59"), looks := false }, kinds := [], alts := [], laidByText := true, laidKinds := [.data, .pinned], laidTests := true, laidLooks := .later }
def EventKeysUptoCardSaid : Prop := Claim7.holds Tryd.pinned (.plain (OpenSpec.upto eventKeysSpec)) eventKeysUptoCard
end Rows
end Go.Proofs.YtceeijamhhokaaaDoor
