/- All matches are the document's, in order (layer 21), in plain Lean. No program in sight. -/
import Derived.Test.YtcojnojdgigmdaaGreatDoorPGrow
import Derived.Test.YtcojnojdgigmdaaGreatDoorPWin
namespace Go.Proofs.YtcojnojdgigmdaaGreatDoor.PR
open Go PL Mem
def textM (l:List Ev) (m:Mt):List UInt8:=textR ⟨cntM m,m.map fun x=>evAt l x.1,false⟩
theorem text_row (p:RPlan) (l:List Ev) (k:Nat) (m:Mt):textR (toR p l k m)=textM l m:=rfl
end Go.Proofs.YtcojnojdgigmdaaGreatDoor.PR
