/- The walk of oxbowref21.barred: does a bar of a step stand between the last event of a row and another one? -/
import Derived.Test.YtcojnojdgigmdaaGreatDoorWC21
namespace Go.Proofs.YtcojnojdgigmdaaGreatDoor.WR
open Go Go.RowKit Go.Sort PL PR Mem WL
structure PlnOk (ss:List GS) (ts:Nat->List PT) (p:RPlan):Prop where
 n9:ss.length<=8
 plc:PlcOk ss ts (plc ss ss.length) p.steps
 ok:OkP p
end Go.Proofs.YtcojnojdgigmdaaGreatDoor.WR
