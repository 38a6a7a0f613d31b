/- All matches of a shorter window are, in order, among those of a longer one, in plain Lean. No program in sight. -/
import Derived.Test.YtcojnojdgigmdaaGreatDoorB01
namespace Go.Proofs.YtcojnojdgigmdaaGreatDoor.PR
open Go PL Mem
end Go.Proofs.YtcojnojdgigmdaaGreatDoor.PR
