/- What RunSteps asks of the runs that go by, in plain Lean: their counts are small, their bytes are read back, a run is kept up to its Until. No program in sight. -/
import Derived.Test.YtcojnojdgigmdaaGreatDoorB12
import Derived.Test.YtcojnojdgigmdaaGreatDoorB01
import Derived.Test.YtcojnojdgigmdaaGreatDoorPRB
namespace Go.Proofs.YtcojnojdgigmdaaGreatDoor.PE
open Go Mem
end Go.Proofs.YtcojnojdgigmdaaGreatDoor.PE
namespace Go.Proofs.YtcojnojdgigmdaaGreatDoor.PR
open Go PL Mem WL WR
def H4 (p:RPlan):Prop:=∀ s∈p.steps,s.hi<=4
theorem until_head {p:RPlan} {r:RRun} (h:0<r.evs.length):untilR p r=r.evs[0].time+p.within:=by
 obtain⟨c,evs,b⟩:=r
 cases evs with
 | nil=>simp at h
 | cons y l=>rfl
end Go.Proofs.YtcojnojdgigmdaaGreatDoor.PR
