/- What the laws of runs share: the events, run.All at a plan that planned made. -/
import Derived.Test.YtcojnojdgigmdaaGreatDoorB12
import Derived.Test.YtcojnojdgigmdaaGreatDoorB13
namespace Go.Proofs.YtcojnojdgigmdaaGreatDoor.WR
open Go Go.RowKit Go.Sort PL PR Mem WS WL
theorem evsK_ok (l:List Ev) (k:Nat) (hk:k<=1000):∀ e∈evsK l k,OkEv e:=by
 intro e he;obtain⟨i,hi,rfl⟩:=List.mem_map.1 he;have hik:=List.mem_range.1 hi;unfold OkEv Sm evE;have h1:=nearI_in (l.getD i ⟨0,0,0,0⟩).time 60 (by omega);have h2:=nearI_in (l.getD i ⟨0,0,0,0⟩).val 9 (by omega);refine⟨⟨?_, ?_⟩,⟨?_, ?_⟩, ?_, ?_⟩<;>simp only[]<;>omega
end Go.Proofs.YtcojnojdgigmdaaGreatDoor.WR
