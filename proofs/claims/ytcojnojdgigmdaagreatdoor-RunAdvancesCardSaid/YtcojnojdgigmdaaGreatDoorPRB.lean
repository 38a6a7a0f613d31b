/- The bytes of a run, in plain Lean. -/
import Derived.Test.YtcojnojdgigmdaaGreatDoorPEv
namespace Go.Proofs.YtcojnojdgigmdaaGreatDoor.PE
open Go Mem
def putRun (cs:List Int) (es:List Ev) (b:Bool):List UInt8:=putL ((cs.length:Int) :: cs++[if b then 1 else 0])++putEs es
theorem putL_app (a b:List Int):putL (a++b)=putL a++putL b:=by simp[putL]
theorem putL_one (x:Int):putL [x]=PV.putB x:=by simp[putL]
theorem putRun_eq (cs:List Int) (es:List Ev) (b:Bool):putRun cs es b=PV.putB cs.length++putL cs++PV.putB (if b then 1 else 0)++putEs es:=by
 unfold putRun;rw[List.cons_append,<-List.singleton_append,putL_app,putL_app,putL_one,putL_one]
 simp
end Go.Proofs.YtcojnojdgigmdaaGreatDoor.PE
