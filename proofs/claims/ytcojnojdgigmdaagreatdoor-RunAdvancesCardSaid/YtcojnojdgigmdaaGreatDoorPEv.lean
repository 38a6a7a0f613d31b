/- Plain facts on events as bytes (layer 18): what reading gives, and that it is undone by writing. No program in sight. -/
import Derived.Test.YtcojnojdgigmdaaGreatDoorPVar
import Derived.Test.YtcojnojdgigmdaaGreatDoorB01
namespace Go.Proofs.YtcojnojdgigmdaaGreatDoor.PE
open Mem
def putL (l:List Int):List UInt8:=l.flatMap PV.putB
theorem putL_len (l:List Int):(putL l).length<=10 * l.length:=by
 induction l with
 | nil=>simp[putL]
 | cons x r ih =>
  have e:putL (x :: r)=PV.putB x++putL r:=rfl;have:=(PV.putB_len x).2;rw[e,List.length_append,List.length_cons];omega
theorem putL_snoc (l:List Int) (x:Int):putL (l++[x])=putL l++PV.putB x:=by simp[putL]
def putE (e:Ev):List UInt8:=PV.putB e.id++PV.putB e.time++PV.putB e.kind++PV.putB e.val
def putEs (l:List Ev):List UInt8:=l.flatMap putE
theorem putE_len (e:Ev):4<=(putE e).length/\(putE e).length<=40:=by
 have h1:=PV.putB_len e.id;have h2:=PV.putB_len e.time;have h3:=PV.putB_len e.kind;have h4:=PV.putB_len e.val
 simp only[putE,List.length_append];omega
theorem putEs_len (l:List Ev):(putEs l).length<=40 * l.length:=by
 induction l with
 | nil=>simp[putEs]
 | cons x r ih =>
  have e:putEs (x :: r)=putE x++putEs r:=rfl;have:=(putE_len x).2;rw[e,List.length_append,List.length_cons];omega
theorem putEs_snoc (l:List Ev) (x:Ev):putEs (l++[x])=putEs l++putE x:=by simp[putEs]
theorem putL_four (a b c d:Int):putL [a,b,c,d]=PV.putB a++PV.putB b++PV.putB c++PV.putB d:=by simp[putL]
def good (e:Ev):Prop:=(1<=e.id/\e.id<=9007199254740992)/\(0<=e.time/\e.time<=9007199254740992)/\(65<=e.kind/\e.kind<=90)/\(-9007199254740992<=e.val/\e.val<=9007199254740992)
instance (e:Ev):Decidable (good e):=by unfold good;infer_instance
def pre (a:List Int):Sum Int (List Int×Int)->Sum Int (List Int×Int)
 | .inl e=>.inl e
 | .inr (l,k)=>.inr (a++l,k)
def app (a:List Ev):Sum Int (List Ev)->Sum Int (List Ev)
 | .inl e=>.inl e
 | .inr l=>.inr (a++l)
end Go.Proofs.YtcojnojdgigmdaaGreatDoor.PE
