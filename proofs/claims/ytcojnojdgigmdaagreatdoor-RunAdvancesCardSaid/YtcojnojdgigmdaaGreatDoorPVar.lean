/- Plain facts on the bytes of numbers (layer 1): the zigzag number, its base-128 digits, and reading them back. No program in sight. -/
namespace Go.Proofs.YtcojnojdgigmdaaGreatDoor.PV
def zig (n:Int):Nat:=if n<0 then 2 * (-(n+1)).toNat+1 else 2 * n.toNat
def enc:Nat->Nat->List UInt8
 | 0,u=>[UInt8.ofNat u]
 | f+1,u=>if u<128 then [UInt8.ofNat u] else UInt8.ofNat (u % 128+128) :: enc f (u / 128)
def putB (n:Int):List UInt8:=enc 9 (zig n)
def zag (u:Nat):Int:=if u % 2=1 then -((u / 2:Nat):Int)-1 else ((u / 2:Nat):Int)
def fin (k:Int):Sum Nat (Nat×Nat)->Int×Int×Int
 | .inl e=>(0,0,e)
 | .inr (u,n)=>(zag u,k+n,0)
def vs (l:List UInt8):Nat->Nat->Nat
 | _,0=>0
 | a,n+1=>(l.getD a 0).toNat % 128+128 * vs l (a+1) n
theorem zig_lt {n:Int} (h1:-9223372036854775808<=n) (h2:n<=9223372036854775807):zig n<18446744073709551616:=by
 unfold zig;split<;>omega
theorem enc_lt {f u:Nat} (h:u<128):enc f u=[UInt8.ofNat u]:=by
 cases f with
 | zero=>rfl
 | succ f=>simp[enc,h]
theorem enc_len (f u:Nat):1<=(enc f u).length/\(enc f u).length<=f+1:=by
 induction f generalizing u with
 | zero=>simp[enc]
 | succ f ih =>
  simp only[enc];split
  ·simp
  ·have:=ih (u / 128);simp;omega
theorem putB_len (n:Int):1<=(putB n).length/\(putB n).length<=10:=enc_len 9 _
end Go.Proofs.YtcojnojdgigmdaaGreatDoor.PV
