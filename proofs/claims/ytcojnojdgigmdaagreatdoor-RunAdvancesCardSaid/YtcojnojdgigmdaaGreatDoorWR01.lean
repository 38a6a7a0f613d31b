/- The walks of the document's answer for layer 1: Put gives the bytes of a number; Get reads one: the same as the program's. -/
import Derived.Test.YtcojnojdgigmdaaGreatDoorB01
import Derived.Test.YtcojnojdgigmdaaGreatDoorWVar
set_option maxHeartbeats 400000
set_option maxRecDepth 100000
namespace Go.Proofs.YtcojnojdgigmdaaGreatDoor.WR01
open Go.RowKit
theorem one_str (w:World) (x:Int) (h0:0<=x) (h1:x<256):(convert 171 9 (.slice (some ⟨w.heap.size,0,none⟩) 1 1)).run Tryz.prog (w.alloc (.cells #[.int .u8 x] 5)) =
  .ok (.string ⟨[UInt8.ofNat x.toNat].toArray⟩) (w.alloc (.cells #[.int .u8 x] 5)):=by
 have:=run_convert_bytes_back (P:=Tryz.prog) (w.alloc (.cells #[.int .u8 x] 5)) 171 9 5 ⟨w.heap.size,0,none⟩ 1 [UInt8.ofNat x.toNat] Tryz.underlying171 Tryz.underlying5 Tryz.underlying9 (fun j hj=>by
  have hj0:j=0:=by simpa using hj
  subst hj0;rw[WV.addr_add,World.cell?_alloc_at _ _ _ _ rfl]
  simp[UInt8.toNat_ofNat'];omega)
 simpa using this
theorem u64_eq {a b:Int} (h:a=b):Value.int .u64 a=Value.int .u64 b:=by rw[h]
theorem str_app (a b c:List UInt8) (h:a++b=c):Value.string (⟨a.toArray⟩++⟨b.toArray⟩)=Value.string ⟨c.toArray⟩:=by rw[ByteArray.mk_append_mk,h]
theorem ret_str {v:Value} {b:List UInt8} (h:v=.string ⟨b.toArray⟩):Ending.returned v=.returned (.string ⟨b.toArray⟩):=by rw[h]
theorem put_any (n:Int) (W:World) (h1:-9223372036854775808<=n) (h2:n<=9223372036854775807) :
  Calls Tryz.prog 80 #[.int .i64 n] W fun e w'=>e=.returned (.string ⟨(PV.putB n).toArray⟩)/\Below W.heap.size W w':=by
 by_cases hn:n<0
 all_goals
  go_enter Tryz.func80,Tryz.ntmps80
  go_wp2
  go_loopw [3,4] (fun u s wr=>∃ (ds:List UInt8) (U:Nat),ds.length<=9/\PV.putB n=ds++PV.enc (9-ds.length) U/\U<2 * 128 ^ (9-ds.length)/\u=.int .u64 U/\s=.string ⟨ds.toArray⟩/\Below W.heap.size W wr) (fun u _ _=>(intOf u).toNat)
  case atStart=>exact⟨[],PV.zig n,by simp,rfl,by have:=PV.zig_lt h1 h2;simpa using this,u64_eq (by unfold PV.zig;split<;>omega),rfl,Below.refl _ _⟩
  case round =>
   obtain⟨ds,U,hl,he,hU,rfl,rfl,hb⟩:=hrel;have He:=Hyd he;have HU:=Hyd hU;clear he hU
   have HU64:U<18446744073709551616:=by
    have h1:128 ^ (9-ds.length)<=128 ^ 9:=Nat.pow_le_pow_right (by omega) (by omega);have:=HU.out
    omega
   by_cases hlt:U<128
   ·have one:=one_str wr (U:Int) (by omega) (by omega);have hle:ds.length<=9:=hl;go_wp2;go_ret;exact⟨ret_str (str_app _ _ _ (by rw[He.out,PV.enc_lt hlt])),hb.alloc hb.size _⟩
   ·have one:=one_str wr ((U:Int) % 128+128) (by omega) (by omega);go_wp2;go_roundw
    case rel =>
     have hl9:ds.length≠9:=by intro h;have:=HU.out;rw[h]at this;simp at this;omega
     refine⟨ds++[UInt8.ofNat (U % 128+128)],U / 128,by simp;omega, ?_, ?_,by go_num,str_app _ _ _ (by rw[UInt8.ofNat_add];rfl),hb.alloc hb.size _⟩
     ·rw[He.out,show 9-ds.length=(9-(ds.length+1))+1 by omega,PV.enc,if_neg hlt];simp
     ·have:=HU.out;rw[show 9-ds.length=(9-(ds.length+1))+1 by omega,Nat.pow_succ]at this;rw[show 9-(ds++[UInt8.ofNat (U % 128+128)]).length=9-(ds.length+1) by simp]
      omega
    case measure=>simp[intOf];omega
end Go.Proofs.YtcojnojdgigmdaaGreatDoor.WR01
