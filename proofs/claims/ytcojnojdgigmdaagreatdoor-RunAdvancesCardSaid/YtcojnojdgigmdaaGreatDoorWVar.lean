/- The walks of layer 1: varint.Put gives the bytes of a number; varint.Get reads one. -/
import Derived.Test.YtcojnojdgigmdaaGreatDoorB01
import Derived.Test.YtcojnojdgigmdaaGreatDoorChecked
import Derived.Test.YtcojnojdgigmdaaGreatDoorPVar
import Derived.WalkKit
import Derived.Outline
import Derived.Lib.Hide
import Derived.Laws.IdiomStrings
import Derived.Laws.BitsAllLaws
import Derived.Laws.Bits64
import Derived.WalkSpells
import Derived.WalkLawsBesides
set_option maxHeartbeats 400000
set_option maxRecDepth 100000
namespace Go.Proofs.YtcojnojdgigmdaaGreatDoor.WV
open Go.RowKit
def outC (ds:List UInt8):Array Value:=(ds.map (fun b=>Value.int .u8 b.toNat)++List.replicate (10-ds.length) (Value.int .u8 0)).toArray
theorem xor_all (a:Nat) (ha:a<18446744073709551616):a ^^^ 18446744073709551615=18446744073709551615-a:=by
 have h:(BitVec.ofNat 64 a ^^^ BitVec.allOnes 64).toNat=(~~~ (BitVec.ofNat 64 a)).toNat:=by rw[BitVec.xor_allOnes]
 rw[BitVec.toNat_xor,BitVec.toNat_not,BitVec.toNat_ofNat,BitVec.toNat_allOnes,Nat.mod_eq_of_lt (by omega)]at h
 simpa using h
theorem zig_bits {n:Int} (h1:-9223372036854775808<=n) (h2:n<=9223372036854775807) :
  bits BinOp.xor IntKind.u64 (IntKind.u64.wrap (wrap64 (n * 2))) (IntKind.u64.wrap (n / 9223372036854775808))=(PV.zig n:Int):=by
 rw[IntKind.wrap_u64,IntKind.wrap_u64];unfold PV.zig
 split
 ·rename_i hn
  have e1:n / 9223372036854775808 % 18446744073709551616=((18446744073709551615:Nat):Int):=by omega
  have e2:wrap64 (n * 2) % 18446744073709551616=((18446744073709551616-2 * (-n).toNat:Nat):Int):=by unfold wrap64;omega
  rw[e1,e2,bits_xor_u64_nat _ _ (by omega) (by omega),xor_all _ (by omega)]
  omega
 ·rename_i hn
  have e1:n / 9223372036854775808 % 18446744073709551616=((0:Nat):Int):=by omega
  have e2:wrap64 (n * 2) % 18446744073709551616=((2 * n.toNat:Nat):Int):=by unfold wrap64;omega
  rw[e1,e2,bits_xor_u64_nat _ _ (by omega) (by omega),Nat.xor_zero]
theorem or128 (U:Nat):bits BinOp.or IntKind.u8 ((U:Int) % 256) 128=((UInt8.ofNat (U % 128+128)).toNat:Int):=by
 have e:(U:Int) % 256=((U % 256:Nat):Int):=by omega
 rw[e,show(128:Int)=((128:Nat):Int) by rfl,u8_or_nat _ _ (by omega) (by omega)]
 congr 1
 rw[show(UInt8.ofNat (U % 128+128)).toNat=U % 128+128 by simp[UInt8.toNat_ofNat'];omega]
 have h:U % 256=U % 128+128 * (U / 128 % 2):=by omega
 rcases Nat.mod_two_eq_zero_or_one (U / 128) with h0 | h0
 ·rw[h,h0,Nat.mul_zero,Nat.add_zero,Nat.or_comm,nat_join 7 128 (U % 128) (by decide) (by omega)];omega
 ·have e3:U % 256=128 ||| U % 128:=by rw[nat_join 7 128 (U % 128) (by decide) (by omega)];omega
  rw[e3,Nat.or_comm 128 (U % 128),Nat.or_assoc,Nat.or_self,Nat.or_comm,nat_join 7 128 (U % 128) (by decide) (by omega)];omega
theorem addr_add (b j:Nat):(⟨b,0,none⟩:Addr).add j=⟨b,j,none⟩:=by
 unfold Addr.add;split
 ·rename_i h;subst h;rfl
 ·simp
theorem outC_at (ds:List UInt8) (i:Nat) (h:i<ds.length):(outC ds)[i]? = some (.int .u8 ds[i].toNat):=by
 simp[outC,List.getElem?_append,h]
theorem outC_end (ds:List UInt8) (h:ds.length<=9):(outC ds)[ds.length]? = some (.int .u8 0):=by
 simp[outC,List.getElem?_append,List.getElem?_replicate];omega
theorem outC_put (ds:List UInt8) (b:UInt8) (h:ds.length<=9):(outC ds).setIfInBounds ds.length (.int .u8 b.toNat)=outC (ds++[b]):=by
 unfold outC;rw[List.setIfInBounds_toArray]
 congr 1
 apply List.ext_getElem?
 intro i
 simp only[List.getElem?_set,List.getElem?_append,List.getElem?_map,List.getElem?_replicate,List.length_append,List.length_map,List.length_replicate,List.length_cons,List.length_nil]
 rcases Nat.lt_trichotomy i ds.length with hi | hi | hi
 ·simp[hi,show ds.length≠i by omega,show i<ds.length+1 by omega]
 ·subst hi;simp;omega
 ·simp only[show ¬ i<ds.length by omega,show ds.length≠i by omega,show ¬ i<ds.length+1 by omega,if_false,show(i-ds.length<10-ds.length)↔(i-(ds.length+1)<10-(ds.length+1)) by omega]
theorem alen10:Tryz.prog.arrayLen 209=10:=by kernel_rfl
theorem elem10:Tryz.prog.elem 209=5:=by kernel_rfl
theorem size_u8 (w:World):(sizeOf 5).run Tryz.prog w=.ok 1 w:=by kernel_rfl
theorem out_slice (w:World) (b k:Nat) (h:k<=9):(Instr.sliceAt 209 (.pointer (some ⟨b,0,none⟩)) none (some (.int .i64 ((k:Int)+1))) none).run Tryz.prog w=.ok (.slice (some ⟨b,0,none⟩) (k+1) 10) w:=by
 rw[run_sliceAt_array_h w 209 ⟨b,0,none⟩ Tryz.underlying209 _ _ (by omega) (by rw[alen10];omega)];rw[elem10,size_u8,alen10]
 simp only[Result.andThen,slicedAt]
 rw[if_neg (by omega)]
 simp[Addr.add]
theorem out_str (w:World) (ds:List UInt8) (b:UInt8) (U:Int) (hU:U=b.toNat) (h:ds.length<=9) :
  (convert 171 9 (.slice (some ⟨w.heap.size,0,none⟩) (ds.length+1) 10)).run Tryz.prog (w.alloc (.cells ((outC ds).setIfInBounds ds.length (.int .u8 U)) 209)) =
   .ok (.string ⟨(ds++[b]).toArray⟩) (w.alloc (.cells ((outC ds).setIfInBounds ds.length (.int .u8 U)) 209)):=by
 subst hU;rw[outC_put ds b h]
 have:=run_convert_bytes_back (P:=Tryz.prog) (w.alloc (.cells (outC (ds++[b])) 209)) 171 9 5 ⟨w.heap.size,0,none⟩ 10 (ds++[b]) Tryz.underlying171 Tryz.underlying5 Tryz.underlying9 (fun j hj=>by
  rw[addr_add,World.cell?_alloc_at _ _ _ _ rfl]
  exact outC_at _ j hj)
 simpa using this
theorem put_any (n:Int) (W:World) (h1:-9223372036854775808<=n) (h2:n<=9223372036854775807) :
  Calls Tryz.prog 86 #[.int .i64 n] W fun e w'=>e=.returned (.string ⟨(PV.putB n).toArray⟩)/\Below W.heap.size W w':=by
 have hz:=zig_bits h1 h2
 go_enter Tryz.func86,Tryz.ntmps86
 go_wp2
 clear hz
 go_loopw [3,5] (fun u i wr=>∃ (ds:List UInt8) (U:Nat),ds.length<=9/\PV.putB n=ds++PV.enc (9-ds.length) U/\U<2 * 128 ^ (9-ds.length)/\u=.int .u64 U/\i=.int .i64 ds.length/\wr=W.alloc (.cells (outC ds) 209)) (fun u _ _=>(intOf u).toNat)
 case atStart=>exact⟨[],PV.zig n,by simp,rfl,by have:=PV.zig_lt h1 h2;simpa using this,rfl,rfl,rfl⟩
 case round =>
  obtain⟨ds,U,hl,he,hU,rfl,rfl,rfl⟩:=hrel;have He:=Hyd he;have HU:=Hyd hU;clear he hU;have hc:=outC_end ds hl
  by_cases hlt:U<128
  ·have hsl:=fun w=>out_slice w W.heap.size ds.length hl
   have hcv:=out_str W ds (UInt8.ofNat U) U (by simp[UInt8.toNat_ofNat'];omega) hl;go_wp2;go_ret;refine⟨?_,(Below.refl _ _).alloc (Nat.le_refl _) _⟩;rw[He.out,PV.enc_lt hlt]
   rfl
  ·go_wp2;go_roundw
   case rel =>
    have hl9:ds.length≠9:=by intro h;have:=HU.out;rw[h]at this;simp at this;omega
    refine⟨ds++[UInt8.ofNat (U % 128+128)],U / 128,by simp;omega, ?_, ?_,by go_num,by simp, ?_⟩
    ·rw[He.out,show 9-ds.length=(9-(ds.length+1))+1 by omega,PV.enc,if_neg hlt];simp
    ·have:=HU.out;rw[show 9-ds.length=(9-(ds.length+1))+1 by omega,Nat.pow_succ]at this;rw[show 9-(ds++[UInt8.ofNat (U % 128+128)]).length=9-(ds.length+1) by simp]
     omega
    ·rw[<-outC_put _ _ hl,or128]
   case measure=>simp[intOf];omega
end Go.Proofs.YtcojnojdgigmdaaGreatDoor.WV
