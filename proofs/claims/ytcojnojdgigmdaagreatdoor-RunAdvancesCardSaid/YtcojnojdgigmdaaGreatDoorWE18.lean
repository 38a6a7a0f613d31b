/- The walks of layer 18's writing: varint.PutAll, event.Put and the document's Put. -/
import Derived.Test.YtcojnojdgigmdaaGreatDoorB01
import Derived.Test.YtcojnojdgigmdaaGreatDoorWR01
import Derived.Test.YtcojnojdgigmdaaGreatDoorWBld
import Derived.Test.YtcojnojdgigmdaaGreatDoorPEv
set_option maxHeartbeats 400000
set_option maxRecDepth 100000
namespace Go.Proofs.YtcojnojdgigmdaaGreatDoor.WE
open Go.RowKit Mem PE
def fit64 (n:Int):Prop:=-9223372036854775808<=n/\n<=9223372036854775807
theorem take_snoc {α:Type} (l:List α) (k:Nat) (h:k<l.length):l.take (k+1)=l.take k++[l[k]]:=by
 rw[List.take_succ_eq_append_getElem h]
theorem putAll_any (v:Value) (l:List Int) (W:World) (hv:Ints W W.heap.size v l) (hl:l.length<=1000000000) (hf:∀ x∈l,fit64 x) :
  Calls Tryz.prog 50 #[v] W fun e w'=>e=.returned (.string ⟨(putL l).toArray⟩)/\Below W.heap.size W w':=by
 obtain⟨A,c,hvv⟩:=hv.shape;subst hvv;have Hv:=Hyd hv;have Hf:=Hyd hf;clear hv hf
 go_enter Tryz.func50,Tryz.ntmps50
 go_wp2
 go_loopw [8] (fun i wr=>∃ k:Nat,k<=l.length/\i=.int .i64 k/\WB.Bld W.heap.size W.heap.size (putL (l.take k)) wr/\Below W.heap.size W wr/\W.heap.size<wr.heap.size) (fun i _=>l.length-(intOf i).toNat)
 case atStart=>exact⟨0,by omega,rfl,WB.fresh W,(Below.refl _ _).alloc (Nat.le_refl _) _,by simp⟩
 case round =>
  obtain⟨k,hk,rfl,hB,hb,hz⟩:=hrel;have HB:=Hyd hB;clear hB
  by_cases hlt:k<l.length
  ·obtain⟨b,o,c',hc',hbl,hcell⟩:=Hv.out.at_ hlt
   obtain⟨rfl,rfl⟩:A=some ⟨b,o,none⟩/\c=c':=by simpa using hc'
   clear hc';have hc1:wr.cell? ⟨b,o+k,none⟩=some (.int .i64 l[k]):=(hb.cell (p:=⟨b,o+k,none⟩) hbl).trans hcell;obtain⟨hf1,hf2⟩:=Hf.out l[k] (List.getElem_mem hlt);go_wp2_with fail;refine(WV.put_any _ _ hf1 hf2).mono ?_;rintro e w1 ⟨rfl,hb1⟩;have hB1:=HB.out.below hb1;have HB1:=Hyd hB1;clear hB1;go_wp2_with fail;have hz1:=hb1.size;refine(WB.write_any W.heap.size W.heap.size (putL (l.take k)) _ w1 HB1.out ?_ ?_ (by omega)).mono ?_
   ·have:=(PV.putB_len l[k]).1;simp[ByteArray.size];omega
   ·have h1:=(PV.putB_len l[k]).2;have h2:=putL_len (l.take k);have h3:(l.take k).length<=k:=List.length_take_le _ _
    simp only[ByteArray.size,List.size_toArray];omega
   rintro e w2 ⟨rfl,hB2,hb2⟩;have HB2:=Hyd hB2;clear hB2;go_wp2_with fail;go_roundw
   case rel=>exact⟨k+1,by omega,by go_num,by rw[take_snoc l k hlt,putL_snoc];exact HB2.out,(hb.trans (hb1.mono (by omega))).trans hb2,by have:=hb2.size;omega⟩
   case measure=>simp[intOf];omega
  ·obtain rfl:k=l.length:=by omega
   go_wp2_with fail;refine(WB.string_any W.heap.size W.heap.size (putL (l.take l.length)) _ HB.out).mono ?_;rintro e w1 ⟨rfl,hb1⟩;go_wp2_with fail;go_ret;exact⟨rfl,hb.trans hb1⟩
theorem put_any (v:Value) (l:List Ev) (W:World) (hv:Evs W W.heap.size v l) (hl:l.length<=1000000000) (hf:∀ x∈l,x.fits) :
  Calls Tryz.prog 51 #[v] W fun e w'=>e=.returned (.string ⟨(putEs l).toArray⟩)/\Below W.heap.size W w':=by
 obtain⟨A,c,hvv⟩:=hv.shape;subst hvv;have Hv:=Hyd hv;have Hf:=Hyd hf;clear hv hf
 go_enter Tryz.func51,Tryz.ntmps51
 go_wp2
 go_loopw [8] (fun i wr=>∃ k:Nat,k<=l.length/\i=.int .i64 k/\WB.Bld W.heap.size W.heap.size (putEs (l.take k)) wr/\Below W.heap.size W wr/\W.heap.size<wr.heap.size) (fun i _=>l.length-(intOf i).toNat)
 case atStart=>exact⟨0,by omega,rfl,WB.fresh W,(Below.refl _ _).alloc (Nat.le_refl _) _,by simp⟩
 case round =>
  obtain⟨k,hk,rfl,hB,hb,hz⟩:=hrel;have HB:=Hyd hB;clear hB
  by_cases hlt:k<l.length
  ·obtain⟨b,o,c',hc',hbl,g0,g1,g2,g3⟩:=Hv.out.at_ hlt
   obtain⟨rfl,rfl⟩:A=some ⟨b,o,none⟩/\c=c':=by simpa using hc'
   clear hc';have hc0:=(hb.cell (p:=⟨b,o+k * 4,none⟩) hbl).trans g0;have hc1:=(hb.cell (p:=⟨b,o+k * 4+1,none⟩) hbl).trans g1;have hc2:=(hb.cell (p:=⟨b,o+k * 4+2,none⟩) hbl).trans g2;have hc3:=(hb.cell (p:=⟨b,o+k * 4+3,none⟩) hbl).trans g3;clear g0 g1 g2 g3;have hfit:=Hf.out l[k] (List.getElem_mem hlt);have Hfit:=Hyd hfit;obtain⟨⟨f1,f2⟩,⟨f3,f4⟩,⟨f5,f6⟩,⟨f7,f8⟩⟩:=hfit;go_wp2_with fail;refine(putAll_any _ [l[k].id,l[k].time,l[k].kind,l[k].val] _ ?_ (by simp) ?_).mono ?_
   ·have:=Sl.new (wr.alloc (.cells #[.int .i64 l[k].id,.int .i64 l[k].time,.int .u8 l[k].kind,.int .i64 l[k].val] 44)) 2 #[.int .i64 l[k].id,.int .i64 l[k].time,.int .i64 l[k].kind,.int .i64 l[k].val] 4 1 rfl (wr.heap.size+1) (by simp);exact this.more (by simp)
   ·intro x hx;have h:=Hfit.out;unfold Ev.fits at h
    simp only[List.mem_cons,List.not_mem_nil,or_false]at hx
    unfold fit64
    rcases hx with rfl|rfl|rfl|rfl<;>omega
   rintro e w1 ⟨rfl,hb1⟩;have hb0:Below wr.heap.size wr w1:=((((Below.refl _ _).alloc (Nat.le_refl _) _).alloc (by simp) _).trans (hb1.mono (by simp;omega)));clear hb1;have hB1:=HB.out.below hb0;have HB1:=Hyd hB1;clear hB1;have hz1:=hb0.size;go_wp2_with fail;refine(WB.write_any W.heap.size W.heap.size (putEs (l.take k)) _ w1 HB1.out ?_ ?_ (by omega)).mono ?_
   ·have:=(putE_len l[k]).1;rw[putL_four];simp only[ByteArray.size,List.size_toArray];unfold putE at this;omega
   ·have h1:=(putE_len l[k]).2;have h2:=putEs_len (l.take k);have h3:(l.take k).length<=k:=List.length_take_le _ _;rw[putL_four];simp only[ByteArray.size,List.size_toArray];unfold putE at h1;omega
   rintro e w2 ⟨rfl,hB2,hb2⟩;have HB2:=Hyd hB2;clear hB2;go_wp2_with fail;go_roundw
   case rel=>exact⟨k+1,by omega,by go_num,by rw[take_snoc l k hlt,putEs_snoc,putE,<-putL_four];exact HB2.out,(hb.trans (hb0.mono (by omega))).trans hb2,by have:=hb2.size;omega⟩
   case measure=>simp[intOf];omega
  ·obtain rfl:k=l.length:=by omega
   go_wp2_with fail;refine(WB.string_any W.heap.size W.heap.size (putEs (l.take l.length)) _ HB.out).mono ?_;rintro e w1 ⟨rfl,hb1⟩;go_wp2_with fail;go_ret;exact⟨rfl,hb.trans hb1⟩
theorem app4 (a b c d e:List UInt8):(⟨a.toArray⟩++⟨b.toArray⟩++⟨c.toArray⟩++⟨d.toArray⟩++⟨e.toArray⟩:ByteArray)=⟨(a++(b++c++d++e)).toArray⟩:=by
 simp[ByteArray.mk_append_mk]
theorem rput_any (v:Value) (l:List Ev) (W:World) (hv:Evs W W.heap.size v l) (hl:l.length<=1000000000) (hf:∀ x∈l,x.fits) :
  Calls Tryz.prog 81 #[v] W fun e w'=>e=.returned (.string ⟨(putEs l).toArray⟩)/\Below W.heap.size W w':=by
 obtain⟨A,c,hvv⟩:=hv.shape;subst hvv;have Hv:=Hyd hv;have Hf:=Hyd hf;clear hv hf
 go_enter Tryz.func81,Tryz.ntmps81
 go_wp2
 go_loopw [3,4] (fun s i wr=>∃ k:Nat,k<=l.length/\i=.int .i64 k/\s=.string ⟨(putEs (l.take k)).toArray⟩/\Below W.heap.size W wr) (fun _ i _=>l.length-(intOf i).toNat)
 case atStart=>exact⟨0,by omega,rfl,rfl,Below.refl _ _⟩
 case round =>
  obtain⟨k,hk,rfl,rfl,hb⟩:=hrel
  by_cases hlt:k<l.length
  ·obtain⟨b,o,c',hc',hbl,g0,g1,g2,g3⟩:=Hv.out.at_ hlt
   obtain⟨rfl,rfl⟩:A=some ⟨b,o,none⟩/\c=c':=by simpa using hc'
   clear hc';have hfit:=Hf.out l[k] (List.getElem_mem hlt);obtain⟨⟨f1,f2⟩,⟨f3,f4⟩,⟨f5,f6⟩,⟨f7,f8⟩⟩:=hfit;have n1:=(PV.putB_len l[k].id).2;have n2:=(PV.putB_len l[k].time).2;have n3:=(PV.putB_len l[k].kind).2;have n4:=(PV.putB_len l[k].val).2;have n5:=putEs_len (l.take k);have n6:(l.take k).length<=k:=List.length_take_le _ _;have hc0:=(hb.cell (p:=⟨b,o+k * 4,none⟩) hbl).trans g0;go_wp2_with fail;refine(WR01.put_any _ _ f1 f2).mono ?_;rintro e w1 ⟨rfl,hb1⟩;have hb:=hb.trans (hb1.mono hb.size);have hc1:=(hb.cell (p:=⟨b,o+k * 4+1,none⟩) hbl).trans g1;go_wp2_with fail;refine(WR01.put_any _ _ f3 f4).mono ?_;rintro e w2 ⟨rfl,hb2⟩;have hb:=hb.trans (hb2.mono hb.size);have hc2:=(hb.cell (p:=⟨b,o+k * 4+2,none⟩) hbl).trans g2;go_wp2_with fail;refine(WR01.put_any _ _ (by omega) (by omega)).mono ?_
   rintro e w3 ⟨rfl,hb3⟩;have hb:=hb.trans (hb3.mono hb.size);have hc3:=(hb.cell (p:=⟨b,o+k * 4+3,none⟩) hbl).trans g3;go_wp2_with fail;refine(WR01.put_any _ _ f7 f8).mono ?_;rintro e w4 ⟨rfl,hb4⟩;have hb:=hb.trans (hb4.mono hb.size);go_wp2_with fail;go_roundw
   case rel => 
    refine⟨k+1,by omega,by go_num, ?_,hb⟩;rw[take_snoc l k hlt,putEs_snoc,putE,<-app4]
   case measure=>simp[intOf];omega
  ·obtain rfl:k=l.length:=by omega
   go_wp2_with fail;go_ret;exact⟨by rw[List.take_length];rfl,hb⟩
end Go.Proofs.YtcojnojdgigmdaaGreatDoor.WE
