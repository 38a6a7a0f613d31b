/- The walk of oxbowref20.Make, at a pattern at which nothing is wrong. -/
import Derived.Test.YtcojnojdgigmdaaGreatDoorB01
import Derived.Test.YtcojnojdgigmdaaGreatDoorB06
import Derived.Test.YtcojnojdgigmdaaGreatDoorB08
set_option maxHeartbeats 6400000
set_option maxRecDepth 100000
namespace Go.Proofs.YtcojnojdgigmdaaGreatDoor.WL
open Go Go.RowKit Go.Sort PL Mem WP
theorem make20 (sl cl:Value) (wi:Int) (ss:List GS) (cs:List GC) (W:World) (hs:Stps W W.heap.size sl ss) (hc:Cnds W W.heap.size cl cs) (hok:OKP ss cs wi) :
  Calls Tryz.prog 26 #[.agg #[sl,cl,.int .i64 wi]] W fun e w'=>Below W.heap.size W w'/\∃ qs,e=.returned (.agg #[qs,.int .i64 wi])/\DocAt w' W.heap.size w'.heap.size qs ss (testsAt ss cs):=by
 obtain⟨i1,hp1,hz3,hz4,hz5⟩:=info_parts infoP2;obtain⟨i2,hp2,hz6,hz7,hz8⟩:=info_parts infoT2;obtain⟨a,c,rfl⟩:=Sl.shape hs;obtain⟨a2,c2,rfl⟩:=Sl.shape hc
 obtain⟨w3,hw3⟩:∃ w3,w3=(W.alloc (.cells #[.slice a ss.length c,.slice a2 cs.length c2,.int .i64 wi] 70)).alloc (.cells #[nilS,.int .i64 0] 28):=⟨_,rfl⟩
 obtain⟨w4,hw4⟩:∃ w4,w4=w3.alloc (.cells #[nilS,.int .i64 wi] 28):=⟨_,rfl⟩
 have hz3':w3.heap.size=W.heap.size+2:=by rw[hw3];simp
 have P1:w3.heap[W.heap.size]? = some (.cells #[.slice a ss.length c,.slice a2 cs.length c2,.int .i64 wi] 70 (0,0)):=by rw[hw3];exact heap_alloc (heap_new rfl)
 have P2:w3.heap[W.heap.size+1]? = some (.cells #[nilS,.int .i64 0] 28 (0,0)):=by rw[hw3];exact heap_new (by simp)
 have G3:Grw W w3:=by rw[hw3];exact((Grw.refl W).alloc _).alloc _
 have hb4:Below w3.heap.size w3 w4:=by rw[hw4];exact(Below.refl _ _).alloc (Nat.le_refl _) _
 have hdk:Dk W w4 w3.heap.size (.slice a ss.length c) (.slice a2 cs.length c2) wi ss (testsAt ss cs) nilS 0 :=
  ⟨G3.below.trans (hb4.mono G3.size),(hb4.block _ (by omega)).trans P1,(hb4.block _ (by omega)).trans P2,by rw[hw4];exact heap_new rfl,by omega,⟨[],World.ownsRow_nil _ _ _ _,fun q hq=>absurd hq (by omega)⟩⟩
 have y2:w3.cell? ⟨W.heap.size,2,none⟩=some (.int .i64 wi):=(CeH P1 2).trans rfl;have HDK:=Hyd hdk;have HS:=Hyd hs;have HC:=Hyd hc;have HOK:=Hyd hok;have HW3:=Hyd hw3;have HW4:=Hyd hw4
 have hn8:(ss.length:Int)<=8:=by have:=hok.n8;omega
 have hc16:(cs.length:Int)<=16:=by have:=hok.c16;omega
 rw[HW3.out]at y2
 obtain⟨O,hO⟩:∃ O,w3.heap.size=O:=⟨_,rfl⟩
 clear hs hc hok hdk P1 P2 G3 hb4
 go_enter Tryz.func26,Tryz.ntmps26
 clear hw4 hw3;go_wp2_with fail;rw[<-HW3.out];rw[show w3.alloc (.cells #[.slice none 0 0,.int .i64 wi] 28)=w4 from HW4.out.symm];rw[show W.heap.size+1+1=O by omega];rw[hO]at HDK;clear y2 HW3 HW4
 go_loopw [4] (fun u wr=>∃ (i:Nat) (vs:Value),u=.int .i64 i/\i<=ss.length/\Dk W wr O (.slice a ss.length c) (.slice a2 cs.length c2) wi ss (testsAt ss cs) vs i) (fun u _=>ss.length-(intOf u).toNat)
 case atStart=>exact⟨0,_,rfl,by omega,HDK.out⟩
 case round =>
  clear HDK;obtain⟨i,vs,rfl,hi,hdk⟩:=hrel;have HDK:=Hyd hdk;have hsz:=hdk.bel.size;have hOl:=blk_lt hdk.ob;have hBl:=blk_lt hdk.rb;have y0:wr.cell? ⟨W.heap.size,0,none⟩=some (.slice a ss.length c):=(CeH hdk.pb 0).trans rfl;have hON:=hdk.lt
  by_cases hlt:i<ss.length
  ·have hlt':(i:Int)<(ss.length:Int):=by omega
   have hi0:(0:Int)<=(i:Int):=by omega
   obtain⟨g,o,c',e,hgb,d0,d1,d2,d3,d4⟩:=Stps.at_ HS.out hlt
   obtain⟨rfl,rfl⟩:a=some ⟨g,o,none⟩/\c=c':=by simpa using e
   have x0:=keep_cell' hdk.bel hgb d0;have x1:=keep_cell' hdk.bel hgb d1;have x2:=keep_cell' hdk.bel hgb d2;have x3:=keep_cell' hdk.bel hgb d3;have x4:=keep_cell' hdk.bel hgb d4
   obtain⟨s,hsx⟩:∃ s,ss[i]=s:=⟨_,rfl⟩
   rw[hsx]at x0 x1 x2 x3 x4;have HSX:=Hyd (show ss[i]! = s by rw[getElem!_pos ss i hlt];exact hsx)
   obtain⟨wb,hwb⟩:∃ wb,wb=(wr.alloc (.cells #[.int .u8 s.k,.int .u8 s.nm,.bool s.neg,.int .i64 s.lo,.int .i64 s.hi] 126)).alloc (.cells #[.int .u8 s.k,.bool s.neg,.int .i64 s.lo,.int .i64 s.hi,nilS] 107):=⟨_,rfl⟩
   have hzb:wb.heap.size=wr.heap.size+2:=by rw[hwb];simp
   obtain⟨N,hN⟩:∃ N,N=wr.heap.size:=⟨_,rfl⟩
   obtain⟨X,hX⟩:∃ X,X=wr.heap.size+1:=⟨_,rfl⟩
   have hbb:=Hyd (show Below N wr wb by rw[hwb,hN];exact((Below.refl _ _).alloc (Nat.le_refl _) _).alloc (by simp) _);have hxb:=Hyd (show wb.heap[X]? = some (.cells #[.int .u8 s.k,.bool s.neg,.int .i64 s.lo,.int .i64 s.hi,nilS] 107 (0,0)) by rw[hwb,hX];exact heap_new (by simp));have HWB:=Hyd hwb
   obtain⟨w5,hw5⟩:∃ w5,w5=wr:=⟨_,rfl⟩
   clear e d0 d1 d2 d3 d4 hsx hdk hwb;go_wp2_with fail;rw[<-HWB.out];rw[show wr.heap.size+1=X from hX.symm];clear HWB x0 x1 x2 x3 x4 y0;subst hw5;have HNE:=Hyd hN
   have hN1:N<=w5.heap.size:=by omega
   have hN2:w5.heap.size<=N:=by omega
   have hX1:w5.heap.size+1<=X:=by omega
   have hX2:X<=w5.heap.size+1:=by omega
   clear hN hX
   go_loopw [7] (fun u wq=>∃ (k:Nat) (vt:Value),u=.int .i64 k/\k<=cs.length/\Below N w5 wq/\wq.heap[X]? = some (.cells #[.int .u8 s.k,.bool s.neg,.int .i64 s.lo,.int .i64 s.hi,vt] 107 (0,0)) /\
    wq.ownsRow (X+1) 147 4 vt (testsAt ss (cs.take k) i).length (cellsOf encT (testsAt ss (cs.take k) i))) (fun u _=>cs.length-(intOf u).toNat)
   case atStart=>exact⟨0,nilS,rfl,by omega,hbb.out,hxb.out,World.ownsRow_nil _ _ _ _⟩
   case round =>
    clear hbb hxb;obtain⟨k,vt,rfl,hk,hbq,hxq,how⟩:=hrel;obtain⟨vad,vcap,hvt⟩:=own_slice how;subst hvt;have HBQ:=Hyd hbq;have HX:=Hyd hxq;have HOW:=Hyd how;have hdq:=HDK.out.below (by rw[<-HNE.out];exact hbq);have HDQ:=Hyd hdq;have hsq:=hbq.size;have hXl:=blk_lt hxq;have y0:wr.cell? ⟨W.heap.size,0,none⟩=some (.slice (some ⟨g,o,none⟩) ss.length c):=(CeH hdq.pb 0).trans rfl;have y1:wr.cell? ⟨W.heap.size,1,none⟩=some (.slice a2 cs.length c2):=(CeH hdq.pb 1).trans rfl;have y2:wr.cell? ⟨W.heap.size,2,none⟩=some (.int .i64 wi):=(CeH hdq.pb 2).trans rfl
    have htl:(testsAt ss (cs.take k) i).length<=16:=by
     have h1:(testsAt ss (cs.take k) i).length<=(cs.take k).length:=List.length_filterMap_le _ _
     simp only[List.length_take]at h1
     omega
    clear hbq hxq how hdq
    by_cases hkl:k<cs.length
    ·have hkl':(k:Int)<(cs.length:Int):=by omega
     have hk0:(0:Int)<=(k:Int):=by omega
     obtain⟨g2,o2,c3,e,hgb2,d0,d1,d2,d3⟩:=Cnds.at_ HC.out hkl
     obtain⟨rfl,rfl⟩:a2=some ⟨g2,o2,none⟩/\c2=c3:=by simpa using e
     have x0:=keep_cell' HDQ.out.bel hgb2 d0;have x1:=keep_cell' HDQ.out.bel hgb2 d1;have x2:=keep_cell' HDQ.out.bel hgb2 d2;have x3:=keep_cell' HDQ.out.bel hgb2 d3
     obtain⟨x,hx⟩:∃ x,cs[k]=x:=⟨_,rfl⟩
     rw[hx]at x0 x1 x2 x3;have hcd:=HOK.out.cd k hkl;rw[getElem!_pos cs k hkl,hx]at hcd;have HCD:=Hyd hcd;have HTK:=Hyd (show cs.take (k+1)=cs.take k++[x] by rw[List.take_add_one,List.getElem?_eq_getElem hkl,hx];rfl)
     obtain⟨wa,hwa⟩:∃ wa,wa=wr.alloc (.cells #[.int .u8 x.l,.int .i64 x.op,.int .u8 x.r,.int .i64 x.k] 131):=⟨_,rfl⟩
     have hza:wa.heap.size=wr.heap.size+1:=by rw[hwa];simp
     have ga:Grw wr wa:=by rw[hwa];exact(Grw.refl wr).alloc _
     have PA:=Hyd (show wa.heap[wr.heap.size]? = some (.cells #[.int .u8 x.l,.int .i64 x.op,.int .u8 x.r,.int .i64 x.k] 131 (0,0)) by rw[hwa];exact heap_new rfl);have ya0:wa.cell? ⟨W.heap.size,0,none⟩=_:=ga.cell (by omega) y0;have ya1:wa.cell? ⟨W.heap.size,1,none⟩=_:=ga.cell (by omega) y1;have ya2:wa.cell? ⟨W.heap.size,2,none⟩=_:=ga.cell (by omega) y2
     have hfd:=fun(nm:Int) (w':World) (g':Grw wr w')=>by
      have hb:Below W.heap.size W w':=HDQ.out.bel.trans (g'.below.mono HDQ.out.bel.size);exact find20 (.slice (some ⟨g,o,none⟩) ss.length c) (.slice (some ⟨g2,o2,none⟩) cs.length c2) wi nm ss w' ((Sl.below HS.out hb).more hb.size) (by unfold maxLen;omega)
     have hps:=fun(n:Nat) (hn:n<=ss.length) (w':World) (g':Grw wr w')=>by
      have hb:Below W.heap.size W w':=HDQ.out.bel.trans (g'.below.mono HDQ.out.bel.size);exact pos20 (.slice (some ⟨g,o,none⟩) ss.length c) (.slice (some ⟨g2,o2,none⟩) cs.length c2) wi ss n w' ((Sl.below HS.out hb).more hb.size) hn (by omega)
     have HFD:=Hyd hfd;have HPS:=Hyd hps;have HWA:=Hyd hwa;have HGA:=Hyd ga;clear e d0 d1 d2 d3 hx hcd hwa ga hfd hps;rw[HWA.out]at ya0 ya1 ya2;go_wp2_with fail;rw[<-HWA.out];refine(HFD.out x.l wa HGA.out).mono ?_;rintro e w10 ⟨rfl,g10⟩;have hG10:=HGA.out.trans g10;have HG10:=Hyd hG10;have hzz:=g10.size;have z0:w10.cell? ⟨wr.heap.size,0,none⟩=some (.int .u8 x.l):=g10.cell (by omega) ((CeH PA.out 0).trans rfl);have z1:w10.cell? ⟨wr.heap.size,1,none⟩=some (.int .i64 x.op):=g10.cell (by omega) ((CeH PA.out 1).trans rfl);have z3:w10.cell? ⟨wr.heap.size,3,none⟩=some (.int .i64 x.k):=g10.cell (by omega) ((CeH PA.out 3).trans rfl)
     have hnw:wr.heap.size≠w10.heap.size:=by omega
     obtain⟨w11,hw11⟩:∃ w11,w11=w10.alloc (.cells #[.int .i64 x.op,.int .i64 0,.int .i64 x.k,.bool false] 147):=⟨_,rfl⟩
     have hG11:Grw wr w11:=by rw[hw11];exact hG10.alloc _
     have hz11:w11.heap.size=w10.heap.size+1:=by rw[hw11];simp
     have HG11:=Hyd hG11;have HD11:=Hyd (show w11.heap[w10.heap.size]? = some (.cells #[.int .i64 x.op,.int .i64 0,.int .i64 x.k,.bool false] 147 (0,0)) by rw[hw11];exact heap_new rfl);have hzw:=g10.cell (show wr.heap.size<wa.heap.size by omega) ((CeH PA.out 2).trans rfl)
     have zr:w11.cell? ⟨wr.heap.size,2,none⟩=some (.int .u8 x.r):=by rw[hw11,World.cell?_of_block (Below.heap_alloc w10 _ wr.heap.size (by omega))];exact hzw
     have t1:w11.cell? ⟨w10.heap.size,1,none⟩=some (.int .i64 0):=(CeH HD11.out 1).trans rfl;have f1:w11.frozen? ⟨w10.heap.size,1,none⟩=false:=Lib.frozen_of_heap HD11.out 1;have u0:w11.cell? ⟨W.heap.size,0,none⟩=some (.slice (some ⟨g,o,none⟩) ss.length c):=hG11.cell (by omega) y0;have u1:w11.cell? ⟨W.heap.size,1,none⟩=some (.slice (some ⟨g2,o2,none⟩) cs.length c2):=hG11.cell (by omega) y1;have u2:w11.cell? ⟨W.heap.size,2,none⟩=some (.int .i64 wi):=hG11.cell (by omega) y2;have HW11:=Hyd hw11;clear g10 x0 x1 x2 x3 y0 y1 y2 ya0 ya1 ya2 hw11 hG10 hG11 hzw;rw[HW11.out]at zr;obtain⟨_,_,⟨p,hp,hpl⟩,hrr⟩:=condE_ok HCD.out;rw[hp]
     by_cases hd:x.r=0
     ·have HTO:Hid (testOf ss x=(p,⟨x.op,-1,x.k,false⟩)):=Hyd (by unfold testOf;rw[if_pos hd,hp];rfl);rw[hd]at zr;clear hp hrr HFD HPS;have t1':=t1;have f1':=f1;rw[HW11.out]at t1' f1'
      by_cases hpi:p=i
      ·have hpi':((p:Int)==(i:Int))=true:=by simp[hpi]
       have hpi2:=hpi.symm;subst hpi2
       obtain⟨w12,hw12⟩:∃ w12,w12=w10.alloc (.cells #[.int .i64 x.op,.int .i64 (-1),.int .i64 x.k,.bool false] 147):=⟨_,rfl⟩
       have hb12:Hid (Below wr.heap.size wr w12):=Hyd (by rw[hw12];exact(HG10.out.alloc _).below);have HD:Hid (w12.heap[w10.heap.size]? = some (.cells #[.int .i64 x.op,.int .i64 (-1),.int .i64 x.k,.bool false] 147 (0,0))):=Hyd (by rw[hw12];exact heap_new rfl);have hsz12:=hb12.out.size;have hX12:=Hyd ((hb12.out.block _ (by omega)).trans HX.out);have hO12:=Hyd (own_below HOW.out hb12.out);have q0:w12.cell? ⟨X,4,none⟩=some (.slice vad (testsAt ss (cs.take k) i).length vcap):=(CeH hX12.out 4).trans rfl;have q1:=(CeH HD.out 0).trans rfl;have q2:=(CeH HD.out 1).trans rfl;have q3:=(CeH HD.out 2).trans rfl;have q4:=(CeH HD.out 3).trans rfl;have hdl:=blk_lt HD.out;have hnx:X≠w12.heap.size:=(by omega);have hnd:w10.heap.size≠X:=(by omega)
       have hO13:=hO12.out
       have hs12:w12.heap.size=w10.heap.size+1:=by rw[hw12];simp
       rw[hw12]at q0 q1 q2 q3 q4 hO13;have HO13:=Hyd hO13;clear hO13
       go_wp2_with (at_builtin;refine wpList_append_lies _ rfl (.tmp 65) (.tmp 67) 105 rfl (X+1) 147 i2 _ 4 32 Tryz.underlying105 hp2 hz6 hz7 hz8 rfl (by decide) _ _ _ rfl (HO13.out.alloc _) ⟨w10.heap.size+1,0,none⟩ 1 1 [.int .i64 x.op,.int .i64 (-1),.int .i64 x.k,.bool false] rfl rfl ?c1 ?c2 (by decide) ?c3 ?c4 ?c5 _ rfl ?_)
       case c1 =>
        intro j u hu;have h:=new_cell w12 ([.int .i64 x.op,.int .i64 (-1),.int .i64 x.k,.bool false]:List Value).toArray 147 j u (by simpa using hu);rw[hs12,hw12]at h;exact h
       case c2=>exact encT_one ⟨x.op,-1,x.k,false⟩
       case c3=>unfold maxLen;omega
       case c4=>omega
       case c5=>have:=hs12;simp;omega
       intro gn cap w13 hown hgr _ _;rw[<-hw12]at hgr;have hX13:=heap_kept (heap_alloc (o':=.cells ([.int .i64 x.op,.int .i64 (-1),.int .i64 x.k,.bool false]:List Value).toArray 147) hX12.out) (hO12.out.alloc _) (by decide) hgr;have f13:w13.frozen? ⟨X,4,none⟩=false:=Lib.frozen_of_heap hX13 4;have c13:w13.cell? ⟨X,4,none⟩=some (.slice vad (testsAt ss (cs.take k) i).length vcap):=(CeH hX13 4).trans rfl;have hb13:=(below_grown (B:=N) ((HBQ.out.trans (hb12.out.mono (by omega))).alloc (by omega) (.cells ([.int .i64 x.op,.int .i64 (-1),.int .i64 x.k,.bool false]:List Value).toArray 147)) (hO12.out.alloc _) hgr (by simp;omega) (by omega)).setCell (p:=⟨X,4,none⟩) (by show N<=X;omega) (.slice (some ⟨gn,0,none⟩) ((testsAt ss (cs.take k) i).length+1) cap);have HB13:=Hyd hb13
       have HX13:=Hyd (show(w13.setCell ⟨X,4,none⟩ (.slice (some ⟨gn,0,none⟩) ((testsAt ss (cs.take k) i).length+1) cap)).heap[X]? = some (.cells #[.int .u8 s.k,.bool s.neg,.int .i64 s.lo,.int .i64 s.hi,.slice (some ⟨gn,0,none⟩) ((testsAt ss (cs.take k) i).length+1) cap] 107 (0,0)) from blk_set hX13 4 _)
       have hts:testsAt ss (cs.take (k+1)) i=testsAt ss (cs.take k) i++[⟨x.op,-1,x.k,false⟩]:=by rw[HTK.out,testsAt_snoc,HTO.out];simp
       have HW13:Hid ((w13.setCell ⟨X,4,none⟩ (.slice (some ⟨gn,0,none⟩) ((testsAt ss (cs.take k) i).length+1) cap)).ownsRow (X+1) 147 4 (.slice (some ⟨gn,0,none⟩) ((testsAt ss (cs.take k) i).length+1) cap) (testsAt ss (cs.take (k+1)) i).length (cellsOf encT (testsAt ss (cs.take (k+1)) i))):=Hyd (by
        rw[hts,cellsOf_snoc,List.length_append]
        exact own_set hown hX13 (by decide))
       clear hown hgr hX13 hb13 q0 q1 q2 q3 q4 hts HD;go_wp2_with fail;go_roundw
       case rel=>exact⟨k+1,_,by go_num,by omega,HB13.out,HX13.out,HW13.out⟩
       case measure=>simp[intOf];omega
      ·have hpi':((p:Int)==(i:Int))=false:=beq_eq_false_iff_ne.2 (by omega);have hbl:=HG11.out.below;rw[HW11.out]at hbl;have HBL:=Hyd hbl;clear hbl;go_wp2_with fail;go_roundw
       case rel =>
        have hts:testsAt ss (cs.take (k+1)) i=testsAt ss (cs.take k) i:=by rw[HTK.out,testsAt_snoc,HTO.out];simp;omega
        exact⟨k+1,_,by go_num,by omega,HBQ.out.trans (HBL.out.mono (by omega)),(HBL.out.block _ (by omega)).trans HX.out,by rw[hts];exact own_below HOW.out HBL.out⟩
       case measure=>simp[intOf];omega
     ·obtain⟨p',r,hp',hr,_,hrl,hneg⟩:=hrr hd
      obtain rfl:p'=p:=by omega
      have hd':(x.r==0)=false:=by simp[hd]
      have hqs:posTo ss (min p' r+1)=posTo ss (min p' r)+1:=by
       show posTo ss (min p' r)+(if (ss[min p' r]!).neg=true then 0 else 1)=_
       rw[hneg];simp
      have HQS:=Hyd hqs;have hgr8:=HG10.out
      have v0:(w10.alloc (.cells #[.int .i64 x.op,.int .i64 0,.int .i64 x.k,.bool false] 147)).cell? ⟨W.heap.size,0,none⟩=some (.slice (some ⟨g,o,none⟩) ss.length c):=by rw[<-HW11.out];exact u0
      have v1:(w10.alloc (.cells #[.int .i64 x.op,.int .i64 0,.int .i64 x.k,.bool false] 147)).cell? ⟨W.heap.size,1,none⟩=some (.slice (some ⟨g2,o2,none⟩) cs.length c2):=by rw[<-HW11.out];exact u1
      have v2:(w10.alloc (.cells #[.int .i64 x.op,.int .i64 0,.int .i64 x.k,.bool false] 147)).cell? ⟨W.heap.size,2,none⟩=some (.int .i64 wi):=by rw[<-HW11.out];exact u2
      clear hrr hp' hqs hneg hgr8;go_wp2_with fail;rw[<-HW11.out];refine(HFD.out x.r w11 HG11.out).mono ?_;rintro e w14 ⟨rfl,g14⟩;have hG14:=HG11.out.trans g14;have HG14:=Hyd hG14;have hz14:=g14.size;have HD14:=Hyd ((g14.below.block w10.heap.size (by omega)).trans HD11.out);have b1:w14.cell? ⟨w10.heap.size,1,none⟩=some (.int .i64 0):=(CeH HD14.out 1).trans rfl;have bf1:w14.frozen? ⟨w10.heap.size,1,none⟩=false:=Lib.frozen_of_heap HD14.out 1;have b0:w14.cell? ⟨W.heap.size,0,none⟩=some (.slice (some ⟨g,o,none⟩) ss.length c):=g14.cell (by omega) u0;have b2:w14.cell? ⟨W.heap.size,1,none⟩=some (.slice (some ⟨g2,o2,none⟩) cs.length c2):=g14.cell (by omega) u1;have b3:w14.cell? ⟨W.heap.size,2,none⟩=some (.int .i64 wi):=g14.cell (by omega) u2;rw[hr];clear u0 u1 u2 v0 v1 v2 g14 hG14 t1 f1 zr z0 z1 z3
      by_cases hpr:p'=r
      ·subst hpr;have HTO:Hid (testOf ss x=(p',⟨x.op,-2,x.k,false⟩)):=Hyd (by unfold testOf;rw[if_neg hd,if_pos (hp.trans hr.symm),hp];rfl);clear hp hr HFD HPS
       by_cases hpi:p'=i
       ·have hpi2:=hpi.symm;subst hpi2
        obtain⟨w12,hw12⟩:∃ w12,w12=w14.setCell ⟨w10.heap.size,1,none⟩ (.int .i64 (-2)):=⟨_,rfl⟩
        have hb12:Hid (Below wr.heap.size wr w12):=Hyd (by rw[hw12];exact HG14.out.below.setCell (p:=⟨w10.heap.size,1,none⟩) (by show wr.heap.size<=w10.heap.size;omega) _);have HD:Hid (w12.heap[w10.heap.size]? = some (.cells #[.int .i64 x.op,.int .i64 (-2),.int .i64 x.k,.bool false] 147 (0,0))):=Hyd (by rw[hw12];exact blk_set HD14.out 1 _);have hsz12:=hb12.out.size;have hX12:=Hyd ((hb12.out.block _ (by omega)).trans HX.out);have hO12:=Hyd (own_below HOW.out hb12.out);have q0:w12.cell? ⟨X,4,none⟩=some (.slice vad (testsAt ss (cs.take k) i).length vcap):=(CeH hX12.out 4).trans rfl;have q1:=(CeH HD.out 0).trans rfl;have q2:=(CeH HD.out 1).trans rfl;have q3:=(CeH HD.out 2).trans rfl;have q4:=(CeH HD.out 3).trans rfl;have hdl:=blk_lt HD.out
        have hnx:X≠w12.heap.size:=(by omega);have hnd:w10.heap.size≠X:=(by omega);have hO13:=hO12.out
        have hs12:w12.heap.size=w14.heap.size:=by rw[hw12];simp
        rw[hw12]at q0 q1 q2 q3 q4 hO13;have HO13:=Hyd hO13;clear hO13
        go_wp2_with (at_builtin;refine wpList_append_lies _ rfl (.tmp 84) (.tmp 86) 105 rfl (X+1) 147 i2 _ 4 32 Tryz.underlying105 hp2 hz6 hz7 hz8 rfl (by decide) _ _ _ rfl (HO13.out.alloc _) ⟨w14.heap.size,0,none⟩ 1 1 [.int .i64 x.op,.int .i64 (-2),.int .i64 x.k,.bool false] rfl rfl ?c1 ?c2 (by decide) ?c3 ?c4 ?c5 _ rfl ?_)
        case c1 =>
         intro j u hu;have h:=new_cell w12 ([.int .i64 x.op,.int .i64 (-2),.int .i64 x.k,.bool false]:List Value).toArray 147 j u (by simpa using hu);rw[hs12,hw12]at h;exact h
        case c2=>exact encT_one ⟨x.op,-2,x.k,false⟩
        case c3=>unfold maxLen;omega
        case c4=>omega
        case c5=>have:=hs12;simp;omega
        intro gn cap w13 hown hgr _ _;rw[<-hw12]at hgr;have hX13:=heap_kept (heap_alloc (o':=.cells ([.int .i64 x.op,.int .i64 (-2),.int .i64 x.k,.bool false]:List Value).toArray 147) hX12.out) (hO12.out.alloc _) (by decide) hgr;have f13:w13.frozen? ⟨X,4,none⟩=false:=Lib.frozen_of_heap hX13 4;have c13:w13.cell? ⟨X,4,none⟩=some (.slice vad (testsAt ss (cs.take k) i).length vcap):=(CeH hX13 4).trans rfl;have hb13:=(below_grown (B:=N) ((HBQ.out.trans (hb12.out.mono (by omega))).alloc (by omega) (.cells ([.int .i64 x.op,.int .i64 (-2),.int .i64 x.k,.bool false]:List Value).toArray 147)) (hO12.out.alloc _) hgr (by simp;omega) (by omega)).setCell (p:=⟨X,4,none⟩) (by show N<=X;omega) (.slice (some ⟨gn,0,none⟩) ((testsAt ss (cs.take k) i).length+1) cap);have HB13:=Hyd hb13
        have HX13:=Hyd (show(w13.setCell ⟨X,4,none⟩ (.slice (some ⟨gn,0,none⟩) ((testsAt ss (cs.take k) i).length+1) cap)).heap[X]? = some (.cells #[.int .u8 s.k,.bool s.neg,.int .i64 s.lo,.int .i64 s.hi,.slice (some ⟨gn,0,none⟩) ((testsAt ss (cs.take k) i).length+1) cap] 107 (0,0)) from blk_set hX13 4 _)
        have hts:testsAt ss (cs.take (k+1)) i=testsAt ss (cs.take k) i++[⟨x.op,-2,x.k,false⟩]:=by rw[HTK.out,testsAt_snoc,HTO.out];simp
        have HW13:Hid ((w13.setCell ⟨X,4,none⟩ (.slice (some ⟨gn,0,none⟩) ((testsAt ss (cs.take k) i).length+1) cap)).ownsRow (X+1) 147 4 (.slice (some ⟨gn,0,none⟩) ((testsAt ss (cs.take k) i).length+1) cap) (testsAt ss (cs.take (k+1)) i).length (cellsOf encT (testsAt ss (cs.take (k+1)) i))):=Hyd (by
         rw[hts,cellsOf_snoc,List.length_append]
         exact own_set hown hX13 (by decide))
        clear hown hgr hX13 hb13 q0 q1 q2 q3 q4 hts HD;go_wp2_with fail;go_roundw
        case rel=>exact⟨k+1,_,by go_num,by omega,HB13.out,HX13.out,HW13.out⟩
        case measure=>simp[intOf];omega
       ·have hpi':((p':Int)==(i:Int))=false:=beq_eq_false_iff_ne.2 (by omega);have HBL:=Hyd HG14.out.below;go_wp2_with fail;go_roundw
        case rel =>
         have hts:testsAt ss (cs.take (k+1)) i=testsAt ss (cs.take k) i:=by rw[HTK.out,testsAt_snoc,HTO.out];simp;omega
         exact⟨k+1,_,by go_num,by omega,HBQ.out.trans (HBL.out.mono (by omega)),(HBL.out.block _ (by omega)).trans HX.out,by rw[hts];exact own_below HOW.out HBL.out⟩
        case measure=>simp[intOf];omega
      by_cases hlt2:r<p'
      ·have HTO:Hid (testOf ss x=(p',⟨x.op,posTo ss r,x.k,false⟩)):=Hyd (by
        have hq:=HQS.out;rw[show min p' r=r by omega]at hq;unfold testOf;rw[if_neg hd,hp,hr,if_neg (by omega),if_pos (by omega)]
        simp only[Int.toNat_natCast,hq]
        simp)
       clear hp hr HFD
       by_cases hpi:p'=i
       ·have hpi2:=hpi.symm;subst hpi2;have hri':((r:Int)==(i:Int))=false:=beq_eq_false_iff_ne.2 (by omega);have hrlt:(r:Int)<(i:Int):=(by omega);go_wp2_with fail;refine(HPS.out r (by omega) w14 HG14.out).mono ?_;rintro e w15 ⟨rfl,g15⟩;have HG15:=Hyd (HG14.out.trans g15);have hz15:=g15.size;have HD15:=Hyd ((g15.below.block w10.heap.size (by omega)).trans HD14.out);have e1:w15.cell? ⟨w10.heap.size,1,none⟩=some (.int .i64 0):=(CeH HD15.out 1).trans rfl;have ef1:w15.frozen? ⟨w10.heap.size,1,none⟩=false:=Lib.frozen_of_heap HD15.out 1;have e3:w15.cell? ⟨w10.heap.size,3,none⟩=some (.bool false):=(CeH HD15.out 3).trans rfl;have ef3:w15.frozen? ⟨w10.heap.size,3,none⟩=false:=Lib.frozen_of_heap HD15.out 3;clear b0 b1 b2 b3 bf1 g15
        obtain⟨w12,hw12⟩:∃ w12,w12=w15.setCell ⟨w10.heap.size,1,none⟩ (.int .i64 (posTo ss r)):=⟨_,rfl⟩
        have hb12:Hid (Below wr.heap.size wr w12):=Hyd (by rw[hw12];exact HG15.out.below.setCell (p:=⟨w10.heap.size,1,none⟩) (by show wr.heap.size<=w10.heap.size;omega) _);have HD:Hid (w12.heap[w10.heap.size]? = some (.cells #[.int .i64 x.op,.int .i64 (posTo ss r),.int .i64 x.k,.bool false] 147 (0,0))):=Hyd (by rw[hw12];exact blk_set HD15.out 1 _);have hsz12:=hb12.out.size;have hX12:=Hyd ((hb12.out.block _ (by omega)).trans HX.out);have hO12:=Hyd (own_below HOW.out hb12.out);have q0:w12.cell? ⟨X,4,none⟩=some (.slice vad (testsAt ss (cs.take k) i).length vcap):=(CeH hX12.out 4).trans rfl;have q1:=(CeH HD.out 0).trans rfl;have q2:=(CeH HD.out 1).trans rfl;have q3:=(CeH HD.out 2).trans rfl;have q4:=(CeH HD.out 3).trans rfl;have hdl:=blk_lt HD.out
        have hnx:X≠w12.heap.size:=(by omega);have hnd:w10.heap.size≠X:=(by omega);have hO13:=hO12.out
        have hs12:w12.heap.size=w15.heap.size:=by rw[hw12];simp
        rw[hw12]at q0 q1 q2 q3 q4 hO13;have HO13:=Hyd hO13;clear hO13
        go_wp2_with (at_builtin;refine wpList_append_lies _ rfl (.tmp 102) (.tmp 104) 105 rfl (X+1) 147 i2 _ 4 32 Tryz.underlying105 hp2 hz6 hz7 hz8 rfl (by decide) _ _ _ rfl (HO13.out.alloc _) ⟨w15.heap.size,0,none⟩ 1 1 [.int .i64 x.op,.int .i64 (posTo ss r),.int .i64 x.k,.bool false] rfl rfl ?c1 ?c2 (by decide) ?c3 ?c4 ?c5 _ rfl ?_)
        case c1 =>
         intro j u hu;have h:=new_cell w12 ([.int .i64 x.op,.int .i64 (posTo ss r),.int .i64 x.k,.bool false]:List Value).toArray 147 j u (by simpa using hu);rw[hs12,hw12]at h;exact h
        case c2=>exact encT_one ⟨x.op,posTo ss r,x.k,false⟩
        case c3=>unfold maxLen;omega
        case c4=>omega
        case c5=>have:=hs12;simp;omega
        intro gn cap w13 hown hgr _ _;rw[<-hw12]at hgr;have hX13:=heap_kept (heap_alloc (o':=.cells ([.int .i64 x.op,.int .i64 (posTo ss r),.int .i64 x.k,.bool false]:List Value).toArray 147) hX12.out) (hO12.out.alloc _) (by decide) hgr;have f13:w13.frozen? ⟨X,4,none⟩=false:=Lib.frozen_of_heap hX13 4;have c13:w13.cell? ⟨X,4,none⟩=some (.slice vad (testsAt ss (cs.take k) i).length vcap):=(CeH hX13 4).trans rfl;have hb13:=(below_grown (B:=N) ((HBQ.out.trans (hb12.out.mono (by omega))).alloc (by omega) (.cells ([.int .i64 x.op,.int .i64 (posTo ss r),.int .i64 x.k,.bool false]:List Value).toArray 147)) (hO12.out.alloc _) hgr (by simp;omega) (by omega)).setCell (p:=⟨X,4,none⟩) (by show N<=X;omega) (.slice (some ⟨gn,0,none⟩) ((testsAt ss (cs.take k) i).length+1) cap)
        have HB13:=Hyd hb13;have HX13:=Hyd (show(w13.setCell ⟨X,4,none⟩ (.slice (some ⟨gn,0,none⟩) ((testsAt ss (cs.take k) i).length+1) cap)).heap[X]? = some (.cells #[.int .u8 s.k,.bool s.neg,.int .i64 s.lo,.int .i64 s.hi,.slice (some ⟨gn,0,none⟩) ((testsAt ss (cs.take k) i).length+1) cap] 107 (0,0)) from blk_set hX13 4 _)
        have hts:testsAt ss (cs.take (k+1)) i=testsAt ss (cs.take k) i++[⟨x.op,posTo ss r,x.k,false⟩]:=by rw[HTK.out,testsAt_snoc,HTO.out];simp
        have HW13:Hid ((w13.setCell ⟨X,4,none⟩ (.slice (some ⟨gn,0,none⟩) ((testsAt ss (cs.take k) i).length+1) cap)).ownsRow (X+1) 147 4 (.slice (some ⟨gn,0,none⟩) ((testsAt ss (cs.take k) i).length+1) cap) (testsAt ss (cs.take (k+1)) i).length (cellsOf encT (testsAt ss (cs.take (k+1)) i))):=Hyd (by
         rw[hts,cellsOf_snoc,List.length_append]
         exact own_set hown hX13 (by decide))
        clear hown hgr hX13 hb13 q0 q1 q2 q3 q4 hts HD;go_wp2_with fail;go_roundw
        case rel=>exact⟨k+1,_,by go_num,by omega,HB13.out,HX13.out,HW13.out⟩
        case measure=>simp[intOf];omega
       ·have hpi':((p':Int)==(i:Int))=false:=beq_eq_false_iff_ne.2 (by omega)
        by_cases hri:r=i
        ·have hri':((r:Int)==(i:Int))=true:=by simp[hri]
         have hnl:¬ (p':Int)<(i:Int):=(by omega);have HBL:=Hyd HG14.out.below;go_wp2_with fail;go_roundw
         case rel =>
          have hts:testsAt ss (cs.take (k+1)) i=testsAt ss (cs.take k) i:=by rw[HTK.out,testsAt_snoc,HTO.out];simp;omega
          exact⟨k+1,_,by go_num,by omega,HBQ.out.trans (HBL.out.mono (by omega)),(HBL.out.block _ (by omega)).trans HX.out,by rw[hts];exact own_below HOW.out HBL.out⟩
         case measure=>simp[intOf];omega
        ·have hri':((r:Int)==(i:Int))=false:=beq_eq_false_iff_ne.2 (by omega);have HBL:=Hyd HG14.out.below;go_wp2_with fail;go_roundw
         case rel =>
          have hts:testsAt ss (cs.take (k+1)) i=testsAt ss (cs.take k) i:=by rw[HTK.out,testsAt_snoc,HTO.out];simp;omega
          exact⟨k+1,_,by go_num,by omega,HBQ.out.trans (HBL.out.mono (by omega)),(HBL.out.block _ (by omega)).trans HX.out,by rw[hts];exact own_below HOW.out HBL.out⟩
         case measure=>simp[intOf];omega
      ·have HTO:Hid (testOf ss x=(r,⟨x.op,posTo ss p',x.k,true⟩)):=Hyd (by
        have hq:=HQS.out;rw[show min p' r=p' by omega]at hq;unfold testOf;rw[if_neg hd,hp,hr,if_neg (by omega),if_neg (by omega)]
        simp only[Int.toNat_natCast,hq]
        simp)
       clear hp hr HFD
       by_cases hri:r=i
       ·have hri2:=hri.symm;subst hri2;have hpi':((p':Int)==(i:Int))=false:=beq_eq_false_iff_ne.2 (by omega);have hplt:(p':Int)<(i:Int):=(by omega);go_wp2_with fail;refine(HPS.out p' (by omega) w14 HG14.out).mono ?_;rintro e w15 ⟨rfl,g15⟩;have HG15:=Hyd (HG14.out.trans g15);have hz15:=g15.size;have HD15:=Hyd ((g15.below.block w10.heap.size (by omega)).trans HD14.out);have e1:w15.cell? ⟨w10.heap.size,1,none⟩=some (.int .i64 0):=(CeH HD15.out 1).trans rfl;have ef1:w15.frozen? ⟨w10.heap.size,1,none⟩=false:=Lib.frozen_of_heap HD15.out 1;have e3:w15.cell? ⟨w10.heap.size,3,none⟩=some (.bool false):=(CeH HD15.out 3).trans rfl;have ef3:w15.frozen? ⟨w10.heap.size,3,none⟩=false:=Lib.frozen_of_heap HD15.out 3;clear b0 b1 b2 b3 bf1 g15
        obtain⟨w12,hw12⟩:∃ w12,w12=(w15.setCell ⟨w10.heap.size,1,none⟩ (.int .i64 (posTo ss p'))).setCell ⟨w10.heap.size,3,none⟩ (.bool true):=⟨_,rfl⟩
        have hb12:Hid (Below wr.heap.size wr w12):=Hyd (by rw[hw12];exact(HG15.out.below.setCell (p:=⟨w10.heap.size,1,none⟩) (by show wr.heap.size<=w10.heap.size;omega) _).setCell (p:=⟨w10.heap.size,3,none⟩) (by show wr.heap.size<=w10.heap.size;omega) _);have HD:Hid (w12.heap[w10.heap.size]? = some (.cells #[.int .i64 x.op,.int .i64 (posTo ss p'),.int .i64 x.k,.bool true] 147 (0,0))):=Hyd (by rw[hw12];exact blk_set (blk_set HD15.out 1 _) 3 _);have hsz12:=hb12.out.size;have hX12:=Hyd ((hb12.out.block _ (by omega)).trans HX.out);have hO12:=Hyd (own_below HOW.out hb12.out);have q0:w12.cell? ⟨X,4,none⟩=some (.slice vad (testsAt ss (cs.take k) i).length vcap):=(CeH hX12.out 4).trans rfl;have q1:=(CeH HD.out 0).trans rfl;have q2:=(CeH HD.out 1).trans rfl
        have q3:=(CeH HD.out 2).trans rfl;have q4:=(CeH HD.out 3).trans rfl;have hdl:=blk_lt HD.out;have hnx:X≠w12.heap.size:=(by omega);have hnd:w10.heap.size≠X:=(by omega);have hO13:=hO12.out
        have hs12:w12.heap.size=w15.heap.size:=by rw[hw12];simp
        rw[hw12]at q0 q1 q2 q3 q4 hO13;have HO13:=Hyd hO13;clear hO13
        go_wp2_with (at_builtin;refine wpList_append_lies _ rfl (.tmp 121) (.tmp 123) 105 rfl (X+1) 147 i2 _ 4 32 Tryz.underlying105 hp2 hz6 hz7 hz8 rfl (by decide) _ _ _ rfl (HO13.out.alloc _) ⟨w15.heap.size,0,none⟩ 1 1 [.int .i64 x.op,.int .i64 (posTo ss p'),.int .i64 x.k,.bool true] rfl rfl ?c1 ?c2 (by decide) ?c3 ?c4 ?c5 _ rfl ?_)
        case c1 =>
         intro j u hu;have h:=new_cell w12 ([.int .i64 x.op,.int .i64 (posTo ss p'),.int .i64 x.k,.bool true]:List Value).toArray 147 j u (by simpa using hu);rw[hs12,hw12]at h;exact h
        case c2=>exact encT_one ⟨x.op,posTo ss p',x.k,true⟩
        case c3=>unfold maxLen;omega
        case c4=>omega
        case c5=>have:=hs12;simp;omega
        intro gn cap w13 hown hgr _ _;rw[<-hw12]at hgr;have hX13:=heap_kept (heap_alloc (o':=.cells ([.int .i64 x.op,.int .i64 (posTo ss p'),.int .i64 x.k,.bool true]:List Value).toArray 147) hX12.out) (hO12.out.alloc _) (by decide) hgr;have f13:w13.frozen? ⟨X,4,none⟩=false:=Lib.frozen_of_heap hX13 4;have c13:w13.cell? ⟨X,4,none⟩=some (.slice vad (testsAt ss (cs.take k) i).length vcap):=(CeH hX13 4).trans rfl;have hb13:=(below_grown (B:=N) ((HBQ.out.trans (hb12.out.mono (by omega))).alloc (by omega) (.cells ([.int .i64 x.op,.int .i64 (posTo ss p'),.int .i64 x.k,.bool true]:List Value).toArray 147)) (hO12.out.alloc _) hgr (by simp;omega) (by omega)).setCell (p:=⟨X,4,none⟩) (by show N<=X;omega) (.slice (some ⟨gn,0,none⟩) ((testsAt ss (cs.take k) i).length+1) cap)
        have HB13:=Hyd hb13;have HX13:=Hyd (show(w13.setCell ⟨X,4,none⟩ (.slice (some ⟨gn,0,none⟩) ((testsAt ss (cs.take k) i).length+1) cap)).heap[X]? = some (.cells #[.int .u8 s.k,.bool s.neg,.int .i64 s.lo,.int .i64 s.hi,.slice (some ⟨gn,0,none⟩) ((testsAt ss (cs.take k) i).length+1) cap] 107 (0,0)) from blk_set hX13 4 _)
        have hts:testsAt ss (cs.take (k+1)) i=testsAt ss (cs.take k) i++[⟨x.op,posTo ss p',x.k,true⟩]:=by rw[HTK.out,testsAt_snoc,HTO.out];simp
        have HW13:Hid ((w13.setCell ⟨X,4,none⟩ (.slice (some ⟨gn,0,none⟩) ((testsAt ss (cs.take k) i).length+1) cap)).ownsRow (X+1) 147 4 (.slice (some ⟨gn,0,none⟩) ((testsAt ss (cs.take k) i).length+1) cap) (testsAt ss (cs.take (k+1)) i).length (cellsOf encT (testsAt ss (cs.take (k+1)) i))):=Hyd (by
         rw[hts,cellsOf_snoc,List.length_append]
         exact own_set hown hX13 (by decide))
        clear hown hgr hX13 hb13 q0 q1 q2 q3 q4 hts HD;go_wp2_with fail;go_roundw
        case rel=>exact⟨k+1,_,by go_num,by omega,HB13.out,HX13.out,HW13.out⟩
        case measure=>simp[intOf];omega
       ·have hri':((r:Int)==(i:Int))=false:=beq_eq_false_iff_ne.2 (by omega)
        by_cases hpi:p'=i
        ·have hpi':((p':Int)==(i:Int))=true:=by simp[hpi]
         have hnl:¬ (r:Int)<(i:Int):=(by omega);have HBL:=Hyd HG14.out.below;go_wp2_with fail;go_roundw
         case rel =>
          have hts:testsAt ss (cs.take (k+1)) i=testsAt ss (cs.take k) i:=by rw[HTK.out,testsAt_snoc,HTO.out];simp;omega
          exact⟨k+1,_,by go_num,by omega,HBQ.out.trans (HBL.out.mono (by omega)),(HBL.out.block _ (by omega)).trans HX.out,by rw[hts];exact own_below HOW.out HBL.out⟩
         case measure=>simp[intOf];omega
        ·have hpi':((p':Int)==(i:Int))=false:=beq_eq_false_iff_ne.2 (by omega);have HBL:=Hyd HG14.out.below;go_wp2_with fail;go_roundw
         case rel =>
          have hts:testsAt ss (cs.take (k+1)) i=testsAt ss (cs.take k) i:=by rw[HTK.out,testsAt_snoc,HTO.out];simp;omega
          exact⟨k+1,_,by go_num,by omega,HBQ.out.trans (HBL.out.mono (by omega)),(HBL.out.block _ (by omega)).trans HX.out,by rw[hts];exact own_below HOW.out HBL.out⟩
         case measure=>simp[intOf];omega
    ·obtain rfl:k=cs.length:=by omega
     rw[List.take_length]at HOW HX htl;have o0:wr.cell? ⟨O,0,none⟩=some vs:=(CeH HDQ.out.ob 0).trans rfl;obtain⟨xs,hrow,hpos⟩:=HDQ.out.row;obtain⟨sad,scap,hvs⟩:=own_slice hrow;subst hvs;have HROW:=Hyd hrow;have HPOS:=Hyd hpos;have r0:wr.cell? ⟨X,0,none⟩=some (.int .u8 s.k):=(CeH HX.out 0).trans rfl;have r1:wr.cell? ⟨X,1,none⟩=some (.bool s.neg):=(CeH HX.out 1).trans rfl;have r2:wr.cell? ⟨X,2,none⟩=some (.int .i64 s.lo):=(CeH HX.out 2).trans rfl;have r3:wr.cell? ⟨X,3,none⟩=some (.int .i64 s.hi):=(CeH HX.out 3).trans rfl;have r4:wr.cell? ⟨X,4,none⟩=some (.slice vad (testsAt ss cs i).length vcap):=(CeH HX.out 4).trans rfl;have hn8':=HOK.out.n8;clear hrow hpos y0 y2
     go_wp2_with (at_builtin;refine wpList_append_lies _ rfl (.tmp 127) (.tmp 129) 26 rfl W.heap.size 107 i1 _ 5 48 Tryz.underlying26 hp1 hz3 hz4 hz5 rfl (by decide) _ _ _ rfl (HROW.out.alloc _) ⟨wr.heap.size,0,none⟩ 1 1 [.int .u8 s.k,.bool s.neg,.int .i64 s.lo,.int .i64 s.hi,.slice vad (testsAt ss cs i).length vcap] rfl rfl ?c1 ?c2 (by decide) ?c3 ?c4 ?c5 _ rfl ?_)
     case c1 =>
      intro j u hu;exact new_cell wr #[.int .u8 s.k,.bool s.neg,.int .i64 s.lo,.int .i64 s.hi,.slice vad (testsAt ss cs i).length vcap] 107 j u (by simpa using hu)
     case c2=>intro u hu;simp only[List.mem_cons,List.not_mem_nil,or_false]at hu;rcases hu with rfl|rfl|rfl|rfl|rfl<;>rfl
     case c3=>unfold maxLen;omega
     case c4=>omega
     case c5=>simp;omega
     intro gn cap w13 hown hgr _ _;have hal:Below wr.heap.size wr (wr.alloc (.cells #[.int .u8 s.k,.bool s.neg,.int .i64 s.lo,.int .i64 s.hi,.slice vad (testsAt ss cs i).length vcap] 107)):=(Below.refl _ _).alloc (Nat.le_refl _) _;have hdp:=(HDQ.out.below hal).push (g:=gn) (cap:=cap) (fun q hq=>by obtain⟨vt',h3,h4⟩:=HPOS.out q hq;exact⟨vt',h3,own_below h4 hal⟩) (HROW.out.alloc _) (own_base (HOW.out.alloc _) (by omega)) hgr (by rw[HSX.out];exact hown);have hO13:=heap_kept (heap_alloc (o':=.cells #[.int .u8 s.k,.bool s.neg,.int .i64 s.lo,.int .i64 s.hi,.slice vad (testsAt ss cs i).length vcap] 107) HDQ.out.ob) (HROW.out.alloc _) (by decide) hgr;have c13:w13.cell? ⟨O,0,none⟩=some _:=(CeH hO13 0).trans rfl;have f13:w13.frozen? ⟨O,0,none⟩=false:=Lib.frozen_of_heap hO13 0
     have HDP:=Hyd hdp;clear hown hgr hO13 hdp hal o0 r0 r1 r2 r3 r4 y1;go_wp2_with fail;go_roundw
     case rel=>exact⟨i+1,_,by go_num,by omega,HDP.out⟩
     case measure=>simp[intOf];omega
  ·obtain rfl:i=ss.length:=by omega
   have o0:wr.cell? ⟨O,0,none⟩=some vs:=(CeH hdk.ob 0).trans rfl;have o1:wr.cell? ⟨O,1,none⟩=some (.int .i64 wi):=(CeH hdk.ob 1).trans rfl;have s0:wr.cell? ⟨W.heap.size+1,0,none⟩=some nilS:=(CeH hdk.rb 0).trans rfl;have s1:wr.cell? ⟨W.heap.size+1,1,none⟩=some (.int .i64 0):=(CeH hdk.rb 1).trans rfl;have f0:wr.frozen? ⟨W.heap.size+1,0,none⟩=false:=Lib.frozen_of_heap hdk.rb 0;have f1:wr.frozen? ⟨W.heap.size+1,1,none⟩=false:=Lib.frozen_of_heap hdk.rb 1;have hr1:=blk_set hdk.rb 0 vs;have hr2:=Hyd (blk_set hr1 1 (.int .i64 wi));have hDoc:=Hyd (hdk.res vs (.int .i64 wi));have hbl:=Hyd ((hdk.bel.setCell (p:=⟨W.heap.size+1,0,none⟩) (by show W.heap.size<=W.heap.size+1;omega) vs).setCell (p:=⟨W.heap.size+1,1,none⟩) (by show W.heap.size<=W.heap.size+1;omega) (.int .i64 wi))
   obtain⟨vad,vcap,hvs⟩:∃ ad c,vs=.slice ad ss.length c:=by obtain⟨xs,h1,_⟩:=hdk.row;exact own_slice h1
   subst hvs;clear hdk hr1 HDK;go_wp2_with fail;refine bodyPost_ret (res_make20 rfl ((CeH hr2.out 0).trans rfl) ((CeH hr2.out 1).trans rfl)) rfl ?_;exact⟨hbl.out,_,rfl,hDoc.out⟩
end Go.Proofs.YtcojnojdgigmdaaGreatDoor.WL
