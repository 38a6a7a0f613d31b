/- The walks of the document's find, step, cond, check. -/
import Derived.Test.YtcojnojdgigmdaaGreatDoorB01
import Derived.Test.YtcojnojdgigmdaaGreatDoorB03
/- The walks of oxbowref20's Find, positive and step. -/
set_option maxHeartbeats 3200000
set_option maxRecDepth 100000
namespace Go.Proofs.YtcojnojdgigmdaaGreatDoor.WL
open Go Go.RowKit Go.Sort PL Mem
theorem find20 (sl cl:Value) (wi nm:Int) (ss:List GS) (w:World) (hs:Stps w w.heap.size sl ss) (hbig:ss.length<=maxLen) :
  Calls Tryz.prog 66 #[.agg #[sl,cl,.int .i64 wi],.int .u8 nm] w fun e w'=>e=.returned (.int .i64 (findP ss nm))/\Grw w w':=by
 have hbig':ss.length<=9223372036854775807:=hbig;obtain⟨a,c,rfl⟩:=Sl.shape hs
 obtain⟨w1,hw1⟩:∃ w1,w1=w.alloc (.cells #[.slice a ss.length c,cl,.int .i64 wi] 70):=⟨_,rfl⟩
 have hz1:w1.heap.size=w.heap.size+1:=by rw[hw1];simp
 have HG1:=Hyd (show Grw w w1 by rw[hw1];exact(Grw.refl w).alloc _)
 have y0:w1.cell? ⟨w.heap.size,0,none⟩=some (.slice a ss.length c):=by rw[hw1];exact(CeH (heap_new rfl) 0).trans rfl
 have HS:=Hyd hs;have HW1:=Hyd hw1;clear hs hw1 hbig
 go_enter Tryz.func66,Tryz.ntmps66
 go_wp2_with fail;rw[<-HW1.out]
 go_loopw [5] (fun u wr=>∃ i:Nat,u=.int .i64 i/\i<=ss.length/\wr=w1/\∀ j (hj:j<ss.length),j<i->ss[j].nm≠nm) (fun u _=>ss.length-(intOf u).toNat)
 case atStart=>exact⟨0,rfl,by omega,rfl,fun j _ hj=>absurd hj (by omega)⟩
 case round =>
  obtain⟨i,rfl,hi,hwr,hall⟩:=hrel;subst hwr;have HA:=Hyd hall;clear hall
  by_cases hlt:i<ss.length
  ·have hlt':(i:Int)<(ss.length:Int):=by omega
   have hi0:(0:Int)<=(i:Int):=by omega
   obtain⟨g,o,c',e,hgb,_,d1,_,_,_⟩:=Stps.at_ HS.out hlt
   obtain⟨rfl,rfl⟩:a=some ⟨g,o,none⟩/\c=c':=by simpa using e
   have x1:=HG1.out.cell hgb d1
   obtain⟨x,hx⟩:∃ x,ss[i]=x:=⟨_,rfl⟩
   rw[hx]at x1;have HX:=Hyd hx;clear e d1 hx
   by_cases hq:x.nm=nm
   ·have HQ:=Hyd hq
    have hq':(x.nm==nm)=true:=by simp[hq]
    clear hq;go_wp2_with fail;go_ret;refine⟨?_,HG1.out⟩;rw[findP_hit hlt (by rw[HX.out];exact HQ.out) (fun j hj=>HA.out j (by omega) hj)]
    rfl
   ·have HQ:=Hyd hq
    have hq':(x.nm==nm)=false:=by simp[hq]
    clear hq;go_wp2_with fail;go_roundw
    case rel =>
     refine⟨i+1,by go_num,by omega,trivial,fun j hj hji=>?_⟩
     by_cases e:j=i
     ·subst e;rw[HX.out];exact HQ.out
     ·exact HA.out j hj (by omega)
    case measure=>simp[intOf];omega
  ·obtain rfl:i=ss.length:=by omega
   go_wp2_with fail;go_ret;refine⟨?_,HG1.out⟩;rw[findP_miss (fun j hj=>HA.out j hj hj)]
   rfl
theorem pos20 (sl cl:Value) (wi:Int) (ss:List GS) (k:Nat) (w:World) (hs:Stps w w.heap.size sl ss) (hk:k<=ss.length) (h8:ss.length<=8) :
  Calls Tryz.prog 67 #[.agg #[sl,cl,.int .i64 wi],.int .i64 k] w fun e w'=>e=.returned (.int .i64 (posTo ss k))/\Grw w w':=by
 obtain⟨a,c,rfl⟩:=Sl.shape hs
 obtain⟨w1,hw1⟩:∃ w1,w1=w.alloc (.cells #[.slice a ss.length c,cl,.int .i64 wi] 70):=⟨_,rfl⟩
 have hz1:w1.heap.size=w.heap.size+1:=by rw[hw1];simp
 have HG1:=Hyd (show Grw w w1 by rw[hw1];exact(Grw.refl w).alloc _)
 have y0:w1.cell? ⟨w.heap.size,0,none⟩=some (.slice a ss.length c):=by rw[hw1];exact(CeH (heap_new rfl) 0).trans rfl
 have HS:=Hyd hs;have HW1:=Hyd hw1;clear hs hw1
 go_enter Tryz.func67,Tryz.ntmps67
 go_wp2_with fail;rw[<-HW1.out]
 go_loopw [5,6] (fun n u wr=>∃ i:Nat,u=.int .i64 i/\i<=k/\wr=w1/\n=.int .i64 (posTo ss i)/\posTo ss i<=i) (fun _ u _=>k-(intOf u).toNat)
 case atStart=>exact⟨0,rfl,by omega,rfl,rfl,by simp[posTo]⟩
 case round =>
  obtain⟨i,rfl,hi,hwr,rfl,hpi⟩:=hrel;subst hwr
  by_cases hlt:i<k
  ·have hlt':(i:Int)<(k:Int):=by omega
   have hi0:(0:Int)<=(i:Int):=by omega
   have hls:(i:Int)<(ss.length:Int):=by omega
   obtain⟨g,o,c',e,hgb,_,_,d2,_,_⟩:=Stps.at_ HS.out (show i<ss.length by omega)
   obtain⟨rfl,rfl⟩:a=some ⟨g,o,none⟩/\c=c':=by simpa using e
   have x2:=HG1.out.cell hgb d2
   have hps:posTo ss (i+1)=posTo ss i+if (ss[i]'(by omega)).neg=true then 0 else 1:=by
    show posTo ss i+(if (ss[i]!).neg=true then 0 else 1)=_
    rw[getElem!_pos ss i (by omega)]
   have HPS:=Hyd hps
   obtain⟨x,hx⟩:∃ x,ss[i]=x:=⟨_,rfl⟩
   rw[hx]at x2;have HX:=Hyd hx;clear e d2 hps hx;generalize posTo ss i=pi at *
   cases hn:x.neg with
   | true =>
    rw[hn]at x2;have HN:=Hyd hn;clear hn;go_wp2_with fail;go_roundw
    case rel=>exact⟨i+1,by go_num,by omega,trivial,by rw[HPS.out,HX.out,if_pos HN.out];rfl,by rw[HPS.out,HX.out,if_pos HN.out];omega⟩
    case measure=>simp[intOf];omega
   | false =>
    rw[hn]at x2;have HN:=Hyd hn;clear hn;go_wp2_with fail;go_roundw
    case rel=>exact⟨i+1,by go_num,by omega,trivial,by rw[HPS.out,HX.out,if_neg (by rw[HN.out];simp)];rfl,by rw[HPS.out,HX.out,if_neg (by rw[HN.out];simp)];omega⟩
    case measure=>simp[intOf];omega
  ·obtain rfl:i=k:=by omega
   go_wp2_with fail;go_ret;exact⟨rfl,HG1.out⟩
theorem stepE_of' (ss:List GS) (i:Nat) (s:GS) (hi:i<ss.length) (h:ss[i]=s):stepE ss i =
  if ¬ (65<=s.k/\s.k<=90) \/ ¬ (97<=s.nm/\s.nm<=122) then 20
  else if findP ss s.nm≠i then 21
  else if s.neg=true/\(i=0 \/ i+1=ss.length) then 23
  else if (s.neg=true/\(s.lo≠1 \/ s.hi≠1)) \/ s.lo<1 \/ s.hi<s.lo \/ 4<s.hi then 22
  else 0:=by
 have h1:=findP_le_self hi;subst h;unfold stepE;rw[getElem!_pos ss i hi];have e:(findP ss ss[i].nm<(i:Int))=(findP ss ss[i].nm≠(i:Int)):=propext ⟨fun h=>by omega,fun h=>by omega⟩
 simp only[e]
theorem step20 (sl cl:Value) (wi:Int) (ss:List GS) (i:Nat) (w:World) (hs:Stps w w.heap.size sl ss) (hbig:ss.length<=maxLen) (hi:i<ss.length) :
  Calls Tryz.prog 62 #[.agg #[sl,cl,.int .i64 wi],.int .i64 i] w fun e w'=>e=.returned (.int .i64 (stepE ss i))/\Grw w w':=by
 have hbig':ss.length<=9223372036854775807:=hbig;obtain⟨g,o,c,rfl,hgb,d0,d1,d2,d3,d4⟩:=Stps.at_ hs hi
 obtain⟨x,hx⟩:∃ x,ss[i]=x:=⟨_,rfl⟩
 have hr:=stepE_of' ss i x hi hx;generalize stepE ss i=r at *;rw[hx]at d0 d1 d2 d3 d4
 obtain⟨w1,hw1⟩:∃ w1,w1=w.alloc (.cells #[.slice (some ⟨g,o,none⟩) ss.length c,cl,.int .i64 wi] 70):=⟨_,rfl⟩
 obtain⟨w2,hw2⟩:∃ w2,w2=w1.alloc (.cells #[.int .u8 x.k,.int .u8 x.nm,.bool x.neg,.int .i64 x.lo,.int .i64 x.hi] 126):=⟨_,rfl⟩
 have hz1:w1.heap.size=w.heap.size+1:=by rw[hw1];simp
 have hz2:w2.heap.size=w.heap.size+2:=by rw[hw2];simp;omega
 have G1:Grw w w1:=by rw[hw1];exact(Grw.refl w).alloc _
 have G2:Grw w w2:=by rw[hw2];exact G1.alloc _
 have hf:=find20 (.slice (some ⟨g,o,none⟩) ss.length c) cl wi x.nm ss w2 ((Sl.below hs G2.below).more G2.size) hbig;have HF:=Hyd hf;have HW1:=Hyd hw1;have HW2:=Hyd hw2;have HG2:=Hyd G2;have HR:=Hyd hr
 have hne:g≠w.heap.size:=by omega
 have P1:=Hyd (show w2.heap[w.heap.size]? = some (.cells #[.slice (some ⟨g,o,none⟩) ss.length c,cl,.int .i64 wi] 70 (0,0)) by rw[hw2];exact heap_alloc (by rw[hw1];exact heap_new rfl));have P2:=Hyd (show w2.heap[w.heap.size+1]? = some (.cells #[.int .u8 x.k,.int .u8 x.nm,.bool x.neg,.int .i64 x.lo,.int .i64 x.hi] 126 (0,0)) by rw[hw2];exact heap_new (by omega));have y0:w2.cell? ⟨w.heap.size,0,none⟩=some (.slice (some ⟨g,o,none⟩) ss.length c):=(CeH P1.out 0).trans rfl;have y1:w2.cell? ⟨w.heap.size,1,none⟩=some cl:=(CeH P1.out 1).trans rfl;have y2:w2.cell? ⟨w.heap.size,2,none⟩=some (.int .i64 wi):=(CeH P1.out 2).trans rfl;rw[hw2,hw1]at y0 y1 y2;clear hf hw1 hw2 G1 G2 hx hr hs hbig
 go_enter Tryz.func62,Tryz.ntmps62
 by_cases A:65<=x.k/\x.k<=90
 case neg =>
  have HR2:=Hyd (HR.out.trans (if_pos (.inl A)));go_wp2_with fail
  all_goals first
   | (exfalso;omega)
   | (go_ret;exact⟨by rw[HR2.out];rfl,by rw[<-HW1.out,<-HW2.out];exact HG2.out⟩)
 by_cases B:97<=x.nm/\x.nm<=122
 case neg =>
  have HR2:=Hyd (HR.out.trans (if_pos (.inr B)))
  have A1:¬ x.k<65:=by omega
  have A2:¬ 90<x.k:=by omega
  clear A;go_wp2_with fail
  all_goals first
   | (exfalso;omega)
   | (go_ret;exact⟨by rw[HR2.out];rfl,by rw[<-HW1.out,<-HW2.out];exact HG2.out⟩)
 have h2:=HR.out.trans (if_neg (by omega))
 have A1:¬ x.k<65:=by omega
 have A2:¬ 90<x.k:=by omega
 have B1:¬ x.nm<97:=by omega
 have B2:¬ 122<x.nm:=by omega
 have HR2:=Hyd h2;clear A B HR h2;go_wp2_with fail;rw[<-HW1.out,<-HW2.out];refine HF.out.mono ?_;rintro e w3 ⟨rfl,g3⟩;have HG3:=Hyd (HG2.out.trans g3);have y3:w3.cell? ⟨w.heap.size,0,none⟩=some (.slice (some ⟨g,o,none⟩) ss.length c):=g3.cell (by omega) ((CeH P1.out 0).trans rfl);have z2:w3.cell? ⟨w.heap.size+1,2,none⟩=some (.bool x.neg):=g3.cell (by omega) ((CeH P2.out 2).trans rfl);have z3:w3.cell? ⟨w.heap.size+1,3,none⟩=some (.int .i64 x.lo):=g3.cell (by omega) ((CeH P2.out 3).trans rfl);have z4:w3.cell? ⟨w.heap.size+1,4,none⟩=some (.int .i64 x.hi):=g3.cell (by omega) ((CeH P2.out 4).trans rfl);clear y0 y1 y2 d0 d1 d2 d3 d4 g3 A1 A2 B1 B2
 have hil:(i:Int)<(ss.length:Int):=by omega
 by_cases C:findP ss x.nm=(i:Int)
 case neg =>
  have HR3:=Hyd (HR2.out.trans (if_pos C))
  have hc:(findP ss x.nm != (i:Int))=true:=by simp[C]
  generalize findP ss x.nm=fp at *;clear HR2 C;go_wp2_with fail;go_ret;exact⟨by rw[HR3.out];rfl,HG3.out⟩
 have h3:=HR2.out.trans (if_neg (fun h=>h C));rw[C];clear HR2
 cases hn:x.neg with
 | false =>
  rw[hn]at h3 z2
  simp only[Bool.false_eq_true,false_and,if_false,false_or]at h3
  have HR3:=Hyd h3;clear h3 hn;go_wp2_with fail
  all_goals
   go_ret;refine⟨?_,HG3.out⟩;have h:=HR3.out;clear HR3 HF P1 P2 z2 z3 z4 y3 HG3 HG2 HW1 HW2 C;refine congrArg (fun z=>Ending.returned (Value.int .i64 z)) (?_:_=r);rw[h];clear h
   split
   ·first | rfl | (exfalso;omega)
   ·first | rfl | (exfalso;omega)
 | true =>
  rw[hn]at h3 z2
  simp only[true_and]at h3
  have HR3:=Hyd h3;clear h3 hn;go_wp2_with fail
  all_goals
   go_ret;refine⟨?_,HG3.out⟩;have h:=HR3.out;clear HR3 HF P1 P2 z2 z3 z4 y3 HG3 HG2 HW1 HW2 C;refine congrArg (fun z=>Ending.returned (Value.int .i64 z)) (?_:_=r);rw[h];clear h
   simp only[beq_eq_false_iff_ne,beq_iff_eq,bne_iff_ne,bne_eq_false_iff_eq,ne_eq]at *
   split
   ·first | rfl | (exfalso;omega)
   ·split
    ·first | rfl | (exfalso;omega)
    ·first | rfl | (exfalso;omega)
end Go.Proofs.YtcojnojdgigmdaaGreatDoor.WL
/- The walks of oxbowref20's cond and Check. -/
namespace Go.Proofs.YtcojnojdgigmdaaGreatDoor.WL
open Go Go.RowKit Go.Sort PL Mem
theorem cond20 (sl cl:Value) (wi:Int) (ss:List GS) (d:GC) (w:World) (hs:Stps w w.heap.size sl ss) (hbig:ss.length<=maxLen) :
  Calls Tryz.prog 63 #[.agg #[sl,cl,.int .i64 wi],.agg #[.int .u8 d.l,.int .i64 d.op,.int .u8 d.r,.int .i64 d.k]] w fun e w'=>e=.returned (.int .i64 (condE ss d))/\Grw w w':=by
 have hbig':ss.length<=9223372036854775807:=hbig;obtain⟨a,c,rfl⟩:=Sl.shape hs
 obtain⟨w1,hw1⟩:∃ w1,w1=w.alloc (.cells #[.slice a ss.length c,cl,.int .i64 wi] 70):=⟨_,rfl⟩
 obtain⟨w2,hw2⟩:∃ w2,w2=w1.alloc (.cells #[.int .u8 d.l,.int .i64 d.op,.int .u8 d.r,.int .i64 d.k] 131):=⟨_,rfl⟩
 have hz1:w1.heap.size=w.heap.size+1:=by rw[hw1];simp
 have hz2:w2.heap.size=w.heap.size+2:=by rw[hw2];simp;omega
 have G1:Grw w w1:=by rw[hw1];exact(Grw.refl w).alloc _
 have G2:Grw w w2:=by rw[hw2];exact G1.alloc _
 have hf:=fun(nm:Int) (w':World) (g':Grw w w')=>find20 (.slice a ss.length c) cl wi nm ss w' ((Sl.below hs g'.below).more g'.size) hbig
 have HF:=Hyd hf;have HS:=Hyd hs;have HW1:=Hyd hw1;have HW2:=Hyd hw2;have HG2:=Hyd G2
 have hr:condE ss d=if d.op<0 \/ 5<d.op then 20 else if d.k < -9007199254740992 \/ 9007199254740992<d.k then 2 else if findP ss d.l<0 \/ (d.r≠0/\findP ss d.r<0) then 21 else if d.r=0 then 0 else if (ss[(min (findP ss d.l) (findP ss d.r)).toNat]!).neg=true then 23 else 0:=rfl
 generalize condE ss d=r at *;have HR:=Hyd hr;have P1:=Hyd (show w2.heap[w.heap.size]? = some (.cells #[.slice a ss.length c,cl,.int .i64 wi] 70 (0,0)) by rw[hw2];exact heap_alloc (by rw[hw1];exact heap_new rfl));have P2:=Hyd (show w2.heap[w.heap.size+1]? = some (.cells #[.int .u8 d.l,.int .i64 d.op,.int .u8 d.r,.int .i64 d.k] 131 (0,0)) by rw[hw2];exact heap_new (by omega));have y0:w2.cell? ⟨w.heap.size,0,none⟩=some (.slice a ss.length c):=(CeH P1.out 0).trans rfl;have y1:w2.cell? ⟨w.heap.size,1,none⟩=some cl:=(CeH P1.out 1).trans rfl;have y2:w2.cell? ⟨w.heap.size,2,none⟩=some (.int .i64 wi):=(CeH P1.out 2).trans rfl;rw[hw2,hw1]at y0 y1 y2;clear hf hs hw1 hw2 G1 G2 hr hbig
 go_enter Tryz.func63,Tryz.ntmps63
 by_cases A:d.op<0 \/ 5<d.op
 case pos =>
  have HR2:=Hyd (HR.out.trans (if_pos A));go_wp2_with fail
  all_goals first
   | (exfalso;omega)
   | (go_ret;exact⟨by rw[HR2.out];rfl,by rw[<-HW1.out,<-HW2.out];exact HG2.out⟩)
 have h2:=HR.out.trans (if_neg A)
 have A1:¬ d.op<0:=by omega
 have A2:¬ 5<d.op:=by omega
 clear HR A
 by_cases B:d.k < -9007199254740992 \/ 9007199254740992<d.k
 case pos =>
  have HR2:=Hyd (h2.trans (if_pos B));clear h2;go_wp2_with fail
  all_goals first
   | (exfalso;omega)
   | (go_ret;exact⟨by rw[HR2.out];rfl,by rw[<-HW1.out,<-HW2.out];exact HG2.out⟩)
 have HR2:=Hyd (h2.trans (if_neg B))
 have B1:¬ d.k < -9007199254740992:=by omega
 have B2:¬ 9007199254740992<d.k:=by omega
 clear h2 B;go_wp2_with fail;rw[<-HW1.out,<-HW2.out];refine(HF.out d.l w2 HG2.out).mono ?_;rintro e w3 ⟨rfl,g3⟩;have HG3:=Hyd (HG2.out.trans g3);have hz3:=g3.size;have u0:w3.cell? ⟨w.heap.size,0,none⟩=some (.slice a ss.length c):=g3.cell (by omega) ((CeH P1.out 0).trans rfl);have u1:w3.cell? ⟨w.heap.size,1,none⟩=some cl:=g3.cell (by omega) ((CeH P1.out 1).trans rfl);have u2:w3.cell? ⟨w.heap.size,2,none⟩=some (.int .i64 wi):=g3.cell (by omega) ((CeH P1.out 2).trans rfl);have v2:w3.cell? ⟨w.heap.size+1,2,none⟩=some (.int .u8 d.r):=g3.cell (by omega) ((CeH P2.out 2).trans rfl);clear y0 y1 y2 g3 P1 P2 HW1 HW2 A1 A2 B1 B2
 rcases findP_cases ss d.l with hl | ⟨i,hl,hi,_⟩
 ·have h:=HR2.out;rw[hl]at h ⊢;have HR3:=Hyd h;generalize findP ss d.r=fr at *;clear HR2 h hl;go_wp2_with fail
  all_goals
   go_ret;refine⟨?_,HG3.out⟩;have h:=HR3.out;clear HR3 u0 u1 u2 v2 HG3 HG2;refine congrArg (fun z=>Ending.returned (Value.int .i64 z)) (?_:_=r);rw[h];clear h
   try simp only[↓reduceIte,Bool.false_eq_true]
   repeat' split
   all_goals first | rfl | (exfalso;omega) | (exfalso;simp_all;done)
 ·obtain⟨g,o,c',e,hgb,_,_,d2,_,_⟩:=Stps.at_ HS.out hi
  obtain⟨rfl,rfl⟩:a=some ⟨g,o,none⟩/\c=c':=by simpa using e
  have D2:=Hyd d2;clear d2
  by_cases hd:d.r=0
  ·have h:=HR2.out;rw[hl]at h ⊢;have HR3:=Hyd h;generalize findP ss d.r=fr at *;clear HR2 h hl;rw[hd]at v2;go_wp2_with fail
   all_goals
    go_ret;refine⟨?_,HG3.out⟩;have h:=HR3.out;clear HR3 u0 u1 u2 v2 HG3 HG2;refine congrArg (fun z=>Ending.returned (Value.int .i64 z)) (?_:_=r);rw[h];clear h
    try simp only[↓reduceIte,Bool.false_eq_true]
    repeat' split
    all_goals first | rfl | (exfalso;omega) | (exfalso;simp_all;done)
  have hb1:(d.r==0)=false:=by simp[hd]
  rw[hl];go_wp2_with fail;refine(HF.out d.r w3 HG3.out).mono ?_;rintro e w4 ⟨rfl,g4⟩;have HG4:=Hyd (HG3.out.trans g4);have t0:w4.cell? ⟨w.heap.size,0,none⟩=some (.slice (some ⟨g,o,none⟩) ss.length c):=g4.cell (by omega) u0;have d3:=HG4.out.cell hgb D2.out;clear g4 u0 u1 u2 v2 HF
  rcases findP_cases ss d.r with hl2 | ⟨j,hl2,hj,_⟩
  ·have h:=HR2.out;rw[hl,hl2]at h;rw[hl2];have HR3:=Hyd h;clear HR2 h hl hl2;go_wp2_with fail
   all_goals
    go_ret;refine⟨?_,HG4.out⟩;have h:=HR3.out;clear HR3 t0 d3 HG3 HG2;refine congrArg (fun z=>Ending.returned (Value.int .i64 z)) (?_:_=r);rw[h];clear h
    try simp only[↓reduceIte,Bool.false_eq_true]
    repeat' split
    all_goals first | rfl | (exfalso;omega) | (exfalso;simp_all;done)
  ·obtain⟨g',o',c',e',_,_,_,d2,_,_⟩:=Stps.at_ HS.out hj
   obtain⟨⟨rfl,rfl⟩,rfl⟩:(g'=g/\o'=o)/\c'=c:=by simpa [eq_comm] using e'
   have d4:=HG4.out.cell hgb d2;clear d2;have h:=HR2.out;rw[hl,hl2]at h;rw[hl2]
   have hil:(i:Int)<(ss.length:Int):=by omega
   have hjl:(j:Int)<(ss.length:Int):=by omega
   have hi0:(0:Int)<=(i:Int):=by omega
   have hj0:(0:Int)<=(j:Int):=by omega
   obtain⟨x,hx⟩:∃ x,ss[i].neg=x:=⟨_,rfl⟩
   obtain⟨y,hy⟩:∃ y,ss[j].neg=y:=⟨_,rfl⟩
   have hneg:(ss[(min (i:Int) (j:Int)).toNat]!).neg=if i<=j then x else y:=by
    split
    ·rename_i h1
     rw[show(min (i:Int) (j:Int)).toNat=i by omega,getElem!_pos ss i hi];exact hx
    ·rename_i h1
     rw[show(min (i:Int) (j:Int)).toNat=j by omega,getElem!_pos ss j hj];exact hy
   have hij:i=j->x=y:=fun e=>by subst e;rw[<-hx,<-hy]
   rw[hx]at d3;rw[hy]at d4
   rcases Nat.lt_trichotomy i j with hlt | heq | hgt
   ·rw[hneg.trans (if_pos (by omega:i<=j))]at h;have HR3:=Hyd h;clear HR2 h hl hl2 hneg hx hy hij D2
    cases x<;>cases y
    all_goals (go_wp2_with fail)
    all_goals
     go_ret;refine⟨?_,HG4.out⟩;have h:=HR3.out;clear HR3 t0 d3 d4 HG3 HG2;refine congrArg (fun z=>Ending.returned (Value.int .i64 z)) (?_:_=r);rw[h];clear h
     try simp only[↓reduceIte,Bool.false_eq_true]
     repeat' split
     all_goals first | rfl | (exfalso;omega) | (exfalso;simp_all;done)
   ·rw[hneg.trans (if_pos (by omega:i<=j))]at h;have hxy:=hij heq;subst hxy;subst heq;have HR3:=Hyd h;clear HR2 h hl hl2 hneg hx hy hij D2 d4
    cases x
    all_goals (go_wp2_with fail)
    all_goals
     go_ret;refine⟨?_,HG4.out⟩;have h:=HR3.out;clear HR3 t0 d3 HG3 HG2;refine congrArg (fun z=>Ending.returned (Value.int .i64 z)) (?_:_=r);rw[h];clear h
     try simp only[↓reduceIte,Bool.false_eq_true]
     repeat' split
     all_goals first | rfl | (exfalso;omega) | (exfalso;simp_all;done)
   ·rw[hneg.trans (if_neg (by omega:¬ i<=j))]at h;have HR3:=Hyd h;clear HR2 h hl hl2 hneg hx hy hij D2
    cases x<;>cases y
    all_goals (go_wp2_with fail)
    all_goals
     go_ret;refine⟨?_,HG4.out⟩;have h:=HR3.out;clear HR3 t0 d3 d4 HG3 HG2;refine congrArg (fun z=>Ending.returned (Value.int .i64 z)) (?_:_=r);rw[h];clear h
     try simp only[↓reduceIte,Bool.false_eq_true]
     repeat' split
     all_goals first | rfl | (exfalso;omega) | (exfalso;simp_all;done)
end Go.Proofs.YtcojnojdgigmdaaGreatDoor.WL
/- The walk of oxbowref20.Check. -/
namespace Go.Proofs.YtcojnojdgigmdaaGreatDoor.WL
open Go Go.RowKit Go.Sort PL Mem
theorem check20 (sl cl:Value) (wi:Int) (ss:List GS) (cs:List GC) (w:World) (hs:Stps w w.heap.size sl ss) (hc:Cnds w w.heap.size cl cs) (hbig:ss.length<=maxLen) (hbig2:cs.length<=maxLen) :
  Calls Tryz.prog 24 #[.agg #[sl,cl,.int .i64 wi]] w fun e w'=>e=.returned (.tuple #[.int .i64 (checkP ss cs wi).1,.int .i64 (checkP ss cs wi).2])/\Grw w w':=by
 have hbig':ss.length<=9223372036854775807:=hbig;have hbig2':cs.length<=9223372036854775807:=hbig2;obtain⟨a,c,rfl⟩:=Sl.shape hs;obtain⟨a2,c2,rfl⟩:=Sl.shape hc
 obtain⟨w1,hw1⟩:∃ w1,w1=w.alloc (.cells #[.slice a ss.length c,.slice a2 cs.length c2,.int .i64 wi] 70):=⟨_,rfl⟩
 have hz1:w1.heap.size=w.heap.size+1:=by rw[hw1];simp
 have G1:Grw w w1:=by rw[hw1];exact(Grw.refl w).alloc _
 have HS:=Hyd hs;have HC:=Hyd hc;have HW1:=Hyd hw1;have HG1:=Hyd G1;have P1:=Hyd (show w1.heap[w.heap.size]? = some (.cells #[.slice a ss.length c,.slice a2 cs.length c2,.int .i64 wi] 70 (0,0)) by rw[hw1];exact heap_new rfl)
 have hst:=fun(i:Nat) (hi:i<ss.length) (w':World) (g':Grw w w')=>step20 (.slice a ss.length c) (.slice a2 cs.length c2) wi ss i w' ((Sl.below hs g'.below).more g'.size) hbig hi
 have hcd:=fun(d:GC) (w':World) (g':Grw w w')=>cond20 (.slice a ss.length c) (.slice a2 cs.length c2) wi ss d w' ((Sl.below hs g'.below).more g'.size) hbig
 have HST:=Hyd hst;have HCD:=Hyd hcd;clear hs hc hw1 G1 hst hcd hbig hbig2
 go_enter Tryz.func24,Tryz.ntmps24
 by_cases hm:ss.length<1 \/ 8<ss.length \/ 16<cs.length
 case pos =>
  by_cases h0:ss.length=0
  ·have h0':((ss.length:Int)==0)=true:=by simp[h0]
   clear h0;go_wp2_with fail
   all_goals
    go_ret2
    refine⟨?_,by rw[<-HW1.out];exact HG1.out⟩;rw[checkP_many hm]
    rfl
  have h0':((ss.length:Int)==0)=false:=beq_eq_false_iff_ne.2 (by omega)
  by_cases h8:8<ss.length
  ·have h8':8<(ss.length:Int):=by omega
   go_wp2_with fail
   all_goals
    go_ret2
    refine⟨?_,by rw[<-HW1.out];exact HG1.out⟩;rw[checkP_many hm]
    rfl
  have h8':¬ 8<(ss.length:Int):=by omega
  have h16:16<(cs.length:Int):=by omega
  go_wp2_with fail
  all_goals
   go_ret2
   refine⟨?_,by rw[<-HW1.out];exact HG1.out⟩;rw[checkP_many hm]
   rfl
 have hm1:((ss.length:Int)==0)=false:=beq_eq_false_iff_ne.2 (by omega)
 have hm2:¬ (8<(ss.length:Int)):=by omega
 have hm3:¬ (16<(cs.length:Int)):=by omega
 by_cases ha:wi<0 \/ 9007199254740992<wi
 case pos =>
  go_wp2_with fail
  all_goals
   go_ret2
   refine⟨?_,by rw[<-HW1.out];exact HG1.out⟩;rw[checkP_arg hm ha]
   rfl
 have HM:=Hyd hm;have HA:=Hyd ha
 have ha1:¬ (wi<0):=by omega
 have ha2:¬ (9007199254740992<wi):=by omega
 clear hm ha;go_wp2_with fail;rw[<-HW1.out];clear ha1 ha2 hm1
 go_loopw [5,6] (fun b u wr=>∃ i:Nat,u=.int .i64 i/\i<=ss.length/\b=.int .i64 (bindsTo ss i)/\Grw w1 wr/\∀ j,j<i->stepE ss j=0) (fun _ u _=>ss.length-(intOf u).toNat)
 case atStart=>exact⟨0,rfl,by omega,rfl,Grw.refl _,fun j hj=>absurd hj (by omega)⟩
 case round =>
  obtain⟨i,rfl,hi,rfl,hg,hall⟩:=hrel;have HG:=Hyd hg;have HALL:=Hyd hall;have hsz:=hg.size;have hbd:=bindsTo_le hall;have y0:wr.cell? ⟨w.heap.size,0,none⟩=some (.slice a ss.length c):=hg.cell (by omega) ((CeH P1.out 0).trans rfl);have y1:wr.cell? ⟨w.heap.size,1,none⟩=some (.slice a2 cs.length c2):=hg.cell (by omega) ((CeH P1.out 1).trans rfl);have y2:wr.cell? ⟨w.heap.size,2,none⟩=some (.int .i64 wi):=hg.cell (by omega) ((CeH P1.out 2).trans rfl);clear hg hall
  by_cases hlt:i<ss.length
  ·have hlt':(i:Int)<(ss.length:Int):=by omega
   have hi0:(0:Int)<=(i:Int):=by omega
   obtain⟨g,o,c',e,hgb,_,_,d2,_,d4⟩:=Stps.at_ HS.out hlt
   obtain⟨rfl,rfl⟩:a=some ⟨g,o,none⟩/\c=c':=by simpa using e
   have HGW:=Hyd (HG1.out.trans HG.out)
   obtain⟨x,hx⟩:∃ x,ss[i]=x:=⟨_,rfl⟩
   rw[hx]at d2 d4;have HX:=Hyd hx;have D2:=Hyd d2;have D4:=Hyd d4;clear e d2 d4 hx;go_wp2_with fail;refine(HST.out i hlt wr HGW.out).mono ?_;rintro e w' ⟨rfl,g'⟩;have z0:w'.cell? ⟨w.heap.size,0,none⟩=some (.slice (some ⟨g,o,none⟩) ss.length c):=g'.cell (by omega) y0;have z2:w'.cell? ⟨g,o+i * 5+2,none⟩=some (.bool x.neg):=(HGW.out.trans g').cell hgb D2.out;have z4:w'.cell? ⟨g,o+i * 5+4,none⟩=some (.int .i64 x.hi):=(HGW.out.trans g').cell hgb D4.out;have HG':=Hyd (HG.out.trans g');clear g' y0 y1 y2
   by_cases he:stepE ss i=0
   ·obtain⟨_,_,_,_,_,_,hk1,hk2,hk3⟩:=stepE_ok he
    have hxi:ss[i]! = x:=by rw[getElem!_pos ss i hlt];exact HX.out
    rw[hxi]at hk1 hk2 hk3
    have HALL':=Hyd (show ∀ j,j<i+1->stepE ss j=0 from fun j hj=>by
     rcases Nat.lt_or_ge j i with hl | hl
     ·exact HALL.out j hl
     ·have:j=i:=by omega
      rw[this];exact he)
    have hbs:bindsTo ss (i+1)=bindsTo ss i+if x.neg=true then 0 else x.hi:=by
     show bindsTo ss i+(if (ss[i]!).neg=true then 0 else (ss[i]!).hi)=_
     rw[hxi]
    have HBS:=Hyd hbs;rw[he];clear he hxi hbs;generalize bindsTo ss i=bi at *
    cases hn:x.neg with
    | true =>
     rw[hn]at z2;have HN:=Hyd hn;clear hn;go_wp2_with fail;go_roundw
     case rel=>exact⟨i+1,by go_num,by omega,by rw[HBS.out,if_pos HN.out];simp,HG'.out,HALL'.out⟩
     case measure=>simp[intOf];omega
    | false =>
     rw[hn]at z2;have HN:=Hyd hn;clear hn;go_wp2_with fail;go_roundw
     case rel=>exact⟨i+1,by go_num,by omega,by rw[HBS.out,if_neg (by rw[HN.out];simp)],HG'.out,HALL'.out⟩
     case measure=>simp[intOf];omega
   ·have HE:=Hyd he
    have he':(stepE ss i != 0)=true:=by simp[he]
    obtain⟨ev,hev⟩:∃ ev,stepE ss i=ev:=⟨_,rfl⟩
    rw[hev]at he' ⊢;have HEV:=Hyd hev;clear he hev;go_wp2_with fail
    go_ret2
    refine⟨?_,HG1.out.trans HG'.out⟩;rw[checkP_step HM.out HA.out hlt HE.out HALL.out,HEV.out]
    rfl
  ·obtain rfl:i=ss.length:=by omega
   clear hlt hi
   by_cases hb:16<bindsTo ss ss.length
   ·have HB:=Hyd hb
    obtain⟨bv,hbv⟩:∃ bv,bindsTo ss ss.length=bv:=⟨_,rfl⟩
    rw[hbv]at hb hbd ⊢;clear hbv;go_wp2_with fail
    go_ret2
    refine⟨?_,HG1.out.trans HG.out⟩;rw[checkP_binds HM.out HA.out HALL.out HB.out]
    rfl
   ·have HB:=Hyd hb
    obtain⟨bv,hbv⟩:∃ bv,bindsTo ss ss.length=bv:=⟨_,rfl⟩
    rw[hbv]at hb hbd ⊢;clear hbv;go_wp2_with fail;clear hb hbd y0 y1 y2 hm2 hm3
    go_loopw [8] (fun u wq=>∃ i:Nat,u=.int .i64 i/\i<=cs.length/\Grw w1 wq/\∀ j,j<i->condE ss cs[j]! = 0) (fun u _=>cs.length-(intOf u).toNat)
    case atStart=>exact⟨0,rfl,by omega,HG.out,fun j hj=>absurd hj (by omega)⟩
    case round =>
     clear HG hsz;obtain⟨i,rfl,hi,hg,hcall⟩:=hrel;have HG:=Hyd hg;have HCALL:=Hyd hcall;have hsz:=hg.size;have y0:wr.cell? ⟨w.heap.size,0,none⟩=some (.slice a ss.length c):=hg.cell (by omega) ((CeH P1.out 0).trans rfl);have y1:wr.cell? ⟨w.heap.size,1,none⟩=some (.slice a2 cs.length c2):=hg.cell (by omega) ((CeH P1.out 1).trans rfl);have y2:wr.cell? ⟨w.heap.size,2,none⟩=some (.int .i64 wi):=hg.cell (by omega) ((CeH P1.out 2).trans rfl);clear hg hcall
     by_cases hlt:i<cs.length
     ·have hlt':(i:Int)<(cs.length:Int):=by omega
      have hi0:(0:Int)<=(i:Int):=(by omega);have hM:=HM.out;have hs8:(ss.length:Int)<=8:=(by omega);have hc16:(cs.length:Int)<=16:=(by omega);clear hM;obtain⟨g,o,c',e,hgb,d0,d1,d2,d3⟩:=Cnds.at_ HC.out hlt
      obtain⟨rfl,rfl⟩:a2=some ⟨g,o,none⟩/\c2=c':=by simpa using e
      have HGW:=Hyd (HG1.out.trans HG.out)
      obtain⟨x,hx⟩:∃ x,cs[i]=x:=⟨_,rfl⟩
      rw[hx]at d0 d1 d2 d3;have HX:=Hyd (show cs[i]! = x by rw[getElem!_pos cs i hlt];exact hx)
      have hgw:g<wr.heap.size:=by have:=HGW.out.size;omega
      have hpw:w.heap.size<wr.heap.size:=(by omega)
      have ya0:∀ n os,(grow (wr.drewN n) os).cell? ⟨w.heap.size,0,none⟩=some (.slice a ss.length c):=cell_grown hpw y0
      have ya1:∀ n os,(grow (wr.drewN n) os).cell? ⟨w.heap.size,1,none⟩=some (.slice (some ⟨g,o,none⟩) cs.length c2):=cell_grown hpw y1
      have ya2:∀ n os,(grow (wr.drewN n) os).cell? ⟨w.heap.size,2,none⟩=some (.int .i64 wi):=cell_grown hpw y2
      have x0:∀ n os,(grow (wr.drewN n) os).cell? ⟨g,o+i * 4,none⟩=some (.int .u8 x.l):=cell_grown hgw (HGW.out.cell hgb d0)
      have x1:∀ n os,(grow (wr.drewN n) os).cell? ⟨g,o+i * 4+1,none⟩=some (.int .i64 x.op):=cell_grown hgw (HGW.out.cell hgb d1)
      have x2:∀ n os,(grow (wr.drewN n) os).cell? ⟨g,o+i * 4+2,none⟩=some (.int .u8 x.r):=cell_grown hgw (HGW.out.cell hgb d2)
      have x3:∀ n os,(grow (wr.drewN n) os).cell? ⟨g,o+i * 4+3,none⟩=some (.int .i64 x.k):=cell_grown hgw (HGW.out.cell hgb d3)
      have hq:∀ n os,Calls Tryz.prog 63 #[.agg #[.slice a ss.length c,.slice (some ⟨g,o,none⟩) cs.length c2,.int .i64 wi],.agg #[.int .u8 x.l,.int .i64 x.op,.int .u8 x.r,.int .i64 x.k]] (grow (wr.drewN n) os) fun e w'=>e=.returned (.int .i64 (condE ss x))/\Grw (grow (wr.drewN n) os) w':=fun n os=>HCD.out x _ (HGW.out.trans ⟨n,os,rfl⟩)
      have HQ:=Hyd hq;clear e d0 d1 d2 d3 hx hq
      have mixed:Tryz.prog.follows .mixedOrders=true:=by kernel_rfl
      go_wp2_with fail
      go_quiet_grown (first | (go_at_call 63;exact Grw.grown (HQ.out _ _)) | exact Grw.grown (HQ.out _ _))
      change Exit.then _ _ Exit.normal _ (grow (wr.drewN nq) osq);have gq:Grw wr (grow (wr.drewN nq) osq):=⟨nq,osq,rfl⟩;have z0:=ya0 nq osq;have HG':=Hyd (HG.out.trans gq);clear gq x0 x1 x2 x3 y0 y1 y2 ya0 ya1 ya2 mixed HQ;generalize grow (wr.drewN nq) osq=w' at *
      by_cases he:condE ss x=0
      ·have HC':=Hyd (show ∀ j,j<i+1->condE ss cs[j]! = 0 from fun j hj=>by
        rcases Nat.lt_or_ge j i with hl | hl
        ·exact HCALL.out j hl
        ·have:j=i:=(by omega)
         rw[this,HX.out];exact he)
       rw[he];clear he;go_wp2_with fail;go_roundw
       case rel=>exact⟨i+1,by go_num,by omega,HG'.out,HC'.out⟩
       case measure=>simp[intOf];omega
      ·have HE:=Hyd he
       have he':(condE ss x != 0)=true:=by simp[he]
       obtain⟨ev,hev⟩:∃ ev,condE ss x=ev:=⟨_,rfl⟩
       rw[hev]at he' ⊢;have HEV:=Hyd hev;clear he hev;go_wp2_with fail
       go_ret2
       refine⟨?_,HG1.out.trans HG'.out⟩;rw[checkP_cond HM.out HA.out HALL.out (Int.not_lt.2 HB.out) hlt (by rw[HX.out];exact HE.out) HCALL.out,HX.out,HEV.out]
       rfl
     ·obtain rfl:i=cs.length:=by omega
      go_wp2_with fail
      go_ret2
      refine⟨?_,HG1.out.trans HG.out⟩;rw[checkP_ok HM.out HA.out HALL.out (Int.not_lt.2 HB.out) HCALL.out]
      rfl
end Go.Proofs.YtcojnojdgigmdaaGreatDoor.WL
