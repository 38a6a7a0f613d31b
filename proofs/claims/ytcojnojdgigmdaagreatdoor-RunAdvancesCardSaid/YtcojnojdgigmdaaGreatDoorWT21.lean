/- The walks of oxbowref19.Holds and oxbowref21.test, all: does an event hold the tests, behind the events of a row? -/
import Derived.Test.YtcojnojdgigmdaaGreatDoorB01
import Derived.Test.YtcojnojdgigmdaaGreatDoorB10
import Derived.Test.YtcojnojdgigmdaaGreatDoorPGrow
set_option maxHeartbeats 6400000
set_option maxRecDepth 100000
namespace Go.Proofs.YtcojnojdgigmdaaGreatDoor.WR
open Go Go.RowKit Go.Sort PL PR Mem
theorem holdsR (o a b:Int) (w:World):Calls Tryz.prog 102 #[.int .i64 o,.int .i64 a,.int .i64 b] w fun e w'=>e=.returned (.bool (hB o a b))/\w=w':=by
 by_cases h0:o=0
 ·subst h0;rw[show hB 0 a b=(decide (a<b)) from rfl]
  go_enter Tryz.func102,Tryz.ntmps102
  go_wp2;go_ret;exact⟨by first | rfl | (rw[q'];rfl) | (rw[s1];rfl),rfl⟩
 have n0:(o==0)=false:=by rw[beq_eq_false_iff_ne];exact h0
 by_cases h1:o=1
 ·subst h1;rw[show hB 1 a b=(decide (a<=b)) from rfl]
  by_cases q:a<b
  ·have q':a<=b:=by omega
   go_enter Tryz.func102,Tryz.ntmps102
   go_wp2;go_ret;exact⟨by simp[q'],rfl⟩
  by_cases r:a=b
  ·subst r
   go_enter Tryz.func102,Tryz.ntmps102
   go_wp2;go_ret;exact⟨by simp,rfl⟩
  ·have q1:b<=a:=by omega
   have r1:(a==b)=false:=by rw[beq_eq_false_iff_ne];exact r
   have s1:decide (a<=b)=false:=by simp;omega
   go_enter Tryz.func102,Tryz.ntmps102
   go_wp2;go_ret;exact⟨by first | rfl | (rw[q'];rfl) | (rw[s1];rfl),rfl⟩
 have n1:(o==1)=false:=by rw[beq_eq_false_iff_ne];exact h1
 by_cases h2:o=2
 ·subst h2;rw[show hB 2 a b=(a==b) from rfl]
  go_enter Tryz.func102,Tryz.ntmps102
  go_wp2;go_ret;exact⟨by first | rfl | (rw[q'];rfl) | (rw[s1];rfl),rfl⟩
 have n2:(o==2)=false:=by rw[beq_eq_false_iff_ne];exact h2
 by_cases h3:o=3
 ·subst h3;rw[show hB 3 a b=(a != b) from rfl]
  by_cases q:a<b
  ·have q':(a != b)=true:=by rw[bne_iff_ne];omega
   go_enter Tryz.func102,Tryz.ntmps102
   go_wp2;go_ret;exact⟨by first | rfl | (rw[q'];rfl) | (rw[s1];rfl),rfl⟩
  have q1:b<=a:=by omega
  by_cases r:b<a
  ·have q':(a != b)=true:=by rw[bne_iff_ne];omega
   go_enter Tryz.func102,Tryz.ntmps102
   go_wp2;go_ret;exact⟨by first | rfl | (rw[q'];rfl) | (rw[s1];rfl),rfl⟩
  ·obtain rfl:a=b:=by omega
   have q':(a != a)=false:=by simp
   go_enter Tryz.func102,Tryz.ntmps102
   go_wp2;go_ret;exact⟨by first | rfl | (rw[q'];rfl) | (rw[s1];rfl),rfl⟩
 have n3:(o==3)=false:=by rw[beq_eq_false_iff_ne];exact h3
 by_cases h4:o=4
 ·subst h4;rw[show hB 4 a b=(decide (b<=a)) from rfl]
  by_cases q:b<a
  ·have q':b<=a:=by omega
   go_enter Tryz.func102,Tryz.ntmps102
   go_wp2;go_ret;exact⟨by simp[q'],rfl⟩
  by_cases r:a=b
  ·subst r
   go_enter Tryz.func102,Tryz.ntmps102
   go_wp2;go_ret;exact⟨by simp,rfl⟩
  ·have q1:a<=b:=by omega
   have r1:(a==b)=false:=by rw[beq_eq_false_iff_ne];exact r
   have s1:decide (b<=a)=false:=by simp;omega
   go_enter Tryz.func102,Tryz.ntmps102
   go_wp2;go_ret;exact⟨by first | rfl | (rw[q'];rfl) | (rw[s1];rfl),rfl⟩
 have n4:(o==4)=false:=by rw[beq_eq_false_iff_ne];exact h4
 by_cases h5:o=5
 ·subst h5;rw[show hB 5 a b=(decide (b<a)) from rfl]
  go_enter Tryz.func102,Tryz.ntmps102
  go_wp2;go_ret;exact⟨by first | rfl | (rw[q'];rfl) | (rw[s1];rfl),rfl⟩
 have n5:(o==5)=false:=by rw[beq_eq_false_iff_ne];exact h5
 have hE:hB o a b=false:=by unfold hB;rw[if_neg h0,if_neg h1,if_neg h2,if_neg h3,if_neg h4,if_neg h5]
 rw[hE];clear h0 h1 h2 h3 h4 h5 hE
 go_enter Tryz.func102,Tryz.ntmps102
 go_wp2;go_ret;exact⟨by first | rfl | (rw[q'];rfl) | (rw[s1];rfl),rfl⟩
def MtAt (w:World) (B:Nat) (v:Value) (m:Mt):Prop:=∃ va vs,v=.agg #[va,vs]/\Sl w B 1 va m.length (m.map fun x=>.int .i64 (x.1:Nat))/\Sl w B 1 vs m.length (m.map fun x=>.int .i64 (x.2:Nat))
theorem MtAt.keep {w w':World} {B:Nat} {v:Value} {m:Mt} (h:MtAt w B v m) (hk:∀ p:Addr,p.block<B->w'.cell? p=w.cell? p):MtAt w' B v m:=by
 obtain⟨va,vs,e,h1,h2⟩:=h;exact⟨va,vs,e,h1.keep hk,h2.keep hk⟩
theorem MtAt.more {w:World} {B B':Nat} {v:Value} {m:Mt} (h:MtAt w B v m) (hB:B<=B'):MtAt w B' v m:=by
 obtain⟨va,vs,e,h1,h2⟩:=h;exact⟨va,vs,e,h1.more hB,h2.more hB⟩
theorem MtAt.below {w w':World} {B:Nat} {v:Value} {m:Mt} (h:MtAt w B v m) (hb:Below B w w'):MtAt w' B v m:=h.keep fun _ hp=>hb.cell hp
theorem sl_at {α:Type} {f:α->Value} {w:World} {B:Nat} {v:Value} {l:List α} (h:Sl w B 1 v l.length (l.map f)) {i:Nat} (hi:i<l.length):∃ b o c,v=.slice (some ⟨b,o,none⟩) l.length c/\b<B/\w.cell? ⟨b,o+i,none⟩=some (f l[i]):=by
 obtain⟨b,o,c,hv,hb,hx⟩:=Sl.elem h hi;refine⟨b,o,c,hv,hb, ?_⟩;have:=hx 0 (f l[i]) (by omega) (by simp[hi])
 simpa using this
structure OkM (l:List Ev) (m:Mt):Prop where
 few:m.length<=1000000
 at_:∀ x∈m,x.1<l.length
 st:∀ x∈m,x.2<=1000000
theorem evAt_eq {l:List Ev} {i:Nat} (h:i<l.length):evAt l i=l[i]:=by
 unfold evAt;rw[List.getD_eq_getElem?_getD,List.getElem?_eq_getElem h];rfl
theorem pm_get {l:List Ev} {m:Mt} {i:Nat} (h:i<m.length) (h2:m[i].1<l.length) (h':i<(pmM l m).length):(pmM l m)[i]=(m[i].2,l[m[i].1]):=by
 simp only[pmM,List.getElem_map,evAt_eq h2]
theorem pm_len (l:List Ev) (m:Mt):(pmM l m).length=m.length:=by simp[pmM]
def askT (op ad el:Int) (tn:Bool) (k:Nat) (y:Nat×Ev):Bool:=if y.1=k then (if tn then hB op y.2.val (el+ad) else hB op el (y.2.val+ad)) else true
theorem test21 (t:PT) (mv lv:Value) (m:Mt) (l:List Ev) (step B:Nat) (e:Ev) (w:World) (ht:OkT t) (hm:MtAt w B mv m) (hl:Evs w B lv l) (hBw:B<=w.heap.size) (hok:OkM l m) (_:step<=1000000) (he:Sm e.val) (hs:SmE l) :
  Calls Tryz.prog 82 #[testV t,lv,mv,.int .i64 step,evV e] w fun en w'=>en=.returned (.bool (testP t (pmM l m) step e))/\Grw w w':=by
 obtain⟨⟨ha0,ha1⟩,hts⟩:=ht;obtain⟨he0,he1⟩:=he
 have mixed:Tryz.prog.follows .mixedOrders=true:=by kernel_rfl
 have HOM:=Hyd hok;have HS:=Hyd hs;obtain⟨va,vs,rfl,hma,hms⟩:=hm;obtain⟨aa,ac,rfl⟩:=hma.shape;obtain⟨sa,sc,rfl⟩:=hms.shape;obtain⟨la,lc,rfl⟩:=Sl.shape hl;have HMA:=Hyd hma;have HMS:=Hyd hms;have HL:=Hyd hl;have hfew:=hok.few;clear hok hs hma hms hl
 have HH:=Hyd (show testP t (pmM l m) step e=if t.step=-1 then hB t.op e.val t.add
  else if t.step=-2 then
   match (pmM l m).getLast? with
   | none=>true
   | some y=>if y.1=step then hB t.op e.val (y.2.val+t.add) else true
  else (pmM l m).all (askT t.op t.add e.val t.turn t.step.toNat) from rfl)
 obtain⟨R,hR⟩:∃ R,testP t (pmM l m) step e=R:=⟨_,rfl⟩
 rw[hR]at HH ⊢;clear hR;obtain⟨op,ts,ad,tn⟩:=t;obtain⟨ei,et,ek,el⟩:=e
 simp only at ha0 ha1 hts he0 he1 HH ⊢
 obtain⟨wa,hwa⟩:∃ wa,wa=((w.alloc (.cells #[.int .i64 op,.int .i64 ts,.int .i64 ad,.bool tn] 147)).alloc (.cells #[.slice aa m.length ac,.slice sa m.length sc] 84)).alloc (.cells #[.int .i64 ei,.int .i64 et,.int .u8 ek,.int .i64 el] 59):=⟨_,rfl⟩
 have hza:wa.heap.size=w.heap.size+3:=by rw[hwa];simp
 have HG:=Hyd (show Grw w wa by rw[hwa];exact(((Grw.refl _).alloc _).alloc _).alloc _);have XT:=Hyd (show wa.heap[w.heap.size]? = some (.cells #[.int .i64 op,.int .i64 ts,.int .i64 ad,.bool tn] 147 (0,0)) by rw[hwa];exact heap_alloc (heap_alloc (heap_new rfl)));have XM:=Hyd (show wa.heap[w.heap.size+1]? = some (.cells #[.slice aa m.length ac,.slice sa m.length sc] 84 (0,0)) by rw[hwa];exact heap_alloc (heap_new (by simp)));have XE:=Hyd (show wa.heap[w.heap.size+2]? = some (.cells #[.int .i64 ei,.int .i64 et,.int .u8 ek,.int .i64 el] 59 (0,0)) by rw[hwa];exact heap_new (by simp));have HWA:=Hyd hwa;have t0:wa.cell? ⟨w.heap.size,0,none⟩=some (.int .i64 op):=(CeH XT.out 0).trans rfl;have t1:wa.cell? ⟨w.heap.size,1,none⟩=some (.int .i64 ts):=(CeH XT.out 1).trans rfl
 have t2:wa.cell? ⟨w.heap.size,2,none⟩=some (.int .i64 ad):=(CeH XT.out 2).trans rfl;have t3:wa.cell? ⟨w.heap.size,3,none⟩=some (.bool tn):=(CeH XT.out 3).trans rfl;have m0:wa.cell? ⟨w.heap.size+1,0,none⟩=some (.slice aa m.length ac):=(CeH XM.out 0).trans rfl;have m1:wa.cell? ⟨w.heap.size+1,1,none⟩=some (.slice sa m.length sc):=(CeH XM.out 1).trans rfl;have e3:wa.cell? ⟨w.heap.size+2,3,none⟩=some (.int .i64 el):=(CeH XE.out 3).trans rfl;clear hwa
 go_enter Tryz.func82,Tryz.ntmps82
 go_upto_region 1 with (fail)
 rw[<-HWA.out]
 by_cases h1:ts=-1
 ·have n1:(ts == -1)=true:=by rw[h1];rfl
  have HE:=Hyd (show R=hB op el ad by rw[HH.out,if_pos h1]);clear h1 hts;go_wp2_with fail;refine(holdsR op el ad wa).mono ?_;rintro e1 w2 ⟨rfl,rfl⟩;go_wp2_with fail;go_ret;exact⟨by rw[HE.out];rfl,HG.out⟩
 ·have n1:(ts == -1)=false:=by rw[beq_eq_false_iff_ne];exact h1
  by_cases h2:ts=-2
  ·have n2:(ts == -2)=true:=by rw[h2];rfl
   have HE:=Hyd (show R=(match (pmM l m).getLast? with | none=>true | some y=>if y.1=step then hB op el (y.2.val+ad) else true) by rw[HH.out,if_neg h1,if_pos h2]);clear h1 h2 hts;have hwl:IntKind.i64.wrap ((m.length:Int)-1)=(m.length:Int)-1:=IntWalk.i64_in _ (by omega)
   by_cases hn:m.length=0
   ·obtain rfl:m=[]:=List.eq_nil_of_length_eq_zero hn;have HR:=Hyd (show R=true from HE.out);clear hn hwl;go_wp2_with fail;go_ret;exact⟨by rw[HR.out];rfl,HG.out⟩
   ·have hlt:m.length-1<m.length:=by omega
    obtain⟨b,o,c,hv,hb,x0⟩:=sl_at HMS.out hlt
    obtain⟨rfl,rfl⟩:sa=some ⟨b,o,none⟩/\sc=c:=by simpa using hv
    obtain⟨b2,o2,c2,hv2,hb2,x1⟩:=sl_at HMA.out hlt
    obtain⟨rfl,rfl⟩:aa=some ⟨b2,o2,none⟩/\ac=c2:=by simpa using hv2
    have hai:=HOM.out.at_ _ (List.getElem_mem hlt)
    have HPG:=Hyd (show(pmM l m).getLast? = some (m[m.length-1].2,l[m[m.length-1].1]) by
     rw[List.getLast?_eq_getElem?,pm_len,List.getElem?_eq_getElem (by rw[pm_len];exact hlt),pm_get hlt hai])
    obtain⟨p,hp⟩:∃ p,m[m.length-1].1=p:=⟨_,rfl⟩
    obtain⟨s,hsd⟩:∃ s,m[m.length-1].2=s:=⟨_,rfl⟩
    have hpl:p<l.length:=by rw[<-hp];exact hai
    obtain⟨b3,o3,c3,hv3,hb3,_,_,_,x3⟩:=Evs.at_ HL.out hpl
    obtain⟨rfl,rfl⟩:la=some ⟨b3,o3,none⟩/\lc=c3:=by simpa using hv3
    obtain⟨y,hy⟩:∃ y,l[p]=y:=⟨_,rfl⟩
    have HPG2:=Hyd (show(pmM l m).getLast? = some (s,y) by
     rw[HPG.out];subst hsd;subst hy;subst hp
     rfl)
    obtain⟨hs0,hs1⟩:=HS.out y (hy ▸ List.getElem_mem hpl);rw[hp]at x1;rw[hsd]at x0;rw[hy]at x3;have z0:=HG.out.cell (Nat.lt_of_lt_of_le hb hBw) x0;have z1:=HG.out.cell (Nat.lt_of_lt_of_le hb2 hBw) x1;have z3:=HG.out.cell (Nat.lt_of_lt_of_le hb3 hBw) x3
    have hl1n:1<=m.length:=by omega
    have hli0:(0:Int)<=(m.length:Int)-1:=by omega
    have hli1:(m.length:Int)-1<(m.length:Int):=by omega
    have htn:((m.length:Int)-1).toNat=m.length-1:=by omega
    have hpi0:(0:Int)<=(p:Int):=by omega
    have hpi1:(p:Int)<(l.length:Int):=by omega
    have hwr:IntKind.i64.wrap (y.val+ad)=y.val+ad:=IntWalk.i64_in _ (by omega);clear hv hv2 hv3 x0 x1 x3 hy hp hsd HPG hai hn
    by_cases hss:s=step
    ·have hne:((s:Int) != (step:Int))=false:=by simp[hss]
     have HR:=Hyd (show R=hB op el (y.val+ad) by rw[HE.out,HPG2.out];simp only[];rw[if_pos hss]);have HP:=Hyd (fun w=>(holdsR op el (y.val+ad) w).mono fun _ _ ⟨h,hw⟩=>And.intro h hw.symm);clear hss HPG2;go_wp2_with fail
     go_quiet ((go_at_call 102;exact Calls.quiet_of_same (HP.out _)))
     go_wp2_with fail;go_ret;exact⟨by rw[HR.out];rfl,HG.out.drewN _⟩
    ·have hne:((s:Int) != (step:Int))=true:=by simp;omega
     have HR:=Hyd (show R=true by rw[HE.out,HPG2.out];simp only[];rw[if_neg hss]);clear hss HPG2;go_wp2_with fail;go_ret;exact⟨by rw[HR.out];rfl,HG.out⟩
  ·have n2:(ts == -2)=false:=by rw[beq_eq_false_iff_ne];exact h2
   have hts0:0<=ts/\ts<=1000000:=by omega
   obtain⟨k,rfl⟩:∃ k:Nat,ts=(k:Int):=⟨ts.toNat,by omega⟩
   have hk:k<=1000000:=by omega
   have HE:=Hyd (show R=(pmM l m).all (askT op ad el tn k) by rw[HH.out,if_neg h1,if_neg h2];rfl);clear h1 h2 hts hts0;go_wp2_with fail;clear t0 t1 t2 t3 m0 m1 e3
   go_loopw [12] (fun u wr=>∃ i:Nat,i<=m.length/\u=.int .i64 i/\(∀ y∈(pmM l m).take i,askT op ad el tn k y=true)/\Grw wa wr) (fun u _=>m.length-(intOf u).toNat)
   case atStart=>exact⟨0,by omega,rfl,by simp,Grw.refl _⟩
   case round =>
    obtain⟨i,hi,rfl,hall,hgr⟩:=hrel;have HALL:=Hyd hall;have HGR:=Hyd hgr;have HGW:=Hyd (HG.out.trans hgr);have q0:=hgr.cell (show w.heap.size<wa.heap.size by omega) ((CeH XT.out 0).trans rfl);have q1:=hgr.cell (show w.heap.size<wa.heap.size by omega) ((CeH XT.out 1).trans rfl);have q2:=hgr.cell (show w.heap.size<wa.heap.size by omega) ((CeH XT.out 2).trans rfl);have q3:=hgr.cell (show w.heap.size<wa.heap.size by omega) ((CeH XT.out 3).trans rfl);have r0:=hgr.cell (show w.heap.size+1<wa.heap.size by omega) ((CeH XM.out 0).trans rfl);have r1:=hgr.cell (show w.heap.size+1<wa.heap.size by omega) ((CeH XM.out 1).trans rfl);have qe:=hgr.cell (show w.heap.size+2<wa.heap.size by omega) ((CeH XE.out 3).trans rfl);have hsz:=hgr.size
    clear hgr hall
    by_cases hlt:i<m.length
    ·have hlt':(i:Int)<(m.length:Int):=by omega
     have hi0:(0:Int)<=(i:Int):=by omega
     obtain⟨b,o,c,hv,hb,x0⟩:=sl_at HMS.out hlt
     obtain⟨rfl,rfl⟩:sa=some ⟨b,o,none⟩/\sc=c:=by simpa using hv
     obtain⟨b2,o2,c2,hv2,hb2,x1⟩:=sl_at HMA.out hlt
     obtain⟨rfl,rfl⟩:aa=some ⟨b2,o2,none⟩/\ac=c2:=by simpa using hv2
     have hai:=HOM.out.at_ _ (List.getElem_mem hlt)
     have hpi:i<(pmM l m).length:=by rw[pm_len];exact hlt
     have HPG:=Hyd (pm_get hlt hai hpi);have HTK:=Hyd (List.take_succ_eq_append_getElem (l:=pmM l m) (i:=i) hpi);have HMEM:=Hyd (List.getElem_mem hpi)
     obtain⟨p,hp⟩:∃ p,m[i].1=p:=⟨_,rfl⟩
     obtain⟨s,hsd⟩:∃ s,m[i].2=s:=⟨_,rfl⟩
     have hpl:p<l.length:=by rw[<-hp];exact hai
     obtain⟨b3,o3,c3,hv3,hb3,y0,y1,y2,y3⟩:=Evs.at_ HL.out hpl
     obtain⟨rfl,rfl⟩:la=some ⟨b3,o3,none⟩/\lc=c3:=by simpa using hv3
     obtain⟨y,hy⟩:∃ y,l[p]=y:=⟨_,rfl⟩
     have HPY:=Hyd (show(pmM l m)[i]=(s,y) by
      rw[HPG.out];subst hsd;subst hy;subst hp
      rfl)
     obtain⟨hs0,hs1⟩:=HS.out y (hy ▸ List.getElem_mem hpl);rw[hp]at x1;rw[hsd]at x0;rw[hy]at y0 y1 y2 y3;rw[HPY.out]at HTK HMEM;have z0:=HGW.out.cell (Nat.lt_of_lt_of_le hb hBw) x0;have z1:=HGW.out.cell (Nat.lt_of_lt_of_le hb2 hBw) x1;have v0:=HGW.out.cell (Nat.lt_of_lt_of_le hb3 hBw) y0;have v1:=HGW.out.cell (Nat.lt_of_lt_of_le hb3 hBw) y1;have v2:=HGW.out.cell (Nat.lt_of_lt_of_le hb3 hBw) y2;have v3:=HGW.out.cell (Nat.lt_of_lt_of_le hb3 hBw) y3;obtain⟨yi,yt,yk,yv⟩:=y
     simp only at v0 v1 v2 v3 hs0 hs1 HTK HMEM
     have hpi0:(0:Int)<=(p:Int):=by omega
     have hpi1:(p:Int)<(l.length:Int):=by omega
     have hbw:b<wr.heap.size:=by have:=HGW.out.size;omega
     have hbw2:b2<wr.heap.size:=by have:=HGW.out.size;omega
     have hbw3:b3<wr.heap.size:=by have:=HGW.out.size;omega
     clear hv hv2 hv3 x0 x1 y0 y1 y2 y3 hy hp hsd hai HPG HPY
     by_cases hss:s=k
     ·have hne:((s:Int) != (k:Int))=false:=by simp[hss]
      obtain⟨R1,hR1⟩:∃ R1,(if tn then hB op yv (el+ad) else hB op el (yv+ad))=R1:=⟨_,rfl⟩
      have HA:=Hyd (show askT op ad el tn k (s,⟨yi,yt,yk,yv⟩)=R1 by unfold askT;rw[if_pos hss];exact hR1);have hwy:IntKind.i64.wrap (yv+ad)=yv+ad:=IntWalk.i64_in _ (by omega);have hwe:IntKind.i64.wrap (el+ad)=el+ad:=IntWalk.i64_in _ (by omega);go_wp2_with fail
      go_quiet (fail)
      obtain⟨wd,hwd⟩:∃ wd,wr.drewN nq=wd:=⟨_,rfl⟩
      rw[hwd];have HGD:=Hyd (show Grw wr wd by rw[<-hwd];exact(Grw.refl _).drewN _)
      have hzd:wr.heap.size<=wd.heap.size:=by rw[<-hwd];exact Nat.le_refl _
      clear hwd;have d0:=HGD.out.cell (show w.heap.size<wr.heap.size by omega) q0;have d2:=HGD.out.cell (show w.heap.size<wr.heap.size by omega) q2;have d3:=HGD.out.cell (show w.heap.size<wr.heap.size by omega) q3;have de:=HGD.out.cell (show w.heap.size+2<wr.heap.size by omega) qe;have dr0:=HGD.out.cell (show w.heap.size+1<wr.heap.size by omega) r0;have dz1:=HGD.out.cell hbw2 z1;have dv0:=HGD.out.cell hbw3 v0;have dv1:=HGD.out.cell hbw3 v1;have dv2:=HGD.out.cell hbw3 v2;have dv3:=HGD.out.cell hbw3 v3;clear q0 q1 q2 q3 qe r0 r1 z0 z1 v0 v1 v2 v3
      obtain⟨wb,hwb⟩:∃ wb,wb=wd.alloc (.cells #[.int .i64 yi,.int .i64 yt,.int .u8 yk,.int .i64 yv] 59):=⟨_,rfl⟩
      have HGB:=Hyd (show Grw wd wb by rw[hwb];exact(Grw.refl _).alloc _);have XY:=Hyd (show wb.heap[wd.heap.size]? = some (.cells #[.int .i64 yi,.int .i64 yt,.int .u8 yk,.int .i64 yv] 59 (0,0)) by rw[hwb];exact heap_new rfl);have HWB:=Hyd hwb;have HGQ:=Hyd (HGR.out.trans (HGD.out.trans HGB.out));clear hwb;have g0:=HGB.out.cell (show w.heap.size<wd.heap.size by omega) d0;have g2:=HGB.out.cell (show w.heap.size<wd.heap.size by omega) d2;have g3:=HGB.out.cell (show w.heap.size<wd.heap.size by omega) d3;have ge:=HGB.out.cell (show w.heap.size+2<wd.heap.size by omega) de;have gy:wb.cell? ⟨wd.heap.size,3,none⟩=some (.int .i64 yv):=(CeH XY.out 3).trans rfl;have HP:=Hyd (fun w=>holdsR op el (yv+ad) w);have HP2:=Hyd (fun w=>holdsR op yv (el+ad) w)
      go_upto_region 15 with (fail)
      rw[<-HWB.out];go_wp2_with fail;refine(HP.out _).mono ?_;rintro e1 w5 ⟨rfl,rfl⟩
      cases tn with
      | false =>
       rw[if_neg (by decide)]at hR1;rw[hR1]
       cases R1 with
       | false =>
        have HR:=Hyd (show R=false by
         rw[HE.out,List.all_eq_false]
         exact⟨_,HMEM.out,by rw[HA.out];decide⟩)
        clear hR1;go_wp2_with fail;go_ret;exact⟨by rw[HR.out];rfl,HG.out.trans HGQ.out⟩
       | true =>
        have HN:=Hyd (show ∀ y∈(pmM l m).take (i+1),askT op ad el false k y=true by
         rw[HTK.out];intro y hy
         rcases List.mem_append.1 hy with hy | hy
         ·exact HALL.out y hy
         ·rw[List.mem_singleton.1 hy];exact HA.out)
        clear hR1;go_wp2_with fail;go_roundw
        case rel=>exact⟨i+1,by omega,by go_num,HN.out,HGQ.out⟩
        case measure=>simp[intOf];omega
      | true =>
       rw[if_pos rfl]at hR1;go_wp2_with fail;refine(HP2.out _).mono ?_;rintro e1 w5 ⟨rfl,rfl⟩;rw[hR1]
       cases R1 with
       | false =>
        have HR:=Hyd (show R=false by
         rw[HE.out,List.all_eq_false]
         exact⟨_,HMEM.out,by rw[HA.out];decide⟩)
        clear hR1;go_wp2_with fail;go_ret;exact⟨by rw[HR.out];rfl,HG.out.trans HGQ.out⟩
       | true =>
        have HN:=Hyd (show ∀ y∈(pmM l m).take (i+1),askT op ad el true k y=true by
         rw[HTK.out];intro y hy
         rcases List.mem_append.1 hy with hy | hy
         ·exact HALL.out y hy
         ·rw[List.mem_singleton.1 hy];exact HA.out)
        clear hR1;go_wp2_with fail;go_roundw
        case rel=>exact⟨i+1,by omega,by go_num,HN.out,HGQ.out⟩
        case measure=>simp[intOf];omega
     ·have hne:((s:Int) != (k:Int))=true:=by simp;omega
      have HN:=Hyd (show ∀ y∈(pmM l m).take (i+1),askT op ad el tn k y=true by
       rw[HTK.out];intro y hy
       rcases List.mem_append.1 hy with hy | hy
       ·exact HALL.out y hy
       ·rw[List.mem_singleton.1 hy];unfold askT;rw[if_neg hss])
      go_wp2_with fail
      go_quiet (fail)
      have HGQ:=Hyd (HGR.out.drewN nq);go_wp2_with fail;go_roundw
      case rel=>exact⟨i+1,by omega,by go_num,HN.out,HGQ.out⟩
      case measure=>simp[intOf];omega
    ·obtain rfl:i=m.length:=by omega
     have HR:=Hyd (show R=true by
      rw[HE.out,List.all_eq_true];intro y hy
      exact HALL.out y (by rw[<-pm_len l m,List.take_length];exact hy))
     go_wp2_with fail;go_ret;exact⟨by rw[HR.out];rfl,HG.out.trans HGR.out⟩
theorem all21 (ts:List PT) (tv mv lv:Value) (m:Mt) (l:List Ev) (step B:Nat) (e:Ev) (w:World) (htv:TstAt w B tv ts) (ht:∀ t∈ts,OkT t) (hlen:ts.length<=1000000) (hm:MtAt w B mv m) (hl:Evs w B lv l) (hBw:B<=w.heap.size) (hok:OkM l m) (hst:step<=1000000) (he:Sm e.val) (hs:SmE l) :
  Calls Tryz.prog 45 #[tv,lv,mv,.int .i64 step,evV e] w fun en w'=>en=.returned (.bool (allP ts (pmM l m) step e))/\Grw w w':=by
 have mixed:Tryz.prog.follows .mixedOrders=true:=by kernel_rfl
 have HT1:=Hyd (fun(t:PT) (h:t∈ts) (w2:World) (g:Grw w w2)=>test21 t mv lv m l step B e w2 (ht t h) (hm.keep fun p hp=>g.below.cell (Nat.lt_of_lt_of_le hp hBw)) (Sl.keep hl fun p hp=>g.below.cell (Nat.lt_of_lt_of_le hp hBw)) (Nat.le_trans hBw g.size) hok hst he hs);obtain⟨va,vs,rfl,hma,hms⟩:=hm;obtain⟨aa,ac,rfl⟩:=hma.shape;obtain⟨sa,sc,rfl⟩:=hms.shape;obtain⟨la,lc,rfl⟩:=Sl.shape hl;obtain⟨ta,tc,rfl⟩:=Sl.shape htv;have HTV:=Hyd htv
 obtain⟨wa,hwa⟩:∃ wa,wa=(w.alloc (.cells #[.slice aa m.length ac,.slice sa m.length sc] 84)).alloc (.cells #[.int .i64 e.id,.int .i64 e.time,.int .u8 e.kind,.int .i64 e.val] 59):=⟨_,rfl⟩
 have hza:wa.heap.size=w.heap.size+2:=by rw[hwa];simp
 have HG:=Hyd (show Grw w wa by rw[hwa];exact((Grw.refl _).alloc _).alloc _);have XM:=Hyd (show wa.heap[w.heap.size]? = some (.cells #[.slice aa m.length ac,.slice sa m.length sc] 84 (0,0)) by rw[hwa];exact heap_alloc (heap_new rfl));have XE:=Hyd (show wa.heap[w.heap.size+1]? = some (.cells #[.int .i64 e.id,.int .i64 e.time,.int .u8 e.kind,.int .i64 e.val] 59 (0,0)) by rw[hwa];exact heap_new (by simp));have HWA:=Hyd hwa;have HE:=Hyd (show allP ts (pmM l m) step e=ts.all (fun t=>testP t (pmM l m) step e) from rfl)
 obtain⟨R,hR⟩:∃ R,allP ts (pmM l m) step e=R:=⟨_,rfl⟩
 rw[hR]at HE ⊢;clear hwa hma hms hl htv ht hok hs hR
 go_enter Tryz.func45,Tryz.ntmps45
 go_wp2_with fail;rw[<-HWA.out]
 go_loopw [11] (fun u wr=>∃ i:Nat,i<=ts.length/\u=.int .i64 i/\(∀ t∈ts.take i,testP t (pmM l m) step e=true)/\Grw wa wr) (fun u _=>ts.length-(intOf u).toNat)
 case atStart=>exact⟨0,by omega,rfl,by simp,Grw.refl _⟩
 case round =>
  obtain⟨i,hi,rfl,hall,hgr⟩:=hrel;have HALL:=Hyd hall;have HGR:=Hyd hgr;have HGW:=Hyd (HG.out.trans hgr);have hsz:=hgr.size;clear hall
  by_cases hlt:i<ts.length
  ·have hlt':(i:Int)<(ts.length:Int):=by omega
   have hi0:(0:Int)<=(i:Int):=by omega
   obtain⟨b,o,c,hv,hb,x0,x1,x2,x3⟩:=TstAt.at_ HTV.out hlt
   obtain⟨rfl,rfl⟩:ta=some ⟨b,o,none⟩/\tc=c:=by simpa using hv
   have HTK:=Hyd (List.take_succ_eq_append_getElem (l:=ts) (i:=i) hlt);have HMEM:=Hyd (List.getElem_mem hlt)
   obtain⟨t,htd⟩:∃ t,ts[i]=t:=⟨_,rfl⟩
   rw[htd]at x0 x1 x2 x3 HTK HMEM
   have hbw:b<wr.heap.size:=by have:=HGW.out.size;omega
   have z0:∀ n os,(grow (wr.drewN n) os).cell? ⟨b,o+i * 4,none⟩=some (.int .i64 t.op):=cell_grown hbw (HGW.out.cell (Nat.lt_of_lt_of_le hb hBw) x0)
   have z1:∀ n os,(grow (wr.drewN n) os).cell? ⟨b,o+i * 4+1,none⟩=some (.int .i64 t.step):=cell_grown hbw (HGW.out.cell (Nat.lt_of_lt_of_le hb hBw) x1)
   have z2:∀ n os,(grow (wr.drewN n) os).cell? ⟨b,o+i * 4+2,none⟩=some (.int .i64 t.add):=cell_grown hbw (HGW.out.cell (Nat.lt_of_lt_of_le hb hBw) x2)
   have z3:∀ n os,(grow (wr.drewN n) os).cell? ⟨b,o+i * 4+3,none⟩=some (.bool t.turn):=cell_grown hbw (HGW.out.cell (Nat.lt_of_lt_of_le hb hBw) x3)
   have y0:∀ n os,(grow (wr.drewN n) os).cell? ⟨w.heap.size,0,none⟩=some (.slice aa m.length ac):=cell_grown (show w.heap.size<wr.heap.size by omega) (hgr.cell (show w.heap.size<wa.heap.size by omega) ((CeH XM.out 0).trans rfl))
   have y1:∀ n os,(grow (wr.drewN n) os).cell? ⟨w.heap.size,1,none⟩=some (.slice sa m.length sc):=cell_grown (show w.heap.size<wr.heap.size by omega) (hgr.cell (show w.heap.size<wa.heap.size by omega) ((CeH XM.out 1).trans rfl))
   have v0:∀ n os,(grow (wr.drewN n) os).cell? ⟨w.heap.size+1,0,none⟩=some (.int .i64 e.id):=cell_grown (show w.heap.size+1<wr.heap.size by omega) (hgr.cell (show w.heap.size+1<wa.heap.size by omega) ((CeH XE.out 0).trans rfl))
   have v1:∀ n os,(grow (wr.drewN n) os).cell? ⟨w.heap.size+1,1,none⟩=some (.int .i64 e.time):=cell_grown (show w.heap.size+1<wr.heap.size by omega) (hgr.cell (show w.heap.size+1<wa.heap.size by omega) ((CeH XE.out 1).trans rfl))
   have v2:∀ n os,(grow (wr.drewN n) os).cell? ⟨w.heap.size+1,2,none⟩=some (.int .u8 e.kind):=cell_grown (show w.heap.size+1<wr.heap.size by omega) (hgr.cell (show w.heap.size+1<wa.heap.size by omega) ((CeH XE.out 2).trans rfl))
   have v3:∀ n os,(grow (wr.drewN n) os).cell? ⟨w.heap.size+1,3,none⟩=some (.int .i64 e.val):=cell_grown (show w.heap.size+1<wr.heap.size by omega) (hgr.cell (show w.heap.size+1<wa.heap.size by omega) ((CeH XE.out 3).trans rfl))
   obtain⟨R1,hR1⟩:∃ R1,testP t (pmM l m) step e=R1:=⟨_,rfl⟩
   have HQ:=Hyd (fun n os=>HT1.out t HMEM.out (grow (wr.drewN n) os) (HGW.out.trans ⟨n,os,rfl⟩));rw[hR1]at HQ;have HR1:=Hyd hR1;clear hv x0 x1 x2 x3 htd hgr hR1;go_wp2_with fail
   go_quiet_grown (first | (go_at_call 82;exact Grw.grown (HQ.out _ _)) | exact Grw.grown (HQ.out _ _))
   have HGQ:=Hyd (HGR.out.trans (show Grw wr (grow (wr.drewN nq) osq) from⟨nq,osq,rfl⟩));change Exit.then _ _ Exit.normal _ (grow (wr.drewN nq) osq);clear z0 z1 z2 z3 y0 y1 v0 v1 v2 v3 HQ;generalize grow (wr.drewN nq) osq=w' at *
   cases R1 with
   | false =>
    have HR:=Hyd (show R=false by
     rw[HE.out,List.all_eq_false]
     exact⟨t,HMEM.out,by rw[HR1.out];decide⟩)
    go_wp2_with fail;go_ret;exact⟨by rw[HR.out];rfl,HG.out.trans HGQ.out⟩
   | true =>
    have HN:=Hyd (show ∀ t∈ts.take (i+1),testP t (pmM l m) step e=true by
     rw[HTK.out];intro y hy
     rcases List.mem_append.1 hy with hy | hy
     ·exact HALL.out y hy
     ·rw[List.mem_singleton.1 hy];exact HR1.out)
    go_wp2_with fail;go_roundw
    case rel=>exact⟨i+1,by omega,by go_num,HN.out,HGQ.out⟩
    case measure=>simp[intOf];omega
  ·obtain rfl:i=ts.length:=by omega
   have HR:=Hyd (show R=true by
    rw[HE.out,List.all_eq_true];intro y hy
    exact HALL.out y (by rw[List.take_length];exact hy))
   clear hgr;go_wp2_with fail;go_ret;exact⟨by rw[HR.out];rfl,HG.out.trans HGR.out⟩
end Go.Proofs.YtcojnojdgigmdaaGreatDoor.WR
