/- The walk of the document's reader's step. -/
import Derived.Test.YtcojnojdgigmdaaGreatDoorB07
import Derived.Test.YtcojnojdgigmdaaGreatDoorB01
set_option maxHeartbeats 3200000
set_option maxRecDepth 100000
namespace Go.Proofs.YtcojnojdgigmdaaGreatDoor.WP
open Go.RowKit PP
theorem ret5_9 {p:Program} {f:Func} {Q:Ending->World->Prop} {ex:Exit} {act:Act} {w w5:World} {R B:Nat} {s:ByteArray} {st:S9} {t:TypeId} {c0 c1 c2 c3 c4 v0 v1 v2 v3 v4:Value}
  (hr:R9 w5 R s st) (hg:w.grownBy w5 (some R)) (hB:w5.heap[B]? = some (.cells #[c0,c1,c2,c3,c4] t (0,0))) (hRB:R≠B) (hwB:w.heap.size<=B)
  (h:∀ w9:World,w9.heap[B]? = some (.cells #[v0,v1,v2,v3,v4] t (0,0))->R9 w9 R s st->w.grownBy w9 (some R)->bodyPost p f Q ex act w9) :
  bodyPost p f Q ex act (((((w5.setCell ⟨B,0,none⟩ v0).setCell ⟨B,1,none⟩ v1).setCell ⟨B,2,none⟩ v2).setCell ⟨B,3,none⟩ v3).setCell ⟨B,4,none⟩ v4) :=
 h _ (blk_set (blk_set (blk_set (blk_set (blk_set hB 0 v0) 1 v1) 2 v2) 3 v3) 4 v4) (((((hr.set B 0 _ hRB).set B 1 _ hRB).set B 2 _ hRB).set B 3 _ hRB).set B 4 _ hRB) (grown_setNew (grown_setNew (grown_setNew (grown_setNew (grown_setNew hg B 0 _ hwB) B 1 _ hwB) B 2 _ hwB) B 3 _ hwB) B 4 _ hwB)
theorem goes_end {α:Type} (st:S9) (f:Nat->PR α) (v:α) (h:∀ a,f a=.inr (v,a)):Goes st f v st:=by
 rcases st with ⟨k,er,a⟩ | a
 ·exact⟨a,rfl⟩
 ·simp only[Goes]
  rw[h a];exact⟨rfl,rfl⟩
theorem goes_dead_any {α β:Type} {k:Nat} {er:Int} {a a':Nat} {p:Nat->PR α} {q:Nat->PR β} {v:α} {u:β} {st':S9} (h:Goes (.inl (k,er,a)) p v st'):Goes (.inl (k,er,a')) q u st':=h
theorem step9 (R:Nat) (s:ByteArray) (st:S9) (n:Nat) (w:World) (h:R9 w R s st) (hs:s.size<=4096) (hn:n<=8) :
  Calls Tryz.prog 56 #[.pointer (some ⟨R,0,none⟩),.int .i64 n] w (Post9 R s stpV w st (fun a=>pStep s.data.toList a n)):=by
 obtain⟨w2,hw2⟩:∃ w2,w2=(w.alloc (.cells #[.int .u8 0,.int .u8 0,.bool false,.int .i64 0,.int .i64 0] 126)).alloc (.cells #[.int .u8 0,.int .u8 0,.bool false,.int .i64 1,.int .i64 1] 126):=⟨_,rfl⟩
 have hR2:R9 w2 R s st:=by rw[hw2];exact(h.alloc _).alloc _
 have hRlt:=h.lt;have HB2:=Hyd (show w2.heap[w.heap.size]? = some (.cells #[.int .u8 0,.int .u8 0,.bool false,.int .i64 0,.int .i64 0] 126 (0,0)) by rw[hw2];exact blk_alloc (blk_new w _) _);have HC2:=Hyd (show w2.heap[w.heap.size+1]? = some (.cells #[.int .u8 0,.int .u8 0,.bool false,.int .i64 1,.int .i64 1] 126 (0,0)) by rw[hw2];exact Mem.heap_new (by simp));have HG2:=Hyd (show w.grownBy w2 (some R) by rw[hw2];exact grown_trans (grown_alloc _ _ _) (grown_alloc _ _ _));have HR2:=Hyd hR2;obtain⟨-,r1,-,-,-,-,-,-⟩:=cells4 hR2.blk;rw[hw2]at r1
 have hRC:R<w.heap.size+1:=by omega
 clear hR2 h
 go_enter Tryz.func56,Tryz.ntmps56
 have ho:∀ (w':World) (st:S9) (lo hi:Nat),R9 w' R s st->Calls Tryz.prog 58 #[.pointer (some ⟨R,0,none⟩),.int .u8 lo,.int .u8 hi] w' (Post9 R s (fun b:Nat=>.int .u8 b) w' st (fun a=>pOne s.data.toList a lo hi)):=fun w' st lo hi h=>take9 R s st lo hi w' h hs
 have Ho:=Hyd ho;clear ho;go_wp2_with fail;rw[<-hw2];have Hn:=Hyd (next9 R s st 33 33 w2 HR2.out hs)
 obtain⟨neg,hneg⟩:∃ b,b=nextB s.data.toList st 33 33:=⟨_,rfl⟩
 rw[<-hneg]at Hn;have Hneg:=Hyd hneg;clear hneg;refine Hn.out.mono ?_;rintro e w3 ⟨rfl,n3,rfl⟩;clear r1 Hn
 have hwC:w.heap.size<=w.heap.size+1:=by omega
 have hBC:w.heap.size≠w.heap.size+1:=by omega
 generalize hCe:w.heap.size+1=C at *;generalize hBe:w.heap.size=B at *
 have hRC':R≠C:=by omega
 have hRB':R≠B:=by omega
 have hBC':B≠C:=by omega
 have hwC':w.heap.size<=C:=by omega
 have hwB':w.heap.size<=B:=by omega
 have HC3:=Hyd (show(w2.drewN n3).heap[C]? = _ from HC2.out);have HB3:=Hyd (show(w2.drewN n3).heap[B]? = _ from HB2.out);have HG3:=Hyd (grown_trans HG2.out (grown_drewN w2 n3 _));have HR3:=Hyd (HR2.out.drewN n3)
 obtain⟨at0,hat0⟩:∃ x,x=st.at:=⟨_,rfl⟩
 rw[<-hat0];have Hat:=Hyd hat0;clear hat0;clear HC2 HB2 HG2 HR2 hw2;generalize w2.drewN n3=w3 at *;obtain⟨k0,k1,k2,k3,k4,k5,k6,k7,k8,k9⟩:=cells5 HC3.out;have HC4:=Hyd (blk_set HC3.out 2 (.bool neg));have HB4:=Hyd (blk_other HB3.out C 2 (.bool neg) hBC');have HG4:=Hyd (grown_setNew HG3.out C 2 (.bool neg) hwC');have HR4:=Hyd (HR3.out.set C 2 (.bool neg) hRC')
 cases neg with
 | true =>
  obtain⟨a,rfl⟩:=nextB_alive Hneg.out.symm;have hib:pHas s.data.toList a 33=true:=inB_has.symm.trans Hneg.out.symm;have Hib:=Hyd hib;clear hib
  by_cases h8:n=8
  case' pos =>
   have h8':(8:Int)<=n:=by omega
   have H8:=Hyd h8;clear h8;go_wp2_with fail;refine(take9_has R s a 33 33 33 _ HR4.out hs Hib.out (by decide) (by decide)).mono ?_;rintro e w5 ⟨rfl,hr5,hg5⟩;have HC5:=Hyd (blk_grown HC4.out hg5 hRC');have HB5:=Hyd (blk_grown HB4.out hg5 hRB');have HG5:=Hyd (grown_trans HG4.out hg5);have HR5:=Hyd hr5;clear hr5 hg5;go_wp2_with fail;refine(fail9_alive R s (a+1) at0 24 w5 HR5.out (by decide)).mono ?_;rintro e w6 ⟨rfl,hr6,hg6⟩;have HC6:=Hyd (blk_grown HC5.out hg6 hRC');have HB6:=Hyd (blk_grown HB5.out hg6 hRB');have HG6:=Hyd (grown_trans HG5.out hg6);have HR6:=Hyd hr6;clear hr6 hg6;go_wp2_with fail;refine(Ho.out _ _ 65 90 HR6.out).mono ?_;rintro e w7 ⟨x1,st7,rfl,hr7,hg7,hgo7⟩;have HC7:=Hyd (blk_grown HC6.out hg7 hRC');have HB7:=Hyd (blk_grown HB6.out hg7 hRB');have HG7:=Hyd (grown_trans HG6.out hg7)
   have HR7:=Hyd hr7;clear hr7 hg7;clear k0 k1 k2 k3 k4 k5 k6 k7 k8 k9;obtain⟨k0,k1,k2,k3,k4,k5,k6,k7,k8,k9⟩:=cells5 HC7.out;have HC8:=Hyd (blk_set HC7.out 0 (.int .u8 x1));have HB8:=Hyd (blk_other HB7.out C 0 (.int .u8 x1) hBC');have HG8:=Hyd (grown_setNew HG7.out C 0 (.int .u8 x1) hwC');have HR8:=Hyd (HR7.out.set C 0 (.int .u8 x1) hRC');go_wp2_with fail;refine(fail9 R s st7 at0 24 _ HR8.out (by decide)).mono ?_;rintro e w9 ⟨stX,rfl,hr9,hg9,hgo9⟩;have HC9:=Hyd (blk_grown HC8.out hg9 hRC');have HB9:=Hyd (blk_grown HB8.out hg9 hRB');have HG9:=Hyd (grown_trans HG8.out hg9);have HR9:=Hyd hr9;clear hr9 hg9
   have HGO:Hid (∀ v st',Goes stX (pSt s.data.toList x1 true) v st' -> Goes (.inr a) (fun a=>pStep s.data.toList a n) v st'):=Hyd (by
    intro v st' hh;obtain⟨a7,rfl⟩:=hgo7;obtain⟨a9,rfl⟩:=hgo9 ();obtain⟨a',rfl⟩:=hh
    have hp:pStep s.data.toList a n=.inl (a,24):=by unfold pStep;rw[if_pos H8.out,if_pos Hib.out]
    simp only[Goes]
    rw[hp,show at0=a from Hat.out]
    exact⟨a',rfl⟩)
   clear hgo7 hgo9;clear HC3 HB3 HG3 HR3 HC4 HB4 HG4 HR4 HC5 HB5 HG5 HR5 HC6 HB6 HG6 HR6 HC7 HB7 HG7 HR7 HC8 HB8 HG8 HR8;clear k0 k1 k2 k3 k4 k5 k6 k7 k8 k9;go_wp2_with fail
  case' neg =>
   have h8':(n:Int)<8:=by omega
   have H8:=Hyd h8;clear h8;go_wp2_with fail;refine(take9_has R s a 33 33 33 _ HR4.out hs Hib.out (by decide) (by decide)).mono ?_;rintro e w5 ⟨rfl,hr5,hg5⟩;have HC5:=Hyd (blk_grown HC4.out hg5 hRC');have HB5:=Hyd (blk_grown HB4.out hg5 hRB');have HG5:=Hyd (grown_trans HG4.out hg5);have HR5:=Hyd hr5;clear hr5 hg5;go_wp2_with fail;refine(Ho.out _ _ 65 90 HR5.out).mono ?_;rintro e w7 ⟨x1,st7,rfl,hr7,hg7,hgo7⟩;have HC7:=Hyd (blk_grown HC5.out hg7 hRC');have HB7:=Hyd (blk_grown HB5.out hg7 hRB');have HG7:=Hyd (grown_trans HG5.out hg7);have HR7:=Hyd hr7;clear hr7 hg7;clear k0 k1 k2 k3 k4 k5 k6 k7 k8 k9;obtain⟨k0,k1,k2,k3,k4,k5,k6,k7,k8,k9⟩:=cells5 HC7.out;have HC8:=Hyd (blk_set HC7.out 0 (.int .u8 x1));have HB8:=Hyd (blk_other HB7.out C 0 (.int .u8 x1) hBC');have HG8:=Hyd (grown_setNew HG7.out C 0 (.int .u8 x1) hwC')
   have HR8:=Hyd (HR7.out.set C 0 (.int .u8 x1) hRC');go_wp2_with fail;have HC9:=HC8;have HB9:=HB8;have HG9:=HG8;have HR9:=HR8;clear HC8 HB8 HG8 HR8;generalize w7.setCell ⟨C,0,none⟩ (.int .u8 x1)=w9 at *
   have HGO:Hid (∀ v st',Goes st7 (pSt s.data.toList x1 true) v st' -> Goes (.inr a) (fun a=>pStep s.data.toList a n) v st'):=Hyd (by
    intro v st' hh
    have hp:pStep s.data.toList a n=(pOne s.data.toList (a+1) 65 90).bind fun k a1=>pSt s.data.toList k true a1:=by
     rw[pStep_tl _ _ _ H8.out];unfold pHasR;rw[Hib.out]
     rfl
    have hq:=hgo7.bind (q:=fun k a1=>pSt s.data.toList k true a1) hh
    simp only[Goes]at hq ⊢
    rw[hp]
    exact hq)
   clear hgo7;generalize st7=stX at *;clear HC3 HB3 HG3 HR3 HC4 HB4 HG4 HR4 HC5 HB5 HG5 HR5 HC7 HB7 HG7 HR7;clear k0 k1 k2 k3 k4 k5 k6 k7 k8 k9
  all_goals
   refine(Ho.out _ stX 32 32 HR9.out).mono ?_;rintro e w10 ⟨x10,st10,rfl,hr10,hg10,hgo10⟩;have HC10:=Hyd (blk_grown HC9.out hg10 hRC');have HB10:=Hyd (blk_grown HB9.out hg10 hRB');have HG10:=Hyd (grown_trans HG9.out hg10);have HR10:=Hyd hr10;clear hr10 hg10
   have HGOa:Hid (∀ v st',Goes st10 (fun a2=>(pOne s.data.toList a2 97 122).bind fun nm a3=>pSt1 s.data.toList x1 true nm a3) v st' -> Goes _ (fun a=>pStep s.data.toList a n) v st'):=Hyd fun v st' hh=>HGO.out v st' (hgo10.bind (q:=fun _ a2=>(pOne s.data.toList a2 97 122).bind fun nm a3=>pSt1 s.data.toList x1 true nm a3) hh)
   clear hgo10 HGO;go_wp2_with fail;refine(Ho.out _ st10 97 122 HR10.out).mono ?_;rintro e w11 ⟨x2,st11,rfl,hr11,hg11,hgo11⟩;have HC11:=Hyd (blk_grown HC10.out hg11 hRC');have HB11:=Hyd (blk_grown HB10.out hg11 hRB');have HG11:=Hyd (grown_trans HG10.out hg11);have HR11:=Hyd hr11;clear hr11 hg11
   have HGOb:Hid (∀ v st',Goes st11 (fun a3=>pSt1 s.data.toList x1 true x2 a3) v st' -> Goes _ (fun a=>pStep s.data.toList a n) v st'):=Hyd fun v st' hh=>HGOa.out v st' (hgo11.bind (q:=fun nm a3=>pSt1 s.data.toList x1 true nm a3) hh)
   clear hgo11 HGOa;obtain⟨k0,k1,k2,k3,k4,k5,k6,k7,k8,k9⟩:=cells5 HC11.out;have HC12:=Hyd (blk_set HC11.out 1 (.int .u8 x2));have HB12:=Hyd (blk_other HB11.out C 1 (.int .u8 x2) hBC');have HG12:=Hyd (grown_setNew HG11.out C 1 (.int .u8 x2) hwC');have HR12:=Hyd (HR11.out.set C 1 (.int .u8 x2) hRC');obtain⟨-,r1,-,-,-,-,-,-⟩:=cells4 HR12.out.blk
   obtain⟨op,hop⟩:∃ x,x=st11.at:=⟨_,rfl⟩
   rw[<-hop]at r1;have Hop:=Hyd hop;clear hop;go_wp2_with fail;clear HC9 HB9 HG9 HR9 HC10 HB10 HG10 HR10 HC11 HB11 HG11 HR11;clear k0 k1 k2 k3 k4 k5 k6 k7 k8 k9;generalize w11.setCell ⟨C,1,none⟩ (.int .u8 x2)=w12 at *;have Hn:=Hyd (next9 R s st11 123 123 w12 HR12.out hs);refine(next9 R s st11 123 123 w12 HR12.out hs).mono ?_;rintro e w13 ⟨rfl,n13,rfl⟩;clear Hn r1;have HC13:=Hyd (show(w12.drewN n13).heap[C]? = _ from HC12.out);have HB13:=Hyd (show(w12.drewN n13).heap[B]? = _ from HB12.out);have HG13:=Hyd (grown_trans HG12.out (grown_drewN w12 n13 _));have HR13:=Hyd (HR12.out.drewN n13);clear HC12 HB12 HG12 HR12;generalize w12.drewN n13=w13 at *
   cases hb:nextB s.data.toList st11 123 123 with
   | false =>
    have Hq:=Hyd (show Goes st11 (fun a3=>pSt1 s.data.toList x1 true x2 a3) ⟨x1,x2,true,1,1⟩ st11 by
     rcases st11 with ⟨k',er',a'⟩ | a3
     ·exact⟨a',rfl⟩
     ·have q:pHas s.data.toList a3 123=false:=inB_has.symm.trans hb
      simp only[Goes,pSt1]
      rw[q]
      exact⟨rfl,rfl⟩)
    clear hb;obtain⟨k0,k1,k2,k3,k4,k5,k6,k7,k8,k9⟩:=cells5 HC13.out;obtain⟨j0,j1,j2,j3,j4,j5,j6,j7,j8,j9⟩:=cells5 HB13.out;go_wp2_with fail
    refine ret5_9 HR13.out HG13.out HB13.out hRB' hwB' fun w9 hB9 hr9 hg9=>?_
    obtain⟨m0,m1,m2,m3,m4,-,-,-,-,-⟩:=cells5 hB9;refine bodyPost_ret (by simp[results,Tryz.results56,go_sem,m0,m1,m2,m3,m4];try rfl) rfl ?_;refine⟨⟨x1,x2,true,1,1⟩,_,rfl,hr9,hg9,HGOb.out _ _ Hq.out⟩
   | true =>
    obtain⟨a3,rfl⟩:=nextB_alive hb;have hib:pHas s.data.toList a3 123=true:=inB_has.symm.trans hb;have Hib:=Hyd hib;clear hb hib;go_wp2_with fail;refine(take9_has R s a3 123 123 123 _ HR13.out hs Hib.out (by decide) (by decide)).mono ?_;rintro e w14 ⟨rfl,hr14,hg14⟩;have HC14:=Hyd (blk_grown HC13.out hg14 hRC');have HB14:=Hyd (blk_grown HB13.out hg14 hRB');have HG14:=Hyd (grown_trans HG13.out hg14);have HR14:=Hyd hr14;clear hr14 hg14;obtain⟨k0,k1,k2,k3,k4,k5,k6,k7,k8,k9⟩:=cells5 HC14.out;obtain⟨j0,j1,j2,j3,j4,j5,j6,j7,j8,j9⟩:=cells5 HB14.out;go_wp2_with fail;refine(fail9_alive R s (a3+1) op 22 _ HR14.out (by decide)).mono ?_;rintro e w15 ⟨rfl,hr15,hg15⟩;have HC15:=Hyd (blk_grown HC14.out hg15 hRC');have HB15:=Hyd (blk_grown HB14.out hg15 hRB');have HG15:=Hyd (grown_trans HG14.out hg15)
    have HR15:=Hyd hr15;clear hr15 hg15;clear k0 k1 k2 k3 k4 k5 k6 k7 k8 k9;clear j0 j1 j2 j3 j4 j5 j6 j7 j8 j9;obtain⟨k0,k1,k2,k3,k4,k5,k6,k7,k8,k9⟩:=cells5 HC15.out;obtain⟨j0,j1,j2,j3,j4,j5,j6,j7,j8,j9⟩:=cells5 HB15.out;go_wp2_with fail
    refine ret5_9 HR15.out HG15.out HB15.out hRB' hwB' fun w9 hB9 hr9 hg9=>?_
    obtain⟨m0,m1,m2,m3,m4,-,-,-,-,-⟩:=cells5 hB9;refine bodyPost_ret (by simp[results,Tryz.results56,go_sem,m0,m1,m2,m3,m4];try rfl) rfl ?_;refine⟨⟨x1,x2,true,1,1⟩,_,rfl,hr9,hg9,HGOb.out _ _ ?_⟩
    simp only[Goes,pSt1]
    rw[Hib.out,show op=a3 from Hop.out];exact⟨a3+1,rfl⟩
 | false =>
  by_cases h8:n=8
  case' pos =>
   have h8':(8:Int)<=n:=by omega
   have H8:=Hyd h8;clear h8;go_wp2_with fail;refine(Ho.out _ _ 65 90 HR4.out).mono ?_;rintro e w7 ⟨x1,st7,rfl,hr7,hg7,hgo7⟩;have HC7:=Hyd (blk_grown HC4.out hg7 hRC');have HB7:=Hyd (blk_grown HB4.out hg7 hRB');have HG7:=Hyd (grown_trans HG4.out hg7);have HR7:=Hyd hr7;clear hr7 hg7;clear k0 k1 k2 k3 k4 k5 k6 k7 k8 k9;obtain⟨k0,k1,k2,k3,k4,k5,k6,k7,k8,k9⟩:=cells5 HC7.out;have HC8:=Hyd (blk_set HC7.out 0 (.int .u8 x1));have HB8:=Hyd (blk_other HB7.out C 0 (.int .u8 x1) hBC');have HG8:=Hyd (grown_setNew HG7.out C 0 (.int .u8 x1) hwC');have HR8:=Hyd (HR7.out.set C 0 (.int .u8 x1) hRC');go_wp2_with fail;refine(fail9 R s st7 at0 24 _ HR8.out (by decide)).mono ?_;rintro e w9 ⟨stX,rfl,hr9,hg9,hgo9⟩;have HC9:=Hyd (blk_grown HC8.out hg9 hRC');have HB9:=Hyd (blk_grown HB8.out hg9 hRB')
   have HG9:=Hyd (grown_trans HG8.out hg9);have HR9:=Hyd hr9;clear hr9 hg9
   have HGO:Hid (∀ v st',Goes stX (pSt s.data.toList x1 false) v st' -> Goes st (fun a=>pStep s.data.toList a n) v st'):=Hyd (by
    intro v st' hh
    rcases st with ⟨k,er,a⟩ | a
    ·obtain⟨a1,rfl⟩:=hgo7;obtain⟨a2,rfl⟩:=hgo9 ();exact hh
    ·have hq:pHas s.data.toList a 33=false:=inB_has.symm.trans Hneg.out.symm
     have hp:pStep s.data.toList a n=(pOne s.data.toList a 65 90).bind fun _ _=>.inl (a,24):=by unfold pStep;rw[if_pos H8.out,hq];rfl
     have ha:at0=a:=Hat.out;subst ha
     simp only[Goes]at hgo7 ⊢
     rw[hp]
     cases hx:pOne s.data.toList at0 65 90 with
     | inl f =>
      obtain⟨k,er⟩:=f;rw[hx]at hgo7;obtain⟨a1,rfl⟩:=hgo7;obtain⟨a2,rfl⟩:=hgo9 ();exact hh
     | inr f =>
      obtain⟨x0,a1⟩:=f;rw[hx]at hgo7;obtain⟨rfl,rfl⟩:=hgo7;obtain⟨a2,rfl⟩:=hgo9 ()
      exact hh)
   clear hgo7 hgo9;clear HC3 HB3 HG3 HR3 HC4 HB4 HG4 HR4 HC7 HB7 HG7 HR7 HC8 HB8 HG8 HR8;clear k0 k1 k2 k3 k4 k5 k6 k7 k8 k9;go_wp2_with fail
  case' neg =>
   have h8':(n:Int)<8:=by omega
   have H8:=Hyd h8;clear h8;go_wp2_with fail;refine(Ho.out _ _ 65 90 HR4.out).mono ?_;rintro e w7 ⟨x1,st7,rfl,hr7,hg7,hgo7⟩;have HC7:=Hyd (blk_grown HC4.out hg7 hRC');have HB7:=Hyd (blk_grown HB4.out hg7 hRB');have HG7:=Hyd (grown_trans HG4.out hg7);have HR7:=Hyd hr7;clear hr7 hg7;clear k0 k1 k2 k3 k4 k5 k6 k7 k8 k9;obtain⟨k0,k1,k2,k3,k4,k5,k6,k7,k8,k9⟩:=cells5 HC7.out;have HC8:=Hyd (blk_set HC7.out 0 (.int .u8 x1));have HB8:=Hyd (blk_other HB7.out C 0 (.int .u8 x1) hBC');have HG8:=Hyd (grown_setNew HG7.out C 0 (.int .u8 x1) hwC');have HR8:=Hyd (HR7.out.set C 0 (.int .u8 x1) hRC');go_wp2_with fail;have HC9:=HC8;have HB9:=HB8;have HG9:=HG8;have HR9:=HR8;clear HC8 HB8 HG8 HR8;generalize w7.setCell ⟨C,0,none⟩ (.int .u8 x1)=w9 at *
   have HGO:Hid (∀ v st',Goes st7 (pSt s.data.toList x1 false) v st' -> Goes st (fun a=>pStep s.data.toList a n) v st'):=Hyd (by
    intro v st' hh
    refine(hgo7.bind (q:=fun k a1=>pSt s.data.toList k false a1) hh).eq fun a he=>?_
    subst he;have hq:pHas s.data.toList a 33=false:=inB_has.symm.trans Hneg.out.symm;rw[pStep_tl _ _ _ H8.out];unfold pHasR;rw[hq]
    rfl)
   clear hgo7;generalize st7=stX at *;clear HC3 HB3 HG3 HR3 HC4 HB4 HG4 HR4 HC7 HB7 HG7 HR7;clear k0 k1 k2 k3 k4 k5 k6 k7 k8 k9
  all_goals
   refine(Ho.out _ stX 32 32 HR9.out).mono ?_;rintro e w10 ⟨x10,st10,rfl,hr10,hg10,hgo10⟩;have HC10:=Hyd (blk_grown HC9.out hg10 hRC');have HB10:=Hyd (blk_grown HB9.out hg10 hRB');have HG10:=Hyd (grown_trans HG9.out hg10);have HR10:=Hyd hr10;clear hr10 hg10
   have HGOa:Hid (∀ v st',Goes st10 (fun a2=>(pOne s.data.toList a2 97 122).bind fun nm a3=>pSt1 s.data.toList x1 false nm a3) v st' -> Goes _ (fun a=>pStep s.data.toList a n) v st'):=Hyd fun v st' hh=>HGO.out v st' (hgo10.bind (q:=fun _ a2=>(pOne s.data.toList a2 97 122).bind fun nm a3=>pSt1 s.data.toList x1 false nm a3) hh)
   clear hgo10 HGO;go_wp2_with fail;refine(Ho.out _ st10 97 122 HR10.out).mono ?_;rintro e w11 ⟨x2,st11,rfl,hr11,hg11,hgo11⟩;have HC11:=Hyd (blk_grown HC10.out hg11 hRC');have HB11:=Hyd (blk_grown HB10.out hg11 hRB');have HG11:=Hyd (grown_trans HG10.out hg11);have HR11:=Hyd hr11;clear hr11 hg11
   have HGOb:Hid (∀ v st',Goes st11 (fun a3=>pSt1 s.data.toList x1 false x2 a3) v st' -> Goes _ (fun a=>pStep s.data.toList a n) v st'):=Hyd fun v st' hh=>HGOa.out v st' (hgo11.bind (q:=fun nm a3=>pSt1 s.data.toList x1 false nm a3) hh)
   clear hgo11 HGOa;obtain⟨k0,k1,k2,k3,k4,k5,k6,k7,k8,k9⟩:=cells5 HC11.out;have HC12:=Hyd (blk_set HC11.out 1 (.int .u8 x2));have HB12:=Hyd (blk_other HB11.out C 1 (.int .u8 x2) hBC');have HG12:=Hyd (grown_setNew HG11.out C 1 (.int .u8 x2) hwC');have HR12:=Hyd (HR11.out.set C 1 (.int .u8 x2) hRC');obtain⟨-,r1,-,-,-,-,-,-⟩:=cells4 HR12.out.blk
   obtain⟨op,hop⟩:∃ x,x=st11.at:=⟨_,rfl⟩
   rw[<-hop]at r1;have Hop:=Hyd hop;clear hop;go_wp2_with fail;clear HC9 HB9 HG9 HR9 HC10 HB10 HG10 HR10 HC11 HB11 HG11 HR11;clear k0 k1 k2 k3 k4 k5 k6 k7 k8 k9;generalize w11.setCell ⟨C,1,none⟩ (.int .u8 x2)=w12 at *;have Hn:=Hyd (next9 R s st11 123 123 w12 HR12.out hs);refine(next9 R s st11 123 123 w12 HR12.out hs).mono ?_;rintro e w13 ⟨rfl,n13,rfl⟩;clear Hn r1;have HC13:=Hyd (show(w12.drewN n13).heap[C]? = _ from HC12.out);have HB13:=Hyd (show(w12.drewN n13).heap[B]? = _ from HB12.out);have HG13:=Hyd (grown_trans HG12.out (grown_drewN w12 n13 _));have HR13:=Hyd (HR12.out.drewN n13);clear HC12 HB12 HG12 HR12;generalize w12.drewN n13=w13 at *
   cases hb:nextB s.data.toList st11 123 123 with
   | false =>
    have Hq:=Hyd (show Goes st11 (fun a3=>pSt1 s.data.toList x1 false x2 a3) ⟨x1,x2,false,1,1⟩ st11 by
     rcases st11 with ⟨k',er',a'⟩ | a3
     ·exact⟨a',rfl⟩
     ·have q:pHas s.data.toList a3 123=false:=inB_has.symm.trans hb
      simp only[Goes,pSt1]
      rw[q]
      exact⟨rfl,rfl⟩)
    clear hb;obtain⟨k0,k1,k2,k3,k4,k5,k6,k7,k8,k9⟩:=cells5 HC13.out;obtain⟨j0,j1,j2,j3,j4,j5,j6,j7,j8,j9⟩:=cells5 HB13.out;go_wp2_with fail
    refine ret5_9 HR13.out HG13.out HB13.out hRB' hwB' fun w9 hB9 hr9 hg9=>?_
    obtain⟨m0,m1,m2,m3,m4,-,-,-,-,-⟩:=cells5 hB9;refine bodyPost_ret (by simp[results,Tryz.results56,go_sem,m0,m1,m2,m3,m4];try rfl) rfl ?_;refine⟨⟨x1,x2,false,1,1⟩,_,rfl,hr9,hg9,HGOb.out _ _ Hq.out⟩
   | true =>
    obtain⟨a3,rfl⟩:=nextB_alive hb;have hib:pHas s.data.toList a3 123=true:=inB_has.symm.trans hb;have Hib:=Hyd hib;clear hb hib;go_wp2_with fail;refine(take9_has R s a3 123 123 123 _ HR13.out hs Hib.out (by decide) (by decide)).mono ?_;rintro e w14 ⟨rfl,hr14,hg14⟩;have HC14:=Hyd (blk_grown HC13.out hg14 hRC');have HB14:=Hyd (blk_grown HB13.out hg14 hRB');have HG14:=Hyd (grown_trans HG13.out hg14);have HR14:=Hyd hr14;clear hr14 hg14;obtain⟨k0,k1,k2,k3,k4,k5,k6,k7,k8,k9⟩:=cells5 HC14.out;obtain⟨j0,j1,j2,j3,j4,j5,j6,j7,j8,j9⟩:=cells5 HB14.out
    have HGOc:Hid (∀ v st',Goes (.inr (a3+1)) (pSt2 s.data.toList a3 x1 x2) v st' -> Goes _ (fun a=>pStep s.data.toList a n) v st'):=Hyd fun v st' hh=>HGOb.out v st' (by
     simp only[Goes,pSt1]at hh ⊢
     rw[Hib.out]
     exact hh)
    clear HGOb;go_wp2_with fail;refine(number9 R s _ 48 _ HR14.out hs (by decide)).mono ?_;rintro e w15 ⟨lo,st15,hlo,rfl,hr15,hg15,hgo15⟩;have HC15:=Hyd (blk_grown HC14.out hg15 hRC');have HB15:=Hyd (blk_grown HB14.out hg15 hRB');have HG15:=Hyd (grown_trans HG14.out hg15);have HR15:=Hyd hr15;clear hr15 hg15;have HGOd:=Hyd (fun v st' hh=>HGOc.out v st' (hgo15.bind (q:=fun lo a4=>(pOne s.data.toList a4 44 44).bind fun _ a5=>(pNum s.data.toList a5 48).bind fun hi a6=>(pOne s.data.toList a6 125 125).bind fun _ a7=>pSt3 a3 x1 x2 lo hi a7) hh));clear hgo15 HGOc;go_wp2_with fail;refine(Ho.out _ st15 44 44 HR15.out).mono ?_;rintro e w16 ⟨x16,st16,rfl,hr16,hg16,hgo16⟩;have HC16:=Hyd (blk_grown HC15.out hg16 hRC');have HB16:=Hyd (blk_grown HB15.out hg16 hRB');have HG16:=Hyd (grown_trans HG15.out hg16);have HR16:=Hyd hr16
    clear hr16 hg16;have HGOe:=Hyd (fun v st' hh=>HGOd.out v st' (hgo16.bind (q:=fun _ a5=>(pNum s.data.toList a5 48).bind fun hi a6=>(pOne s.data.toList a6 125 125).bind fun _ a7=>pSt3 a3 x1 x2 lo hi a7) hh));clear hgo16 HGOd;go_wp2_with fail;refine(number9 R s _ 48 _ HR16.out hs (by decide)).mono ?_;rintro e w17 ⟨hi,st17,hhi,rfl,hr17,hg17,hgo17⟩;have HC17:=Hyd (blk_grown HC16.out hg17 hRC');have HB17:=Hyd (blk_grown HB16.out hg17 hRB');have HG17:=Hyd (grown_trans HG16.out hg17);have HR17:=Hyd hr17;clear hr17 hg17;have HGOf:=Hyd (fun v st' hh=>HGOe.out v st' (hgo17.bind (q:=fun hi a6=>(pOne s.data.toList a6 125 125).bind fun _ a7=>pSt3 a3 x1 x2 lo hi a7) hh));clear hgo17 HGOe;go_wp2_with fail;refine(Ho.out _ st17 125 125 HR17.out).mono ?_;rintro e w18 ⟨x18,st18,rfl,hr18,hg18,hgo18⟩;have HC18:=Hyd (blk_grown HC17.out hg18 hRC')
    have HB18:=Hyd (blk_grown HB17.out hg18 hRB');have HG18:=Hyd (grown_trans HG17.out hg18);have HR18:=Hyd hr18;clear hr18 hg18;have HGOg:=Hyd (fun v st' hh=>HGOf.out v st' (hgo18.bind (q:=fun _ a7=>pSt3 a3 x1 x2 lo hi a7) hh));clear hgo18 HGOf;clear k0 k1 k2 k3 k4 k5 k6 k7 k8 k9;clear j0 j1 j2 j3 j4 j5 j6 j7 j8 j9;clear HC13 HB13 HG13 HR13 HC14 HB14 HG14 HR14 HC15 HB15 HG15 HR15 HC16 HB16 HG16 HR16 HC17 HB17 HG17 HR17
    by_cases hbad:lo<1 \/ hi<lo \/ 4<hi \/ hi=1
    ·have Hbad:=Hyd hbad
     rcases Nat.lt_or_ge lo 1 with q1 | q1
     ·have q1':(lo:Int)<1:=by omega
      clear q1 hbad;go_wp2_with fail;refine(fail9 R s st18 op 22 _ HR18.out (by decide)).mono ?_;rintro e w19 ⟨st19,rfl,hr19,hg19,hgo19⟩;have HC19:=Hyd (blk_grown HC18.out hg19 hRC');have HB19:=Hyd (blk_grown HB18.out hg19 hRB');have HG19:=Hyd (grown_trans HG18.out hg19);have HR19:=Hyd hr19;clear hr19 hg19;obtain⟨k0,k1,k2,k3,k4,k5,k6,k7,k8,k9⟩:=cells5 HC19.out;obtain⟨j0,j1,j2,j3,j4,j5,j6,j7,j8,j9⟩:=cells5 HB19.out;go_wp2_with fail
      refine ret5_9 HR19.out HG19.out HB19.out hRB' hwB' fun w9 hB9 hr9 hg9=>?_
      obtain⟨m0,m1,m2,m3,m4,-,-,-,-,-⟩:=cells5 hB9;refine bodyPost_ret (by simp[results,Tryz.results56,go_sem,m0,m1,m2,m3,m4];try rfl) rfl ?_;refine⟨⟨x1,x2,false,1,1⟩,_,rfl,hr9,hg9,HGOg.out _ _ ?_⟩
      rcases st18 with ⟨k',er',a'⟩ | a'
      ·exact hgo19 ()
      ·obtain⟨a'',h19⟩:=hgo19 ()
       simp only[Goes,pSt3]
       rw[if_pos Hbad.out,<-show op=a3 from Hop.out];exact⟨a'',h19⟩
     have q1':(1:Int)<=lo:=by omega
     rcases Nat.lt_or_ge hi lo with q2 | q2
     ·have q2':(hi:Int)<lo:=by omega
      clear q1 q2 hbad;go_wp2_with fail;refine(fail9 R s st18 op 22 _ HR18.out (by decide)).mono ?_;rintro e w19 ⟨st19,rfl,hr19,hg19,hgo19⟩;have HC19:=Hyd (blk_grown HC18.out hg19 hRC');have HB19:=Hyd (blk_grown HB18.out hg19 hRB');have HG19:=Hyd (grown_trans HG18.out hg19);have HR19:=Hyd hr19;clear hr19 hg19;obtain⟨k0,k1,k2,k3,k4,k5,k6,k7,k8,k9⟩:=cells5 HC19.out;obtain⟨j0,j1,j2,j3,j4,j5,j6,j7,j8,j9⟩:=cells5 HB19.out;go_wp2_with fail
      refine ret5_9 HR19.out HG19.out HB19.out hRB' hwB' fun w9 hB9 hr9 hg9=>?_
      obtain⟨m0,m1,m2,m3,m4,-,-,-,-,-⟩:=cells5 hB9;refine bodyPost_ret (by simp[results,Tryz.results56,go_sem,m0,m1,m2,m3,m4];try rfl) rfl ?_;refine⟨⟨x1,x2,false,1,1⟩,_,rfl,hr9,hg9,HGOg.out _ _ ?_⟩
      rcases st18 with ⟨k',er',a'⟩ | a'
      ·exact hgo19 ()
      ·obtain⟨a'',h19⟩:=hgo19 ()
       simp only[Goes,pSt3]
       rw[if_pos Hbad.out,<-show op=a3 from Hop.out];exact⟨a'',h19⟩
     have q2':(lo:Int)<=hi:=by omega
     rcases Nat.lt_or_ge 4 hi with q3 | q3
     ·have q3':(4:Int)<hi:=by omega
      clear q1 q2 q3 hbad;go_wp2_with fail;refine(fail9 R s st18 op 22 _ HR18.out (by decide)).mono ?_;rintro e w19 ⟨st19,rfl,hr19,hg19,hgo19⟩;have HC19:=Hyd (blk_grown HC18.out hg19 hRC');have HB19:=Hyd (blk_grown HB18.out hg19 hRB');have HG19:=Hyd (grown_trans HG18.out hg19);have HR19:=Hyd hr19;clear hr19 hg19;obtain⟨k0,k1,k2,k3,k4,k5,k6,k7,k8,k9⟩:=cells5 HC19.out;obtain⟨j0,j1,j2,j3,j4,j5,j6,j7,j8,j9⟩:=cells5 HB19.out;go_wp2_with fail
      refine ret5_9 HR19.out HG19.out HB19.out hRB' hwB' fun w9 hB9 hr9 hg9=>?_
      obtain⟨m0,m1,m2,m3,m4,-,-,-,-,-⟩:=cells5 hB9;refine bodyPost_ret (by simp[results,Tryz.results56,go_sem,m0,m1,m2,m3,m4];try rfl) rfl ?_;refine⟨⟨x1,x2,false,1,1⟩,_,rfl,hr9,hg9,HGOg.out _ _ ?_⟩
      rcases st18 with ⟨k',er',a'⟩ | a'
      ·exact hgo19 ()
      ·obtain⟨a'',h19⟩:=hgo19 ()
       simp only[Goes,pSt3]
       rw[if_pos Hbad.out,<-show op=a3 from Hop.out];exact⟨a'',h19⟩
     have q3':(hi:Int)<=4:=by omega
     have q4':(hi:Int)<2:=by omega
     clear q1 q2 q3 hbad;go_wp2_with fail;refine(fail9 R s st18 op 22 _ HR18.out (by decide)).mono ?_;rintro e w19 ⟨st19,rfl,hr19,hg19,hgo19⟩;have HC19:=Hyd (blk_grown HC18.out hg19 hRC');have HB19:=Hyd (blk_grown HB18.out hg19 hRB');have HG19:=Hyd (grown_trans HG18.out hg19);have HR19:=Hyd hr19;clear hr19 hg19;obtain⟨k0,k1,k2,k3,k4,k5,k6,k7,k8,k9⟩:=cells5 HC19.out;obtain⟨j0,j1,j2,j3,j4,j5,j6,j7,j8,j9⟩:=cells5 HB19.out;go_wp2_with fail
     refine ret5_9 HR19.out HG19.out HB19.out hRB' hwB' fun w9 hB9 hr9 hg9=>?_
     obtain⟨m0,m1,m2,m3,m4,-,-,-,-,-⟩:=cells5 hB9;refine bodyPost_ret (by simp[results,Tryz.results56,go_sem,m0,m1,m2,m3,m4];try rfl) rfl ?_;refine⟨⟨x1,x2,false,1,1⟩,_,rfl,hr9,hg9,HGOg.out _ _ ?_⟩
     rcases st18 with ⟨k',er',a'⟩ | a'
     ·exact hgo19 ()
     ·obtain⟨a'',h19⟩:=hgo19 ()
      simp only[Goes,pSt3]
      rw[if_pos Hbad.out,<-show op=a3 from Hop.out];exact⟨a'',h19⟩
    ·have q1:(1:Int)<=lo:=by omega
     have q2:(lo:Int)<=hi:=by omega
     have q3:(hi:Int)<=4:=by omega
     have q4:(2:Int)<=hi:=by omega
     have Hbad:=Hyd hbad;clear hbad;obtain⟨k0,k1,k2,k3,k4,k5,k6,k7,k8,k9⟩:=cells5 HC18.out;obtain⟨j0,j1,j2,j3,j4,j5,j6,j7,j8,j9⟩:=cells5 HB18.out;go_wp2_with fail
     refine ret5_9 ((HR18.out.set C 3 _ hRC').set C 4 _ hRC') (grown_setNew (grown_setNew HG18.out C 3 _ hwC') C 4 _ hwC') (blk_other (blk_other HB18.out C 3 _ hBC') C 4 _ hBC') hRB' hwB' fun w9 hB9 hr9 hg9=>?_
     obtain⟨m0,m1,m2,m3,m4,-,-,-,-,-⟩:=cells5 hB9;refine bodyPost_ret (by simp[results,Tryz.results56,go_sem,m0,m1,m2,m3,m4];try rfl) rfl ?_;refine⟨⟨x1,x2,false,lo,hi⟩,_,rfl,hr9,hg9,HGOg.out _ _ ?_⟩
     exact goes_end _ _ _ fun a=>if_neg Hbad.out
end Go.Proofs.YtcojnojdgigmdaaGreatDoor.WP
