/- The walks of oxbowref21.Steps, count, Ahead, Text. -/
import Derived.Test.YtcojnojdgigmdaaGreatDoorB01
import Derived.Test.YtcojnojdgigmdaaGreatDoorWW21
import Derived.Test.YtcojnojdgigmdaaGreatDoorPPlc
import Derived.Test.YtcojnojdgigmdaaGreatDoorPText
import Derived.Test.YtcojnojdgigmdaaGreatDoorWDec
set_option maxHeartbeats 3200000
set_option maxRecDepth 100000
namespace Go.Proofs.YtcojnojdgigmdaaGreatDoor.WR
open Go Go.RowKit Go.Sort PL PR Mem WL
theorem DocAt.cells {w:World} {L B:Nat} {qs:Value} {ss:List GS} {ts:Nat->List PT} (h:DocAt w L B qs ss ts) {i:Nat} (hi:i<ss.length):∃ g c,qs=.slice (some ⟨g,0,none⟩) ss.length c/\g<B/\w.cell? ⟨g,i * 5,none⟩=some (.int .u8 (ss[i]!).k)/\w.cell? ⟨g,i * 5+1,none⟩=some (.bool (ss[i]!).neg) /\
  w.cell? ⟨g,i * 5+2,none⟩=some (.int .i64 (ss[i]!).lo)/\w.cell? ⟨g,i * 5+3,none⟩=some (.int .i64 (ss[i]!).hi)/\∃ vt,w.cell? ⟨g,i * 5+4,none⟩=some vt/\TstAt w B vt (ts i):=by
 obtain⟨ad,c,e,hq⟩:=h;obtain⟨g,e1,hb,h0,h1,h2,h3,vt,h4,h5⟩:=hq i hi;rw[getElem!_pos ss i hi];exact⟨g,c,by rw[e,e1],hb.2,h0,h1,h2,h3,vt,h4,h5.1⟩
theorem plcV (l:List Nat) (k:Nat):cntV (l++[k])=cntV l++[.int .i64 (k:Nat)]:=by simp[cntV]
theorem steps21 (qs:Value) (wi:Int) (ss:List GS) (ts:Nat->List PT) (L:Nat) (w:World) (hd:DocAt w L w.heap.size qs ss ts) (hn:ss.length<=1000000) :
  Calls Tryz.prog 43 #[.agg #[qs,.int .i64 wi]] w fun e w'=>∃ v,e=.returned v/\w'.ownsRow w.heap.size 3 1 v (plc ss ss.length).length (cntV (plc ss ss.length))/\Below w.heap.size w w':=by
 have HD:=Hyd hd;obtain⟨ad,c,rfl,_⟩:=hd
 obtain⟨w0,hw0⟩:∃ w0,w0=w.alloc (.cells #[.slice ad ss.length c,.int .i64 wi] 28):=⟨_,rfl⟩
 have HB0:=Hyd (show Below w.heap.size w w0 by rw[hw0];exact(Below.refl _ _).alloc (Nat.le_refl _) _);have HX:=Hyd (show w0.heap[w.heap.size]? = some (.cells #[.slice ad ss.length c,.int .i64 wi] 28 (0,0)) by rw[hw0];exact heap_new rfl);have HW0:=Hyd hw0;clear hw0
 go_enter Tryz.func43,Tryz.ntmps43
 go_upto_region 1 with (fail)
 rw[<-HW0.out];go_wp2_with fail
 go_loopw [3,4] (fun va u wr=>∃ k,k<=ss.length/\u=.int .i64 (k:Nat)/\wr.ownsRow w.heap.size 3 1 va (plc ss k).length (cntV (plc ss k))/\Below w.heap.size w wr/\wr.heap[w.heap.size]? = some (.cells #[.slice ad ss.length c,.int .i64 wi] 28 (0,0))) (fun _ u _=>ss.length-(intOf u).toNat)
 case atStart=>exact⟨0,Nat.zero_le _,rfl,World.ownsRow_nil _ _ _ _,HB0.out,HX.out⟩
 case round =>
  obtain⟨k,hk,rfl,ho,hb,hx⟩:=hrel;have y0:wr.cell? ⟨w.heap.size,0,none⟩=some (.slice ad ss.length c):=(CeH hx 0).trans rfl;have hsz:=hb.size
  by_cases hlt:k<ss.length
  ·have hki:(k:Int)<(ss.length:Int):=by omega
   have hk0:(0:Int)<=(k:Int):=by omega
   obtain⟨g,c',e,hg,_,x1,_⟩:=DocAt.cells HD.out hlt
   obtain⟨rfl,rfl⟩:ad=some ⟨g,0,none⟩/\c=c':=by simpa using e
   have z1:=(hb.cell (p:=⟨g,k * 5+1,none⟩) hg).trans x1;have hpl:=plc_len ss k;have HPS:=Hyd (plc_succ ss k)
   obtain⟨b,hbn⟩:∃ b,(ss[k]!).neg=b:=⟨_,rfl⟩
   rw[hbn]at z1 HPS;clear e x1 hbn
   cases b with
   | true =>
    have HP2:=Hyd (show plc ss (k+1)=plc ss k by rw[HPS.out];simp);have HRL:=Hyd (show ∃ k',k'<=ss.length/\Value.int .i64 ((k:Int)+1)=.int .i64 (k':Nat)/\wr.ownsRow w.heap.size 3 1 u3 (plc ss k').length (cntV (plc ss k'))/\Below w.heap.size w wr/\wr.heap[w.heap.size]? = some (.cells #[.slice (some ⟨g,0,none⟩) ss.length c,.int .i64 wi] 28 (0,0)) from⟨k+1,by omega,by go_num,by rw[HP2.out];exact ho,hb,hx⟩);clear ho hb hx;go_wp2_with fail;go_roundw
    case rel=>exact HRL.out
    case measure=>simp[intOf];omega
   | false =>
    have HP2:=Hyd (show plc ss (k+1)=plc ss k++[k] by rw[HPS.out];simp)
    obtain⟨pl,hpl2⟩:∃ pl,plc ss k=pl:=⟨_,rfl⟩
    rw[hpl2]at ho hpl HP2;have HO:=Hyd ho;have HB:=Hyd hb;have HX2:=Hyd hx;obtain⟨i0,hi,hz0,hz1,hz2⟩:=info_parts infoInt;have HNA:=Hyd (Reg.own_new (w:=wr) (b:=0) (e:=3) (sz:=1) (n:=1) (cs:=#[.int .i64 (k:Nat)]) rfl (Nat.zero_le _) rfl (by decide));have HNB:=Hyd (show Below wr.heap.size wr (wr.alloc (.cells #[.int .i64 (k:Nat)] 3)) from(Below.refl _ _).alloc (Nat.le_refl _) _);clear ho hb hx hpl2
    go_wp2_with (at_builtin;refine Reg.wpList_append_src _ rfl (.tmp 19) (.tmp 21) 45 rfl w.heap.size 0 3 i0 _ 1 8 Tryz.underlying45 hi hz0 hz1 hz2 rfl (by decide) _ _ pl.length 1 _ _ rfl (own_below HO.out HNB.out) rfl HNA.out ?d1 ?d2 ?d3 ?d4 ?_)
    case d1=>first | rfl | (intro u hu;rw[List.mem_singleton.1 (by simpa using hu)];rfl)
    case d2=>unfold maxLen;omega
    case d3=>omega
    case d4=>omega
    intro va' w5 ho5 hg5 _;have HRL:=Hyd (show ∃ k',k'<=ss.length/\Value.int .i64 ((k:Int)+1)=.int .i64 (k':Nat)/\w5.ownsRow w.heap.size 3 1 va' (plc ss k').length (cntV (plc ss k'))/\Below w.heap.size w w5/\w5.heap[w.heap.size]? = some (.cells #[.slice (some ⟨g,0,none⟩) ss.length c,.int .i64 wi] 28 (0,0)) from⟨k+1,by omega,by go_num,by rw[HP2.out,List.length_append,plcV];exact ho5,below_grown (HB.out.trans (HNB.out.mono hsz)) (own_below HO.out HNB.out) hg5 (by simp;omega) (Nat.le_refl _),(Reg.Keeps.grown (show 28≠3 by decide) (own_below HO.out HNB.out) hg5).2 _ _ (heap_alloc HX2.out)⟩);clear ho5 hg5;go_wp2_with fail;go_roundw
    case rel=>exact HRL.out
    case measure=>simp[intOf];omega
  ·obtain rfl:k=ss.length:=by omega
   have HO:=Hyd ho;have HB:=Hyd hb;clear ho hb hx;go_wp2_with fail;go_ret;exact⟨_,rfl,HO.out,HB.out⟩
theorem byte_app (a b:List UInt8):(⟨a.toArray⟩++⟨b.toArray⟩:ByteArray)=⟨(a++b).toArray⟩:=by simp[ByteArray.mk_append_mk]
theorem itoa_le {n:Int} (h0:-9223372036854775808<=n) (h1:n<=9223372036854775807):(Lib.itoa n).length<=21:=Lib.itoa_length_le n h0 h1
theorem textTo_len (l:List Ev) (m:Mt) (hid:∀ y∈l,-9223372036854775808<=y.id/\y.id<=9223372036854775807) (hat:∀ x∈m,x.1<l.length):∀ n,n<=m.length->(textTo l m n).length<=23 * n
 | 0,_=>by simp[textTo]
 | n+1,h=>by
  have ih:=textTo_len l m hid hat n (by omega)
  have hm:m.getD n (0,0)∈m:=by rw[List.getD_eq_getElem?_getD,List.getElem?_eq_getElem (by omega)];exact List.getElem_mem _
  have hl:=hat _ hm;have:=hid _ (by rw[evAt_eq hl];exact List.getElem_mem hl:evAt l (m.getD n (0,0)).1∈l);have h2:=itoa_le this.1 this.2;rw[textTo]
  simp only[List.length_append]
  have h3:(if 0<n/\(m.getD n (0,0)).2=(m.getD (n-1) (0,0)).2 then [44] else ([]:List UInt8)).length<=1:=by split<;>simp
  have h4:(if 0<n/\(m.getD n (0,0)).2≠(m.getD (n-1) (0,0)).2 then [124] else ([]:List UInt8)).length<=1:=by split<;>simp
  omega
theorem text21 (lv mv:Value) (l:List Ev) (m:Mt) (B:Nat) (w:World) (hl:Evs w B lv l) (hm:MtAt w B mv m) (hBw:B<=w.heap.size) (hlen:m.length<=1000000) (hat:∀ x∈m,x.1<l.length) (hid:∀ y∈l,-9223372036854775808<=y.id/\y.id<=9223372036854775807) :
  Calls Tryz.prog 31 #[lv,mv] w fun e w'=>e=.returned (.string ⟨(textTo l m m.length).toArray⟩)/\Mem.Grw w w':=by
 have mixed:Tryz.prog.follows .mixedOrders=true:=by kernel_rfl
 obtain⟨va,vs,rfl,hma,hms⟩:=hm;obtain⟨aa,ac,rfl⟩:=hma.shape;obtain⟨sa,sc,rfl⟩:=hms.shape;obtain⟨la,lc,rfl⟩:=Sl.shape hl;have HMA:=Hyd hma;have HMS:=Hyd hms;have HL:=Hyd hl;have HAT:=Hyd hat;have HID:=Hyd hid;have HTL:=Hyd (textTo_len l m hid hat)
 obtain⟨w0,hw0⟩:∃ w0,w0=w.alloc (.cells #[.slice aa m.length ac,.slice sa m.length sc] 84):=⟨_,rfl⟩
 have HG0:=Hyd (show Mem.Grw w w0 by rw[hw0];exact(Mem.Grw.refl _).alloc _);have HX:=Hyd (show w0.heap[w.heap.size]? = some (.cells #[.slice aa m.length ac,.slice sa m.length sc] 84 (0,0)) by rw[hw0];exact heap_new rfl);have hz0:w.heap.size<w0.heap.size:=heap_lt HX.out;have HW0:=Hyd hw0;clear hma hms hl hw0 hat hid
 go_enter Tryz.func31,Tryz.ntmps31
 go_upto_region 1 with (fail)
 rw[<-HW0.out];go_wp2_with fail
 go_loopw [5,6] (fun s u wr=>∃ k,k<=m.length/\u=.int .i64 (k:Nat)/\s=.string ⟨(textTo l m k).toArray⟩/\Mem.Grw w0 wr) (fun _ u _=>m.length-(intOf u).toNat)
 case atStart=>exact⟨0,Nat.zero_le _,rfl,rfl,Mem.Grw.refl _⟩
 case round =>
  obtain⟨k,hk,rfl,rfl,hg⟩:=hrel;have HG:=Hyd hg;have y0:=hg.cell hz0 ((CeH HX.out 0).trans rfl);have y1:=hg.cell hz0 ((CeH HX.out 1).trans rfl)
  by_cases hlt:k<m.length
  ·have hki:(k:Int)<(m.length:Int):=by omega
   have hk0:(0:Int)<=(k:Int):=by omega
   obtain⟨b,o,c,hv,hb,x0⟩:=sl_at HMS.out hlt
   obtain⟨rfl,rfl⟩:sa=some ⟨b,o,none⟩/\sc=c:=by simpa using hv
   obtain⟨b2,o2,c2,hv2,hb2,x1⟩:=sl_at HMA.out hlt
   obtain⟨rfl,rfl⟩:aa=some ⟨b2,o2,none⟩/\ac=c2:=by simpa using hv2
   have hai:=HAT.out _ (List.getElem_mem hlt)
   obtain⟨p,hp⟩:∃ p,m[k].1=p:=⟨_,rfl⟩
   obtain⟨s,hsd⟩:∃ s,m[k].2=s:=⟨_,rfl⟩
   have hgk:m.getD k (0,0)=(p,s):=by
    rw[List.getD_eq_getElem?_getD,List.getElem?_eq_getElem hlt,<-hp,<-hsd];rfl
   have hpl:p<l.length:=by rw[<-hp];exact hai
   obtain⟨b3,o3,c3,hv3,hb3,z0,_⟩:=Evs.at_ HL.out hpl
   obtain⟨rfl,rfl⟩:la=some ⟨b3,o3,none⟩/\lc=c3:=by simpa using hv3
   obtain⟨n,hn⟩:∃ n,l[p].id=n:=⟨_,rfl⟩
   have hnb:=HID.out _ (List.getElem_mem hpl)
   have hen:(evAt l p).id=n:=by rw[evAt_eq hpl];exact hn
   rw[hn]at z0 hnb;rw[hp]at x1;rw[hsd]at x0;have hbw:b<w0.heap.size:=Nat.lt_of_lt_of_le (Nat.lt_of_lt_of_le hb hBw) HG0.out.size;have hbw2:b2<w0.heap.size:=Nat.lt_of_lt_of_le (Nat.lt_of_lt_of_le hb2 hBw) HG0.out.size;have hbw3:b3<w0.heap.size:=Nat.lt_of_lt_of_le (Nat.lt_of_lt_of_le hb3 hBw) HG0.out.size;have v0:=hg.cell hbw (HG0.out.cell (Nat.lt_of_lt_of_le hb hBw) x0);have v1:=hg.cell hbw2 (HG0.out.cell (Nat.lt_of_lt_of_le hb2 hBw) x1);have v2:=hg.cell hbw3 (HG0.out.cell (Nat.lt_of_lt_of_le hb3 hBw) z0)
   have hpi0:(0:Int)<=(p:Int):=by omega
   have hpi1:(p:Int)<(l.length:Int):=by omega
   have hSl:=HTL.out k (by omega);have hSl2:=HTL.out (k+1) (by omega);have HTT:=Hyd (show textTo l m (k+1)=textTo l m k++((if 0<k/\s=(m.getD (k-1) (0,0)).2 then [44] else [])++(if 0<k/\s≠(m.getD (k-1) (0,0)).2 then [124] else []))++Lib.itoa n by rw[textTo,hgk,hen])
   obtain⟨S,hS⟩:∃ S,textTo l m k=S:=⟨_,rfl⟩
   rw[hS]at hSl HTT ⊢;have HD:=Hyd (fun w=>WS.dec_any n hnb.1 hnb.2 w);have hil:=itoa_le hnb.1 hnb.2;have hzw:w.heap.size<wr.heap.size:=Nat.lt_of_lt_of_le hz0 HG.out.size;have hbr:=Nat.lt_of_lt_of_le hbw HG.out.size;have hbr2:=Nat.lt_of_lt_of_le hbw2 HG.out.size;have hbr3:=Nat.lt_of_lt_of_le hbw3 HG.out.size
   by_cases hk1:k=0
   ·subst hk1;have HT2:=Hyd (show textTo l m 1=S++Lib.itoa n by rw[HTT.out];simp);rw[Nat.add_zero]at v0 v1;clear hv hv2 hv3 x0 x1 z0 hp hsd hgk hai hn hen hS hg HTT hSl2;go_wp2_with fail
    go_quiet (fail)
    revert nq
    intro n1;go_wp2_with fail
    go_quiet (fail)
    go_wp2_with fail;refine(HD.out _).mono ?_;rintro e w5 ⟨rfl,hg5⟩;have HGQ:=Hyd (HG.out.trans ((Mem.Grw.refl wr).drewN (n1+nq) |>.trans hg5));clear hg5;go_wp2_with fail;go_roundw
    case rel=>exact⟨1,by omega,by go_num,by rw[HT2.out];simp[byte_app],HGQ.out⟩
    case measure=>simp[intOf];omega
   ·have hki1:(0:Int)<(k:Int):=by omega
    have hk1n:0<k:=by omega
    have hk1i:k-1<m.length:=by omega
    obtain⟨b',o',c',hv',_,x2⟩:=sl_at HMS.out hk1i
    obtain⟨⟨rfl,rfl⟩,rfl⟩:(b=b'/\o=o')/\sc=c':=by simpa using hv'
    have hgk1:(m.getD (k-1) (0,0)).2=m[k-1].2:=by
     rw[List.getD_eq_getElem?_getD,List.getElem?_eq_getElem hk1i];rfl
    rw[hgk1]at HTT
    obtain⟨t,ht⟩:∃ t,m[k-1].2=t:=⟨_,rfl⟩
    rw[ht]at HTT x2;have v3:=hg.cell hbw (HG0.out.cell (Nat.lt_of_lt_of_le hb hBw) x2);have hwj:IntKind.i64.wrap ((k:Int)-1)=(k:Int)-1:=IntWalk.i64_in _ (by omega)
    have hj0:(0:Int)<=(k:Int)-1:=by omega
    have hj1:(k:Int)-1<(m.length:Int):=by omega
    have hjn:((k:Int)-1).toNat=k-1:=by omega
    have hk1':1<=k:=hk1n
    by_cases hst:s=t
    ·have HT2:=Hyd (show textTo l m (k+1)=(S++[44])++Lib.itoa n by rw[HTT.out,if_pos ⟨hk1n,hst⟩,if_neg (fun h=>h.2 hst)];simp)
     have he1:((s:Int)==(t:Int))=true:=by simp[hst]
     have he2:((s:Int) != (t:Int))=false:=by simp[hst]
     clear hv hv2 hv3 hv' x0 x1 x2 z0 hp hsd hgk hgk1 ht hai hn hen hS hg HTT hSl2 hst;go_wp2_with fail
     go_quiet (fail)
     revert nq
     intro n1;go_wp2_with fail
     go_quiet (fail)
     go_wp2_with fail;refine(HD.out _).mono ?_;rintro e w5 ⟨rfl,hg5⟩;have HGQ:=Hyd (HG.out.trans ((Mem.Grw.refl wr).drewN (n1+nq) |>.trans hg5));clear hg5;go_wp2_with fail;go_roundw
     case rel=>exact⟨k+1,by omega,by go_num,by rw[HT2.out];simp[byte_app],HGQ.out⟩
     case measure=>simp[intOf];omega
    ·have HT2:=Hyd (show textTo l m (k+1)=(S++[124])++Lib.itoa n by rw[HTT.out,if_neg (fun h=>hst h.2),if_pos ⟨hk1n,hst⟩];simp)
     have he1:((s:Int)==(t:Int))=false:=by simp;omega
     have he2:((s:Int) != (t:Int))=true:=by simp;omega
     clear hv hv2 hv3 hv' x0 x1 x2 z0 hp hsd hgk hgk1 ht hai hn hen hS hg HTT hSl2 hst;go_wp2_with fail
     go_quiet (fail)
     revert nq
     intro n1;go_wp2_with fail
     go_quiet (fail)
     go_wp2_with fail;refine(HD.out _).mono ?_;rintro e w5 ⟨rfl,hg5⟩;have HGQ:=Hyd (HG.out.trans ((Mem.Grw.refl wr).drewN (n1+nq) |>.trans hg5));clear hg5;go_wp2_with fail;go_roundw
     case rel=>exact⟨k+1,by omega,by go_num,by rw[HT2.out];simp[byte_app],HGQ.out⟩
     case measure=>simp[intOf];omega
  ·obtain rfl:k=m.length:=by omega
   clear hg;go_wp2_with fail;go_ret;exact⟨rfl,HG0.out.trans HG.out⟩
end Go.Proofs.YtcojnojdgigmdaaGreatDoor.WR
