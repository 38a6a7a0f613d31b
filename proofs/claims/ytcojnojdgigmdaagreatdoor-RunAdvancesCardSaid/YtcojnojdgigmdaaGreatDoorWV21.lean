/- The walk of oxbowref21.Advance: what becomes of a run with an event more, by the document. -/
import Derived.Test.YtcojnojdgigmdaaGreatDoorB01
import Derived.Test.YtcojnojdgigmdaaGreatDoorWS21
import Derived.Test.YtcojnojdgigmdaaGreatDoorWRAdv
import Derived.Test.YtcojnojdgigmdaaGreatDoorPGo
set_option maxHeartbeats 51200000
set_option maxRecDepth 100000
namespace Go.Proofs.YtcojnojdgigmdaaGreatDoor.WR
open Go Go.RowKit Go.Sort PL PR Mem WL WS
structure AdvZ (X:Nat) (w6 wx:World) (xc:Array Value) (gv dv:Value) (gs:List (Value×Value×RRun)) (x:RRes):Prop where
 os:wx.os=w6.os
 tape:wx.tape=w6.tape
 output:wx.output=w6.output
 size:w6.heap.size<=wx.heap.size
 blk:∀ b,b<w6.heap.size->b≠X->wx.heap[b]? = w6.heap[b]?
 xb:wx.heap[X]? = some (.cells xc 56 (0,0))
 dr:DR w6.heap.size wx (.slice none 0 0) (.slice none 0 0) gv dv gs x
 xr:x.run=noRun
 ki:Reg.Keeps 3 w6 wx
section
variable {X : Nat} {w6 wx w' : World} {xc xc' : Array Value} {gv dv : Value} {gs : List (Value × Value × RRun)} {x : RRes}
theorem AdvZ.begin (hx:w6.heap[X]? = some (.cells xc 56 (0,0))):AdvZ X w6 w6 xc (.slice none 0 0) (.slice none 0 0) [] noRes :=
 ⟨rfl,rfl,rfl,Nat.le_refl _,fun _ _ _=>rfl,hx,DR.nil_ _ _,rfl,Reg.Keeps.refl _ _⟩
theorem AdvZ.below (h:AdvZ X w6 wx xc gv dv gs x) (hb:Below wx.heap.size wx w'):AdvZ X w6 w' xc gv dv gs x :=
 ⟨hb.os.trans h.os,hb.tape.trans h.tape,hb.output.trans h.output,Nat.le_trans h.size hb.size,fun b hb1 hb2=>(hb.block b (Nat.lt_of_lt_of_le hb1 h.size)).trans (h.blk b hb1 hb2),(hb.block _ (heap_lt h.xb)).trans h.xb,
  ⟨by rw[h.xr];exact Sl.nil_ _ _ _,by rw[h.xr];exact Sl.nil_ _ _ _,h.dr.gm,own_below h.dr.o1 hb,fun g hg=>(h.dr.el g hg).below hb,own_below h.dr.o2 hb⟩,h.xr,h.ki.trans (Reg.Keeps.below _ hb)⟩
theorem AdvZ.cell (h:AdvZ X w6 wx xc gv dv gs x) {a:Addr} (ha:a.block<w6.heap.size) (hx:a.block≠X):wx.cell? a=w6.cell? a:=World.cell?_of_block (h.blk _ ha hx)
theorem AdvZ.set (h:AdvZ X w6 wx xc gv dv gs x) (i:Nat) (u:Value) (hx:(wx.setCell ⟨X,i,none⟩ u).heap[X]? = some (.cells xc' 56 (0,0))):AdvZ X w6 (wx.setCell ⟨X,i,none⟩ u) xc' gv dv gs x :=
 ⟨h.os,h.tape,h.output,by simpa using h.size,fun b hb1 hb2=>(heap_setCell_other wx ⟨X,i,none⟩ b u hb2).trans (h.blk b hb1 hb2),hx,
  ⟨by rw[h.xr];exact Sl.nil_ _ _ _,by rw[h.xr];exact Sl.nil_ _ _ _,h.dr.gm,own_set h.dr.o1 h.xb (by decide) i u,fun g hg=>⟨own_set (h.dr.el g hg).1 h.xb (by decide) i u,own_set (h.dr.el g hg).2 h.xb (by decide) i u⟩,own_set h.dr.o2 h.xb (by decide) i u⟩,h.xr,h.ki.trans (Keeps.set h.xb (by decide))⟩
theorem AdvZ.belowX {H:Nat} {w:World} (h:AdvZ X w6 wx xc gv dv gs x) (hb:Below H w w6) (hH:H<=w6.heap.size) (hX:H<=X):Below H w wx :=
 ⟨h.os.trans hb.os,h.tape.trans hb.tape,h.output.trans hb.output,Nat.le_trans hb.size h.size,fun k hk=>(h.blk k (by omega) (by omega)).trans (hb.block k hk)⟩
theorem AdvZ.told {wd:World} {cv ev gv' dv':Value} {r1:RRun} {p:RPlan} (h:AdvZ X w6 wx xc gv dv gs x) (hX:X<w6.heap.size) (hg:DOwnR w6.heap.size wx (cv,ev,r1)) (hb:BelT w6.heap.size wx wd)
  (h1:wd.ownsRow w6.heap.size 53 3 gv' (gs.length+if addGrown p r1 then 1 else 0) (cellsOf encR gs++if addGrown p r1 then [cv,ev,.bool r1.blocked] else [])) (h2:wd.ownsRow w6.heap.size 9 1 dv' (x.done++if addDone p r1 then [textR r1] else []).length ((x.done++if addDone p r1 then [textR r1] else []).map strV)) :
  AdvZ X w6 wd xc gv' dv' (gs++if addGrown p r1 then [(cv,ev,r1)] else []) (addR p x r1) :=
 ⟨hb.os.trans h.os,hb.tape.trans h.tape,hb.output.trans h.output,Nat.le_trans h.size hb.size,fun b hb1 hb2=>(hb.blk b hb1).trans (h.blk b hb1 hb2),(hb.blk _ hX).trans h.xb,DR.told h.dr h.xr hg hb h1 h2,h.xr,h.ki.trans hb.ki⟩
theorem AdvZ.six {wd:World} {c0 c1 c2 c3 c4 c5:Value} (h:AdvZ X w6 wd #[c0,c1,c2,c3,c4,c5] gv dv gs x) (v0 v1 v2 v3 v4 v5:Value):AdvZ X w6 ((((((wd.setCell ⟨X,0,none⟩ v0).setCell ⟨X,1,none⟩ v1).setCell ⟨X,2,none⟩ v2).setCell ⟨X,3,none⟩ v3).setCell ⟨X,4,none⟩ v4).setCell ⟨X,5,none⟩ v5) #[v0,v1,v2,v3,v4,v5] gv dv gs x:=by
 have h0:=h.set 0 v0 ((blk_setc h.xb 0 v0).trans rfl);have h1:=h0.set 1 v1 ((blk_setc h0.xb 1 v1).trans rfl);have h2:=h1.set 2 v2 ((blk_setc h1.xb 2 v2).trans rfl);have h3:=h2.set 3 v3 ((blk_setc h2.xb 3 v3).trans rfl);have h4:=h3.set 4 v4 ((blk_setc h3.xb 4 v4).trans rfl);exact h4.set 5 v5 ((blk_setc h4.xb 5 v5).trans rfl)
end
theorem cnt_cells {w:World} {B b o c:Nat} {l:List Nat} (h:Sl w B 1 (.slice (some ⟨b,o,none⟩) l.length c) l.length (cntV l)) {i:Nat} (hi:i<l.length):w.cell? ⟨b,o+i,none⟩=some (.int .i64 (l[i]:Int)):=by
 obtain⟨b',o',c',hv,hb,x⟩:=cnt_cell h hi
 obtain⟨⟨rfl,rfl⟩,rfl⟩:(b=b'/\o=o')/\c=c':=by simpa using hv
 exact x
theorem AdvZ.fin {X R H:Nat} {w w6 wr:World} {cv ev gv dv:Value} {gs:List (Value×Value×RRun)} {x:RRes} {r:RRun} {bb kp:Bool} {c0 c1 c2 c3 c4 c5 d0 d1 d2 d3 d4 d5:Value} (h:AdvZ X w6 wr #[c0,c1,c2,c3,c4,c5] gv dv gs x) (hR:wr.heap[R]? = some (.cells #[d0,d1,d2,d3,d4,d5] 56 (0,0))) (hb:Below H w wr) (hw:w.heap.size=H) (hH:H<=w6.heap.size) (hHR:H<=R)
  (hc:Sl w H 1 cv r.counts.length (cntV r.counts)) (he:Evs w H ev r.evs) (v0 v1 v2 v3 v4 v5:Value) :
  DR H ((((((wr.setCell ⟨R,0,none⟩ v0).setCell ⟨R,1,none⟩ v1).setCell ⟨R,2,none⟩ v2).setCell ⟨R,3,none⟩ v3).setCell ⟨R,4,none⟩ v4).setCell ⟨R,5,none⟩ v5) cv ev gv dv gs ⟨kp,⟨r.counts,r.evs,bb⟩,x.grown,x.done⟩/\((((((wr.setCell ⟨R,0,none⟩ v0).setCell ⟨R,1,none⟩ v1).setCell ⟨R,2,none⟩ v2).setCell ⟨R,3,none⟩ v3).setCell ⟨R,4,none⟩ v4).setCell ⟨R,5,none⟩ v5).heap[R]? = some (.cells #[v0,v1,v2,v3,v4,v5] 56 (0,0))/\Below H w ((((((wr.setCell ⟨R,0,none⟩ v0).setCell ⟨R,1,none⟩ v1).setCell ⟨R,2,none⟩ v2).setCell ⟨R,3,none⟩ v3).setCell ⟨R,4,none⟩ v4).setCell ⟨R,5,none⟩ v5):=by
 have n1:=(blk_setc hR 0 v0).trans rfl;have n2:=(blk_setc n1 1 v1).trans rfl;have n3:=(blk_setc n2 2 v2).trans rfl;have n4:=(blk_setc n3 3 v3).trans rfl;have n5:=(blk_setc n4 4 v4).trans rfl;have n6:=(blk_setc n5 5 v5).trans rfl;have hbf:Below H w ((((((wr.setCell ⟨R,0,none⟩ v0).setCell ⟨R,1,none⟩ v1).setCell ⟨R,2,none⟩ v2).setCell ⟨R,3,none⟩ v3).setCell ⟨R,4,none⟩ v4).setCell ⟨R,5,none⟩ v5):=(((((hb.setCell (p:=⟨R,0,none⟩) hHR v0).setCell (p:=⟨R,1,none⟩) hHR v1).setCell (p:=⟨R,2,none⟩) hHR v2).setCell (p:=⟨R,3,none⟩) hHR v3).setCell (p:=⟨R,4,none⟩) hHR v4).setCell (p:=⟨R,5,none⟩) hHR v5;have hsz:=hbf.size;refine⟨⟨(Sl.keep hc fun a ha=>hbf.cell ha).more (by omega),(Sl.keep he fun a ha=>hbf.cell ha).more (by omega),h.dr.gm, ?_,fun g hg=>⟨?_, ?_⟩, ?_⟩,n6,hbf⟩
 ·exact Joins.ownsRow_le (own_set (own_set (own_set (own_set (own_set (own_set h.dr.o1 hR (by decide) 0 v0) n1 (by decide) 1 v1) n2 (by decide) 2 v2) n3 (by decide) 3 v3) n4 (by decide) 4 v4) n5 (by decide) 5 v5) hH
 ·exact Joins.ownsRow_le (own_set (own_set (own_set (own_set (own_set (own_set (h.dr.el g hg).1 hR (by decide) 0 v0) n1 (by decide) 1 v1) n2 (by decide) 2 v2) n3 (by decide) 3 v3) n4 (by decide) 4 v4) n5 (by decide) 5 v5) hH
 ·exact Joins.ownsRow_le (own_set (own_set (own_set (own_set (own_set (own_set (h.dr.el g hg).2 hR (by decide) 0 v0) n1 (by decide) 1 v1) n2 (by decide) 2 v2) n3 (by decide) 3 v3) n4 (by decide) 4 v4) n5 (by decide) 5 v5) hH
 ·exact Joins.ownsRow_le (own_set (own_set (own_set (own_set (own_set (own_set h.dr.o2 hR (by decide) 0 v0) n1 (by decide) 1 v1) n2 (by decide) 2 v2) n3 (by decide) 3 v3) n4 (by decide) 4 v4) n5 (by decide) 5 v5) hH
theorem res_v21 {w:World} {R:Nat} {c0 c1 c2 c3 c4 c5:Value} {tmps:Array Value} (h6:tmps[6]? = some (.pointer (some ⟨R,0,none⟩))) (e0:w.cell? ⟨R,0,none⟩=some c0) (e1:w.cell? ⟨R,1,none⟩=some c1) (e2:w.cell? ⟨R,2,none⟩=some c2) (e3:w.cell? ⟨R,3,none⟩=some c3) (e4:w.cell? ⟨R,4,none⟩=some c4) (e5:w.cell? ⟨R,5,none⟩=some c5) :
  (results Tryz.f15 tmps).run Tryz.prog w=.ok (.agg #[c0,c1,c2,c3,c4,c5]) w:=by
 simp[results,Tryz.results15,go_sem,h6,e0,e1,e2,e3,e4,e5]
theorem adv21 (p:RPlan) (qs cv ev:Value) (r:RRun) (ss:List GS) (ts:Nat->List PT) (L:Nat) (e:Ev) (w:World) (hd:DocAt w L w.heap.size qs ss ts) (hp:PlnOk ss ts p) (hr:RunAt w w.heap.size (.agg #[cv,ev,.bool r.blocked]) r) (hw:WfR r) (hf:FitId r.evs) (hro:Rowed r) (hl1:r.counts.length<=p.steps.length) (hfew:r.evs.length<1000000/\r.counts.length<1000000) (hes:∀ y∈r.evs,Sm y.val/\Sm y.time) (he:Sm e.val/\Sm e.time) (hid:-9223372036854775808<=e.id/\e.id<=9223372036854775807) :
  Calls Tryz.prog 15 #[.agg #[qs,.int .i64 p.within],.agg #[cv,ev,.bool r.blocked],evV e] w fun en w'=>∃ v,en=.returned v/\DResW w.heap.size w' v cv ev r (advR p r e)/\Below w.heap.size w w':=by
 have mixed:Tryz.prog.follows .mixedOrders=true:=by kernel_rfl
 have HRUN:=Hyd hr;obtain⟨cv',ev',e0,hc,hee⟩:=hr
 obtain⟨rfl,rfl⟩:cv=cv'/\ev=ev':=by simpa using e0
 have hl0:0<r.counts.length:=List.length_pos_iff.2 hro.ne
 obtain⟨L1,hL⟩:∃ L,r.counts.length-1=L:=⟨_,rfl⟩
 have hLl:r.counts.length=L1+1:=by omega
 have hLc:L1<r.counts.length:=by omega
 obtain⟨q,oq,cq,rfl,hqw,xN⟩:=cnt_cell hc hLc
 have hev0:0<r.evs.length:=by
  rw[<-hro.sum];refine Nat.lt_of_lt_of_le ?_ (getD_le_sum r.counts L1);rw[List.getD_eq_getElem?_getD,List.getElem?_eq_getElem hLc,Option.getD_some];exact hro.pos _ (List.getElem_mem hLc)
 obtain⟨eb,eo,ec,rfl,hebw,z0,z1,z2,z3⟩:=Evs.at_ hee hev0;rw[Nat.zero_mul,Nat.add_zero]at z1;have hss:=hp.n9
 have hLs:L1<p.steps.length:=by omega
 obtain⟨N,hN⟩:∃ N,r.counts[L1]=N:=⟨_,rfl⟩
 rw[hN]at xN
 have hN1:r.counts.getLast? = some N:=by rw[List.getLast?_eq_getElem?,hL,List.getElem?_eq_getElem hLc,hN]
 have hN3:N<=1000000:=by
  have h0:r.counts.getD L1 0=N:=by rw[List.getD_eq_getElem?_getD,List.getElem?_eq_getElem hLc,Option.getD_some,hN]
  have:=getD_le_sum r.counts L1;have h1:=hw.sum;have h2:=hw.few
  omega
 obtain⟨hplc1,hplk,hplo,hphi,hplt,hplb,hple⟩:=hp.plc.at_ L1 hLs (by have:=hp.plc.len;omega)
 obtain⟨PL,hPL⟩:∃ PL,(plc ss ss.length)[L1]'(by have:=hp.plc.len;omega)=PL:=⟨_,rfl⟩
 rw[hPL]at hplc1 hplk hplo hphi hplt hplb hple
 have hPLs:PL<ss.length:=by omega
 obtain⟨g5,qc,rfl,hg5w,x0,x1,x2,x3,vt,x4,htt⟩:=DocAt.cells hd hPLs;obtain⟨ta,tc,rfl⟩:=Sl.shape htt;have HTO:=Hyd (hp.ok.tst _ (List.getElem_mem hLs));have HBAR:=Hyd (hp.ok.bar _ (List.getElem_mem hLs))
 obtain⟨s,hs⟩:∃ s,p.steps[L1]'hLs=s:=⟨_,rfl⟩
 have hs':p.steps[L1]? = some s:=by rw[List.getElem?_eq_getElem hLs,hs]
 rw[hs]at hplc1 hplk hplo hphi hplt hplb hple HTO HBAR;have HADV:=Hyd (advR_eq p r e N L1 s hN1 hL hs')
 obtain⟨y,hy⟩:∃ y,r.evs[0]'hev0=y:=⟨_,rfl⟩
 rw[hy]at z1
 have HU:=Hyd (show untilR p r=y.time+p.within by
  rw[until_head hev0,hy])
 obtain⟨hyt1,hyt2⟩:=(hes y (by rw[<-hy];exact List.getElem_mem hev0)).2;obtain⟨hwi1,hwi2⟩:=hp.ok.win;obtain⟨het1,het2⟩:=he.2
 obtain⟨xk,hxk⟩:∃ x,(ss[PL]!).k=x:=⟨_,rfl⟩
 obtain⟨ng,hng⟩:∃ x,(ss[PL]!).neg=x:=⟨_,rfl⟩
 obtain⟨xlo,hxlo⟩:∃ x,(ss[PL]!).lo=x:=⟨_,rfl⟩
 obtain⟨xhi,hxhi⟩:∃ x,(ss[PL]!).hi=x:=⟨_,rfl⟩
 obtain⟨xts,hxts⟩:∃ x,ts PL=x:=⟨_,rfl⟩
 rw[hxk]at x0 hplk;rw[hng]at x1;rw[hxlo]at x2 hplo;rw[hxhi]at x3 hphi;rw[hxts]at x4 htt hplt;have HLO:=Hyd hplo;have HHI:=Hyd hphi;have HBR:=Hyd hplb;have HBE:=Hyd hple
 obtain⟨nb,hnb⟩:∃ nb,s.bars.length=nb:=⟨_,rfl⟩
 rw[hnb]at hplc1 HBE;have HNB:=Hyd hnb;have hpb8:PL+1+nb<=ss.length:=hplc1;have HES:=Hyd (show SmE r.evs from fun y hy=>(hes y hy).1);have HOK:=Hyd (hro.okm hw.few hw.steps)
 obtain⟨A,hA⟩:∃ A,allP xts (pmM r.evs (mR r)) L1 e=A:=⟨_,rfl⟩
 have HFS:=Hyd (show fitsS s r L1 e=((e.kind==xk)&&A) by
  unfold fitsS
  rw[<-hplk,<-hplt,<-hA,hro.all_ _ (by omega)])
 have HA:=Hyd hA;rw[<-hplt]at HTO;have HP:=Hyd hp;have HID:=Hyd hid;have HRO:=Hyd hro;have HW:=Hyd hw;have HF:=Hyd hf;have HE:=Hyd he
 obtain⟨wa,hwa⟩:∃ wa,wa=((((w.alloc (.cells #[.slice (some ⟨g5,0,none⟩) ss.length qc,.int .i64 p.within] 28)).alloc (.cells #[.slice (some ⟨q,oq,none⟩) r.counts.length cq,.slice (some ⟨eb,eo,none⟩) r.evs.length ec,.bool r.blocked] 53)).alloc (.cells #[.int .i64 e.id,.int .i64 e.time,.int .u8 e.kind,.int .i64 e.val] 59)).alloc (.cells #[.bool false,.slice none 0 0,.slice none 0 0,.bool false,.slice none 0 0,.slice none 0 0] 56)).alloc (.cells #[.bool false,.slice none 0 0,.slice none 0 0,.bool false,.slice none 0 0,.slice none 0 0] 56):=⟨_,rfl⟩
 have hza:wa.heap.size=w.heap.size+5:=by rw[hwa];simp
 have hbA:Below w.heap.size w wa:=by rw[hwa];exact(((((Below.refl _ _).alloc (Nat.le_refl _) _).alloc (by simp) _).alloc (by simp;omega) _).alloc (by simp;omega) _).alloc (by simp;omega) _
 have HBA:=Hyd hbA;have XP:=Hyd (show wa.heap[w.heap.size]? = some (.cells #[.slice (some ⟨g5,0,none⟩) ss.length qc,.int .i64 p.within] 28 (0,0)) by rw[hwa];exact heap_alloc (heap_alloc (heap_alloc (heap_alloc (heap_new rfl)))));have XN:=Hyd (show wa.heap[w.heap.size+1]? = some (.cells #[.slice (some ⟨q,oq,none⟩) r.counts.length cq,.slice (some ⟨eb,eo,none⟩) r.evs.length ec,.bool r.blocked] 53 (0,0)) by rw[hwa];exact heap_alloc (heap_alloc (heap_alloc (heap_new (by simp)))));have XE:=Hyd (show wa.heap[w.heap.size+2]? = some (.cells #[.int .i64 e.id,.int .i64 e.time,.int .u8 e.kind,.int .i64 e.val] 59 (0,0)) by rw[hwa];exact heap_alloc (heap_alloc (heap_new (by simp))));have XR:=Hyd (show wa.heap[w.heap.size+3]? = some (.cells #[.bool false,.slice none 0 0,.slice none 0 0,.bool false,.slice none 0 0,.slice none 0 0] 56 (0,0)) by rw[hwa];exact heap_alloc (heap_new (by simp)))
 have XX:=Hyd (show wa.heap[w.heap.size+4]? = some (.cells #[.bool false,.slice none 0 0,.slice none 0 0,.bool false,.slice none 0 0,.slice none 0 0] 56 (0,0)) by rw[hwa];exact heap_new (by simp));have HST:=Hyd (fun wz (hz:Below wa.heap.size wa wz)=>steps21 (.slice (some ⟨g5,0,none⟩) ss.length qc) p.within ss ts L wz ((DocAt.keep hd fun a _ ha=>(hbA.trans (hz.mono hbA.size)).cell ha).more (Nat.le_refl _) (hbA.trans (hz.mono hbA.size)).size) (by omega));have HD:=Hyd hd;have HTT:=Hyd htt;have HC:=Hyd hc;have HEE:=Hyd hee;have HWA:=Hyd hwa;have HZA:=Hyd hza;have HY0:=Hyd x0;have HY1:=Hyd x1;have HY2:=Hyd x2;have HY3:=Hyd x3;have HY4:=Hyd x4;have HXN:=Hyd xN;have hplen:=hp.plc.len;have HPLL:=Hyd (show ∀ h:L1<(plc ss ss.length).length,(plc ss ss.length)[L1]'h=PL from fun _=>hPL)
 have hLpl:L1<(plc ss ss.length).length:=by omega
 have hplm:(plc ss ss.length).length<=8:=by have:=plc_len ss ss.length;omega
 have hcl:r.counts.length<=1000000:=hw.steps;have hel:r.evs.length<=1000000:=hw.few;have HLL:=Hyd hLl
 have hL0:(0:Int)<=(L1:Int):=by omega
 have hLq:(L1:Int)<(r.counts.length:Int):=by omega
 have hLm:(r.counts.length:Int)-1=(L1:Int):=by omega
 have hLs8:L1<=8:=by omega
 have hevi:(0:Int)<(r.evs.length:Int):=by omega
 have y2:wa.cell? ⟨w.heap.size+2,1,none⟩=some (.int .i64 e.time):=(CeH XE.out 1).trans rfl;have y1:wa.cell? ⟨w.heap.size+1,1,none⟩=some (.slice (some ⟨eb,eo,none⟩) r.evs.length ec):=(CeH XN.out 1).trans rfl;have yt:=(hbA.cell (p:=⟨eb,eo+1,none⟩) hebw).trans z1;have p1:wa.cell? ⟨w.heap.size,1,none⟩=some (.int .i64 p.within):=(CeH XP.out 1).trans rfl;have HQW:=Hyd hqw;have HEBW:=Hyd hebw;clear hd hp hc hee hw hf hro hid he hes hwa hza hbA x0 x1 x2 x3 x4 xN z0 z1 z2 z3 htt e0 hxk hng hxlo hxhi hxts hPL hs hs' hplc1 hplk hplo hphi hplt hplb hple hA hy hnb hN hN1 hL hLl
 go_enter Tryz.func15,Tryz.ntmps15
 go_upto_region 2 with (fail)
 rw[<-HWA.out]
 by_cases hu:y.time+p.within<e.time
 ·have HRV:=Hyd (show advR p r e=noRes by rw[HADV.out,if_pos (by rw[HU.out];exact hu)]);go_wp2_with fail
  go_quiet (fail)
  have HBQ:=Hyd (HBA.out.trans (((Mem.Grw.refl wa).drewN nq).below.mono HBA.out.size));have HXQ:=Hyd (show(wa.drewN nq).heap[w.heap.size+4]? = some (.cells #[.bool false,.slice none 0 0,.slice none 0 0,.bool false,.slice none 0 0,.slice none 0 0] 56 (0,0)) from XX.out);have HRQ:=Hyd (show(wa.drewN nq).heap[w.heap.size+3]? = some (.cells #[.bool false,.slice none 0 0,.slice none 0 0,.bool false,.slice none 0 0,.slice none 0 0] 56 (0,0)) from XR.out);change Exit.then _ _ Exit.normal _ (wa.drewN nq);clear y1 y2 yt p1;generalize wa.drewN nq=wb at *;have y0:wb.cell? ⟨w.heap.size+4,0,none⟩=some (.bool false):=(CeH HXQ.out 0).trans rfl;have y1:wb.cell? ⟨w.heap.size+4,1,none⟩=some (.slice none 0 0):=(CeH HXQ.out 1).trans rfl;have y2:wb.cell? ⟨w.heap.size+4,2,none⟩=some (.slice none 0 0):=(CeH HXQ.out 2).trans rfl
  have y3:wb.cell? ⟨w.heap.size+4,3,none⟩=some (.bool false):=(CeH HXQ.out 3).trans rfl;have y4:wb.cell? ⟨w.heap.size+4,4,none⟩=some (.slice none 0 0):=(CeH HXQ.out 4).trans rfl;have y5:wb.cell? ⟨w.heap.size+4,5,none⟩=some (.slice none 0 0):=(CeH HXQ.out 5).trans rfl;have z0:wb.cell? ⟨w.heap.size+3,0,none⟩=some (.bool false):=(CeH HRQ.out 0).trans rfl;have z1:wb.cell? ⟨w.heap.size+3,1,none⟩=some (.slice none 0 0):=(CeH HRQ.out 1).trans rfl;have z2:wb.cell? ⟨w.heap.size+3,2,none⟩=some (.slice none 0 0):=(CeH HRQ.out 2).trans rfl;have z3:wb.cell? ⟨w.heap.size+3,3,none⟩=some (.bool false):=(CeH HRQ.out 3).trans rfl;have z4:wb.cell? ⟨w.heap.size+3,4,none⟩=some (.slice none 0 0):=(CeH HRQ.out 4).trans rfl
  have z5:wb.cell? ⟨w.heap.size+3,5,none⟩=some (.slice none 0 0):=(CeH HRQ.out 5).trans rfl;have f0:=frozen_of_row wb _ 0 _ _ HRQ.out;have f1:=frozen_of_row wb _ 1 _ _ HRQ.out;have f2:=frozen_of_row wb _ 2 _ _ HRQ.out;have f3:=frozen_of_row wb _ 3 _ _ HRQ.out;have f4:=frozen_of_row wb _ 4 _ _ HRQ.out;have f5:=frozen_of_row wb _ 5 _ _ HRQ.out;have n0:=HRQ.out;have n1:=(blk_setc n0 0 (.bool false)).trans rfl;have n2:=(blk_setc n1 1 (.slice none 0 0)).trans rfl;have n3:=(blk_setc n2 2 (.slice none 0 0)).trans rfl;have n4:=(blk_setc n3 3 (.bool false)).trans rfl;have n5:=(blk_setc n4 4 (.slice none 0 0)).trans rfl;have n6:=(blk_setc n5 5 (.slice none 0 0)).trans rfl;have HS5:=Hyd n6
  have hw3:w.heap.size<=w.heap.size+3:=by omega
  have HBF:=Hyd ((((((HBQ.out.setCell (p:=⟨w.heap.size+3,0,none⟩) hw3 (.bool false)).setCell (p:=⟨w.heap.size+3,1,none⟩) hw3 (.slice none 0 0)).setCell (p:=⟨w.heap.size+3,2,none⟩) hw3 (.slice none 0 0)).setCell (p:=⟨w.heap.size+3,3,none⟩) hw3 (.bool false)).setCell (p:=⟨w.heap.size+3,4,none⟩) hw3 (.slice none 0 0)).setCell (p:=⟨w.heap.size+3,5,none⟩) hw3 (.slice none 0 0));clear n0 n1 n2 n3 n4 n5 n6;go_wp2_with fail;refine bodyPost_ret (res_v21 rfl ((CeH HS5.out 0).trans rfl) ((CeH HS5.out 1).trans rfl) ((CeH HS5.out 2).trans rfl) ((CeH HS5.out 3).trans rfl) ((CeH HS5.out 4).trans rfl) ((CeH HS5.out 5).trans rfl)) rfl ?_;exact⟨_,rfl,by rw[HRV.out];exact⟨_,_,_,_,_,rfl,DR.nil_ _ _,.inl ⟨rfl,rfl,rfl⟩⟩,HBF.out⟩
 ·have HRV:=Hyd (show advR p r e=⟨true,⟨r.counts,r.evs,adv3 r e L1 s⟩,(adv2 p r e N L1 s).grown,(adv2 p r e N L1 s).done⟩ by rw[HADV.out,if_neg (by rw[HU.out];exact hu)]);clear HADV;go_wp2_with fail
  go_quiet (fail)
  have HBQ:=Hyd (((Mem.Grw.refl wa).drewN nq).below);change Exit.then _ _ Exit.normal _ (wa.drewN nq);clear y1 y2 yt p1;generalize wa.drewN nq=wb at *;have hza:=HZA.out;have HP0:=Hyd ((HBQ.out.block _ (heap_lt XP.out)).trans XP.out);have HN0:=Hyd ((HBQ.out.block _ (heap_lt XN.out)).trans XN.out);have HE0:=Hyd ((HBQ.out.block _ (heap_lt XE.out)).trans XE.out);have HR0:=Hyd ((HBQ.out.block _ (heap_lt XR.out)).trans XR.out);have HX0:=Hyd ((HBQ.out.block _ (heap_lt XX.out)).trans XX.out);have p0:wb.cell? ⟨w.heap.size,0,none⟩=some (.slice (some ⟨g5,0,none⟩) ss.length qc):=(CeH HP0.out 0).trans rfl;have p1:wb.cell? ⟨w.heap.size,1,none⟩=some (.int .i64 p.within):=(CeH HP0.out 1).trans rfl;have HSTb:=Hyd (HST.out wb HBQ.out);have HBWb:=Hyd (HBA.out.trans (HBQ.out.mono HBA.out.size))
  clear XP XN XE XR XX HST HBQ;go_wp2_with fail;refine HSTb.out.mono ?_;rintro en w2 ⟨pv,rfl,hpo,hb2⟩
  obtain⟨np,hnp⟩:∃ np,(plc ss ss.length).length=np:=⟨_,rfl⟩
  have HPO2:=Hyd hpo;obtain⟨b3,o3,pc,rfl,hb3,x1⟩:=cnt_cell (Sl.of_own hpo) hLpl;rw[HPLL.out]at x1;rw[hnp]at hLpl hplm hplen HPO2 ⊢;have HPLEN:=Hyd hplen
  have hple1:np<=p.steps.length:=by omega
  have hple2:p.steps.length<=np:=by omega
  clear hplen;have HP2:=Hyd ((hb2.block _ (heap_lt HP0.out)).trans HP0.out);have HN2:=Hyd ((hb2.block _ (heap_lt HN0.out)).trans HN0.out);have HE2:=Hyd ((hb2.block _ (heap_lt HE0.out)).trans HE0.out);have HR2:=Hyd ((hb2.block _ (heap_lt HR0.out)).trans HR0.out);have HX2:=Hyd ((hb2.block _ (heap_lt HX0.out)).trans HX0.out);have hbW2:Below w.heap.size w w2:=HBWb.out.trans (hb2.mono HBWb.out.size);have HBW2:=Hyd hbW2;have hw2:=hbW2.size;have HCP:=Hyd x1;have r0:w2.cell? ⟨w.heap.size+1,0,none⟩=some (.slice (some ⟨q,oq,none⟩) r.counts.length cq):=(CeH HN2.out 0).trans rfl;have r1:w2.cell? ⟨w.heap.size+1,1,none⟩=some (.slice (some ⟨eb,eo,none⟩) r.evs.length ec):=(CeH HN2.out 1).trans rfl;have r2:w2.cell? ⟨w.heap.size+1,2,none⟩=some (.bool r.blocked):=(CeH HN2.out 2).trans rfl
  have HMT:=Hyd (match21 r.counts (.slice (some ⟨q,oq,none⟩) r.counts.length cq) (some ⟨eb,eo,none⟩) r.evs.length ec r.blocked w2 ((Sl.keep HC.out fun a ha=>hbW2.cell ha).more hw2) hcl (by have:=HW.out.sum;omega));clear hpo hb2 x1 HSTb HP0 HN0 HE0 HR0 HX0 hbW2 p0 p1;go_wp2_with fail;refine HMT.out.mono ?_;rintro en w3 ⟨va,vs,rfl,hom,hb3'⟩;obtain⟨aa,ac,rfl⟩:=(Sl.of_own (show w3.ownsRow w2.heap.size 3 1 va (mR r).length (atsV (mR r)) from hom.1)).shape;obtain⟨sa,sc,rfl⟩:=(Sl.of_own (show w3.ownsRow w2.heap.size 3 1 vs (mR r).length (stsV (mR r)) from hom.2)).shape
  obtain⟨w4,hw4⟩:∃ w4,w4=w3.alloc (.cells #[.slice aa (mR r).length ac,.slice sa (mR r).length sc] 84):=⟨_,rfl⟩
  have hb34:Below w3.heap.size w3 w4:=by rw[hw4];exact(Below.refl _ _).alloc (Nat.le_refl _) _
  have hb24:Below w2.heap.size w2 w4:=hb3'.trans (hb34.mono hb3'.size)
  obtain⟨M,hM⟩:∃ M,w3.heap.size=M:=⟨_,rfl⟩
  have XM:=Hyd (show w4.heap[M]? = some (.cells #[.slice aa (mR r).length ac,.slice sa (mR r).length sc] 84 (0,0)) by rw[hw4];exact heap_new hM.symm);have HOM:=Hyd (hom.below hb34);have HW4:=Hyd hw4;have HMM:=Hyd hM;have HP4:=Hyd ((hb24.block _ (heap_lt HP2.out)).trans HP2.out);have HN4:=Hyd ((hb24.block _ (heap_lt HN2.out)).trans HN2.out);have HE4:=Hyd ((hb24.block _ (heap_lt HE2.out)).trans HE2.out);have HR4:=Hyd ((hb24.block _ (heap_lt HR2.out)).trans HR2.out);have HX4:=Hyd ((hb24.block _ (heap_lt HX2.out)).trans HX2.out);have hbW4:Below w.heap.size w w4:=HBW2.out.trans (hb24.mono hw2);have HBW4:=Hyd hbW4;have hw4s:=hbW4.size;have hwr1:w.heap.size<w4.heap.size:=heap_lt HP4.out;have HC0:=Hyd (show w4.cell? ⟨w.heap.size,0,none⟩=some (.slice (some ⟨g5,0,none⟩) ss.length qc) from(CeH HP4.out 0).trans rfl)
  have HC1:=Hyd ((hb24.cell (p:=⟨b3,o3+L1,none⟩) hb3).trans HCP.out);have HPO4:=Hyd (own_below HPO2.out hb24);have hb3r:b3<w4.heap.size:=Nat.lt_of_lt_of_le hb3 hb24.size;have HC2:=Hyd ((hbW4.cell (p:=⟨g5,PL * 5,none⟩) hg5w).trans HY0.out);have HC3:=Hyd ((hbW4.cell (p:=⟨g5,PL * 5+1,none⟩) hg5w).trans HY1.out);have HC4:=Hyd ((hbW4.cell (p:=⟨g5,PL * 5+2,none⟩) hg5w).trans HY2.out);have HC5:=Hyd ((hbW4.cell (p:=⟨g5,PL * 5+3,none⟩) hg5w).trans HY3.out);have HC6:=Hyd ((hbW4.cell (p:=⟨g5,PL * 5+4,none⟩) hg5w).trans HY4.out)
  have hg5r:g5<w4.heap.size:=by omega
  have hsp:L1<np:=hLpl;have hpl:PL<ss.length:=hPLs;clear hom hb3' hb34 hb24 hw4 hM r0 r1 r2 HMT HCP HBW2 HP2 HN2 HE2 HR2 HX2 hbW4 HPO2 hb3
  go_upto_region 7 with (fail)
  rw[HMM.out,<-HW4.out]
  refine Reg.stand_order (W:=w4) (h:=9) (t:=1)
   [⟨0,38,[],99,[],none,fun v _=>v=.pointer (some ⟨w.heap.size,0,none⟩)⟩,
    ⟨1,39,[],99,[],none,fun v _=>v=.slice (some ⟨g5,0,none⟩) ss.length qc⟩,
    ⟨2,40,[],99,[],none,fun v _=>v=.slice (some ⟨b3,o3,none⟩) np pc⟩,
    ⟨3,41,[],99,[],none,fun v _=>v=.int .i64 (L1:Nat)⟩,
    ⟨4,42,[],99,[],none,fun v _=>v=.pointer (some ⟨b3,o3+L1,none⟩)⟩,
    ⟨5,43,[],99,[],none,fun v _=>v=.int .i64 (PL:Nat)⟩,
    ⟨6,44,[],99,[],none,fun v _=>v=.pointer (some ⟨g5,PL * 5,none⟩)⟩,
    ⟨7,45,[],99,[],none,fun v _=>v=.agg #[.int .u8 xk,.bool ng,.int .i64 xlo,.int .i64 xhi,.slice ta xts.length tc]⟩,
    ⟨8,11,[107],99,[],none,fun v w'=>∃ g,v=.pointer (some ⟨g,0,none⟩)/\w4.heap.size<=g/\w'.heap[g]? = some (.cells #[.int .u8 0,.bool false,.int .i64 0,.int .i64 0,.slice none 0 0] 107 (0,0))⟩]
   []
   (by kernel_rfl) rfl (by kernel_rfl) (by kernel_rfl) (by kernel_rfl) (show [0,1,2,3,4,5,6,7,8].Nodup by decide) (show ∀ i,i<9->i∈[0,1,2,3,4,5,6,7,8] by decide) ?_ (show [38,39,40,41,42,43,44,45,11].Nodup by decide) (show ∀ s∈[38,39,40,41,42,43,44,45,11],s<191 by decide) (by kernel_rfl) ?_ ?_ (Below.refl _ _) ?_ ?_ ?_
  ·intro f hf
   simp only[List.mem_cons,List.not_mem_nil,or_false]at hf
   rcases hf with rfl|rfl|rfl|rfl|rfl|rfl|rfl|rfl|rfl<;>simp
  ·intro f hf v w1 w2 hk hF
   simp only[List.mem_cons,List.not_mem_nil,or_false]at hf
   rcases hf with rfl|rfl|rfl|rfl|rfl|rfl|rfl|rfl|rfl
   ·exact hF
   ·exact hF
   ·exact hF
   ·exact hF
   ·exact hF
   ·exact hF
   ·exact hF
   ·exact hF
   ·obtain⟨g,e1,e2,e3⟩:=hF;exact⟨g,e1,e2,(hk 107 (by simp)).2 _ _ e3⟩
  ·intro f hf;cases hf
  ·intro f hf;cases hf
  ·intro f hf a w1 hs hg' hst;have t3:a.eval (.tmp 3)=.pointer (some ⟨w.heap.size,0,none⟩):=Reg.eval_tmp ((hs.out 3 (show 3∉[38,39,40,41,42,43,44,45,11] by decide)).trans rfl);have t8:a.eval (.tmp 8)=.slice (some ⟨b3,o3,none⟩) np pc:=Reg.eval_tmp ((hs.out 8 (show 8∉[38,39,40,41,42,43,44,45,11] by decide)).trans rfl);have t9:a.eval (.tmp 9)=.int .i64 (L1:Nat):=Reg.eval_tmp ((hs.out 9 (show 9∉[38,39,40,41,42,43,44,45,11] by decide)).trans rfl)
   simp only[List.mem_cons,List.not_mem_nil,or_false]at hf
   rcases hf with rfl|rfl|rfl|rfl|rfl|rfl|rfl|rfl|rfl
   ·have u1:=t3;exact Reg.step_val (w':=w1) (v:=.pointer (some ⟨w.heap.size,0,none⟩)) rfl rfl rfl (Ord.run_fld u1 (by go_simp)) rfl hs.below (fun e=>Reg.Keeps.refl e _)
   ·obtain⟨v1,hv1,rfl⟩:∃ v,a.tmps[38]? = some v/\v=.pointer (some ⟨w.heap.size,0,none⟩):=hg' _ (Reg.at_fact 0 rfl) (by kernel_rfl) (by simp[Reg.okTil])
    have u1:=Reg.eval_tmp hv1;exact Reg.step_val rfl rfl rfl (Reg.run_load u1 (load_poss20 ((hs.below.cell (p:=⟨w.heap.size,0,none⟩) hwr1).trans HC0.out))) rfl hs.below (fun e=>Reg.Keeps.refl e _)
   ·have u1:=t8;exact Reg.step_val rfl rfl rfl (Reg.run_move u1) rfl hs.below (fun e=>Reg.Keeps.refl e _)
   ·have u1:=t9;exact Reg.step_val rfl rfl rfl (Reg.run_move u1) rfl hs.below (fun e=>Reg.Keeps.refl e _)
   ·obtain⟨v1,hv1,rfl⟩:∃ v,a.tmps[40]? = some v/\v=.slice (some ⟨b3,o3,none⟩) np pc:=hg' _ (Reg.at_fact 2 rfl) (by kernel_rfl) (by simp[Reg.okTil])
    obtain⟨v2,hv2,rfl⟩:∃ v,a.tmps[41]? = some v/\v=.int .i64 (L1:Nat):=hg' _ (Reg.at_fact 3 rfl) (by kernel_rfl) (by simp[Reg.okTil])
    have u1:=Reg.eval_tmp hv1;have u2:=Reg.eval_tmp hv2;exact Reg.step_val (w':=w1) (v:=.pointer (some ⟨b3,o3+L1,none⟩)) rfl rfl rfl (ix_int u1 u2 hsp) rfl hs.below (fun e=>Reg.Keeps.refl e _)
   ·obtain⟨v1,hv1,rfl⟩:∃ v,a.tmps[42]? = some v/\v=.pointer (some ⟨b3,o3+L1,none⟩):=hg' _ (Reg.at_fact 4 rfl) (by kernel_rfl) (by simp[Reg.okTil])
    have u1:=Reg.eval_tmp hv1;exact Reg.step_val rfl rfl rfl (Reg.run_load u1 (load_int ((hs.below.cell (p:=⟨b3,o3+L1,none⟩) hb3r).trans HC1.out))) rfl hs.below (fun e=>Reg.Keeps.refl e _)
   ·obtain⟨v1,hv1,rfl⟩:∃ v,a.tmps[39]? = some v/\v=.slice (some ⟨g5,0,none⟩) ss.length qc:=hg' _ (Reg.at_fact 1 rfl) (by kernel_rfl) (by simp[Reg.okTil])
    obtain⟨v2,hv2,rfl⟩:∃ v,a.tmps[43]? = some v/\v=.int .i64 (PL:Nat):=hg' _ (Reg.at_fact 5 rfl) (by kernel_rfl) (by simp[Reg.okTil])
    have u1:=Reg.eval_tmp hv1;have u2:=Reg.eval_tmp hv2;exact Reg.step_val (w':=w1) (v:=.pointer (some ⟨g5,PL * 5,none⟩)) rfl rfl rfl (ix_pos20 u1 u2 hpl) rfl hs.below (fun e=>Reg.Keeps.refl e _)
   ·obtain⟨v1,hv1,rfl⟩:∃ v,a.tmps[44]? = some v/\v=.pointer (some ⟨g5,PL * 5,none⟩):=hg' _ (Reg.at_fact 6 rfl) (by kernel_rfl) (by simp[Reg.okTil])
    have u1:=Reg.eval_tmp hv1;exact Reg.step_val rfl rfl rfl (Reg.run_load u1 (load_pos20 ((hs.below.cell (p:=⟨g5,PL * 5,none⟩) hg5r).trans HC2.out) ((hs.below.cell (p:=⟨g5,PL * 5+1,none⟩) hg5r).trans HC3.out) ((hs.below.cell (p:=⟨g5,PL * 5+2,none⟩) hg5r).trans HC4.out) ((hs.below.cell (p:=⟨g5,PL * 5+3,none⟩) hg5r).trans HC5.out) ((hs.below.cell (p:=⟨g5,PL * 5+4,none⟩) hg5r).trans HC6.out))) rfl hs.below (fun e=>Reg.Keeps.refl e _)
   ·exact Reg.step_val rfl rfl rfl (run_alloc_pos20 (w:=w1)) ⟨w1.heap.size,rfl,hs.below.size,heap_new rfl⟩ (hs.below.alloc hs.below.size _) (fun e=>Reg.Keeps.alloc e _ _)
  ·intro vals w1 hF hfx hb1;have eX:vals 45=.agg #[.int .u8 xk,.bool ng,.int .i64 xlo,.int .i64 xhi,.slice ta xts.length tc]:=hF _ (Reg.at_fact 7 rfl) (show(9+1:Nat)<=99 by decide)
   obtain⟨g,eB,hgb,hgx⟩:∃ g,vals 11=.pointer (some ⟨g,0,none⟩)/\w4.heap.size<=g/\w1.heap[g]? = some (.cells #[.int .u8 0,.bool false,.int .i64 0,.int .i64 0,.slice none 0 0] 107 (0,0)):=hF _ (Reg.at_fact 8 rfl) (show(9+1:Nat)<=99 by decide)
   simp only[List.map_cons,List.map_nil,eX,eB]
   generalize vals 38=q38;generalize vals 39=q39;generalize vals 40=q40;generalize vals 41=q41;generalize vals 42=q42;generalize vals 43=q43;generalize vals 44=q44;have HB1:=Hyd hb1;have HGC:=Hyd hgx;have HGB:=Hyd hgb;have z0:w1.cell? ⟨g,0,none⟩=some (.int .u8 0):=(CeH hgx 0).trans rfl;have z1:w1.cell? ⟨g,1,none⟩=some (.bool false):=(CeH hgx 1).trans rfl;have z2:w1.cell? ⟨g,2,none⟩=some (.int .i64 0):=(CeH hgx 2).trans rfl;have z3:w1.cell? ⟨g,3,none⟩=some (.int .i64 0):=(CeH hgx 3).trans rfl;have z4:w1.cell? ⟨g,4,none⟩=some (.slice none 0 0):=(CeH hgx 4).trans rfl;have f0:=frozen_of_row w1 _ 0 _ _ hgx;have f1:=frozen_of_row w1 _ 1 _ _ hgx;have f2:=frozen_of_row w1 _ 2 _ _ hgx;have f3:=frozen_of_row w1 _ 3 _ _ hgx
   have f4:=frozen_of_row w1 _ 4 _ _ hgx;clear hF hfx eX eB hb1 hgb hgx;(iterate 10 unfold Reg.puts)
   go_upto_region 8 with (fail)
   obtain⟨w5,hw5⟩:∃ w5,w5=((((w1.setCell ⟨g,0,none⟩ (.int .u8 xk)).setCell ⟨g,1,none⟩ (.bool ng)).setCell ⟨g,2,none⟩ (.int .i64 xlo)).setCell ⟨g,3,none⟩ (.int .i64 xhi)).setCell ⟨g,4,none⟩ (.slice ta xts.length tc):=⟨_,rfl⟩
   have HX5:=Hyd (show w5.heap[g]? = some (.cells #[.int .u8 xk,.bool ng,.int .i64 xlo,.int .i64 xhi,.slice ta xts.length tc] 107 (0,0)) by rw[hw5];exact(blk_setc (blk_setc (blk_setc (blk_setc (blk_setc HGC.out 0 _) 1 _) 2 _) 3 _) 4 _).trans rfl)
   have hb5:Below w4.heap.size w4 w5:=by rw[hw5];exact((((HB1.out.setCell (p:=⟨g,0,none⟩) HGB.out _).setCell (p:=⟨g,1,none⟩) HGB.out _).setCell (p:=⟨g,2,none⟩) HGB.out _).setCell (p:=⟨g,3,none⟩) HGB.out _).setCell (p:=⟨g,4,none⟩) HGB.out _
   rw[<-hw5];clear hw5 z0 z1 z2 z3 z4 f0 f1 f2 f3 f4;have hbW5:Below w.heap.size w w5:=HBW4.out.trans (hb5.mono HBW4.out.size);have HP5:=Hyd ((hb5.block _ (heap_lt HP4.out)).trans HP4.out);have HN5:=Hyd ((hb5.block _ (heap_lt HN4.out)).trans HN4.out);have HE5:=Hyd ((hb5.block _ (heap_lt HE4.out)).trans HE4.out);have HR5:=Hyd ((hb5.block _ (heap_lt HR4.out)).trans HR4.out);have HXB5:=Hyd ((hb5.block _ (heap_lt HX4.out)).trans HX4.out);have HM5:=Hyd ((hb5.block _ (heap_lt XM.out)).trans XM.out);have HOM5:=Hyd (HOM.out.below hb5);have HQ5:=Hyd ((hb5.cell (p:=⟨b3,o3+L1,none⟩) hb3r).trans HC1.out);have HPO5:=Hyd (own_below HPO4.out hb5);have hb3s:b3<w5.heap.size:=Nat.lt_of_lt_of_le hb3r hb5.size;have HBW5:=Hyd hbW5;have hw5s:=hbW5.size;have HALL:=Hyd (all21 xts (.slice ta xts.length tc) (.agg #[.slice aa (mR r).length ac,.slice sa (mR r).length sc]) (.slice (some ⟨eb,eo,none⟩) r.evs.length ec) (mR r) r.evs L1 w5.heap.size e w5 ((Sl.keep HTT.out fun a ha=>hbW5.cell ha).more hw5s) HTO.out.1 HTO.out.2 HOM5.out.mt ((Sl.keep HEE.out fun a ha=>hbW5.cell ha).more hw5s) (Nat.le_refl _) HOK.out (by omega) HE.out.1 HES.out)
   have s4:w5.cell? ⟨g,4,none⟩=some (.slice ta xts.length tc):=(CeH HX5.out 4).trans rfl;have r1:w5.cell? ⟨w.heap.size+1,1,none⟩=some (.slice (some ⟨eb,eo,none⟩) r.evs.length ec):=(CeH HN5.out 1).trans rfl;have m0:w5.cell? ⟨M,0,none⟩=some (.slice aa (mR r).length ac):=(CeH HM5.out 0).trans rfl;have m1:w5.cell? ⟨M,1,none⟩=some (.slice sa (mR r).length sc):=(CeH HM5.out 1).trans rfl;have v0:w5.cell? ⟨w.heap.size+2,0,none⟩=some (.int .i64 e.id):=(CeH HE5.out 0).trans rfl;have v1:w5.cell? ⟨w.heap.size+2,1,none⟩=some (.int .i64 e.time):=(CeH HE5.out 1).trans rfl;have v2:w5.cell? ⟨w.heap.size+2,2,none⟩=some (.int .u8 e.kind):=(CeH HE5.out 2).trans rfl;have v3:w5.cell? ⟨w.heap.size+2,3,none⟩=some (.int .i64 e.val):=(CeH HE5.out 3).trans rfl
   clear hb5 hbW5 HC0 HC1 HC2 HC3 HC4 HC5 HC6 HB1 HGC HGB HP4 HN4 HE4 HR4 HX4 XM HOM HPO4 HW4 HMM HBW4;go_wp2_with fail;refine HALL.out.mono ?_;rintro en w6 ⟨rfl,hg6⟩;rw[HA.out];have hb6:=hg6.below;have HP6:=Hyd ((hb6.block _ (heap_lt HP5.out)).trans HP5.out);have HN6:=Hyd ((hb6.block _ (heap_lt HN5.out)).trans HN5.out);have HE6:=Hyd ((hb6.block _ (heap_lt HE5.out)).trans HE5.out);have HR6:=Hyd ((hb6.block _ (heap_lt HR5.out)).trans HR5.out);have HX6:=Hyd ((hb6.block _ (heap_lt HXB5.out)).trans HXB5.out);have HM6:=Hyd ((hb6.block _ (heap_lt HM5.out)).trans HM5.out);have HS6:=Hyd ((hb6.block _ (heap_lt HX5.out)).trans HX5.out);have HOM6:=Hyd (HOM5.out.below hb6);have HQ6:=Hyd ((hb6.cell (p:=⟨b3,o3+L1,none⟩) hb3s).trans HQ5.out);have HPO6:=Hyd (own_below HPO5.out hb6);have hb36:b3<w6.heap.size:=Nat.lt_of_lt_of_le hb3s hb6.size
   have HBW6:=Hyd (HBW5.out.trans (hb6.mono HBW5.out.size));have hw6:=HBW6.out.size;have hx6:w.heap.size+4<w6.heap.size:=heap_lt HX6.out;have hg6l:g<w6.heap.size:=heap_lt HS6.out;have hM6l:M<w6.heap.size:=heap_lt HM6.out
   have HGX:=Hyd (show g≠w.heap.size+4 from by
    intro h;have h1:=HS6.out;rw[h,HX6.out]at h1
    injection h1 with h1
    injection h1 with _ h1
    exact absurd h1 (by decide))
   have HMX:=Hyd (show M≠w.heap.size+4 from by
    intro h;have h1:=HM6.out;rw[h,HX6.out]at h1
    injection h1 with h1
    injection h1 with _ h1
    exact absurd h1 (by decide))
   have HBX:=Hyd (show b3≠w.heap.size+4 from by
    intro h
    rcases HPO6.out.2 with ⟨h1,_⟩ | ⟨g',cap,cur,h1,_,hh,_⟩
    ·cases h1
    ·injection h1 with h1
     injection h1 with h1
     injection h1 with h1
     rw[<-h1,h,HX6.out]at hh
     injection hh with hh
     injection hh with _ hh
     exact absurd hh (by decide))
   have HQN6:=Hyd ((HBW6.out.cell (p:=⟨q,oq+L1,none⟩) HQW.out).trans HXN.out);have HRW:=Hyd (show ∀ wz,Below w.heap.size w wz->RunAt wz wz.heap.size (.agg #[.slice (some ⟨q,oq,none⟩) r.counts.length cq,.slice (some ⟨eb,eo,none⟩) r.evs.length ec,.bool r.blocked]) r from fun wz hz=>⟨_,_,rfl,(Sl.keep HC.out fun a ha=>hz.cell ha).more hz.size,(Sl.keep HEE.out fun a ha=>hz.cell ha).more hz.size⟩)
   obtain⟨B2,hB2⟩:∃ b,r.blocked=b:=⟨_,rfl⟩
   have HB2:=Hyd hB2;clear hB2;have HZ0:=Hyd (AdvZ.begin HX6.out)
   have hqw6:q<w6.heap.size:=by have:=HQW.out;omega
   have r0:w6.cell? ⟨w.heap.size+1,0,none⟩=some (.slice (some ⟨q,oq,none⟩) r.counts.length cq):=(CeH HN6.out 0).trans rfl;have e2:w6.cell? ⟨w.heap.size+2,2,none⟩=some (.int .u8 e.kind):=(CeH HE6.out 2).trans rfl;have s0:w6.cell? ⟨g,0,none⟩=some (.int .u8 xk):=(CeH HS6.out 0).trans rfl;have s3:w6.cell? ⟨g,3,none⟩=some (.int .i64 xhi):=(CeH HS6.out 3).trans rfl;have qN:=HQN6.out
   obtain⟨C1,hC1⟩:∃ b,(((e.kind==xk)&&A)&&decide ((N:Int)<xhi))=b:=⟨_,rfl⟩
   have HC1:=Hyd hC1
   obtain⟨x1,hx1⟩:∃ x,adv1 p r e N L1 s=x:=⟨_,rfl⟩
   have HX1:=Hyd (show x1=if C1=true then addR p noRes (withR r L1 e) else noRes by
    rw[<-hx1,<-hC1];unfold adv1;rw[HFS.out,HHI.out]
    by_cases h1:(N:Int)<s.hi<;>simp[h1])
   have HSM1:=Hyd (adv1_small p r e N L1 s);rw[hx1]at HSM1;have HXA:=Hyd hx1;clear hC1 hx1 hg6 hb6 s4 r1 m0 m1 v0 v1 v2 v3 HALL HP5 HN5 HE5 HR5 HXB5 HM5 HOM5 HQ5 HPO5 HBW5 HX5 hb3s hb3r
   go_upto_region 9 with (fail)
   go_cut [12,71] (fun s12 s71 wx=>s12=.bool A/\s71=.bool C1/\Below w6.heap.size w6 wx)
   case first =>
    as_aux_lemma =>
     cases hAv:A with
     | false =>
      have HV:=Hyd hAv;clear hAv;go_wp2_with fail
      go_quiet (fail)
      go_wp2_with fail;go_meet;exact⟨by rw[HV.out],by rw[<-HC1.out,HV.out];simp,((Mem.Grw.refl w6).drewN _).below⟩
     | true =>
      have HV:=Hyd hAv;clear hAv
      by_cases hkd:e.kind=xk
      ·have hkq:(e.kind==xk)=true:=by simp[hkd]
       have HKD:=Hyd hkq;clear hkd;go_wp2_with fail
       go_quiet (fail)
       go_wp2_with fail;go_meet;exact⟨by rw[HV.out],by rw[<-HC1.out,HV.out,HKD.out];simp,((Mem.Grw.refl w6).drewN _).below⟩
      ·have hkq:(e.kind==xk)=false:=by rw[beq_eq_false_iff_ne];exact hkd
       have HKD:=Hyd hkq;clear hkd;go_wp2_with fail
       go_quiet (fail)
       go_wp2_with fail;go_meet;exact⟨by rw[HV.out],by rw[<-HC1.out,HKD.out];simp,((Mem.Grw.refl w6).drewN _).below⟩
   case rest =>
    obtain⟨rfl,rfl,hbc⟩:=hcut;have HZ1:=Hyd (HZ0.out.below hbc);clear hbc HZ0 r0 e2 s0 s3 qN
    go_upto_if 71 with (fail)
    go_cut [9] (fun s9 wx=>s9=.int .i64 (L1:Nat)/\∃ ga gk da dk gs,AdvZ (w.heap.size+4) w6 wx #[.bool false,.slice none 0 0,.slice none 0 0,.bool false,.slice ga gs.length gk,.slice da x1.done.length dk] (.slice ga gs.length gk) (.slice da x1.done.length dk) gs x1)
    case first =>
     as_aux_lemma =>
      cases hCv:C1 with
      | false =>
       have HV:=Hyd hCv;clear hCv;go_wp2_with fail;go_meet
       obtain rfl:x1=noRes:=by rw[HX1.out,HV.out];rfl
       exact⟨rfl,none,0,none,0,[],HZ1.out⟩
      | true =>
       have HV:=Hyd hCv;clear hCv;have hbz:Below w.heap.size w wc:=HZ1.out.belowX HBW6.out hw6 (by omega);have HMO:=Hyd (more21 (.slice (some ⟨q,oq,none⟩) r.counts.length cq) (.slice (some ⟨eb,eo,none⟩) r.evs.length ec) r L1 e wc (HRW.out wc hbz) HW.out (by omega));have r0:wc.cell? ⟨w.heap.size+1,0,none⟩=some (.slice (some ⟨q,oq,none⟩) r.counts.length cq):=(HZ1.out.cell (a:=⟨w.heap.size+1,0,none⟩) (heap_lt HN6.out) (by simp)).trans ((CeH HN6.out 0).trans rfl);have r1:wc.cell? ⟨w.heap.size+1,1,none⟩=some (.slice (some ⟨eb,eo,none⟩) r.evs.length ec):=(HZ1.out.cell (a:=⟨w.heap.size+1,1,none⟩) (heap_lt HN6.out) (by simp)).trans ((CeH HN6.out 1).trans rfl);have r2:wc.cell? ⟨w.heap.size+1,2,none⟩=some (.bool r.blocked):=(HZ1.out.cell (a:=⟨w.heap.size+1,2,none⟩) (heap_lt HN6.out) (by simp)).trans ((CeH HN6.out 2).trans rfl)
       have v0:wc.cell? ⟨w.heap.size+2,0,none⟩=some (.int .i64 e.id):=(HZ1.out.cell (a:=⟨w.heap.size+2,0,none⟩) (heap_lt HE6.out) (by simp)).trans ((CeH HE6.out 0).trans rfl);have v1:wc.cell? ⟨w.heap.size+2,1,none⟩=some (.int .i64 e.time):=(HZ1.out.cell (a:=⟨w.heap.size+2,1,none⟩) (heap_lt HE6.out) (by simp)).trans ((CeH HE6.out 1).trans rfl);have v2:wc.cell? ⟨w.heap.size+2,2,none⟩=some (.int .u8 e.kind):=(HZ1.out.cell (a:=⟨w.heap.size+2,2,none⟩) (heap_lt HE6.out) (by simp)).trans ((CeH HE6.out 2).trans rfl);have v3:wc.cell? ⟨w.heap.size+2,3,none⟩=some (.int .i64 e.val):=(HZ1.out.cell (a:=⟨w.heap.size+2,3,none⟩) (heap_lt HE6.out) (by simp)).trans ((CeH HE6.out 3).trans rfl);clear hbz;go_wp2_with fail;refine HMO.out.mono ?_;rintro en w8 ⟨cv,ev,rfl,hdo,hb8⟩
       obtain⟨ca,cc,hcv⟩:=(Sl.of_own hdo.1).shape;obtain⟨ea,ec',hev⟩:=(Sl.of_own hdo.2).shape
       simp only at hcv hev
       subst hcv hev
       obtain⟨nc,hnc⟩:∃ nc,(withR r L1 e).counts.length=nc:=⟨_,rfl⟩
       obtain⟨ne,hne⟩:∃ ne,(withR r L1 e).evs.length=ne:=⟨_,rfl⟩
       have hncl:nc<=p.steps.length:=by
        rw[<-hnc]
        show(List.set _ L1 _).length<=_
        rw[List.length_set]
        split
        ·rw[List.length_append,List.length_singleton];omega
        ·omega
       rw[hnc,hne]at hdo ⊢
       obtain⟨w9,hw9⟩:∃ w9,w9=w8.alloc (.cells #[.slice ca nc cc,.slice ea ne ec',.bool false] 53):=⟨_,rfl⟩
       have hb9:Below wc.heap.size wc w9:=by rw[hw9];exact hb8.alloc hb8.size _
       have hb89:Below w8.heap.size w8 w9:=by rw[hw9];exact(Below.refl _ _).alloc (Nat.le_refl _) _
       have XRN:=Hyd (show w9.heap[w8.heap.size]? = some (.cells #[.slice ca nc cc,.slice ea ne ec',.bool false] 53 (0,0)) by rw[hw9];exact heap_new rfl);have HDO9:=Hyd ((hdo.below hb89).le HZ1.out.size);have HZ9:=Hyd (HZ1.out.below hb9);have hbw9:Below w.heap.size w w9:=HZ9.out.belowX HBW6.out hw6 (by omega)
       have HTD:=Hyd (told21 p (.slice (some ⟨g5,0,none⟩) ss.length qc) (.slice ca nc cc) (.slice ea ne ec') (withR r L1 e) ss ts L w6.heap.size false false none none none none 0 0 0 0 0 0 0 [] [] w9 ((DocAt.keep HD.out fun a _ ha=>hbw9.cell ha).more (Nat.le_refl _) hbw9.size) HP.out (HDO9.out.le (Nat.zero_le _)) (WfR.withR HW.out (by omega) hfew.1 hfew.2) (by
        intro y hy
        rcases List.mem_append.1 (show y∈r.evs++[e] from hy) with h1 | h1
        ·exact HF.out y h1
        ·rw[List.mem_singleton.1 h1];exact HID.out) (HRO.out.with_ e (by omega)) (by rw[hnc];exact hncl) HZ9.out.size HZ9.out.dr.o1 HZ9.out.dr.o2 (Nat.zero_le _) (Nat.zero_le _))
       have HW9:=Hyd hw9;have p0:w9.cell? ⟨w.heap.size,0,none⟩=some (.slice (some ⟨g5,0,none⟩) ss.length qc):=(HZ9.out.cell (a:=⟨w.heap.size,0,none⟩) (heap_lt HP6.out) (by simp)).trans ((CeH HP6.out 0).trans rfl);have p1:w9.cell? ⟨w.heap.size,1,none⟩=some (.int .i64 p.within):=(HZ9.out.cell (a:=⟨w.heap.size,1,none⟩) (heap_lt HP6.out) (by simp)).trans ((CeH HP6.out 1).trans rfl);have y0:w9.cell? ⟨w.heap.size+4,0,none⟩=some (.bool false):=(CeH HZ9.out.xb 0).trans rfl;have y1:w9.cell? ⟨w.heap.size+4,1,none⟩=some (.slice none 0 0):=(CeH HZ9.out.xb 1).trans rfl;have y2:w9.cell? ⟨w.heap.size+4,2,none⟩=some (.slice none 0 0):=(CeH HZ9.out.xb 2).trans rfl;have y3:w9.cell? ⟨w.heap.size+4,3,none⟩=some (.bool false):=(CeH HZ9.out.xb 3).trans rfl
       have y4:w9.cell? ⟨w.heap.size+4,4,none⟩=some (.slice none 0 0):=(CeH HZ9.out.xb 4).trans rfl;have y5:w9.cell? ⟨w.heap.size+4,5,none⟩=some (.slice none 0 0):=(CeH HZ9.out.xb 5).trans rfl;have n0:w9.cell? ⟨w8.heap.size,0,none⟩=some (.slice ca nc cc):=(CeH XRN.out 0).trans rfl;have n1:w9.cell? ⟨w8.heap.size,1,none⟩=some (.slice ea ne ec'):=(CeH XRN.out 1).trans rfl;have n2:w9.cell? ⟨w8.heap.size,2,none⟩=some (.bool false):=(CeH XRN.out 2).trans rfl;clear hdo hb8 hw9 hb9 hb89 hbw9 hnc hne r0 r1 r2 v0 v1 v2 v3 HMO
       go_upto_region 11 with (fail)
       rw[<-HW9.out];go_wp2_with fail;refine HTD.out.mono ?_;rintro en wd ⟨gv,dv,rfl,h1,h2,hbt⟩;have hzd:=AdvZ.told (p:=p) (r1:=withR r L1 e) HZ9.out hx6 HDO9.out hbt h1 h2;obtain⟨ga',gk',hgv⟩:=(Sl.of_own h1).shape;obtain⟨da',dk',hdv⟩:=(Sl.of_own h2).shape;subst hgv hdv;have HZD:=Hyd hzd;have y0:wd.cell? ⟨w.heap.size+4,0,none⟩=some (.bool false):=(CeH hzd.xb 0).trans rfl;have y1:wd.cell? ⟨w.heap.size+4,1,none⟩=some (.slice none 0 0):=(CeH hzd.xb 1).trans rfl;have y2:wd.cell? ⟨w.heap.size+4,2,none⟩=some (.slice none 0 0):=(CeH hzd.xb 2).trans rfl;have y3:wd.cell? ⟨w.heap.size+4,3,none⟩=some (.bool false):=(CeH hzd.xb 3).trans rfl;have y4:wd.cell? ⟨w.heap.size+4,4,none⟩=some (.slice none 0 0):=(CeH hzd.xb 4).trans rfl
       have y5:wd.cell? ⟨w.heap.size+4,5,none⟩=some (.slice none 0 0):=(CeH hzd.xb 5).trans rfl;have f0:=frozen_of_row wd _ 0 _ _ hzd.xb;have f1:=frozen_of_row wd _ 1 _ _ hzd.xb;have f2:=frozen_of_row wd _ 2 _ _ hzd.xb;have f3:=frozen_of_row wd _ 3 _ _ hzd.xb;have f4:=frozen_of_row wd _ 4 _ _ hzd.xb;have f5:=frozen_of_row wd _ 5 _ _ hzd.xb
       obtain⟨ng2,hng2⟩:∃ n,(0+if addGrown p (withR r L1 e)=true then 1 else 0)=n:=⟨_,rfl⟩
       obtain⟨nd2,hnd2⟩:∃ n,(([]:List (List UInt8))++if addDone p (withR r L1 e)=true then [textR (withR r L1 e)] else []).length=n:=⟨_,rfl⟩
       rw[hng2,hnd2]at HZD;rw[hng2,hnd2];have HNG:=Hyd hng2;have HND:=Hyd hnd2;clear h1 h2 hbt hng2 hnd2 hzd p0 p1 n0 n1 n2 HTD XRN HDO9 HZ9 HW9;go_wp2_with fail;go_meet;have hz6:=HZD.out.six (.bool false) (.slice none 0 0) (.slice none 0 0) (.bool false) (.slice ga' ng2 gk') (.slice da' nd2 dk')
       obtain rfl:x1=addR p noRes (withR r L1 e):=by rw[HX1.out];rw[HV.out];rfl
       have hlg:(([]:List (Value×Value×RRun))++if addGrown p (withR r L1 e)=true then [(Value.slice ca nc cc,Value.slice ea ne ec',withR r L1 e)] else []).length=ng2:=by
        rw[<-HNG.out,List.length_append]
        split<;>rfl
       have hld:(addR p noRes (withR r L1 e)).done.length=nd2:=by rw[<-HND.out];rfl
       refine⟨rfl,ga',gk',da',dk',(([]:List (Value×Value×RRun))++if addGrown p (withR r L1 e)=true then [(Value.slice ca nc cc,Value.slice ea ne ec',withR r L1 e)] else []), ?_⟩;rw[hlg,hld];exact hz6
    case rest =>
     clear HZ1 HX1 HC1;obtain⟨rfl,ga,gk,da,dk,gs,hz⟩:=hcut;have HZ2:=Hyd hz
     have hgl:gs.length<=1:=by
      have h1:=congrArg List.length hz.dr.gm;rw[List.length_map]at h1;have:=HSM1.out.1
      omega
     have hdl:x1.done.length<=1:=HSM1.out.2
     obtain⟨w7,rfl⟩:∃ w':World,w'=wc:=⟨_,rfl⟩
     have r0:w7.cell? ⟨w.heap.size+1,0,none⟩=some (.slice (some ⟨q,oq,none⟩) r.counts.length cq):=(hz.cell (a:=⟨w.heap.size+1,0,none⟩) (heap_lt HN6.out) (by simp)).trans ((CeH HN6.out 0).trans rfl);have r2:w7.cell? ⟨w.heap.size+1,2,none⟩=some (.bool B2):=(hz.cell (a:=⟨w.heap.size+1,2,none⟩) (heap_lt HN6.out) (by simp)).trans (show w6.cell? ⟨w.heap.size+1,2,none⟩=some (.bool B2) from by rw[<-HB2.out];exact(CeH HN6.out 2).trans rfl);have s2:w7.cell? ⟨g,2,none⟩=some (.int .i64 xlo):=(hz.cell (a:=⟨g,2,none⟩) hg6l HGX.out).trans ((CeH HS6.out 2).trans rfl);have qN:w7.cell? ⟨q,oq+L1,none⟩=some (.int .i64 (N:Int)):=(hz.cell (a:=⟨q,oq+L1,none⟩) hqw6 (by have:=HQW.out;show q≠_;omega)).trans HQN6.out
     obtain⟨C2,hC2⟩:∃ b,(decide (L1+1<np)&&(decide (xlo<=(N:Int))&&!B2))=b:=⟨_,rfl⟩
     have HC2:=Hyd hC2
     obtain⟨x2,hx2⟩:∃ x,adv2 p r e N L1 s=x:=⟨_,rfl⟩
     have HX2:=Hyd (show x2=if step2 p r e N L1 s=true then addR p x1 (withR r (L1+1) e) else x1 by
      rw[<-hx2,adv2_eq,HXA.out])
     rw[hx2]at HRV;have HX2L:=Hyd hx2;clear hC2 hx2 hz
     go_upto_region 12 with (fail)
     go_cut [9,99] (fun s9 s99 wx=>s9=.int .i64 (L1:Nat)/\s99=.bool C2/\Below w7.heap.size w7 wx)
     case first =>
      as_aux_lemma =>
       by_cases hn1:L1+1<np
       ·have hni:(L1:Int)+1<(np:Int):=(by omega)
        by_cases hlo:xlo<=(N:Int)
        ·cases hBv:B2 with
         | false =>
          have HV:=Hyd hBv;rw[hBv]at r2;clear hBv;go_wp2_with fail
          go_quiet (fail)
          go_wp2_with fail;go_meet;exact⟨rfl,by rw[<-HC2.out,HV.out];simp[hn1,hlo],((Mem.Grw.refl w7).drewN _).below⟩
         | true =>
          have HV:=Hyd hBv;rw[hBv]at r2;clear hBv;go_wp2_with fail
          go_quiet (fail)
          go_wp2_with fail;go_meet;exact⟨rfl,by rw[<-HC2.out,HV.out];simp,((Mem.Grw.refl w7).drewN _).below⟩
        ·have hlod:decide (xlo<=(N:Int))=false:=decide_eq_false hlo;go_wp2_with fail
         go_quiet (fail)
         go_wp2_with fail;go_meet;exact⟨rfl,by rw[<-HC2.out];first | (rw[hlod];simp;done) | (have hlo':¬ (xlo<=(N:Int)):=by omega;simp[hlo']),((Mem.Grw.refl w7).drewN _).below⟩
       ·have hni:decide ((L1:Int)+1<(np:Int))=false:=decide_eq_false (by omega);go_wp2_with fail
        go_quiet (fail)
        go_wp2_with fail;go_meet;exact⟨rfl,by rw[<-HC2.out];simp[hn1],((Mem.Grw.refl w7).drewN _).below⟩
     case rest =>
      obtain⟨rfl,rfl,hbc⟩:=hcut;have HZ3:=Hyd (HZ2.out.below hbc);clear hbc HZ2 r0 r2 s2 qN
      go_upto_if 99 with (fail)
      go_cut [9] (fun s9 wx=>s9=.int .i64 (L1:Nat)/\∃ ga gk da dk gs,AdvZ (w.heap.size+4) w6 wx #[.bool false,.slice none 0 0,.slice none 0 0,.bool false,.slice ga gs.length gk,.slice da x2.done.length dk] (.slice ga gs.length gk) (.slice da x2.done.length dk) gs x2)
      case first =>
       cases hCv:C2 with
       | false =>
        have HV:=Hyd hCv;clear hCv;go_wp2_with fail;go_meet
        obtain rfl:x2=x1:=by
         rw[HX2.out,if_neg];intro h;have h1:=HC2.out;rw[HV.out]at h1;unfold step2 at h
         cases hs2:p.steps[L1+1]? with
         | none=>rw[hs2]at h;cases h
         | some s2 =>
          rw[hs2]at h
          simp only[Bool.and_eq_true]at h
          have hn1:=(List.getElem?_eq_some_iff.1 hs2).1;rw[<-HPLEN.out]at hn1;rw[HLO.out,decide_eq_true hn1,h.1]at h1;have h2:=h.2.1;rw[HB2.out]at h2;rw[h2]at h1
          simp at h1
        exact⟨rfl,ga,gk,da,dk,gs,HZ3.out⟩
       | true =>
        have HV:=Hyd hCv;clear hCv;have hcc:=HC2.out;rw[HV.out]at hcc
        simp only[Bool.and_eq_true,decide_eq_true_eq,Bool.not_eq_true']at hcc
        obtain⟨hcn,hclo,hcb⟩:=hcc
        obtain⟨L2,hL2⟩:∃ L2,L1+1=L2:=⟨_,rfl⟩
        have hL2p:L2<p.steps.length:=(by omega)
        have hL2pl:L2<(plc ss ss.length).length:=by have:=HP.out.plc.len;omega
        obtain⟨hqlc1,hqlk,-,-,hqlt,-,-⟩:=HP.out.plc.at_ L2 hL2p hL2pl
        obtain⟨PM,hPM⟩:∃ PM,(plc ss ss.length)[L2]'hL2pl=PM:=⟨_,rfl⟩
        rw[hPM]at hqlc1 hqlk hqlt;have hPMs:PM<ss.length:=(by omega);obtain⟨gx,qx,e4,_,x0,xx1,x2',x3,vt2,x4,htt2⟩:=DocAt.cells HD.out hPMs
        obtain⟨rfl,rfl⟩:g5=gx/\qc=qx:=by simpa using e4
        obtain⟨yta,ytc,rfl⟩:=Sl.shape htt2;have HTO2:=Hyd (HP.out.ok.tst _ (List.getElem_mem hL2p))
        obtain⟨s2,hs2⟩:∃ s,p.steps[L2]'hL2p=s:=⟨_,rfl⟩
        rw[hs2]at hqlk hqlt HTO2
        obtain⟨yk,hyk⟩:∃ x,(ss[PM]!).k=x:=⟨_,rfl⟩
        obtain⟨yng,hyng⟩:∃ x,(ss[PM]!).neg=x:=⟨_,rfl⟩
        obtain⟨ylo,hylo⟩:∃ x,(ss[PM]!).lo=x:=⟨_,rfl⟩
        obtain⟨yhi,hyhi⟩:∃ x,(ss[PM]!).hi=x:=⟨_,rfl⟩
        obtain⟨yts,hyts⟩:∃ x,ts PM=x:=⟨_,rfl⟩
        rw[hyk]at x0 hqlk;rw[hyng]at xx1;rw[hylo]at x2';rw[hyhi]at x3;rw[hyts]at x4 htt2 hqlt;rw[<-hqlt]at HTO2
        obtain⟨A2,hA2⟩:∃ A,allP yts (pmM r.evs (mR r)) L2 e=A:=⟨_,rfl⟩
        have HA2:=Hyd hA2
        obtain⟨F2,hF2⟩:∃ b,((e.kind==yk)&&A2)=b:=⟨_,rfl⟩
        have HF2:=Hyd hF2
        have HS2:=Hyd (show step2 p r e N L1 s=F2 by
         unfold step2;rw[hL2,List.getElem?_eq_getElem hL2p,hs2]
         simp only[]
         unfold fitsS;rw[<-HLO.out,decide_eq_true hclo,HB2.out,hcb,<-hF2,<-hqlk,<-hqlt,<-hA2,HRO.out.all_ _ (by omega)]
         rfl)
        have HXB:=Hyd (show x2=if F2=true then addR p x1 (withR r L2 e) else x1 by rw[HX2.out,HS2.out,hL2])
        have hnpl:np=(plc ss ss.length).length:=by rw[HPLEN.out,HP.out.plc.len]
        have hpo3:=HZ3.out.ki.1 _ _ _ _ _ HPO6.out;rw[hnpl]at hpo3;have hbz:Below w.heap.size w wc:=HZ3.out.belowX HBW6.out hw6 (by omega);have HC0:=Hyd ((HZ3.out.cell (a:=⟨w.heap.size,0,none⟩) (heap_lt HP6.out) (by simp)).trans ((CeH HP6.out 0).trans (rfl:_=some (Value.slice (some ⟨g5,0,none⟩) ss.length qc))));have hcs:=hbz.size;have hwr1:w.heap.size<wc.heap.size:=Nat.lt_of_lt_of_le (heap_lt HP6.out) HZ3.out.size;have HC1':=cnt_cells (Sl.of_own hpo3) hL2pl;rw[hPM]at HC1';have HC1:=Hyd HC1';have hb3r:b3<wc.heap.size:=Nat.lt_of_lt_of_le hb36 HZ3.out.size;have hsp:L2<np:=(by omega);have hpl:PM<ss.length:=hPMs;have HC2z:=HC2;clear HC2;have HC2:=Hyd ((hbz.cell (p:=⟨g5,PM * 5,none⟩) hg5w).trans x0);have HC3:=Hyd ((hbz.cell (p:=⟨g5,PM * 5+1,none⟩) hg5w).trans xx1);have HC4:=Hyd ((hbz.cell (p:=⟨g5,PM * 5+2,none⟩) hg5w).trans x2')
        have HC5:=Hyd ((hbz.cell (p:=⟨g5,PM * 5+3,none⟩) hg5w).trans x3);have HC6:=Hyd ((hbz.cell (p:=⟨g5,PM * 5+4,none⟩) hg5w).trans x4);have hg5r:g5<wc.heap.size:=(by omega);have HTT2:=Hyd htt2;have HBZ:=Hyd hbz;have hL21:L2<=L1+1:=(by omega);have hL22:L1+1<=L2:=(by omega);have HL2:=Hyd hL2
        obtain⟨wy,rfl⟩:∃ w':World,w'=wc:=⟨_,rfl⟩
        clear hL2 hPM hqlc1 hqlk hqlt e4 x0 xx1 x2' x3 x4 htt2 hs2 hyk hyng hylo hyhi hyts hA2 hF2 hnpl hpo3 hbz HC1' HC2z hcs
        go_upto_region 13 with (fail)
        refine Reg.stand_order (W:=wy) (h:=10) (t:=1)
         [⟨0,100,[],99,[],none,fun v _=>v=.pointer (some ⟨w.heap.size,0,none⟩)⟩,
          ⟨1,101,[],99,[],none,fun v _=>v=.slice (some ⟨g5,0,none⟩) ss.length qc⟩,
          ⟨2,102,[],99,[],none,fun v _=>v=.slice (some ⟨b3,o3,none⟩) np pc⟩,
          ⟨3,103,[],99,[],none,fun v _=>v=.int .i64 (L1:Nat)⟩,
          ⟨4,104,[],99,[],none,fun v _=>v=.int .i64 (L2:Nat)⟩,
          ⟨5,105,[],99,[],none,fun v _=>v=.pointer (some ⟨b3,o3+L2,none⟩)⟩,
          ⟨6,106,[],99,[],none,fun v _=>v=.int .i64 (PM:Nat)⟩,
          ⟨7,107,[],99,[],none,fun v _=>v=.pointer (some ⟨g5,PM * 5,none⟩)⟩,
          ⟨8,108,[],99,[],none,fun v _=>v=.agg #[.int .u8 yk,.bool yng,.int .i64 ylo,.int .i64 yhi,.slice yta yts.length ytc]⟩,
          ⟨9,14,[107],99,[],none,fun v w'=>∃ g2,v=.pointer (some ⟨g2,0,none⟩)/\wy.heap.size<=g2/\w'.heap[g2]? = some (.cells #[.int .u8 0,.bool false,.int .i64 0,.int .i64 0,.slice none 0 0] 107 (0,0))⟩]
         []
         (by kernel_rfl) rfl (by kernel_rfl) (by kernel_rfl) (by kernel_rfl) (show [0,1,2,3,4,5,6,7,8,9].Nodup by decide) (show ∀ i,i<10->i∈[0,1,2,3,4,5,6,7,8,9] by decide) ?_ (show [100,101,102,103,104,105,106,107,108,14].Nodup by decide) (show ∀ s∈[100,101,102,103,104,105,106,107,108,14],s<191 by decide) (by kernel_rfl) ?_ ?_ (Below.refl _ _) ?_ ?_ ?_
        ·intro f hf
         simp only[List.mem_cons,List.not_mem_nil,or_false]at hf
         rcases hf with rfl|rfl|rfl|rfl|rfl|rfl|rfl|rfl|rfl|rfl<;>simp
        ·intro f hf v w1 w2 hk hF
         simp only[List.mem_cons,List.not_mem_nil,or_false]at hf
         rcases hf with rfl|rfl|rfl|rfl|rfl|rfl|rfl|rfl|rfl|rfl
         ·exact hF
         ·exact hF
         ·exact hF
         ·exact hF
         ·exact hF
         ·exact hF
         ·exact hF
         ·exact hF
         ·exact hF
         ·obtain⟨g2,e1,e2,e3⟩:=hF;exact⟨g2,e1,e2,(hk 107 (by simp)).2 _ _ e3⟩
        ·intro f hf;cases hf
        ·intro f hf;cases hf
        ·intro f hf a w1 hs hg' hst;have t3:a.eval (.tmp 3)=.pointer (some ⟨w.heap.size,0,none⟩):=Reg.eval_tmp ((hs.out 3 (show 3∉[100,101,102,103,104,105,106,107,108,14] by decide)).trans rfl);have t8:a.eval (.tmp 8)=.slice (some ⟨b3,o3,none⟩) np pc:=Reg.eval_tmp ((hs.out 8 (show 8∉[100,101,102,103,104,105,106,107,108,14] by decide)).trans rfl);have t9:a.eval (.tmp 9)=.int .i64 (L1:Nat):=Reg.eval_tmp ((hs.out 9 (show 9∉[100,101,102,103,104,105,106,107,108,14] by decide)).trans rfl)
         simp only[List.mem_cons,List.not_mem_nil,or_false]at hf
         rcases hf with rfl|rfl|rfl|rfl|rfl|rfl|rfl|rfl|rfl|rfl
         ·have u1:=t3;exact Reg.step_val (w':=w1) (v:=.pointer (some ⟨w.heap.size,0,none⟩)) rfl rfl rfl (Ord.run_fld u1 (by go_simp)) rfl hs.below (fun e=>Reg.Keeps.refl e _)
         ·obtain⟨v1,hv1,rfl⟩:∃ v,a.tmps[100]? = some v/\v=.pointer (some ⟨w.heap.size,0,none⟩):=hg' _ (Reg.at_fact 0 rfl) (by kernel_rfl) (by simp[Reg.okTil])
          have u1:=Reg.eval_tmp hv1;exact Reg.step_val rfl rfl rfl (Reg.run_load u1 (load_poss20 ((hs.below.cell (p:=⟨w.heap.size,0,none⟩) hwr1).trans HC0.out))) rfl hs.below (fun e=>Reg.Keeps.refl e _)
         ·have u1:=t8;exact Reg.step_val rfl rfl rfl (Reg.run_move u1) rfl hs.below (fun e=>Reg.Keeps.refl e _)
         ·have u1:=t9;exact Reg.step_val rfl rfl rfl (Reg.run_move u1) rfl hs.below (fun e=>Reg.Keeps.refl e _)
         ·obtain⟨v1,hv1,rfl⟩:∃ v,a.tmps[103]? = some v/\v=.int .i64 (L1:Nat):=hg' _ (Reg.at_fact 3 rfl) (by kernel_rfl) (by simp[Reg.okTil])
          have u1:=Reg.eval_tmp hv1
          have hwr2:IntKind.i64.wrap ((L1:Int)+1)=(L2:Int):=by rw[IntWalk.i64_in _ (by omega)];omega
          exact Reg.step_val rfl rfl rfl (w':=w1) (v:=.int .i64 (L2:Nat)) (by go_simp) rfl hs.below (fun e=>Reg.Keeps.refl e _)
         ·obtain⟨v1,hv1,rfl⟩:∃ v,a.tmps[102]? = some v/\v=.slice (some ⟨b3,o3,none⟩) np pc:=hg' _ (Reg.at_fact 2 rfl) (by kernel_rfl) (by simp[Reg.okTil])
          obtain⟨v2,hv2,rfl⟩:∃ v,a.tmps[104]? = some v/\v=.int .i64 (L2:Nat):=hg' _ (Reg.at_fact 4 rfl) (by kernel_rfl) (by simp[Reg.okTil])
          have u1:=Reg.eval_tmp hv1;have u2:=Reg.eval_tmp hv2;exact Reg.step_val (w':=w1) (v:=.pointer (some ⟨b3,o3+L2,none⟩)) rfl rfl rfl (ix_int u1 u2 hsp) rfl hs.below (fun e=>Reg.Keeps.refl e _)
         ·obtain⟨v1,hv1,rfl⟩:∃ v,a.tmps[105]? = some v/\v=.pointer (some ⟨b3,o3+L2,none⟩):=hg' _ (Reg.at_fact 5 rfl) (by kernel_rfl) (by simp[Reg.okTil])
          have u1:=Reg.eval_tmp hv1;exact Reg.step_val rfl rfl rfl (Reg.run_load u1 (load_int ((hs.below.cell (p:=⟨b3,o3+L2,none⟩) hb3r).trans HC1.out))) rfl hs.below (fun e=>Reg.Keeps.refl e _)
         ·obtain⟨v1,hv1,rfl⟩:∃ v,a.tmps[101]? = some v/\v=.slice (some ⟨g5,0,none⟩) ss.length qc:=hg' _ (Reg.at_fact 1 rfl) (by kernel_rfl) (by simp[Reg.okTil])
          obtain⟨v2,hv2,rfl⟩:∃ v,a.tmps[106]? = some v/\v=.int .i64 (PM:Nat):=hg' _ (Reg.at_fact 6 rfl) (by kernel_rfl) (by simp[Reg.okTil])
          have u1:=Reg.eval_tmp hv1;have u2:=Reg.eval_tmp hv2;exact Reg.step_val (w':=w1) (v:=.pointer (some ⟨g5,PM * 5,none⟩)) rfl rfl rfl (ix_pos20 u1 u2 hpl) rfl hs.below (fun e=>Reg.Keeps.refl e _)
         ·obtain⟨v1,hv1,rfl⟩:∃ v,a.tmps[107]? = some v/\v=.pointer (some ⟨g5,PM * 5,none⟩):=hg' _ (Reg.at_fact 7 rfl) (by kernel_rfl) (by simp[Reg.okTil])
          have u1:=Reg.eval_tmp hv1;exact Reg.step_val rfl rfl rfl (Reg.run_load u1 (load_pos20 ((hs.below.cell (p:=⟨g5,PM * 5,none⟩) hg5r).trans HC2.out) ((hs.below.cell (p:=⟨g5,PM * 5+1,none⟩) hg5r).trans HC3.out) ((hs.below.cell (p:=⟨g5,PM * 5+2,none⟩) hg5r).trans HC4.out) ((hs.below.cell (p:=⟨g5,PM * 5+3,none⟩) hg5r).trans HC5.out) ((hs.below.cell (p:=⟨g5,PM * 5+4,none⟩) hg5r).trans HC6.out))) rfl hs.below (fun e=>Reg.Keeps.refl e _)
         ·exact Reg.step_val rfl rfl rfl (run_alloc_pos20 (w:=w1)) ⟨w1.heap.size,rfl,hs.below.size,heap_new rfl⟩ (hs.below.alloc hs.below.size _) (fun e=>Reg.Keeps.alloc e _ _)
        ·intro vals w1 hF hfx hb1;have eX:vals 108=.agg #[.int .u8 yk,.bool yng,.int .i64 ylo,.int .i64 yhi,.slice yta yts.length ytc]:=hF _ (Reg.at_fact 8 rfl) (show(10+1:Nat)<=99 by decide)
         obtain⟨g2,eB,hgb,hgx⟩:∃ g2,vals 14=.pointer (some ⟨g2,0,none⟩)/\wy.heap.size<=g2/\w1.heap[g2]? = some (.cells #[.int .u8 0,.bool false,.int .i64 0,.int .i64 0,.slice none 0 0] 107 (0,0)):=hF _ (Reg.at_fact 9 rfl) (show(10+1:Nat)<=99 by decide)
         simp only[List.map_cons,List.map_nil,eX,eB]
         generalize vals 100=q100;generalize vals 101=q101;generalize vals 102=q102;generalize vals 103=q103;generalize vals 104=q104;generalize vals 105=q105;generalize vals 106=q106;generalize vals 107=q107;have HB1:=Hyd hb1;have HGC:=Hyd hgx;have HGB:=Hyd hgb;have z0:w1.cell? ⟨g2,0,none⟩=some (.int .u8 0):=(CeH hgx 0).trans rfl;have z1:w1.cell? ⟨g2,1,none⟩=some (.bool false):=(CeH hgx 1).trans rfl;have z2:w1.cell? ⟨g2,2,none⟩=some (.int .i64 0):=(CeH hgx 2).trans rfl;have z3:w1.cell? ⟨g2,3,none⟩=some (.int .i64 0):=(CeH hgx 3).trans rfl;have z4:w1.cell? ⟨g2,4,none⟩=some (.slice none 0 0):=(CeH hgx 4).trans rfl;have f0:=frozen_of_row w1 _ 0 _ _ hgx;have f1:=frozen_of_row w1 _ 1 _ _ hgx;have f2:=frozen_of_row w1 _ 2 _ _ hgx
         have f3:=frozen_of_row w1 _ 3 _ _ hgx;have f4:=frozen_of_row w1 _ 4 _ _ hgx;clear hF hfx eX eB hb1 hgb hgx;(iterate 11 unfold Reg.puts)
         go_upto_region 14 with (fail)
         obtain⟨w5b,hw5b⟩:∃ w5b,w5b=((((w1.setCell ⟨g2,0,none⟩ (.int .u8 yk)).setCell ⟨g2,1,none⟩ (.bool yng)).setCell ⟨g2,2,none⟩ (.int .i64 ylo)).setCell ⟨g2,3,none⟩ (.int .i64 yhi)).setCell ⟨g2,4,none⟩ (.slice yta yts.length ytc):=⟨_,rfl⟩
         have HX5c:=Hyd (show w5b.heap[g2]? = some (.cells #[.int .u8 yk,.bool yng,.int .i64 ylo,.int .i64 yhi,.slice yta yts.length ytc] 107 (0,0)) by rw[hw5b];exact(blk_setc (blk_setc (blk_setc (blk_setc (blk_setc HGC.out 0 _) 1 _) 2 _) 3 _) 4 _).trans rfl)
         have hb5b:Below wy.heap.size wy w5b:=by rw[hw5b];exact((((HB1.out.setCell (p:=⟨g2,0,none⟩) HGB.out _).setCell (p:=⟨g2,1,none⟩) HGB.out _).setCell (p:=⟨g2,2,none⟩) HGB.out _).setCell (p:=⟨g2,3,none⟩) HGB.out _).setCell (p:=⟨g2,4,none⟩) HGB.out _
         rw[<-hw5b];clear hw5b z0 z1 z2 z3 z4 f0 f1 f2 f3 f4;have HZ5:=Hyd (HZ3.out.below hb5b);have hbz:Below w.heap.size w w5b:=HBZ.out.trans (hb5b.mono HBZ.out.size);have hOM:=HOM6.out.keeps HZ5.out.ki;have HALL:=Hyd (all21 yts (.slice yta yts.length ytc) (.agg #[.slice aa (mR r).length ac,.slice sa (mR r).length sc]) (.slice (some ⟨eb,eo,none⟩) r.evs.length ec) (mR r) r.evs L2 w5b.heap.size e w5b ((Sl.keep HTT2.out fun a ha=>hbz.cell ha).more hbz.size) HTO2.out.1 HTO2.out.2 hOM.mt ((Sl.keep HEE.out fun a ha=>hbz.cell ha).more hbz.size) (Nat.le_refl _) HOK.out (by omega) HE.out.1 HES.out);have s4:w5b.cell? ⟨g2,4,none⟩=some (.slice yta yts.length ytc):=(CeH HX5c.out 4).trans rfl;have r1:w5b.cell? ⟨w.heap.size+1,1,none⟩=some (.slice (some ⟨eb,eo,none⟩) r.evs.length ec):=(HZ5.out.cell (a:=⟨w.heap.size+1,1,none⟩) (heap_lt HN6.out) (by simp)).trans ((CeH HN6.out 1).trans rfl)
         have m0:w5b.cell? ⟨M,0,none⟩=some (.slice aa (mR r).length ac):=(HZ5.out.cell (a:=⟨M,0,none⟩) hM6l HMX.out).trans ((CeH HM6.out 0).trans rfl);have m1:w5b.cell? ⟨M,1,none⟩=some (.slice sa (mR r).length sc):=(HZ5.out.cell (a:=⟨M,1,none⟩) hM6l HMX.out).trans ((CeH HM6.out 1).trans rfl);have v0:w5b.cell? ⟨w.heap.size+2,0,none⟩=some (.int .i64 e.id):=(HZ5.out.cell (a:=⟨w.heap.size+2,0,none⟩) (heap_lt HE6.out) (by simp)).trans ((CeH HE6.out 0).trans rfl);have v1:w5b.cell? ⟨w.heap.size+2,1,none⟩=some (.int .i64 e.time):=(HZ5.out.cell (a:=⟨w.heap.size+2,1,none⟩) (heap_lt HE6.out) (by simp)).trans ((CeH HE6.out 1).trans rfl);have v2:w5b.cell? ⟨w.heap.size+2,2,none⟩=some (.int .u8 e.kind):=(HZ5.out.cell (a:=⟨w.heap.size+2,2,none⟩) (heap_lt HE6.out) (by simp)).trans ((CeH HE6.out 2).trans rfl)
         have v3:w5b.cell? ⟨w.heap.size+2,3,none⟩=some (.int .i64 e.val):=(HZ5.out.cell (a:=⟨w.heap.size+2,3,none⟩) (heap_lt HE6.out) (by simp)).trans ((CeH HE6.out 3).trans rfl);have hL12:(L1:Int)+1=(L2:Int):=(by omega);have hL2b:L2<=9:=(by omega);clear hb5b hbz hOM HC0 HC1 HC2 HC3 HC4 HC5 HC6 HB1 HGC HGB HZ3 HBZ;go_wp2_with fail;refine HALL.out.mono ?_;rintro en w10 ⟨rfl,hg7⟩;rw[HA2.out];have HZ10:=Hyd (HZ5.out.below hg7.below);have k0:w10.cell? ⟨g2,0,none⟩=some (.int .u8 yk):=hg7.cell (heap_lt HX5c.out) ((CeH HX5c.out 0).trans rfl);have e2:w10.cell? ⟨w.heap.size+2,2,none⟩=some (.int .u8 e.kind):=(HZ10.out.cell (a:=⟨w.heap.size+2,2,none⟩) (heap_lt HE6.out) (by simp)).trans ((CeH HE6.out 2).trans rfl);clear hg7 s4 r1 m0 m1 v0 v1 v2 v3 HALL HX5c HZ5 hL12
         go_upto_region 15 with (fail)
         go_cut [12,125] (fun s12 s125 wx=>s12=.bool A2/\s125=.bool F2/\wx=w10)
         case first =>
          as_aux_lemma =>
           cases hAv:A2 with
           | false =>
            have HVA:=Hyd hAv;clear hAv;go_wp2_with fail;go_meet;exact⟨by rw[HVA.out],by rw[<-HF2.out,HVA.out];simp,rfl⟩
           | true =>
            have HVA:=Hyd hAv;clear hAv
            by_cases hkd:e.kind=yk
            ·have hkq:(e.kind==yk)=true:=by simp[hkd]
             have HKD:=Hyd hkq;clear hkd;go_wp2_with fail;go_meet;exact⟨by rw[HVA.out],by rw[<-HF2.out,HVA.out,HKD.out];simp,rfl⟩
            ·have hkq:(e.kind==yk)=false:=by rw[beq_eq_false_iff_ne];exact hkd
             have HKD:=Hyd hkq;clear hkd;go_wp2_with fail;go_meet;exact⟨by rw[HVA.out],by rw[<-HF2.out,HKD.out];simp,rfl⟩
         case rest =>
          as_aux_lemma =>
           obtain⟨rfl,rfl,rfl⟩:=hcut
           obtain⟨wg,rfl⟩:∃ w':World,w'=wc:=⟨_,rfl⟩
           clear k0 e2
           go_upto_if 125 with (fail)
           cases hFv:F2 with
           | false =>
            have HVF:=Hyd hFv;clear hFv;go_wp2_with fail;go_meet
            obtain rfl:x2=x1:=by rw[HXB.out,HVF.out];rfl
            exact⟨rfl,ga,gk,da,dk,gs,HZ10.out⟩
           | true =>
            have HVF:=Hyd hFv;clear hFv;have hL12:(L1:Int)+1=(L2:Int):=(by omega);have hbz:Below w.heap.size w wg:=HZ10.out.belowX HBW6.out hw6 (by omega);have HMO:=Hyd (more21 (.slice (some ⟨q,oq,none⟩) r.counts.length cq) (.slice (some ⟨eb,eo,none⟩) r.evs.length ec) r L2 e wg (HRW.out wg hbz) HW.out (by omega));have r0:wg.cell? ⟨w.heap.size+1,0,none⟩=some (.slice (some ⟨q,oq,none⟩) r.counts.length cq):=(HZ10.out.cell (a:=⟨w.heap.size+1,0,none⟩) (heap_lt HN6.out) (by simp)).trans ((CeH HN6.out 0).trans rfl);have r1:wg.cell? ⟨w.heap.size+1,1,none⟩=some (.slice (some ⟨eb,eo,none⟩) r.evs.length ec):=(HZ10.out.cell (a:=⟨w.heap.size+1,1,none⟩) (heap_lt HN6.out) (by simp)).trans ((CeH HN6.out 1).trans rfl);have r2:wg.cell? ⟨w.heap.size+1,2,none⟩=some (.bool r.blocked):=(HZ10.out.cell (a:=⟨w.heap.size+1,2,none⟩) (heap_lt HN6.out) (by simp)).trans ((CeH HN6.out 2).trans rfl)
            have v0:wg.cell? ⟨w.heap.size+2,0,none⟩=some (.int .i64 e.id):=(HZ10.out.cell (a:=⟨w.heap.size+2,0,none⟩) (heap_lt HE6.out) (by simp)).trans ((CeH HE6.out 0).trans rfl);have v1:wg.cell? ⟨w.heap.size+2,1,none⟩=some (.int .i64 e.time):=(HZ10.out.cell (a:=⟨w.heap.size+2,1,none⟩) (heap_lt HE6.out) (by simp)).trans ((CeH HE6.out 1).trans rfl);have v2:wg.cell? ⟨w.heap.size+2,2,none⟩=some (.int .u8 e.kind):=(HZ10.out.cell (a:=⟨w.heap.size+2,2,none⟩) (heap_lt HE6.out) (by simp)).trans ((CeH HE6.out 2).trans rfl);have v3:wg.cell? ⟨w.heap.size+2,3,none⟩=some (.int .i64 e.val):=(HZ10.out.cell (a:=⟨w.heap.size+2,3,none⟩) (heap_lt HE6.out) (by simp)).trans ((CeH HE6.out 3).trans rfl);clear hbz;go_wp2_with fail;refine HMO.out.mono ?_;rintro en w8 ⟨cv,ev,rfl,hdo,hb8⟩
            obtain⟨ca,cc,hcv⟩:=(Sl.of_own hdo.1).shape;obtain⟨ea,ec',hev⟩:=(Sl.of_own hdo.2).shape
            simp only at hcv hev
            subst hcv hev
            obtain⟨nc,hnc⟩:∃ nc,(withR r L2 e).counts.length=nc:=⟨_,rfl⟩
            obtain⟨ne,hne⟩:∃ ne,(withR r L2 e).evs.length=ne:=⟨_,rfl⟩
            have hncl:nc<=p.steps.length:=by
             rw[<-hnc]
             show(List.set _ L2 _).length<=_
             rw[List.length_set]
             split
             ·rw[List.length_append,List.length_singleton];omega
             ·omega
            rw[hnc,hne]at hdo ⊢
            obtain⟨w9,hw9⟩:∃ w9,w9=w8.alloc (.cells #[.slice ca nc cc,.slice ea ne ec',.bool false] 53):=⟨_,rfl⟩
            have hb9:Below wg.heap.size wg w9:=by rw[hw9];exact hb8.alloc hb8.size _
            have hb89:Below w8.heap.size w8 w9:=by rw[hw9];exact(Below.refl _ _).alloc (Nat.le_refl _) _
            have XRN:=Hyd (show w9.heap[w8.heap.size]? = some (.cells #[.slice ca nc cc,.slice ea ne ec',.bool false] 53 (0,0)) by rw[hw9];exact heap_new rfl);have HDO9:=Hyd ((hdo.below hb89).le HZ10.out.size);have HZ9:=Hyd (HZ10.out.below hb9);have hbw9:Below w.heap.size w w9:=HZ9.out.belowX HBW6.out hw6 (by omega)
            have HTD:=Hyd (told21 p (.slice (some ⟨g5,0,none⟩) ss.length qc) (.slice ca nc cc) (.slice ea ne ec') (withR r L2 e) ss ts L w6.heap.size false false none none ga da 0 0 0 0 gs.length gk dk (cellsOf encR gs) x1.done w9 ((DocAt.keep HD.out fun a _ ha=>hbw9.cell ha).more (Nat.le_refl _) hbw9.size) HP.out (HDO9.out.le (Nat.zero_le _)) (WfR.withR HW.out (by omega) hfew.1 hfew.2) (by
             intro y hy
             rcases List.mem_append.1 (show y∈r.evs++[e] from hy) with h1 | h1
             ·exact HF.out y h1
             ·rw[List.mem_singleton.1 h1];exact HID.out) (HRO.out.with_ e (by omega)) (by rw[hnc];exact hncl) HZ9.out.size HZ9.out.dr.o1 HZ9.out.dr.o2 (by omega) (by omega))
            have HW9:=Hyd hw9;have p0:w9.cell? ⟨w.heap.size,0,none⟩=some (.slice (some ⟨g5,0,none⟩) ss.length qc):=(HZ9.out.cell (a:=⟨w.heap.size,0,none⟩) (heap_lt HP6.out) (by simp)).trans ((CeH HP6.out 0).trans rfl);have p1:w9.cell? ⟨w.heap.size,1,none⟩=some (.int .i64 p.within):=(HZ9.out.cell (a:=⟨w.heap.size,1,none⟩) (heap_lt HP6.out) (by simp)).trans ((CeH HP6.out 1).trans rfl);have y0:w9.cell? ⟨w.heap.size+4,0,none⟩=some (.bool false):=(CeH HZ9.out.xb 0).trans rfl;have y1:w9.cell? ⟨w.heap.size+4,1,none⟩=some (.slice none 0 0):=(CeH HZ9.out.xb 1).trans rfl;have y2:w9.cell? ⟨w.heap.size+4,2,none⟩=some (.slice none 0 0):=(CeH HZ9.out.xb 2).trans rfl;have y3:w9.cell? ⟨w.heap.size+4,3,none⟩=some (.bool false):=(CeH HZ9.out.xb 3).trans rfl
            have y4:w9.cell? ⟨w.heap.size+4,4,none⟩=some (.slice ga gs.length gk):=(CeH HZ9.out.xb 4).trans rfl;have y5:w9.cell? ⟨w.heap.size+4,5,none⟩=some (.slice da x1.done.length dk):=(CeH HZ9.out.xb 5).trans rfl;have n0:w9.cell? ⟨w8.heap.size,0,none⟩=some (.slice ca nc cc):=(CeH XRN.out 0).trans rfl;have n1:w9.cell? ⟨w8.heap.size,1,none⟩=some (.slice ea ne ec'):=(CeH XRN.out 1).trans rfl;have n2:w9.cell? ⟨w8.heap.size,2,none⟩=some (.bool false):=(CeH XRN.out 2).trans rfl;clear hdo hb8 hw9 hb9 hb89 hbw9 hnc hne r0 r1 r2 v0 v1 v2 v3 HMO
            go_upto_region 17 with (fail)
            rw[<-HW9.out];go_wp2_with fail;refine HTD.out.mono ?_;rintro en wd ⟨gv,dv,rfl,h1,h2,hbt⟩;have hzd:=AdvZ.told (p:=p) (r1:=withR r L2 e) HZ9.out hx6 HDO9.out hbt h1 h2;obtain⟨ga',gk',hgv⟩:=(Sl.of_own h1).shape;obtain⟨da',dk',hdv⟩:=(Sl.of_own h2).shape;subst hgv hdv;have HZD:=Hyd hzd;have y0:wd.cell? ⟨w.heap.size+4,0,none⟩=some (.bool false):=(CeH hzd.xb 0).trans rfl;have y1:wd.cell? ⟨w.heap.size+4,1,none⟩=some (.slice none 0 0):=(CeH hzd.xb 1).trans rfl;have y2:wd.cell? ⟨w.heap.size+4,2,none⟩=some (.slice none 0 0):=(CeH hzd.xb 2).trans rfl;have y3:wd.cell? ⟨w.heap.size+4,3,none⟩=some (.bool false):=(CeH hzd.xb 3).trans rfl;have y4:wd.cell? ⟨w.heap.size+4,4,none⟩=some (.slice ga gs.length gk):=(CeH hzd.xb 4).trans rfl
            have y5:wd.cell? ⟨w.heap.size+4,5,none⟩=some (.slice da x1.done.length dk):=(CeH hzd.xb 5).trans rfl;have f0:=frozen_of_row wd _ 0 _ _ hzd.xb;have f1:=frozen_of_row wd _ 1 _ _ hzd.xb;have f2:=frozen_of_row wd _ 2 _ _ hzd.xb;have f3:=frozen_of_row wd _ 3 _ _ hzd.xb;have f4:=frozen_of_row wd _ 4 _ _ hzd.xb;have f5:=frozen_of_row wd _ 5 _ _ hzd.xb
            obtain⟨ng2,hng2⟩:∃ n,(gs.length+if addGrown p (withR r L2 e)=true then 1 else 0)=n:=⟨_,rfl⟩
            obtain⟨nd2,hnd2⟩:∃ n,(x1.done++if addDone p (withR r L2 e)=true then [textR (withR r L2 e)] else []).length=n:=⟨_,rfl⟩
            rw[hng2,hnd2]at HZD;rw[hng2,hnd2];have HNG:=Hyd hng2;have HND:=Hyd hnd2;clear h1 h2 hbt hng2 hnd2 hzd p0 p1 n0 n1 n2 HTD XRN HDO9 HZ9 HW9;go_wp2_with fail;go_meet;have hz6:=HZD.out.six (.bool false) (.slice none 0 0) (.slice none 0 0) (.bool false) (.slice ga' ng2 gk') (.slice da' nd2 dk')
            obtain rfl:x2=addR p x1 (withR r L2 e):=by rw[HXB.out];rw[HVF.out];rfl
            have hlg:(gs++if addGrown p (withR r L2 e)=true then [(Value.slice ca nc cc,Value.slice ea ne ec',withR r L2 e)] else []).length=ng2:=by
             rw[<-HNG.out,List.length_append]
             split<;>rfl
            have hld:(addR p x1 (withR r L2 e)).done.length=nd2:=by rw[<-HND.out];rfl
            refine⟨rfl,ga',gk',da',dk',(gs++if addGrown p (withR r L2 e)=true then [(Value.slice ca nc cc,Value.slice ea ne ec',withR r L2 e)] else []), ?_⟩;rw[hlg,hld];exact hz6
      case rest =>
       as_aux_lemma =>
        clear HZ3;obtain⟨rfl,ga,gk,da,dk,gs,hz⟩:=hcut;have HZ4:=Hyd hz
        obtain⟨wy,rfl⟩:∃ w':World,w'=wc:=⟨_,rfl⟩
        have y0:wy.cell? ⟨w.heap.size+4,0,none⟩=some (.bool false):=(CeH hz.xb 0).trans rfl;have f0:=frozen_of_row wy _ 0 _ _ hz.xb;clear hz
        go_upto_region 19 with (fail)
        obtain⟨wA,hwA⟩:∃ wA,wA=wy.setCell ⟨w.heap.size+4,0,none⟩ (.bool true):=⟨_,rfl⟩
        have HZA:=Hyd (show AdvZ (w.heap.size+4) w6 wA #[.bool true,.slice none 0 0,.slice none 0 0,.bool false,.slice ga gs.length gk,.slice da x2.done.length dk] (.slice ga gs.length gk) (.slice da x2.done.length dk) gs x2 by
         rw[hwA]
         exact HZ4.out.set 0 (.bool true) ((blk_setc HZ4.out.xb 0 _).trans rfl))
        rw[<-hwA];have r0:wA.cell? ⟨w.heap.size+1,0,none⟩=some (.slice (some ⟨q,oq,none⟩) r.counts.length cq):=(HZA.out.cell (a:=⟨w.heap.size+1,0,none⟩) (heap_lt HN6.out) (by simp)).trans ((CeH HN6.out 0).trans rfl);have r1:wA.cell? ⟨w.heap.size+1,1,none⟩=some (.slice (some ⟨eb,eo,none⟩) r.evs.length ec):=(HZA.out.cell (a:=⟨w.heap.size+1,1,none⟩) (heap_lt HN6.out) (by simp)).trans ((CeH HN6.out 1).trans rfl);have r2:wA.cell? ⟨w.heap.size+1,2,none⟩=some (.bool r.blocked):=(HZA.out.cell (a:=⟨w.heap.size+1,2,none⟩) (heap_lt HN6.out) (by simp)).trans ((CeH HN6.out 2).trans rfl);have y1:wA.cell? ⟨w.heap.size+4,1,none⟩=some (.slice none 0 0):=(CeH HZA.out.xb 1).trans rfl;have y2:wA.cell? ⟨w.heap.size+4,2,none⟩=some (.slice none 0 0):=(CeH HZA.out.xb 2).trans rfl
        have y3:wA.cell? ⟨w.heap.size+4,3,none⟩=some (.bool false):=(CeH HZA.out.xb 3).trans rfl;have f1:=frozen_of_row wA _ 1 _ _ HZA.out.xb;have f2:=frozen_of_row wA _ 2 _ _ HZA.out.xb;have f3:=frozen_of_row wA _ 3 _ _ HZA.out.xb;clear y0 f0 hwA HZ4
        go_upto_region 20 with (fail)
        obtain⟨wB,hwB⟩:∃ wB,wB=((wA.setCell ⟨w.heap.size+4,1,none⟩ (.slice (some ⟨q,oq,none⟩) r.counts.length cq)).setCell ⟨w.heap.size+4,2,none⟩ (.slice (some ⟨eb,eo,none⟩) r.evs.length ec)).setCell ⟨w.heap.size+4,3,none⟩ (.bool r.blocked):=⟨_,rfl⟩
        have HZB:=Hyd (show AdvZ (w.heap.size+4) w6 wB #[.bool true,.slice (some ⟨q,oq,none⟩) r.counts.length cq,.slice (some ⟨eb,eo,none⟩) r.evs.length ec,.bool r.blocked,.slice ga gs.length gk,.slice da x2.done.length dk] (.slice ga gs.length gk) (.slice da x2.done.length dk) gs x2 by
         rw[hwB];have h1:=HZA.out.set 1 (.slice (some ⟨q,oq,none⟩) r.counts.length cq) ((blk_setc HZA.out.xb 1 _).trans rfl);have h2:=h1.set 2 (.slice (some ⟨eb,eo,none⟩) r.evs.length ec) ((blk_setc h1.xb 2 _).trans rfl)
         exact h2.set 3 (.bool r.blocked) ((blk_setc h2.xb 3 _).trans rfl))
        rw[<-hwB];have qP:wB.cell? ⟨b3,o3+L1,none⟩=some (.int .i64 (PL:Int)):=(HZB.out.cell (a:=⟨b3,o3+L1,none⟩) hb36 HBX.out).trans HQ6.out;have hL1n:(L1:Int)<(np:Int):=(by omega);have hP8:PL+1+nb<=8:=(by omega);clear r0 r1 r2 y1 y2 y3 f1 f2 f3 hwB HZA;go_wp2_with fail;clear qP
        go_loopw [16] (fun u wr=>∃ (j:Nat) (bb:Bool),j<=nb/\u=.int .i64 ((PL+1+j:Nat):Int)/\bb=(r.blocked||(s.bars.take j).any fun b=>(e.kind==b.kind)&&allT b.tests r L1 e)/\AdvZ (w.heap.size+4) w6 wr #[.bool true,.slice (some ⟨q,oq,none⟩) r.counts.length cq,.slice (some ⟨eb,eo,none⟩) r.evs.length ec,.bool bb,.slice ga gs.length gk,.slice da x2.done.length dk] (.slice ga gs.length gk) (.slice da x2.done.length dk) gs x2) (fun u _=>PL+1+nb-(intOf u).toNat)
        case atStart=>exact⟨0,r.blocked,Nat.zero_le _,by go_num,by simp,HZB.out⟩
        case round =>
         clear HZB;obtain⟨j,bb,hj,rfl,hbb,hz⟩:=hrel;have HZ:=Hyd hz;have HBB:=Hyd hbb;have hzs:=hz.size;have hbz:Below w.heap.size w wr:=hz.belowX HBW6.out hw6 (by omega);have HBZ:=Hyd hbz;have hw2w:w.heap.size<wr.heap.size:=(by omega);have y0:wr.cell? ⟨w.heap.size,0,none⟩=some (.slice (some ⟨g5,0,none⟩) ss.length qc):=(hz.cell (a:=⟨w.heap.size,0,none⟩) (heap_lt HP6.out) (by simp)).trans ((CeH HP6.out 0).trans rfl)
         obtain⟨kk,hkk⟩:∃ kk,PL+1+j=kk:=⟨_,rfl⟩
         rw[hkk];have hkb:kk<=8:=(by omega);have hkk1:PL+1+j<=kk:=(by omega);have hkk2:kk<=PL+1+j:=(by omega);have HKK:=Hyd hkk;have hkk0:(0:Int)<=(kk:Int):=(by omega);clear hkk hbb hz
         by_cases hlr:j<nb
         ·have hkl:kk<ss.length:=(by omega);have hki:(kk:Int)<(ss.length:Int):=(by omega);obtain⟨gx,qx,e4,_,d0,d1,_,_,vt,d4,hvt⟩:=DocAt.cells HD.out hkl
          obtain⟨rfl,rfl⟩:g5=gx/\qc=qx:=by simpa using e4
          have hlr':j<s.bars.length:=by rw[HNB.out];exact hlr
          obtain⟨h1,h2,h3⟩:=HBR.out j hlr';rw[HKK.out]at h1 h2 h3;have HBO:=Hyd (HBAR.out.2 _ (List.getElem_mem hlr'));have HTK:=Hyd (List.take_succ_eq_append_getElem hlr')
          obtain⟨bar,hbar⟩:∃ bar,s.bars[j]'hlr'=bar:=⟨_,rfl⟩
          rw[hbar]at h1 h3 HBO HTK;rw[h1]at d0;rw[h2]at d1;rw[h3]at hvt;obtain⟨bta,btc,rfl⟩:=Sl.shape hvt
          have w0c:∀ n os,(grow (wr.drewN n) os).cell? ⟨g5,kk * 5,none⟩=some (.int .u8 bar.kind):=cell_grown (show g5<wr.heap.size by omega) ((hbz.cell (p:=⟨g5,kk * 5,none⟩) hg5w).trans d0)
          have w1c:=(hbz.cell (p:=⟨g5,kk * 5+1,none⟩) hg5w).trans d1
          have w4c:∀ n os,(grow (wr.drewN n) os).cell? ⟨g5,kk * 5+4,none⟩=some (.slice bta bar.tests.length btc):=cell_grown (show g5<wr.heap.size by omega) ((hbz.cell (p:=⟨g5,kk * 5+4,none⟩) hg5w).trans d4)
          have ya0:∀ n os,(grow (wr.drewN n) os).cell? ⟨w.heap.size,0,none⟩=some (.slice (some ⟨g5,0,none⟩) ss.length qc):=cell_grown hw2w y0
          have ya1:∀ n os,(grow (wr.drewN n) os).cell? ⟨w.heap.size+1,1,none⟩=some (.slice (some ⟨eb,eo,none⟩) r.evs.length ec):=cell_grown (show w.heap.size+1<wr.heap.size by omega) ((HZ.out.cell (a:=⟨w.heap.size+1,1,none⟩) (heap_lt HN6.out) (by simp)).trans ((CeH HN6.out 1).trans rfl))
          have ym0:∀ n os,(grow (wr.drewN n) os).cell? ⟨M,0,none⟩=some (.slice aa (mR r).length ac):=cell_grown (show M<wr.heap.size by omega) ((HZ.out.cell (a:=⟨M,0,none⟩) hM6l HMX.out).trans ((CeH HM6.out 0).trans rfl))
          have ym1:∀ n os,(grow (wr.drewN n) os).cell? ⟨M,1,none⟩=some (.slice sa (mR r).length sc):=cell_grown (show M<wr.heap.size by omega) ((HZ.out.cell (a:=⟨M,1,none⟩) hM6l HMX.out).trans ((CeH HM6.out 1).trans rfl))
          have u0:∀ n os,(grow (wr.drewN n) os).cell? ⟨w.heap.size+2,0,none⟩=some (.int .i64 e.id):=cell_grown (show w.heap.size+2<wr.heap.size by omega) ((HZ.out.cell (a:=⟨w.heap.size+2,0,none⟩) (heap_lt HE6.out) (by simp)).trans ((CeH HE6.out 0).trans rfl))
          have u1:∀ n os,(grow (wr.drewN n) os).cell? ⟨w.heap.size+2,1,none⟩=some (.int .i64 e.time):=cell_grown (show w.heap.size+2<wr.heap.size by omega) ((HZ.out.cell (a:=⟨w.heap.size+2,1,none⟩) (heap_lt HE6.out) (by simp)).trans ((CeH HE6.out 1).trans rfl))
          have u2:∀ n os,(grow (wr.drewN n) os).cell? ⟨w.heap.size+2,2,none⟩=some (.int .u8 e.kind):=cell_grown (show w.heap.size+2<wr.heap.size by omega) ((HZ.out.cell (a:=⟨w.heap.size+2,2,none⟩) (heap_lt HE6.out) (by simp)).trans ((CeH HE6.out 2).trans rfl))
          have u3:∀ n os,(grow (wr.drewN n) os).cell? ⟨w.heap.size+2,3,none⟩=some (.int .i64 e.val):=cell_grown (show w.heap.size+2<wr.heap.size by omega) ((HZ.out.cell (a:=⟨w.heap.size+2,3,none⟩) (heap_lt HE6.out) (by simp)).trans ((CeH HE6.out 3).trans rfl))
          obtain⟨Ab,hAb⟩:∃ A,allP bar.tests (pmM r.evs (mR r)) L1 e=A:=⟨_,rfl⟩
          have HOMr:=Hyd (HOM6.out.keeps HZ.out.ki)
          have HQ:=Hyd (fun n os=>all21 bar.tests (.slice bta bar.tests.length btc) (.agg #[.slice aa (mR r).length ac,.slice sa (mR r).length sc]) (.slice (some ⟨eb,eo,none⟩) r.evs.length ec) (mR r) r.evs L1 wr.heap.size e (grow (wr.drewN n) os)
           ((Sl.keep hvt fun a ha=>(show Below w.heap.size w (grow (wr.drewN n) os) from hbz.trans ((show Mem.Grw wr (grow (wr.drewN n) os) from⟨n,os,rfl⟩).below.mono (by omega))).cell ha).more (by omega)) HBO.out.1 HBO.out.2
           (HOMr.out.mt.below (show Mem.Grw wr (grow (wr.drewN n) os) from⟨n,os,rfl⟩).below) ((Sl.keep HEE.out fun a ha=>(show Below w.heap.size w (grow (wr.drewN n) os) from hbz.trans ((show Mem.Grw wr (grow (wr.drewN n) os) from⟨n,os,rfl⟩).below.mono (by omega))).cell ha).more (by omega))
           (show Mem.Grw wr (grow (wr.drewN n) os) from⟨n,os,rfl⟩).size HOK.out (by omega) HE.out.1 HES.out)
          rw[hAb]at HQ;have HAB:=Hyd (show((e.kind==bar.kind)&&allT bar.tests r L1 e)=((e.kind==bar.kind)&&Ab) by rw[<-hAb,HRO.out.all_ _ (by omega)])
          have HBN:=Hyd (show(r.blocked||(s.bars.take (j+1)).any fun b=>(e.kind==b.kind)&&allT b.tests r L1 e)=(bb||((e.kind==bar.kind)&&Ab)) by
           rw[HTK.out,List.any_append,<-Bool.or_assoc,<-HBB.out]
           simp only[List.any_cons,List.any_nil,Bool.or_false]
           rw[HAB.out])
          have hgw:g5<wr.heap.size:=(by omega);clear d0 d1 d4 e4 hvt h1 h2 h3 hbar hAb hbz HTK HAB;go_wp2_with fail
          go_quiet_grown (first | (go_at_call 45;exact Mem.Grw.grown (HQ.out _ _)) | exact Mem.Grw.grown (HQ.out _ _))
          have HZQ:=Hyd (HZ.out.below (show Mem.Grw wr (grow (wr.drewN nq) osq) from⟨nq,osq,rfl⟩).below);have c0:=w0c nq osq;have c2:=u2 nq osq;have c1:=ya0 nq osq;change Exit.then _ _ Exit.normal _ (grow (wr.drewN nq) osq);clear w0c w4c ya0 ya1 ym0 ym1 u0 u1 u2 u3 HQ y0 w1c HOMr HZ HBZ;have hsq:wr.heap.size<=(grow (wr.drewN nq) osq).heap.size:=(show Mem.Grw wr (grow (wr.drewN nq) osq) from⟨nq,osq,rfl⟩).size;generalize grow (wr.drewN nq) osq=w5z at *;have hgw5:g5<w5z.heap.size:=(by omega);have hkw5:w.heap.size<w5z.heap.size:=(by omega)
          cases hAv:Ab with
          | false =>
           have HBN2:=Hyd (show bb=(r.blocked||(s.bars.take (j+1)).any fun b=>(e.kind==b.kind)&&allT b.tests r L1 e) by rw[HBN.out,hAv];simp);clear hAv HBN;go_wp2_with fail
           go_quiet (fail)
           go_wp2_with fail;go_roundw
           case rel=>exact⟨j+1,bb,by omega,by rw[<-HKK.out];go_num,HBN2.out,HZQ.out.below ((Mem.Grw.refl w5z).drewN _).below⟩
           case measure=>simp[intOf];omega
          | true =>
           by_cases hkd:e.kind=bar.kind
           ·have hkq:(e.kind==bar.kind)=true:=by simp[hkd]
            have HBN2:=Hyd (show true=(r.blocked||(s.bars.take (j+1)).any fun b=>(e.kind==b.kind)&&allT b.tests r L1 e) by rw[HBN.out,hAv,hkq];simp);clear hAv HBN hkd;go_wp2_with fail
            go_quiet (fail)
            have HZR:=Hyd (HZQ.out.below ((Mem.Grw.refl w5z).drewN nq).below);change Exit.then _ _ Exit.normal _ (w5z.drewN nq);clear c0 c1 c2 HZQ;generalize w5z.drewN nq=w6z at *;have y3:w6z.cell? ⟨w.heap.size+4,3,none⟩=some (.bool bb):=(CeH HZR.out.xb 3).trans rfl;have f3:=frozen_of_row w6z _ 3 _ _ HZR.out.xb;go_wp2_with fail;go_roundw
            case rel=>exact⟨j+1,true,by omega,by rw[<-HKK.out];go_num,HBN2.out,HZR.out.set 3 (.bool true) ((blk_setc HZR.out.xb 3 _).trans rfl)⟩
            case measure=>simp[intOf];omega
           ·have hkq:(e.kind==bar.kind)=false:=by rw[beq_eq_false_iff_ne];exact hkd
            have HBN2:=Hyd (show bb=(r.blocked||(s.bars.take (j+1)).any fun b=>(e.kind==b.kind)&&allT b.tests r L1 e) by rw[HBN.out,hkq];simp);clear hAv HBN hkd;go_wp2_with fail
            go_quiet (fail)
            go_wp2_with fail;go_roundw
            case rel=>exact⟨j+1,bb,by omega,by rw[<-HKK.out];go_num,HBN2.out,HZQ.out.below ((Mem.Grw.refl w5z).drewN _).below⟩
            case measure=>simp[intOf];omega
         ·obtain rfl:j=nb:=by omega
          have HAD3:=Hyd (show adv3 r e L1 s=bb by
           rw[HBB.out];unfold adv3
           rw[<-HNB.out,List.take_length])
          by_cases hkl:kk<ss.length
          ·have hki:(kk:Int)<(ss.length:Int):=(by omega);obtain⟨gx,qx,e4,_,_,d1,_⟩:=DocAt.cells HD.out hkl
           obtain⟨rfl,rfl⟩:g5=gx/\qc=qx:=by simpa using e4
           have hbe:=HBE.out;rw[HKK.out]at hbe;rw[hbe hkl]at d1;have v1:=(hbz.cell (p:=⟨g5,kk * 5+1,none⟩) hg5w).trans d1;have y00:=y0;clear e4 d1 hbe hbz
           go_upto_if 161 with (fail)
           clear y00 y0;have y0:wr.cell? ⟨w.heap.size+4,0,none⟩=some (.bool true):=(CeH HZ.out.xb 0).trans rfl;have y1:wr.cell? ⟨w.heap.size+4,1,none⟩=some (.slice (some ⟨q,oq,none⟩) r.counts.length cq):=(CeH HZ.out.xb 1).trans rfl;have y2:wr.cell? ⟨w.heap.size+4,2,none⟩=some (.slice (some ⟨eb,eo,none⟩) r.evs.length ec):=(CeH HZ.out.xb 2).trans rfl;have y3:wr.cell? ⟨w.heap.size+4,3,none⟩=some (.bool bb):=(CeH HZ.out.xb 3).trans rfl;have y4:wr.cell? ⟨w.heap.size+4,4,none⟩=some (.slice ga gs.length gk):=(CeH HZ.out.xb 4).trans rfl;have y5:wr.cell? ⟨w.heap.size+4,5,none⟩=some (.slice da x2.done.length dk):=(CeH HZ.out.xb 5).trans rfl;have HRR:=Hyd ((HZ.out.blk (w.heap.size+3) (heap_lt HR6.out) (by omega)).trans HR6.out)
           have z0:wr.cell? ⟨w.heap.size+3,0,none⟩=some (.bool false):=(CeH HRR.out 0).trans rfl;have z1:wr.cell? ⟨w.heap.size+3,1,none⟩=some (.slice none 0 0):=(CeH HRR.out 1).trans rfl;have z2:wr.cell? ⟨w.heap.size+3,2,none⟩=some (.slice none 0 0):=(CeH HRR.out 2).trans rfl;have z3:wr.cell? ⟨w.heap.size+3,3,none⟩=some (.bool false):=(CeH HRR.out 3).trans rfl;have z4:wr.cell? ⟨w.heap.size+3,4,none⟩=some (.slice none 0 0):=(CeH HRR.out 4).trans rfl;have z5:wr.cell? ⟨w.heap.size+3,5,none⟩=some (.slice none 0 0):=(CeH HRR.out 5).trans rfl;have f0:=frozen_of_row wr _ 0 _ _ HRR.out;have f1:=frozen_of_row wr _ 1 _ _ HRR.out;have f2:=frozen_of_row wr _ 2 _ _ HRR.out;have f3:=frozen_of_row wr _ 3 _ _ HRR.out;have f4:=frozen_of_row wr _ 4 _ _ HRR.out
           have f5:=frozen_of_row wr _ 5 _ _ HRR.out;have HFIN:=Hyd (AdvZ.fin (r:=r) (bb:=bb) (kp:=true) HZ.out HRR.out (HZ.out.belowX HBW6.out hw6 (by omega)) rfl hw6 (by omega) HC.out HEE.out (.bool true) (.slice (some ⟨q,oq,none⟩) r.counts.length cq) (.slice (some ⟨eb,eo,none⟩) r.evs.length ec) (.bool bb) (.slice ga gs.length gk) (.slice da x2.done.length dk))
           go_upto_region 26 with (fail)
           repeat go_step
           refine bodyPost_ret (res_v21 rfl ((CeH HFIN.out.2.1 0).trans rfl) ((CeH HFIN.out.2.1 1).trans rfl) ((CeH HFIN.out.2.1 2).trans rfl) ((CeH HFIN.out.2.1 3).trans rfl) ((CeH HFIN.out.2.1 4).trans rfl) ((CeH HFIN.out.2.1 5).trans rfl)) rfl ?_;have HRV2:=HRV.out;rw[HAD3.out]at HRV2;rw[HRV2];exact⟨_,rfl,⟨_,_,_,_,_,rfl,HFIN.out.1,.inr ⟨rfl,rfl,rfl,rfl⟩⟩,HFIN.out.2.2⟩
          ·have hki:¬ (kk:Int)<(ss.length:Int):=(by omega);have y00:=y0;clear hbz
           go_upto_if 161 with (fail)
           clear y00 y0;have y0:wr.cell? ⟨w.heap.size+4,0,none⟩=some (.bool true):=(CeH HZ.out.xb 0).trans rfl;have y1:wr.cell? ⟨w.heap.size+4,1,none⟩=some (.slice (some ⟨q,oq,none⟩) r.counts.length cq):=(CeH HZ.out.xb 1).trans rfl;have y2:wr.cell? ⟨w.heap.size+4,2,none⟩=some (.slice (some ⟨eb,eo,none⟩) r.evs.length ec):=(CeH HZ.out.xb 2).trans rfl;have y3:wr.cell? ⟨w.heap.size+4,3,none⟩=some (.bool bb):=(CeH HZ.out.xb 3).trans rfl;have y4:wr.cell? ⟨w.heap.size+4,4,none⟩=some (.slice ga gs.length gk):=(CeH HZ.out.xb 4).trans rfl;have y5:wr.cell? ⟨w.heap.size+4,5,none⟩=some (.slice da x2.done.length dk):=(CeH HZ.out.xb 5).trans rfl;have HRR:=Hyd ((HZ.out.blk (w.heap.size+3) (heap_lt HR6.out) (by omega)).trans HR6.out)
           have z0:wr.cell? ⟨w.heap.size+3,0,none⟩=some (.bool false):=(CeH HRR.out 0).trans rfl;have z1:wr.cell? ⟨w.heap.size+3,1,none⟩=some (.slice none 0 0):=(CeH HRR.out 1).trans rfl;have z2:wr.cell? ⟨w.heap.size+3,2,none⟩=some (.slice none 0 0):=(CeH HRR.out 2).trans rfl;have z3:wr.cell? ⟨w.heap.size+3,3,none⟩=some (.bool false):=(CeH HRR.out 3).trans rfl;have z4:wr.cell? ⟨w.heap.size+3,4,none⟩=some (.slice none 0 0):=(CeH HRR.out 4).trans rfl;have z5:wr.cell? ⟨w.heap.size+3,5,none⟩=some (.slice none 0 0):=(CeH HRR.out 5).trans rfl;have f0:=frozen_of_row wr _ 0 _ _ HRR.out;have f1:=frozen_of_row wr _ 1 _ _ HRR.out;have f2:=frozen_of_row wr _ 2 _ _ HRR.out;have f3:=frozen_of_row wr _ 3 _ _ HRR.out;have f4:=frozen_of_row wr _ 4 _ _ HRR.out
           have f5:=frozen_of_row wr _ 5 _ _ HRR.out;have HFIN:=Hyd (AdvZ.fin (r:=r) (bb:=bb) (kp:=true) HZ.out HRR.out (HZ.out.belowX HBW6.out hw6 (by omega)) rfl hw6 (by omega) HC.out HEE.out (.bool true) (.slice (some ⟨q,oq,none⟩) r.counts.length cq) (.slice (some ⟨eb,eo,none⟩) r.evs.length ec) (.bool bb) (.slice ga gs.length gk) (.slice da x2.done.length dk))
           go_upto_region 26 with (fail)
           repeat go_step
           refine bodyPost_ret (res_v21 rfl ((CeH HFIN.out.2.1 0).trans rfl) ((CeH HFIN.out.2.1 1).trans rfl) ((CeH HFIN.out.2.1 2).trans rfl) ((CeH HFIN.out.2.1 3).trans rfl) ((CeH HFIN.out.2.1 4).trans rfl) ((CeH HFIN.out.2.1 5).trans rfl)) rfl ?_;have HRV2:=HRV.out;rw[HAD3.out]at HRV2;rw[HRV2];exact⟨_,rfl,⟨_,_,_,_,_,rfl,HFIN.out.1,.inr ⟨rfl,rfl,rfl,rfl⟩⟩,HFIN.out.2.2⟩
end Go.Proofs.YtcojnojdgigmdaaGreatDoor.WR
