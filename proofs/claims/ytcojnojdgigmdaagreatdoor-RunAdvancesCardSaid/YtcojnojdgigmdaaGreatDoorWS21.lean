/- The walk of oxbowref21.Start: what begins with an event, by the document. -/
import Derived.Test.YtcojnojdgigmdaaGreatDoorB01
import Derived.Test.YtcojnojdgigmdaaGreatDoorWD21
set_option maxHeartbeats 6400000
set_option maxRecDepth 100000
namespace Go.Proofs.YtcojnojdgigmdaaGreatDoor.WR
open Go Go.RowKit Go.Sort PL PR Mem WL WS
structure DR (base:Nat) (w:World) (c0 e0 gv dv:Value) (gs:List (Value×Value×RRun)) (x:RRes):Prop where
 rc:Sl w w.heap.size 1 c0 x.run.counts.length (cntV x.run.counts)
 re:Evs w w.heap.size e0 x.run.evs
 gm:gs.map (·.2.2)=x.grown
 o1:w.ownsRow base 53 3 gv gs.length (cellsOf encR gs)
 el:∀ g∈gs,DOwnR base w g
 o2:w.ownsRow base 9 1 dv x.done.length (x.done.map strV)
def DResAt (base:Nat) (w:World) (v:Value) (x:RRes):Prop:=∃ c0 e0 gv dv gs,v=.agg #[.bool x.keep,c0,e0,.bool x.run.blocked,gv,dv]/\DR base w c0 e0 gv dv gs x
def DResW (base:Nat) (w:World) (v cv ev:Value) (r:RRun) (x:RRes):Prop:=∃ c0 e0 gv dv gs,v=.agg #[.bool x.keep,c0,e0,.bool x.run.blocked,gv,dv]/\DR base w c0 e0 gv dv gs x/\((c0=.slice none 0 0/\e0=.slice none 0 0/\x.run=noRun) \/ (c0=cv/\e0=ev/\x.run.counts=r.counts/\x.run.evs=r.evs))
theorem DR.nil_ (base:Nat) (w:World):DR base w (.slice none 0 0) (.slice none 0 0) (.slice none 0 0) (.slice none 0 0) [] noRes :=
 ⟨Sl.nil_ _ _ _,Sl.nil_ _ _ _,rfl,World.ownsRow_nil _ _ _ _,fun g hg=>(by cases hg),World.ownsRow_nil _ _ _ _⟩
theorem DR.told {Bw:Nat} {w w':World} {gv dv gv' dv' cv ev:Value} {gs:List (Value×Value×RRun)} {x:RRes} {p:RPlan} {r:RRun} (h:DR Bw w (.slice none 0 0) (.slice none 0 0) gv dv gs x) (hx:x.run=noRun) (hg:DOwnR Bw w (cv,ev,r)) (hb:BelT Bw w w')
  (h1:w'.ownsRow Bw 53 3 gv' (gs.length+if addGrown p r then 1 else 0) (cellsOf encR gs++if addGrown p r then [cv,ev,.bool r.blocked] else [])) (h2:w'.ownsRow Bw 9 1 dv' (x.done++if addDone p r then [textR r] else []).length ((x.done++if addDone p r then [textR r] else []).map strV)) :
  DR Bw w' (.slice none 0 0) (.slice none 0 0) gv' dv' (gs++if addGrown p r then [(cv,ev,r)] else []) (addR p x r):=by
 have hrun:(addR p x r).run=noRun:=hx;refine⟨by rw[hrun];exact Sl.nil_ _ _ _,by rw[hrun];exact Sl.nil_ _ _ _, ?_, ?_, ?_,h2⟩
 ·rw[List.map_append,h.gm,addR_grown]
  congr 1
  split<;>rfl
 ·have e1:(gs++if addGrown p r then [(cv,ev,r)] else []).length=gs.length+if addGrown p r then 1 else 0:=by
   rw[List.length_append];split<;>rfl
  have e2:cellsOf encR (gs++if addGrown p r then [(cv,ev,r)] else [])=cellsOf encR gs++if addGrown p r then [cv,ev,.bool r.blocked] else []:=by
   unfold cellsOf;rw[List.flatMap_append]
   congr 1
   split<;>rfl
  rw[e1,e2];exact h1
 ·intro g hgm
  rcases List.mem_append.1 hgm with hm | hm
  ·exact(h.el g hm).keeps hb.ki hb.ke
  ·split at hm
   ·rw[List.mem_singleton.1 hm];exact hg.keeps hb.ki hb.ke
   ·cases hm
theorem DR.le {base base':Nat} {w:World} {c0 e0 gv dv:Value} {gs:List (Value×Value×RRun)} {x:RRes} (h:DR base w c0 e0 gv dv gs x) (hb:base'<=base):DR base' w c0 e0 gv dv gs x :=
 ⟨h.rc,h.re,h.gm,Joins.ownsRow_le h.o1 hb,fun g hg=>(h.el g hg).le hb,Joins.ownsRow_le h.o2 hb⟩
theorem DR.six {base b:Nat} {w:World} {gv dv:Value} {gs:List (Value×Value×RRun)} {x:RRes} {c0 c1 c2 c3 c4 c5:Value} (h:DR base w (.slice none 0 0) (.slice none 0 0) gv dv gs x) (hx:x.run=noRun) (hb:w.heap[b]? = some (.cells #[c0,c1,c2,c3,c4,c5] 56 (0,0))) (v0 v1 v2 v3 v4 v5:Value) :
  DR base ((((((w.setCell ⟨b,0,none⟩ v0).setCell ⟨b,1,none⟩ v1).setCell ⟨b,2,none⟩ v2).setCell ⟨b,3,none⟩ v3).setCell ⟨b,4,none⟩ v4).setCell ⟨b,5,none⟩ v5) (.slice none 0 0) (.slice none 0 0) gv dv gs x/\((((((w.setCell ⟨b,0,none⟩ v0).setCell ⟨b,1,none⟩ v1).setCell ⟨b,2,none⟩ v2).setCell ⟨b,3,none⟩ v3).setCell ⟨b,4,none⟩ v4).setCell ⟨b,5,none⟩ v5).heap[b]? = some (.cells #[v0,v1,v2,v3,v4,v5] 56 (0,0)):=by
 have n1:=(blk_setc hb 0 v0).trans rfl;have n2:=(blk_setc n1 1 v1).trans rfl;have n3:=(blk_setc n2 2 v2).trans rfl;have n4:=(blk_setc n3 3 v3).trans rfl;have n5:=(blk_setc n4 4 v4).trans rfl;have n6:=(blk_setc n5 5 v5).trans rfl;refine⟨⟨by rw[hx];exact Sl.nil_ _ _ _,by rw[hx];exact Sl.nil_ _ _ _,h.gm, ?_,fun g hg=>⟨?_, ?_⟩, ?_⟩,n6⟩
 ·exact own_set (own_set (own_set (own_set (own_set (own_set h.o1 hb (by decide) 0 v0) n1 (by decide) 1 v1) n2 (by decide) 2 v2) n3 (by decide) 3 v3) n4 (by decide) 4 v4) n5 (by decide) 5 v5
 ·exact own_set (own_set (own_set (own_set (own_set (own_set (h.el g hg).1 hb (by decide) 0 v0) n1 (by decide) 1 v1) n2 (by decide) 2 v2) n3 (by decide) 3 v3) n4 (by decide) 4 v4) n5 (by decide) 5 v5
 ·exact own_set (own_set (own_set (own_set (own_set (own_set (h.el g hg).2 hb (by decide) 0 v0) n1 (by decide) 1 v1) n2 (by decide) 2 v2) n3 (by decide) 3 v3) n4 (by decide) 4 v4) n5 (by decide) 5 v5
 ·exact own_set (own_set (own_set (own_set (own_set (own_set h.o2 hb (by decide) 0 v0) n1 (by decide) 1 v1) n2 (by decide) 2 v2) n3 (by decide) 3 v3) n4 (by decide) 4 v4) n5 (by decide) 5 v5
theorem res_s21 {w:World} {R:Nat} {c0 c1 c2 c3 c4 c5:Value} {tmps:Array Value} (h6:tmps[4]? = some (.pointer (some ⟨R,0,none⟩))) (e0:w.cell? ⟨R,0,none⟩=some c0) (e1:w.cell? ⟨R,1,none⟩=some c1) (e2:w.cell? ⟨R,2,none⟩=some c2) (e3:w.cell? ⟨R,3,none⟩=some c3) (e4:w.cell? ⟨R,4,none⟩=some c4) (e5:w.cell? ⟨R,5,none⟩=some c5) :
  (results Tryz.f18 tmps).run Tryz.prog w=.ok (.agg #[c0,c1,c2,c3,c4,c5]) w:=by
 simp[results,Tryz.results18,go_sem,h6,e0,e1,e2,e3,e4,e5]
theorem start21 (p:RPlan) (qs:Value) (ss:List GS) (ts:Nat->List PT) (L:Nat) (e:Ev) (w:World) (hd:DocAt w L w.heap.size qs ss ts) (hp:PlnOk ss ts p) (hl0:0<p.steps.length) (he:Sm e.val) (hid:-9223372036854775808<=e.id/\e.id<=9223372036854775807) :
  Calls Tryz.prog 18 #[.agg #[qs,.int .i64 p.within],evV e] w fun en w'=>∃ v,en=.returned v/\DResW w.heap.size w' v (.slice none 0 0) (.slice none 0 0) noRun (startR p e)/\Below w.heap.size w w':=by
 have mixed:Tryz.prog.follows .mixedOrders=true:=by kernel_rfl
 have hss:=hp.n9;obtain⟨hplc1,hplk,-,-,hplt,-,-⟩:=hp.plc.at_ 0 hl0 (by have:=hp.plc.len;omega);have HTO:=Hyd (hp.ok.tst _ (List.getElem_mem hl0));have HP:=Hyd hp;have HID:=Hyd hid
 obtain⟨PL,hPL⟩:∃ PL,(plc ss ss.length)[0]'(by have:=hp.plc.len;omega)=PL:=⟨_,rfl⟩
 rw[hPL]at hplc1 hplk hplt
 have hPLs:PL<ss.length:=by omega
 obtain⟨g5,qc,rfl,hg5w,x0,x1,x2,x3,vt,x4,htt⟩:=DocAt.cells hd hPLs;obtain⟨ta,tc,rfl⟩:=Sl.shape htt
 obtain⟨s,hs⟩:∃ s,p.steps[0]'hl0=s:=⟨_,rfl⟩
 rw[hs]at hplk hplt HTO
 have HSR:=Hyd (show startR p e=if fitsS s noRun 0 e then addR p noRes (withR noRun 0 e) else noRes from by
  obtain⟨l,wi⟩:=p
  cases l with
  | nil=>simp at hl0
  | cons y l =>
   have:y=s:=hs;subst this
   rfl)
 obtain⟨xk,hxk⟩:∃ x,(ss[PL]!).k=x:=⟨_,rfl⟩
 obtain⟨ng,hng⟩:∃ x,(ss[PL]!).neg=x:=⟨_,rfl⟩
 obtain⟨xlo,hxlo⟩:∃ x,(ss[PL]!).lo=x:=⟨_,rfl⟩
 obtain⟨xhi,hxhi⟩:∃ x,(ss[PL]!).hi=x:=⟨_,rfl⟩
 obtain⟨xts,hxts⟩:∃ x,ts PL=x:=⟨_,rfl⟩
 rw[hxk]at x0 hplk;rw[hng]at x1;rw[hxlo]at x2;rw[hxhi]at x3;rw[hxts]at x4 htt hplt
 obtain⟨A,hA⟩:∃ A,allP xts (pmM [] []) 0 e=A:=⟨_,rfl⟩
 have HFS:=Hyd (show fitsS s noRun 0 e=((e.kind==xk)&&A) by
  unfold fitsS
  rw[<-hplk,<-hplt,<-hA,empty_all])
 have HA:=Hyd hA;have hkr:0<=0:=Nat.le_refl _;rw[<-hplt]at HTO
 obtain⟨wa,hwa⟩:∃ wa,wa=(((w.alloc (.cells #[.slice (some ⟨g5,0,none⟩) ss.length qc,.int .i64 p.within] 28)).alloc (.cells #[.int .i64 e.id,.int .i64 e.time,.int .u8 e.kind,.int .i64 e.val] 59)).alloc (.cells #[.bool false,.slice none 0 0,.slice none 0 0,.bool false,.slice none 0 0,.slice none 0 0] 56)).alloc (.cells #[.bool false,.slice none 0 0,.slice none 0 0,.bool false,.slice none 0 0,.slice none 0 0] 56):=⟨_,rfl⟩
 have hza:wa.heap.size=w.heap.size+4:=by rw[hwa];simp
 have hbA:Below w.heap.size w wa:=by rw[hwa];exact((((Below.refl _ _).alloc (Nat.le_refl _) _).alloc (by simp) _).alloc (by simp;omega) _).alloc (by simp;omega) _
 have HBA:=Hyd hbA;have XP:=Hyd (show wa.heap[w.heap.size]? = some (.cells #[.slice (some ⟨g5,0,none⟩) ss.length qc,.int .i64 p.within] 28 (0,0)) by rw[hwa];exact heap_alloc (heap_alloc (heap_alloc (heap_new rfl))));have XE:=Hyd (show wa.heap[w.heap.size+1]? = some (.cells #[.int .i64 e.id,.int .i64 e.time,.int .u8 e.kind,.int .i64 e.val] 59 (0,0)) by rw[hwa];exact heap_alloc (heap_alloc (heap_new (by simp))));have XR:=Hyd (show wa.heap[w.heap.size+2]? = some (.cells #[.bool false,.slice none 0 0,.slice none 0 0,.bool false,.slice none 0 0,.slice none 0 0] 56 (0,0)) by rw[hwa];exact heap_alloc (heap_new (by simp)));have XX:=Hyd (show wa.heap[w.heap.size+3]? = some (.cells #[.bool false,.slice none 0 0,.slice none 0 0,.bool false,.slice none 0 0,.slice none 0 0] 56 (0,0)) by rw[hwa];exact heap_new (by simp))
 have HST:=Hyd (steps21 (.slice (some ⟨g5,0,none⟩) ss.length qc) p.within ss ts L wa ((DocAt.keep hd fun a _ ha=>hbA.cell ha).more (Nat.le_refl _) hbA.size) (by omega));have HD:=Hyd hd;have HTT:=Hyd htt;have HWA:=Hyd hwa;have HZA:=Hyd hza;have HY0:=Hyd x0;have HY1:=Hyd x1;have HY2:=Hyd x2;have HY3:=Hyd x3;have HY4:=Hyd x4;have hplen:=hp.plc.len;have HPLL:=Hyd (show ∀ h:0<(plc ss ss.length).length,(plc ss ss.length)[0]'h=PL from fun _=>hPL)
 have hLpl:0<(plc ss ss.length).length:=by omega
 have hplm:(plc ss ss.length).length<=1000000:=by have:=plc_len ss ss.length;omega
 clear hd hp hid hwa hza hbA x0 x1 x2 x3 x4 htt hxk hng hxlo hxhi hxts hPL hs hplc1 hplk hplt hA
 go_enter Tryz.func18,Tryz.ntmps18
 go_upto_region 2 with (fail)
 rw[<-HWA.out];have p0:wa.cell? ⟨w.heap.size,0,none⟩=some (.slice (some ⟨g5,0,none⟩) ss.length qc):=(CeH XP.out 0).trans rfl;have p1:wa.cell? ⟨w.heap.size,1,none⟩=some (.int .i64 p.within):=(CeH XP.out 1).trans rfl;go_wp2_with fail;refine HST.out.mono ?_;rintro en w2 ⟨pv,rfl,hpo,hb2⟩
 obtain⟨np,hnp⟩:∃ np,(plc ss ss.length).length=np:=⟨_,rfl⟩
 obtain⟨b3,o3,pc,rfl,hb3,x1⟩:=cnt_cell (Sl.of_own hpo) hLpl;rw[HPLL.out]at x1;rw[hnp]at hLpl hplm ⊢;have hwr1:w.heap.size<w2.heap.size:=Nat.lt_of_lt_of_le (heap_lt XP.out) hb2.size;have HC0:=Hyd ((hb2.cell (p:=⟨w.heap.size,0,none⟩) (heap_lt XP.out)).trans p0);have HC1:=Hyd x1;have hb3r:b3<w2.heap.size:=hb3;have hbW2:Below w.heap.size w w2:=HBA.out.trans (hb2.mono HBA.out.size);have HC2:=Hyd ((hbW2.cell (p:=⟨g5,PL * 5,none⟩) hg5w).trans HY0.out);have HC3:=Hyd ((hbW2.cell (p:=⟨g5,PL * 5+1,none⟩) hg5w).trans HY1.out);have HC4:=Hyd ((hbW2.cell (p:=⟨g5,PL * 5+2,none⟩) hg5w).trans HY2.out);have HC5:=Hyd ((hbW2.cell (p:=⟨g5,PL * 5+3,none⟩) hg5w).trans HY3.out);have HC6:=Hyd ((hbW2.cell (p:=⟨g5,PL * 5+4,none⟩) hg5w).trans HY4.out)
 have hg5r:g5<w2.heap.size:=by omega
 have hsp:0<np:=hLpl;have hpl:PL<ss.length:=hPLs
 have HT2:=Hyd (show w2.heap[w.heap.size]? = some (.cells #[.slice (some ⟨g5,0,none⟩) ss.length qc,.int .i64 p.within] 28 (0,0))/\w2.heap[w.heap.size+1]? = some (.cells #[.int .i64 e.id,.int .i64 e.time,.int .u8 e.kind,.int .i64 e.val] 59 (0,0))/\w2.heap[w.heap.size+2]? = some (.cells #[.bool false,.slice none 0 0,.slice none 0 0,.bool false,.slice none 0 0,.slice none 0 0] 56 (0,0))/\w2.heap[w.heap.size+3]? = some (.cells #[.bool false,.slice none 0 0,.slice none 0 0,.bool false,.slice none 0 0,.slice none 0 0] 56 (0,0)) from
  ⟨(hb2.block _ (heap_lt XP.out)).trans XP.out,(hb2.block _ (heap_lt XE.out)).trans XE.out,(hb2.block _ (heap_lt XR.out)).trans XR.out,(hb2.block _ (heap_lt XX.out)).trans XX.out⟩)
 have HBW2:=Hyd hbW2;have hw2:=hbW2.size;clear hpo hb2 x1 hnp p0 p1 HST hbW2 HY0 HY1 HY2 HY3 HY4 hb3 XP XX XR XE
 go_upto_region 3 with (fail)
 refine Reg.stand_order (W:=w2) (h:=8) (t:=1)
  [⟨0,13,[],99,[],none,fun v _=>v=.pointer (some ⟨w.heap.size,0,none⟩)⟩,
   ⟨1,14,[],99,[],none,fun v _=>v=.slice (some ⟨g5,0,none⟩) ss.length qc⟩,
   ⟨2,15,[],99,[],none,fun v _=>v=.slice (some ⟨b3,o3,none⟩) np pc⟩,
   ⟨3,16,[],99,[],none,fun v _=>v=.pointer (some ⟨b3,o3+0,none⟩)⟩,
   ⟨4,17,[],99,[],none,fun v _=>v=.int .i64 (PL:Nat)⟩,
   ⟨5,18,[],99,[],none,fun v _=>v=.pointer (some ⟨g5,PL * 5,none⟩)⟩,
   ⟨6,19,[],99,[],none,fun v _=>v=.agg #[.int .u8 xk,.bool ng,.int .i64 xlo,.int .i64 xhi,.slice ta xts.length tc]⟩,
   ⟨7,7,[107],99,[],none,fun v w'=>∃ g,v=.pointer (some ⟨g,0,none⟩)/\w2.heap.size<=g/\w'.heap[g]? = some (.cells #[.int .u8 0,.bool false,.int .i64 0,.int .i64 0,.slice none 0 0] 107 (0,0))⟩]
  []
  (by kernel_rfl) rfl (by kernel_rfl) (by kernel_rfl) (by kernel_rfl) (show [0,1,2,3,4,5,6,7].Nodup by decide) (show ∀ i,i<8->i∈[0,1,2,3,4,5,6,7] by decide) ?_ (show [13,14,15,16,17,18,19,7].Nodup by decide) (show ∀ s∈[13,14,15,16,17,18,19,7],s<42 by decide) (by kernel_rfl) ?_ ?_ (Below.refl _ _) ?_ ?_ ?_
 ·intro f hf
  simp only[List.mem_cons,List.not_mem_nil,or_false]at hf
  rcases hf with rfl|rfl|rfl|rfl|rfl|rfl|rfl|rfl<;>simp
 ·intro f hf v w1 w2 hk hF
  simp only[List.mem_cons,List.not_mem_nil,or_false]at hf
  rcases hf with rfl|rfl|rfl|rfl|rfl|rfl|rfl|rfl
  ·exact hF
  ·exact hF
  ·exact hF
  ·exact hF
  ·exact hF
  ·exact hF
  ·exact hF
  ·obtain⟨g,e1,e2,e3⟩:=hF;exact⟨g,e1,e2,(hk 107 (by simp)).2 _ _ e3⟩
 ·intro f hf;cases hf
 ·intro f hf;cases hf
 ·intro f hf a w1 hs hg' hst;have t2:a.eval (.tmp 2)=.pointer (some ⟨w.heap.size,0,none⟩):=Reg.eval_tmp ((hs.out 2 (show 2∉[13,14,15,16,17,18,19,7] by decide)).trans rfl);have t6:a.eval (.tmp 6)=.slice (some ⟨b3,o3,none⟩) np pc:=Reg.eval_tmp ((hs.out 6 (show 6∉[13,14,15,16,17,18,19,7] by decide)).trans rfl)
  simp only[List.mem_cons,List.not_mem_nil,or_false]at hf
  rcases hf with rfl|rfl|rfl|rfl|rfl|rfl|rfl|rfl
  ·have u1:=t2;exact Reg.step_val (w':=w1) (v:=.pointer (some ⟨w.heap.size,0,none⟩)) rfl rfl rfl (Ord.run_fld u1 (by go_simp)) rfl hs.below (fun e=>Reg.Keeps.refl e _)
  ·obtain⟨v1,hv1,rfl⟩:∃ v,a.tmps[13]? = some v/\v=.pointer (some ⟨w.heap.size,0,none⟩):=hg' _ (Reg.at_fact 0 rfl) (by kernel_rfl) (by simp[Reg.okTil])
   have u1:=Reg.eval_tmp hv1;exact Reg.step_val rfl rfl rfl (Reg.run_load u1 (load_poss20 ((hs.below.cell (p:=⟨w.heap.size,0,none⟩) hwr1).trans HC0.out))) rfl hs.below (fun e=>Reg.Keeps.refl e _)
  ·have u1:=t6;exact Reg.step_val rfl rfl rfl (Reg.run_move u1) rfl hs.below (fun e=>Reg.Keeps.refl e _)
  ·obtain⟨v1,hv1,rfl⟩:∃ v,a.tmps[15]? = some v/\v=.slice (some ⟨b3,o3,none⟩) np pc:=hg' _ (Reg.at_fact 2 rfl) (by kernel_rfl) (by simp[Reg.okTil])
   have u1:=Reg.eval_tmp hv1;exact Reg.step_val (w':=w1) (v:=.pointer (some ⟨b3,o3+0,none⟩)) rfl rfl rfl (ix_int (k:=0) u1 rfl hsp) rfl hs.below (fun e=>Reg.Keeps.refl e _)
  ·obtain⟨v1,hv1,rfl⟩:∃ v,a.tmps[16]? = some v/\v=.pointer (some ⟨b3,o3+0,none⟩):=hg' _ (Reg.at_fact 3 rfl) (by kernel_rfl) (by simp[Reg.okTil])
   have u1:=Reg.eval_tmp hv1;exact Reg.step_val rfl rfl rfl (Reg.run_load u1 (load_int ((hs.below.cell (p:=⟨b3,o3+0,none⟩) hb3r).trans HC1.out))) rfl hs.below (fun e=>Reg.Keeps.refl e _)
  ·obtain⟨v1,hv1,rfl⟩:∃ v,a.tmps[14]? = some v/\v=.slice (some ⟨g5,0,none⟩) ss.length qc:=hg' _ (Reg.at_fact 1 rfl) (by kernel_rfl) (by simp[Reg.okTil])
   obtain⟨v2,hv2,rfl⟩:∃ v,a.tmps[17]? = some v/\v=.int .i64 (PL:Nat):=hg' _ (Reg.at_fact 4 rfl) (by kernel_rfl) (by simp[Reg.okTil])
   have u1:=Reg.eval_tmp hv1;have u2:=Reg.eval_tmp hv2;exact Reg.step_val (w':=w1) (v:=.pointer (some ⟨g5,PL * 5,none⟩)) rfl rfl rfl (ix_pos20 u1 u2 hpl) rfl hs.below (fun e=>Reg.Keeps.refl e _)
  ·obtain⟨v1,hv1,rfl⟩:∃ v,a.tmps[18]? = some v/\v=.pointer (some ⟨g5,PL * 5,none⟩):=hg' _ (Reg.at_fact 5 rfl) (by kernel_rfl) (by simp[Reg.okTil])
   have u1:=Reg.eval_tmp hv1;exact Reg.step_val rfl rfl rfl (Reg.run_load u1 (load_pos20 ((hs.below.cell (p:=⟨g5,PL * 5,none⟩) hg5r).trans HC2.out) ((hs.below.cell (p:=⟨g5,PL * 5+1,none⟩) hg5r).trans HC3.out) ((hs.below.cell (p:=⟨g5,PL * 5+2,none⟩) hg5r).trans HC4.out) ((hs.below.cell (p:=⟨g5,PL * 5+3,none⟩) hg5r).trans HC5.out) ((hs.below.cell (p:=⟨g5,PL * 5+4,none⟩) hg5r).trans HC6.out))) rfl hs.below (fun e=>Reg.Keeps.refl e _)
  ·exact Reg.step_val rfl rfl rfl (run_alloc_pos20 (w:=w1)) ⟨w1.heap.size,rfl,hs.below.size,heap_new rfl⟩ (hs.below.alloc hs.below.size _) (fun e=>Reg.Keeps.alloc e _ _)
 ·intro vals w1 hF hfx hb1;have eX:vals 19=.agg #[.int .u8 xk,.bool ng,.int .i64 xlo,.int .i64 xhi,.slice ta xts.length tc]:=hF _ (Reg.at_fact 6 rfl) (show(8+1:Nat)<=99 by decide)
  obtain⟨g,eB,hgb,hgx⟩:∃ g,vals 7=.pointer (some ⟨g,0,none⟩)/\w2.heap.size<=g/\w1.heap[g]? = some (.cells #[.int .u8 0,.bool false,.int .i64 0,.int .i64 0,.slice none 0 0] 107 (0,0)):=hF _ (Reg.at_fact 7 rfl) (show(8+1:Nat)<=99 by decide)
  simp only[List.map_cons,List.map_nil,eX,eB]
  generalize vals 13=q13;generalize vals 14=q14;generalize vals 15=q15;generalize vals 16=q16;generalize vals 17=q17;generalize vals 18=q18;have HB1:=Hyd hb1;have HGC:=Hyd hgx;have HGB:=Hyd hgb;have z0:w1.cell? ⟨g,0,none⟩=some (.int .u8 0):=(CeH hgx 0).trans rfl;have z1:w1.cell? ⟨g,1,none⟩=some (.bool false):=(CeH hgx 1).trans rfl;have z2:w1.cell? ⟨g,2,none⟩=some (.int .i64 0):=(CeH hgx 2).trans rfl;have z3:w1.cell? ⟨g,3,none⟩=some (.int .i64 0):=(CeH hgx 3).trans rfl;have z4:w1.cell? ⟨g,4,none⟩=some (.slice none 0 0):=(CeH hgx 4).trans rfl;have f0:=frozen_of_row w1 _ 0 _ _ hgx;have f1:=frozen_of_row w1 _ 1 _ _ hgx;have f2:=frozen_of_row w1 _ 2 _ _ hgx;have f3:=frozen_of_row w1 _ 3 _ _ hgx;have f4:=frozen_of_row w1 _ 4 _ _ hgx
  clear hF hfx eX eB hb1 hgb hgx;(iterate 9 unfold Reg.puts)
  go_upto_region 4 with (fail)
  obtain⟨w5,hw5⟩:∃ w5,w5=((((w1.setCell ⟨g,0,none⟩ (.int .u8 xk)).setCell ⟨g,1,none⟩ (.bool ng)).setCell ⟨g,2,none⟩ (.int .i64 xlo)).setCell ⟨g,3,none⟩ (.int .i64 xhi)).setCell ⟨g,4,none⟩ (.slice ta xts.length tc):=⟨_,rfl⟩
  have HX5:=Hyd (show w5.heap[g]? = some (.cells #[.int .u8 xk,.bool ng,.int .i64 xlo,.int .i64 xhi,.slice ta xts.length tc] 107 (0,0)) by rw[hw5];exact(blk_setc (blk_setc (blk_setc (blk_setc (blk_setc HGC.out 0 _) 1 _) 2 _) 3 _) 4 _).trans rfl)
  have hb5:Below w2.heap.size w2 w5:=by rw[hw5];exact((((HB1.out.setCell (p:=⟨g,0,none⟩) HGB.out _).setCell (p:=⟨g,1,none⟩) HGB.out _).setCell (p:=⟨g,2,none⟩) HGB.out _).setCell (p:=⟨g,3,none⟩) HGB.out _).setCell (p:=⟨g,4,none⟩) HGB.out _
  rw[<-hw5];clear hw5 z0 z1 z2 z3 z4 f0 f1 f2 f3 f4;have hbW5:Below w.heap.size w w5:=HBW2.out.trans (hb5.mono HBW2.out.size);have HP5:=Hyd ((hb5.block _ (heap_lt HT2.out.1)).trans HT2.out.1);have HE5:=Hyd ((hb5.block _ (heap_lt HT2.out.2.1)).trans HT2.out.2.1);have HR5:=Hyd ((hb5.block _ (heap_lt HT2.out.2.2.1)).trans HT2.out.2.2.1);have HX5b:=Hyd ((hb5.block _ (heap_lt HT2.out.2.2.2)).trans HT2.out.2.2.2);have HALL:=Hyd (all21 xts (.slice ta xts.length tc) (.agg #[.slice none 0 0,.slice none 0 0]) (.slice none 0 0) [] [] 0 w.heap.size e w5 (Sl.keep HTT.out fun a ha=>hbW5.cell ha) HTO.out.1 HTO.out.2 ⟨_,_,rfl,Sl.nil_ _ _ _,Sl.nil_ _ _ _⟩ (Sl.nil_ _ _ _) hbW5.size ⟨Nat.zero_le _,fun x hx=>(by cases hx),fun x hx=>(by cases hx)⟩ (Nat.zero_le _) he (fun y hy=>(by cases hy)));have HBW5:=Hyd hbW5;have s4:w5.cell? ⟨g,4,none⟩=some (.slice ta xts.length tc):=(CeH HX5.out 4).trans rfl
  have v0:w5.cell? ⟨w.heap.size+1,0,none⟩=some (.int .i64 e.id):=(CeH HE5.out 0).trans rfl;have v1:w5.cell? ⟨w.heap.size+1,1,none⟩=some (.int .i64 e.time):=(CeH HE5.out 1).trans rfl;have v2:w5.cell? ⟨w.heap.size+1,2,none⟩=some (.int .u8 e.kind):=(CeH HE5.out 2).trans rfl;have v3:w5.cell? ⟨w.heap.size+1,3,none⟩=some (.int .i64 e.val):=(CeH HE5.out 3).trans rfl;clear hb5 hbW5 HT2 HC0 HC1 HC2 HC3 HC4 HC5 HC6 HBW2 HB1 HGC HGB;go_wp2_with fail;refine HALL.out.mono ?_;rintro en w6 ⟨rfl,hg6⟩;rw[HA.out];have HG6:=Hyd hg6;have s0:w6.cell? ⟨g,0,none⟩=some (.int .u8 xk):=hg6.cell (heap_lt HX5.out) ((CeH HX5.out 0).trans rfl);have u2:w6.cell? ⟨w.heap.size+1,2,none⟩=some (.int .u8 e.kind):=hg6.cell (heap_lt HE5.out) v2;clear s4 v0 v1 v2 v3 hg6 HALL
  obtain⟨F,hF⟩:∃ F,fitsS s noRun 0 e=F:=⟨_,rfl⟩
  rw[hF]at HFS HSR;clear hF
  obtain⟨NF,hNF⟩:∃ NF,(!F)=NF:=⟨_,rfl⟩
  have HNF:=Hyd hNF;clear hNF
  go_upto_region 5 with (fail)
  go_cut [8,33] (fun s8 s33 wx=>s8=.bool A/\s33=.bool NF/\wx=w6)
  case first =>
   cases hAv:A with
   | false =>
    have HV:=Hyd hAv;clear hAv;go_wp2_with fail;go_meet;exact⟨by rw[HV.out],by rw[<-HNF.out,HFS.out,HV.out];simp,rfl⟩
   | true =>
    have HV:=Hyd hAv;clear hAv;have HKB:=Hyd (show(e.kind != xk)=NF by rw[<-HNF.out,HFS.out,HV.out];simp[bne]);go_wp2_with fail;go_meet;exact⟨by rw[HV.out],by rw[<-HKB.out],rfl⟩
  case rest =>
   obtain⟨rfl,rfl,rfl⟩:=hcut
   obtain⟨w7,rfl⟩:∃ w':World,w'=wc:=⟨_,rfl⟩
   have hbw7:Below w.heap.size w w7:=HBW5.out.trans (HG6.out.below.mono HBW5.out.size);have HBW7:=Hyd hbw7;have HP7:=Hyd ((HG6.out.below.block _ (heap_lt HP5.out)).trans HP5.out);have HE7:=Hyd ((HG6.out.below.block _ (heap_lt HE5.out)).trans HE5.out);have HR7:=Hyd ((HG6.out.below.block _ (heap_lt HR5.out)).trans HR5.out);have HX7:=Hyd ((HG6.out.below.block _ (heap_lt HX5b.out)).trans HX5b.out);clear HP5 HE5 HR5 HX5b HX5 HG6 HBW5 s0 u2 hbw7;have y0:w7.cell? ⟨w.heap.size+3,0,none⟩=some (.bool false):=(CeH HX7.out 0).trans rfl;have y1:w7.cell? ⟨w.heap.size+3,1,none⟩=some (.slice none 0 0):=(CeH HX7.out 1).trans rfl;have y2:w7.cell? ⟨w.heap.size+3,2,none⟩=some (.slice none 0 0):=(CeH HX7.out 2).trans rfl;have y3:w7.cell? ⟨w.heap.size+3,3,none⟩=some (.bool false):=(CeH HX7.out 3).trans rfl
   have y4:w7.cell? ⟨w.heap.size+3,4,none⟩=some (.slice none 0 0):=(CeH HX7.out 4).trans rfl;have y5:w7.cell? ⟨w.heap.size+3,5,none⟩=some (.slice none 0 0):=(CeH HX7.out 5).trans rfl
   cases hFv:F with
   | false =>
    obtain rfl:NF=true:=by rw[<-HNF.out,hFv];rfl
    rw[hFv]at HSR HFS HNF;clear hFv;have HRV:=Hyd (show startR p e=noRes by rw[HSR.out];rfl);have z0:w7.cell? ⟨w.heap.size+2,0,none⟩=some (.bool false):=(CeH HR7.out 0).trans rfl;have z1:w7.cell? ⟨w.heap.size+2,1,none⟩=some (.slice none 0 0):=(CeH HR7.out 1).trans rfl;have z2:w7.cell? ⟨w.heap.size+2,2,none⟩=some (.slice none 0 0):=(CeH HR7.out 2).trans rfl;have z3:w7.cell? ⟨w.heap.size+2,3,none⟩=some (.bool false):=(CeH HR7.out 3).trans rfl;have z4:w7.cell? ⟨w.heap.size+2,4,none⟩=some (.slice none 0 0):=(CeH HR7.out 4).trans rfl;have z5:w7.cell? ⟨w.heap.size+2,5,none⟩=some (.slice none 0 0):=(CeH HR7.out 5).trans rfl;have f0:=frozen_of_row w7 _ 0 _ _ HR7.out;have f1:=frozen_of_row w7 _ 1 _ _ HR7.out;have f2:=frozen_of_row w7 _ 2 _ _ HR7.out
    have f3:=frozen_of_row w7 _ 3 _ _ HR7.out;have f4:=frozen_of_row w7 _ 4 _ _ HR7.out;have f5:=frozen_of_row w7 _ 5 _ _ HR7.out;have n0:=HR7.out;have n1:=(blk_setc n0 0 (.bool false)).trans rfl;have n2:=(blk_setc n1 1 (.slice none 0 0)).trans rfl;have n3:=(blk_setc n2 2 (.slice none 0 0)).trans rfl;have n4:=(blk_setc n3 3 (.bool false)).trans rfl;have n5:=(blk_setc n4 4 (.slice none 0 0)).trans rfl;have n6:=(blk_setc n5 5 (.slice none 0 0)).trans rfl;have HS5:=Hyd n6
    have hw3:w.heap.size<=w.heap.size+2:=by omega
    have HBF:=Hyd ((((((HBW7.out.setCell (p:=⟨w.heap.size+2,0,none⟩) hw3 (.bool false)).setCell (p:=⟨w.heap.size+2,1,none⟩) hw3 (.slice none 0 0)).setCell (p:=⟨w.heap.size+2,2,none⟩) hw3 (.slice none 0 0)).setCell (p:=⟨w.heap.size+2,3,none⟩) hw3 (.bool false)).setCell (p:=⟨w.heap.size+2,4,none⟩) hw3 (.slice none 0 0)).setCell (p:=⟨w.heap.size+2,5,none⟩) hw3 (.slice none 0 0));clear n0 n1 n2 n3 n4 n5 n6;go_wp2_with fail;refine bodyPost_ret (res_s21 rfl ((CeH HS5.out 0).trans rfl) ((CeH HS5.out 1).trans rfl) ((CeH HS5.out 2).trans rfl) ((CeH HS5.out 3).trans rfl) ((CeH HS5.out 4).trans rfl) ((CeH HS5.out 5).trans rfl)) rfl ?_;exact⟨_,rfl,by rw[HRV.out];exact⟨_,_,_,_,_,rfl,DR.nil_ _ _,.inl ⟨rfl,rfl,rfl⟩⟩,HBF.out⟩
   | true =>
    obtain rfl:NF=false:=by rw[<-HNF.out,hFv];rfl
    rw[hFv]at HSR HFS HNF;clear hFv;have HRV:=Hyd (show startR p e=addR p noRes (withR noRun 0 e) by rw[HSR.out];rfl);have HMO:=Hyd (more21 (.slice none 0 0) (.slice none 0 0) noRun 0 e w7 ⟨_,_,rfl,Sl.nil_ _ _ _,Sl.nil_ _ _ _⟩ WfR.none (Nat.zero_le _));have v0:w7.cell? ⟨w.heap.size+1,0,none⟩=some (.int .i64 e.id):=(CeH HE7.out 0).trans rfl;have v1:w7.cell? ⟨w.heap.size+1,1,none⟩=some (.int .i64 e.time):=(CeH HE7.out 1).trans rfl;have v2:w7.cell? ⟨w.heap.size+1,2,none⟩=some (.int .u8 e.kind):=(CeH HE7.out 2).trans rfl;have v3:w7.cell? ⟨w.heap.size+1,3,none⟩=some (.int .i64 e.val):=(CeH HE7.out 3).trans rfl;clear y0 y1 y2 y3 y4 y5 HSR;go_wp2_with fail;refine HMO.out.mono ?_;rintro en w8 ⟨cv,ev,rfl,hdo,hb8⟩;obtain⟨ca,cc,hcv⟩:=(Sl.of_own hdo.1).shape
    obtain⟨ea,ec,hev⟩:=(Sl.of_own hdo.2).shape
    simp only at hcv hev
    subst hcv hev
    obtain⟨nc,hnc⟩:∃ nc,(withR noRun 0 e).counts.length=nc:=⟨_,rfl⟩
    obtain⟨ne,hne⟩:∃ ne,(withR noRun 0 e).evs.length=ne:=⟨_,rfl⟩
    rw[hnc,hne]at hdo ⊢
    obtain⟨w9,hw9⟩:∃ w9,w9=w8.alloc (.cells #[.slice ca nc cc,.slice ea ne ec,.bool false] 53):=⟨_,rfl⟩
    have hb9:Below w7.heap.size w7 w9:=by rw[hw9];exact hb8.alloc hb8.size _
    have hb89:Below w8.heap.size w8 w9:=by rw[hw9];exact(Below.refl _ _).alloc (Nat.le_refl _) _
    have XRN:=Hyd (show w9.heap[w8.heap.size]? = some (.cells #[.slice ca nc cc,.slice ea ne ec,.bool false] 53 (0,0)) by rw[hw9];exact heap_new rfl);have HDO9:=Hyd (hdo.below hb89);have hbw9:Below w.heap.size w w9:=HBW7.out.trans (hb9.mono HBW7.out.size);have hst:0<=p.steps.length:=Nat.zero_le _
    have HTD:=Hyd (told21 p (.slice (some ⟨g5,0,none⟩) ss.length qc) (.slice ca nc cc) (.slice ea ne ec) (withR noRun 0 e) ss ts L w7.heap.size false false none none none none 0 0 0 0 0 0 0 [] [] w9 ((DocAt.keep HD.out fun a _ ha=>hbw9.cell ha).more (Nat.le_refl _) hbw9.size) HP.out ((hdo.below hb89).le (Nat.zero_le _)) (WfR.withR WfR.none (Nat.zero_le _) (by decide) (by decide)) (by
     intro y hy;rw[with_start]at hy
     rw[List.mem_singleton.1 hy];exact HID.out) (rowed_start e) (by rw[with_start];exact hl0) hb9.size (World.ownsRow_nil _ _ _ _) (World.ownsRow_nil _ _ _ _) (Nat.zero_le _) (Nat.zero_le _))
    have HW9:=Hyd hw9;have HB9:=Hyd hb9;have HBW9:=Hyd hbw9;have HP9:=Hyd ((hb9.block _ (heap_lt HP7.out)).trans HP7.out);have HX9:=Hyd ((hb9.block _ (heap_lt HX7.out)).trans HX7.out);have HR9:=Hyd ((hb9.block _ (heap_lt HR7.out)).trans HR7.out);have p0:w9.cell? ⟨w.heap.size,0,none⟩=some (.slice (some ⟨g5,0,none⟩) ss.length qc):=(CeH HP9.out 0).trans rfl;have p1:w9.cell? ⟨w.heap.size,1,none⟩=some (.int .i64 p.within):=(CeH HP9.out 1).trans rfl;have y0:w9.cell? ⟨w.heap.size+3,0,none⟩=some (.bool false):=(CeH HX9.out 0).trans rfl;have y1:w9.cell? ⟨w.heap.size+3,1,none⟩=some (.slice none 0 0):=(CeH HX9.out 1).trans rfl;have y2:w9.cell? ⟨w.heap.size+3,2,none⟩=some (.slice none 0 0):=(CeH HX9.out 2).trans rfl;have y3:w9.cell? ⟨w.heap.size+3,3,none⟩=some (.bool false):=(CeH HX9.out 3).trans rfl
    have y4:w9.cell? ⟨w.heap.size+3,4,none⟩=some (.slice none 0 0):=(CeH HX9.out 4).trans rfl;have y5:w9.cell? ⟨w.heap.size+3,5,none⟩=some (.slice none 0 0):=(CeH HX9.out 5).trans rfl;have n0:w9.cell? ⟨w8.heap.size,0,none⟩=some (.slice ca nc cc):=(CeH XRN.out 0).trans rfl;have n1:w9.cell? ⟨w8.heap.size,1,none⟩=some (.slice ea ne ec):=(CeH XRN.out 1).trans rfl;have n2:w9.cell? ⟨w8.heap.size,2,none⟩=some (.bool false):=(CeH XRN.out 2).trans rfl;clear hdo hb8 hw9 hb9 hb89 hbw9 hnc hne v0 v1 v2 v3 HMO
    go_upto_region 8 with (fail)
    rw[<-HW9.out];go_wp2_with fail;refine HTD.out.mono ?_;rintro en wd ⟨gv,dv,rfl,h1,h2,hbt⟩;have HDR:=Hyd (DR.told (p:=p) (x:=noRes) (r:=withR noRun 0 e) (gs:=[]) (DR.nil_ w7.heap.size w9) rfl HDO9.out hbt h1 h2);obtain⟨ga,gk,hgv⟩:=(Sl.of_own h1).shape;obtain⟨da,dk,hdv⟩:=(Sl.of_own h2).shape
    obtain⟨ng2,hng2⟩:∃ n,(0+if addGrown p (withR noRun 0 e)=true then 1 else 0)=n:=⟨_,rfl⟩
    obtain⟨nd2,hnd2⟩:∃ n,(([]:List (List UInt8))++if addDone p (withR noRun 0 e)=true then [textR (withR noRun 0 e)] else []).length=n:=⟨_,rfl⟩
    rw[hng2]at hgv;rw[hnd2]at hdv;subst hgv hdv;have hRw:w.heap.size+2<w7.heap.size:=heap_lt HR7.out;have HRD:=Hyd ((hbt.blk _ hRw).trans HR9.out)
    have hw3:w.heap.size<=w.heap.size+2:=by omega
    have HBD:=Hyd (HBW9.out.trans (hbt.below.mono HBW7.out.size));clear h1 h2 hbt hng2 hnd2 p0 p1 y0 y1 y2 y3 y4 y5 n0 n1 n2 HTD;have z0:wd.cell? ⟨w.heap.size+2,0,none⟩=some (.bool false):=(CeH HRD.out 0).trans rfl;have z1:wd.cell? ⟨w.heap.size+2,1,none⟩=some (.slice none 0 0):=(CeH HRD.out 1).trans rfl;have z2:wd.cell? ⟨w.heap.size+2,2,none⟩=some (.slice none 0 0):=(CeH HRD.out 2).trans rfl;have z3:wd.cell? ⟨w.heap.size+2,3,none⟩=some (.bool false):=(CeH HRD.out 3).trans rfl;have z4:wd.cell? ⟨w.heap.size+2,4,none⟩=some (.slice none 0 0):=(CeH HRD.out 4).trans rfl;have z5:wd.cell? ⟨w.heap.size+2,5,none⟩=some (.slice none 0 0):=(CeH HRD.out 5).trans rfl;have f0:=frozen_of_row wd _ 0 _ _ HRD.out;have f1:=frozen_of_row wd _ 1 _ _ HRD.out
    have f2:=frozen_of_row wd _ 2 _ _ HRD.out;have f3:=frozen_of_row wd _ 3 _ _ HRD.out;have f4:=frozen_of_row wd _ 4 _ _ HRD.out;have f5:=frozen_of_row wd _ 5 _ _ HRD.out;have n0:=HRD.out;have n1:=(blk_setc n0 0 (.bool false)).trans rfl;have n2:=(blk_setc n1 1 (.slice none 0 0)).trans rfl;have n3:=(blk_setc n2 2 (.slice none 0 0)).trans rfl;have n4:=(blk_setc n3 3 (.bool false)).trans rfl;have n5:=(blk_setc n4 4 (.slice ga ng2 gk)).trans rfl;have n6:=(blk_setc n5 5 (.slice da nd2 dk)).trans rfl;have HS5:=Hyd n6;have HBF:=Hyd ((((((HBD.out.setCell (p:=⟨w.heap.size+2,0,none⟩) hw3 (.bool false)).setCell (p:=⟨w.heap.size+2,1,none⟩) hw3 (.slice none 0 0)).setCell (p:=⟨w.heap.size+2,2,none⟩) hw3 (.slice none 0 0)).setCell (p:=⟨w.heap.size+2,3,none⟩) hw3 (.bool false)).setCell (p:=⟨w.heap.size+2,4,none⟩) hw3 (.slice ga ng2 gk)).setCell (p:=⟨w.heap.size+2,5,none⟩) hw3 (.slice da nd2 dk))
    have HDF:=Hyd (DR.six (HDR.out.le HBW7.out.size) rfl HRD.out (.bool false) (.slice none 0 0) (.slice none 0 0) (.bool false) (.slice ga ng2 gk) (.slice da nd2 dk));clear n0 n1 n2 n3 n4 n5 n6;go_wp2_with fail;refine bodyPost_ret (res_s21 rfl ((CeH HS5.out 0).trans rfl) ((CeH HS5.out 1).trans rfl) ((CeH HS5.out 2).trans rfl) ((CeH HS5.out 3).trans rfl) ((CeH HS5.out 4).trans rfl) ((CeH HS5.out 5).trans rfl)) rfl ?_;exact⟨_,rfl,by rw[HRV.out];exact⟨_,_,_,_,_,rfl,HDF.out.1,.inl ⟨rfl,rfl,rfl⟩⟩,HBF.out⟩
end Go.Proofs.YtcojnojdgigmdaaGreatDoor.WR
