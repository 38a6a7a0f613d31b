/- The walk of oxbowref21.told: a result with a run that has grown. -/
import Derived.Test.YtcojnojdgigmdaaGreatDoorB01
import Derived.Test.YtcojnojdgigmdaaGreatDoorWO21
import Derived.Test.YtcojnojdgigmdaaGreatDoorWB21
import Derived.BigQuiet
set_option maxHeartbeats 6400000
set_option maxRecDepth 100000
namespace Go.Proofs.YtcojnojdgigmdaaGreatDoor.WR
open Go Go.RowKit Go.Sort PL PR Mem WL WS
theorem load_poss20 {w:World} {g j:Nat} {u:Value} (h:w.cell? ⟨g,j,none⟩=some u):(Instr.loadAt 26 (.pointer (some ⟨g,j,none⟩))).run Tryz.prog w=.ok u w:=by go_simp
theorem load_pos20 {w:World} {g j:Nat} {k lo hi:Int} {ng:Bool} {a:Option Addr} {n c:Nat} (h0:w.cell? ⟨g,j,none⟩=some (.int .u8 k)) (h1:w.cell? ⟨g,j+1,none⟩=some (.bool ng)) (h2:w.cell? ⟨g,j+2,none⟩=some (.int .i64 lo)) (h3:w.cell? ⟨g,j+3,none⟩=some (.int .i64 hi)) (h4:w.cell? ⟨g,j+4,none⟩=some (.slice a n c)) :
  (Instr.loadAt 107 (.pointer (some ⟨g,j,none⟩))).run Tryz.prog w=.ok (.agg #[.int .u8 k,.bool ng,.int .i64 lo,.int .i64 hi,.slice a n c]) w:=by go_simp
section
variable {a : Act} {w : World} {d : Option Tmp} {ty : TypeId} {pos : String} {af : Array Edge} {gd : Option (Nat × Bool)}
theorem ix_pos20 {x y:Operand} {g n c k:Nat} (h1:a.eval x=.slice (some ⟨g,0,none⟩) n c) (h2:a.eval y=.int .i64 k) (hl:k<n) :
  (execOp a.eval { dst:=d,op:=.indexAddr 26 x y,type:=ty,pos:=pos,after:=af,guard:=gd }).run Tryz.prog w=.ok (.value (.pointer (some ⟨g,k * 5,none⟩))) w:=by
 have h3:(k:Int)<(n:Int):=by omega
 have h4:(0:Int)<=(k:Int):=by omega
 simp only[execOp,h1,h2]
 go_simp
theorem run_alloc_pos20:(execOp a.eval { dst:=d,op:=.alloc 107,type:=ty,pos:=pos,after:=af,guard:=none }).run Tryz.prog w=.ok (.value (.pointer (some ⟨w.heap.size,0,none⟩))) (w.alloc (.cells #[.int .u8 0,.bool false,.int .i64 0,.int .i64 0,.slice none 0 0] 107)):=by
 simp only[execOp]
 go_simp
end
theorem infoDRun:(Tryz.prog.info? 53).map (fun i=>(i.zero,i.size,i.bytes))=some (some (.agg #[.slice none 0 0,.slice none 0 0,.bool false]),3,56):=by kernel_rfl
structure BelT (Bw:Nat) (w w':World):Prop where
 os:w'.os=w.os
 tape:w'.tape=w.tape
 output:w'.output=w.output
 size:w.heap.size<=w'.heap.size
 blk:∀ b,b<Bw->w'.heap[b]? = w.heap[b]?
 ki:Reg.Keeps 3 w w'
 ke:Reg.Keeps 59 w w'
section
variable {Bw : Nat} {a b c : World}
theorem BelT.trans (h:BelT Bw a b) (h':BelT Bw b c):BelT Bw a c :=
 ⟨h'.os.trans h.os,h'.tape.trans h.tape,h'.output.trans h.output,Nat.le_trans h.size h'.size,fun k hk=>(h'.blk k hk).trans (h.blk k hk),h.ki.trans h'.ki,h.ke.trans h'.ke⟩
theorem BelT.of (h:Below a.heap.size a b) (hB:Bw<=a.heap.size):BelT Bw a b :=
 ⟨h.os,h.tape,h.output,h.size,fun k hk=>h.block k (Nat.lt_of_lt_of_le hk hB),Reg.Keeps.below _ h,Reg.Keeps.below _ h⟩
theorem BelT.below (h:BelT Bw a b):Below Bw a b:=⟨h.os,h.tape,h.output,h.size,h.blk⟩
theorem BelT.set {g i:Nat} {u:Value} {cs:Array Value} {t:TypeId} (h:a.heap[g]? = some (.cells cs t (0,0))) (h1:3≠t) (h2:59≠t) (hB:Bw<=g):BelT Bw a (a.setCell ⟨g,i,none⟩ u) :=
 ⟨rfl,rfl,rfl,by simp,fun k hk=>heap_setCell_other a ⟨g,i,none⟩ k u (by show k≠g;omega),Keeps.set h h1,Keeps.set h h2⟩
theorem BelT.grown {e:TypeId} {s n base:Nat} {v:Value} {xs:List Value} (ho:a.ownsRow base e s v n xs) (hg:a.grownBy b v.ownBlock) (h1:3≠e) (h2:59≠e) (hB:Bw<=base) (hs:Bw<=a.heap.size):BelT Bw a b :=
 ⟨hg.os,hg.tape,hg.output,hg.size,fun k hk=>hg.block k (Nat.lt_of_lt_of_le hk hs) (fun e=>by have:=(own_lt ho k e.symm).1;omega),Reg.Keeps.grown h1 ho hg,Reg.Keeps.grown h2 ho hg⟩
end
structure ToldS (Bw H g:Nat) (xv rv pc:Array Value) (gv dv:Value) (n:Nat) (gc:List Value) (ds:List (List UInt8)) (w0 w:World):Prop where
 bel:BelT Bw w0 w
 xb:w.heap[H+1]? = some (.cells xv 56 (0,0))
 rb:w.heap[H+2]? = some (.cells rv 53 (0,0))
 zb:w.heap[H+3]? = some (.cells #[.bool false,.slice none 0 0,.slice none 0 0,.bool false,.slice none 0 0,.slice none 0 0] 56 (0,0))
 sb:w.heap[g]? = some (.cells pc 107 (0,0))
 o1:w.ownsRow Bw 53 3 gv n gc
 o2:w.ownsRow Bw 9 1 dv ds.length (ds.map strV)
theorem ToldS.below {Bw H g:Nat} {xv rv pc:Array Value} {gv dv:Value} {n:Nat} {gc:List Value} {ds:List (List UInt8)} {w0 w w':World} (h:ToldS Bw H g xv rv pc gv dv n gc ds w0 w) (hb:Below w.heap.size w w') (hB:Bw<=w.heap.size):ToldS Bw H g xv rv pc gv dv n gc ds w0 w' :=
 ⟨h.bel.trans (BelT.of hb hB),(hb.block _ (heap_lt h.xb)).trans h.xb,(hb.block _ (heap_lt h.rb)).trans h.rb,(hb.block _ (heap_lt h.zb)).trans h.zb,(hb.block _ (heap_lt h.sb)).trans h.sb,own_below h.o1 hb,own_below h.o2 hb⟩
theorem res_d21 {w:World} {R:Nat} {c0 c1 c2 c3 c4 c5:Value} {tmps:Array Value} (h6:tmps[6]? = some (.pointer (some ⟨R,0,none⟩))) (e0:w.cell? ⟨R,0,none⟩=some c0) (e1:w.cell? ⟨R,1,none⟩=some c1) (e2:w.cell? ⟨R,2,none⟩=some c2) (e3:w.cell? ⟨R,3,none⟩=some c3) (e4:w.cell? ⟨R,4,none⟩=some c4) (e5:w.cell? ⟨R,5,none⟩=some c5) :
  (results Tryz.f47 tmps).run Tryz.prog w=.ok (.agg #[c0,c1,c2,c3,c4,c5]) w:=by
 simp[results,Tryz.results47,go_sem,h6,e0,e1,e2,e3,e4,e5]
theorem told21 (p:RPlan) (qs cv ev:Value) (r:RRun) (ss:List GS) (ts:Nat->List PT) (L Bw:Nat) (k bl:Bool) (a0 a1 ga da:Option Addr) (n0 k0 n1 k1 n gk dk:Nat) (gc:List Value) (ds:List (List UInt8)) (w:World) (hd:DocAt w L w.heap.size qs ss ts) (hp:PlnOk ss ts p) (hr:DOwnR 0 w (cv,ev,r)) (hw:WfR r) (hf:FitId r.evs) (hro:Rowed r) (hl1:r.counts.length<=p.steps.length)
  (hBw:Bw<=w.heap.size) (ho1:w.ownsRow Bw 53 3 (.slice ga n gk) n gc) (ho2:w.ownsRow Bw 9 1 (.slice da ds.length dk) ds.length (ds.map strV)) (hn:n<=1000000) (hds:ds.length<=1000000) :
  Calls Tryz.prog 47 #[.agg #[qs,.int .i64 p.within],.agg #[.bool k,.slice a0 n0 k0,.slice a1 n1 k1,.bool bl,.slice ga n gk,.slice da ds.length dk],.agg #[cv,ev,.bool r.blocked]] w fun e w'=>∃ gv' dv',e=.returned (.agg #[.bool k,.slice a0 n0 k0,.slice a1 n1 k1,.bool bl,gv',dv']) /\
   w'.ownsRow Bw 53 3 gv' (n+if addGrown p r then 1 else 0) (gc++if addGrown p r then [cv,ev,.bool r.blocked] else [])/\w'.ownsRow Bw 9 1 dv' (ds++if addDone p r then [textR r] else []).length ((ds++if addDone p r then [textR r] else []).map strV)/\BelT Bw w w':=by
 have mixed:Tryz.prog.follows .mixedOrders=true:=by kernel_rfl
 obtain⟨hc,he⟩:=id hr
 simp only at hc he
 have hl0:0<r.counts.length:=List.length_pos_iff.2 hro.ne
 obtain⟨L1,hL⟩:∃ L,r.counts.length-1=L:=⟨_,rfl⟩
 have hLl:r.counts.length=L1+1:=by omega
 obtain⟨q,cq,rfl,_,hqw⟩:=hc.form hl0;obtain⟨ea,ec,rfl⟩:=(Sl.of_own he).shape;have HDO:=Hyd hr;have hss:=hp.n9;have hplc:=hp.plc.at_ L1 (by omega) (by have:=hp.plc.len;omega);obtain⟨hplc1,-,hplo,hphi,-⟩:=hplc;have HPL:=Hyd hp
 obtain⟨N,hN⟩:∃ N,r.counts[L1]=N:=⟨_,rfl⟩
 have HXN:=Hyd (show ∀ w',BelT Bw w w' -> w'.cell? ⟨q,L1,none⟩=some (.int .i64 (N:Int)) from fun w' hw'=>by
  have h1:=hw'.ki.1 _ _ _ _ _ hc;rw[h1.cellAt L1 (by omega)];unfold cntV
  rw[List.getElem?_map,List.getElem?_eq_getElem (show L1<r.counts.length by omega),hN];rfl)
 have hN1:r.counts.getLast? = some N:=by rw[List.getLast?_eq_getElem?,hL,List.getElem?_eq_getElem (by omega),hN]
 have hN3:N<=1000000:=by
  have h0:r.counts.getD L1 0=N:=by rw[List.getD_eq_getElem?_getD,List.getElem?_eq_getElem (by omega),Option.getD_some,hN]
  have:=getD_le_sum r.counts L1;have h1:=hw.sum;have h2:=hw.few
  omega
 obtain⟨PL,hPL⟩:∃ PL,(plc ss ss.length)[L1]'(by have:=hp.plc.len;omega)=PL:=⟨_,rfl⟩
 rw[hPL]at hplc1 hplo hphi
 have hPLs:PL<ss.length:=by omega
 obtain⟨g5,qc,rfl,hg5w,x0,x1,x2,x3,vt,x4,htt⟩:=DocAt.cells hd hPLs;obtain⟨ta,tc,rfl⟩:=Sl.shape htt
 obtain⟨s,hs⟩:∃ s,p.steps[L1]'(by omega)=s:=⟨_,rfl⟩
 rw[hs]at hplo hphi
 obtain⟨E,hE⟩:∃ E,decide (r.counts.length=p.steps.length)=E:=⟨_,rfl⟩
 have HD:=Hyd (show addDone p r=(E&&decide (s.lo<=(N:Int))) by
  unfold addDone;rw[<-hE]
  by_cases h:r.counts.length=p.steps.length
  ·rw[List.getLast?_eq_getElem? (l:=p.steps),<-h,hL,List.getElem?_eq_getElem (show L1<p.steps.length by omega),hs,hN1];simp[h]
  ·simp[h])
 have HGd:=Hyd (show addGrown p r=(!E||decide ((N:Int)<s.hi)) by
  unfold addGrown;rw[<-hE]
  by_cases h:r.counts.length=p.steps.length
  ·rw[List.getLast?_eq_getElem? (l:=p.steps),<-h,hL,List.getElem?_eq_getElem (show L1<p.steps.length by omega),hs,hN1];simp[h]
  ·simp[h])
 have HE10:=Hyd (show(((L1:Int))==(((plc ss ss.length).length:Int)-1))=E by
  rw[<-hE];have:=hp.plc.len
  by_cases h:r.counts.length=p.steps.length
  ·rw[decide_eq_true h];rw[beq_iff_eq];omega
  ·rw[decide_eq_false h];rw[beq_eq_false_iff_ne];omega)
 have HLO:=Hyd hplo;have HHI:=Hyd hphi
 obtain⟨xk,hxk⟩:∃ x,(ss[PL]!).k=x:=⟨_,rfl⟩
 obtain⟨ng,hng⟩:∃ x,(ss[PL]!).neg=x:=⟨_,rfl⟩
 obtain⟨xlo,hxlo⟩:∃ x,(ss[PL]!).lo=x:=⟨_,rfl⟩
 obtain⟨xhi,hxhi⟩:∃ x,(ss[PL]!).hi=x:=⟨_,rfl⟩
 obtain⟨xts,hxts⟩:∃ x,ts PL=x:=⟨_,rfl⟩
 rw[hxlo]at HLO;rw[hxhi]at HHI;rw[hxk]at x0;rw[hng]at x1;rw[hxlo]at x2;rw[hxhi]at x3;rw[hxts]at x4;rw[<-HLO.out]at HD;rw[<-HHI.out]at HGd;have HT:=Hyd (hro.text);have HOK:=Hyd (hro.okm hw.few hw.steps)
 obtain⟨D,hDd⟩:∃ D,addDone p r=D:=⟨_,rfl⟩
 obtain⟨G,hGd⟩:∃ G,addGrown p r=G:=⟨_,rfl⟩
 rw[hDd]at HD;rw[hGd]at HGd;rw[hDd,hGd]
 obtain⟨dl,hdl⟩:∃ dl,(ds++if D=true then [textR r] else [])=dl:=⟨_,rfl⟩
 obtain⟨nl,hnl⟩:∃ nl,(n+if G=true then 1 else 0)=nl:=⟨_,rfl⟩
 obtain⟨gl,hgl⟩:∃ gl,(gc++if G=true then [.slice (some ⟨q,0,none⟩) r.counts.length cq,.slice ea r.evs.length ec,.bool r.blocked] else [])=gl:=⟨_,rfl⟩
 rw[hdl,hnl,hgl]
 have hdll:dl.length<=1000001:=by
  rw[<-hdl,List.length_append]
  split<;>simp<;>omega
 have HDL:=Hyd hdl;have HNL:=Hyd hnl;have HGL:=Hyd hgl;clear hdl hnl hgl
 obtain⟨wa,hwa⟩:∃ wa,wa=(((w.alloc (.cells #[.slice (some ⟨g5,0,none⟩) ss.length qc,.int .i64 p.within] 28)).alloc (.cells #[.bool k,.slice a0 n0 k0,.slice a1 n1 k1,.bool bl,.slice ga n gk,.slice da ds.length dk] 56)).alloc (.cells #[.slice (some ⟨q,0,none⟩) r.counts.length cq,.slice ea r.evs.length ec,.bool r.blocked] 53)).alloc (.cells #[.bool false,.slice none 0 0,.slice none 0 0,.bool false,.slice none 0 0,.slice none 0 0] 56):=⟨_,rfl⟩
 have hza:wa.heap.size=w.heap.size+4:=by rw[hwa];simp
 have hbA:Below w.heap.size w wa:=by rw[hwa];exact((((Below.refl _ _).alloc (Nat.le_refl _) _).alloc (by simp) _).alloc (by simp;omega) _).alloc (by simp;omega) _
 have HBA:=Hyd hbA;have XP:=Hyd (show wa.heap[w.heap.size]? = some (.cells #[.slice (some ⟨g5,0,none⟩) ss.length qc,.int .i64 p.within] 28 (0,0)) by rw[hwa];exact heap_alloc (heap_alloc (heap_alloc (heap_new rfl))));have XX:=Hyd (show wa.heap[w.heap.size+1]? = some (.cells #[.bool k,.slice a0 n0 k0,.slice a1 n1 k1,.bool bl,.slice ga n gk,.slice da ds.length dk] 56 (0,0)) by rw[hwa];exact heap_alloc (heap_alloc (heap_new (by simp))));have XR:=Hyd (show wa.heap[w.heap.size+2]? = some (.cells #[.slice (some ⟨q,0,none⟩) r.counts.length cq,.slice ea r.evs.length ec,.bool r.blocked] 53 (0,0)) by rw[hwa];exact heap_alloc (heap_new (by simp)));have XZ:=Hyd (show wa.heap[w.heap.size+3]? = some (.cells #[.bool false,.slice none 0 0,.slice none 0 0,.bool false,.slice none 0 0,.slice none 0 0] 56 (0,0)) by rw[hwa];exact heap_new (by simp))
 have HST:=Hyd (steps21 (.slice (some ⟨g5,0,none⟩) ss.length qc) p.within ss ts L wa ((DocAt.keep hd fun a _ ha=>hbA.cell ha).more (Nat.le_refl _) hbA.size) (by omega));have HO1:=Hyd ho1;have HO2:=Hyd ho2;have HF:=Hyd hf;have HWF:=Hyd hw;have HWA:=Hyd hwa;have HZA:=Hyd hza;have HY0:=Hyd x0;have HY1:=Hyd x1;have HY2:=Hyd x2;have HY3:=Hyd x3;have HY4:=Hyd x4;have hcl:r.counts.length<=1000000:=hw.steps;have hel:r.evs.length<=1000000:=hw.few;have hplen:=hp.plc.len;have HLL:=Hyd hLl;have HPLL:=Hyd (show ∀ h:L1<(plc ss ss.length).length,(plc ss ss.length)[L1]'h=PL from fun _=>hPL)
 have hL0:(0:Int)<=(L1:Int):=by omega
 have hLq:(L1:Int)<(r.counts.length:Int):=by omega
 have hLm:(r.counts.length:Int)-1=(L1:Int):=by omega
 have hLs:L1<=1000000:=by omega
 have hLpl:L1<(plc ss ss.length).length:=by omega
 have hplm:(plc ss ss.length).length<=1000000:=by have:=plc_len ss ss.length;omega
 clear hd hp hc he hw hf hro ho1 ho2 hwa hza hbA x0 x1 x2 x3 x4 htt hr hxk hng hxlo hxhi hxts hE hDd hGd hN hN1 hs hPL hLl hL hplo hphi hplc1
 go_enter Tryz.func47,Tryz.ntmps47
 go_upto_region 1 with (fail)
 rw[<-HWA.out];have p0:wa.cell? ⟨w.heap.size,0,none⟩=some (.slice (some ⟨g5,0,none⟩) ss.length qc):=(CeH XP.out 0).trans rfl;have p1:wa.cell? ⟨w.heap.size,1,none⟩=some (.int .i64 p.within):=(CeH XP.out 1).trans rfl;go_wp2_with fail;refine HST.out.mono ?_;rintro e w2 ⟨pv,rfl,hpo,hb2⟩
 obtain⟨np,hnp⟩:∃ np,(plc ss ss.length).length=np:=⟨_,rfl⟩
 obtain⟨b3,o3,pc,rfl,hb3,x1⟩:=cnt_cell (Sl.of_own hpo) hLpl;rw[HPLL.out]at x1;rw[hnp]at hLpl hplm HE10 ⊢;have hwr1:w.heap.size<w2.heap.size:=Nat.lt_of_lt_of_le (heap_lt XP.out) hb2.size;have HC0:=Hyd ((hb2.cell (p:=⟨w.heap.size,0,none⟩) (heap_lt XP.out)).trans p0);have HC1:=Hyd x1;have hb3r:b3<w2.heap.size:=hb3;have hbW2:Below w.heap.size w w2:=HBA.out.trans (hb2.mono HBA.out.size);have HC2:=Hyd ((hbW2.cell (p:=⟨g5,PL * 5,none⟩) hg5w).trans HY0.out);have HC3:=Hyd ((hbW2.cell (p:=⟨g5,PL * 5+1,none⟩) hg5w).trans HY1.out);have HC4:=Hyd ((hbW2.cell (p:=⟨g5,PL * 5+2,none⟩) hg5w).trans HY2.out);have HC5:=Hyd ((hbW2.cell (p:=⟨g5,PL * 5+3,none⟩) hg5w).trans HY3.out);have HC6:=Hyd ((hbW2.cell (p:=⟨g5,PL * 5+4,none⟩) hg5w).trans HY4.out)
 have hg5r:g5<w2.heap.size:=by omega
 have hsp:L1<np:=hLpl;have hpl:PL<ss.length:=hPLs;have q0:w2.cell? ⟨w.heap.size+2,0,none⟩=some (.slice (some ⟨q,0,none⟩) r.counts.length cq):=(hb2.cell (p:=⟨w.heap.size+2,0,none⟩) (heap_lt XR.out)).trans ((CeH XR.out 0).trans rfl)
 have HT2:=Hyd (show BelT Bw w w2/\w2.heap[w.heap.size+1]? = some (.cells #[.bool k,.slice a0 n0 k0,.slice a1 n1 k1,.bool bl,.slice ga n gk,.slice da ds.length dk] 56 (0,0))/\w2.heap[w.heap.size+2]? = some (.cells #[.slice (some ⟨q,0,none⟩) r.counts.length cq,.slice ea r.evs.length ec,.bool r.blocked] 53 (0,0))/\w2.heap[w.heap.size+3]? = some (.cells #[.bool false,.slice none 0 0,.slice none 0 0,.bool false,.slice none 0 0,.slice none 0 0] 56 (0,0)) from
  ⟨BelT.of hbW2 hBw,(hb2.block _ (heap_lt XX.out)).trans XX.out,(hb2.block _ (heap_lt XR.out)).trans XR.out,(hb2.block _ (heap_lt XZ.out)).trans XZ.out⟩)
 have HBW2:=Hyd hbW2;have hw2:=hbW2.size;clear hpo hb2 x1 hnp p0 p1 HST hbW2 HY0 HY1 HY2 HY3 HY4 hb3 XP XX XR XZ
 go_upto_region 3 with (fail)
 clear q0
 refine Reg.stand_order (W:=w2) (h:=9) (t:=1)
  [⟨0,19,[],99,[],none,fun v _=>v=.pointer (some ⟨w.heap.size,0,none⟩)⟩,
   ⟨1,20,[],99,[],none,fun v _=>v=.slice (some ⟨g5,0,none⟩) ss.length qc⟩,
   ⟨2,21,[],99,[],none,fun v _=>v=.slice (some ⟨b3,o3,none⟩) np pc⟩,
   ⟨3,22,[],99,[],none,fun v _=>v=.int .i64 (L1:Nat)⟩,
   ⟨4,23,[],99,[],none,fun v _=>v=.pointer (some ⟨b3,o3+L1,none⟩)⟩,
   ⟨5,24,[],99,[],none,fun v _=>v=.int .i64 (PL:Nat)⟩,
   ⟨6,25,[],99,[],none,fun v _=>v=.pointer (some ⟨g5,PL * 5,none⟩)⟩,
   ⟨7,26,[],99,[],none,fun v _=>v=.agg #[.int .u8 xk,.bool ng,.int .i64 xlo,.int .i64 xhi,.slice ta xts.length tc]⟩,
   ⟨8,9,[107],99,[],none,fun v w'=>∃ g,v=.pointer (some ⟨g,0,none⟩)/\w2.heap.size<=g/\w'.heap[g]? = some (.cells #[.int .u8 0,.bool false,.int .i64 0,.int .i64 0,.slice none 0 0] 107 (0,0))⟩]
  []
  (by kernel_rfl) rfl (by kernel_rfl) (by kernel_rfl) (by kernel_rfl) (show [0,1,2,3,4,5,6,7,8].Nodup by decide) (show ∀ i,i<9->i∈[0,1,2,3,4,5,6,7,8] by decide) ?_ (show [19,20,21,22,23,24,25,26,9].Nodup by decide) (show ∀ s∈[19,20,21,22,23,24,25,26,9],s<74 by decide) (by kernel_rfl) ?_ ?_ (Below.refl _ _) ?_ ?_ ?_
 ·intro f hf
  simp only[List.mem_cons,List.not_mem_nil,or_false]at hf
  rcases hf with rfl|rfl|rfl|rfl|rfl|rfl|rfl|rfl|rfl<;>simp
 ·intro f hf v w1 w2 hk hF
  simp only[List.mem_cons,List.not_mem_nil,or_false]at hf
  rcases hf with rfl|rfl|rfl|rfl|rfl|rfl|rfl|rfl|rfl
  ·exact hF
  ·exact hF
  ·exact hF
  ·exact hF
  ·exact hF
  ·exact hF
  ·exact hF
  ·exact hF
  ·obtain⟨g,e1,e2,e3⟩:=hF;exact⟨g,e1,e2,(hk 107 (by simp)).2 _ _ e3⟩
 ·intro f hf;cases hf
 ·intro f hf;cases hf
 ·intro f hf a w1 hs hg' hst;have t3:a.eval (.tmp 3)=.pointer (some ⟨w.heap.size,0,none⟩):=Reg.eval_tmp ((hs.out 3 (show 3∉[19,20,21,22,23,24,25,26,9] by decide)).trans rfl);have t7:a.eval (.tmp 7)=.slice (some ⟨b3,o3,none⟩) np pc:=Reg.eval_tmp ((hs.out 7 (show 7∉[19,20,21,22,23,24,25,26,9] by decide)).trans rfl);have t8:a.eval (.tmp 8)=.int .i64 (L1:Nat):=Reg.eval_tmp ((hs.out 8 (show 8∉[19,20,21,22,23,24,25,26,9] by decide)).trans rfl)
  simp only[List.mem_cons,List.not_mem_nil,or_false]at hf
  rcases hf with rfl|rfl|rfl|rfl|rfl|rfl|rfl|rfl|rfl
  ·have u1:=t3;exact Reg.step_val (w':=w1) (v:=.pointer (some ⟨w.heap.size,0,none⟩)) rfl rfl rfl (Ord.run_fld u1 (by go_simp)) rfl hs.below (fun e=>Reg.Keeps.refl e _)
  ·obtain⟨v1,hv1,rfl⟩:∃ v,a.tmps[19]? = some v/\v=.pointer (some ⟨w.heap.size,0,none⟩):=hg' _ (Reg.at_fact 0 rfl) (by kernel_rfl) (by simp[Reg.okTil])
   have u1:=Reg.eval_tmp hv1;exact Reg.step_val rfl rfl rfl (Reg.run_load u1 (load_poss20 ((hs.below.cell (p:=⟨w.heap.size,0,none⟩) hwr1).trans HC0.out))) rfl hs.below (fun e=>Reg.Keeps.refl e _)
  ·have u1:=t7;exact Reg.step_val rfl rfl rfl (Reg.run_move u1) rfl hs.below (fun e=>Reg.Keeps.refl e _)
  ·have u1:=t8;exact Reg.step_val rfl rfl rfl (Reg.run_move u1) rfl hs.below (fun e=>Reg.Keeps.refl e _)
  ·obtain⟨v1,hv1,rfl⟩:∃ v,a.tmps[21]? = some v/\v=.slice (some ⟨b3,o3,none⟩) np pc:=hg' _ (Reg.at_fact 2 rfl) (by kernel_rfl) (by simp[Reg.okTil])
   obtain⟨v2,hv2,rfl⟩:∃ v,a.tmps[22]? = some v/\v=.int .i64 (L1:Nat):=hg' _ (Reg.at_fact 3 rfl) (by kernel_rfl) (by simp[Reg.okTil])
   have u1:=Reg.eval_tmp hv1;have u2:=Reg.eval_tmp hv2;exact Reg.step_val (w':=w1) (v:=.pointer (some ⟨b3,o3+L1,none⟩)) rfl rfl rfl (ix_int u1 u2 hsp) rfl hs.below (fun e=>Reg.Keeps.refl e _)
  ·obtain⟨v1,hv1,rfl⟩:∃ v,a.tmps[23]? = some v/\v=.pointer (some ⟨b3,o3+L1,none⟩):=hg' _ (Reg.at_fact 4 rfl) (by kernel_rfl) (by simp[Reg.okTil])
   have u1:=Reg.eval_tmp hv1;exact Reg.step_val rfl rfl rfl (Reg.run_load u1 (load_int ((hs.below.cell (p:=⟨b3,o3+L1,none⟩) hb3r).trans HC1.out))) rfl hs.below (fun e=>Reg.Keeps.refl e _)
  ·obtain⟨v1,hv1,rfl⟩:∃ v,a.tmps[20]? = some v/\v=.slice (some ⟨g5,0,none⟩) ss.length qc:=hg' _ (Reg.at_fact 1 rfl) (by kernel_rfl) (by simp[Reg.okTil])
   obtain⟨v2,hv2,rfl⟩:∃ v,a.tmps[24]? = some v/\v=.int .i64 (PL:Nat):=hg' _ (Reg.at_fact 5 rfl) (by kernel_rfl) (by simp[Reg.okTil])
   have u1:=Reg.eval_tmp hv1;have u2:=Reg.eval_tmp hv2;exact Reg.step_val (w':=w1) (v:=.pointer (some ⟨g5,PL * 5,none⟩)) rfl rfl rfl (ix_pos20 u1 u2 hpl) rfl hs.below (fun e=>Reg.Keeps.refl e _)
  ·obtain⟨v1,hv1,rfl⟩:∃ v,a.tmps[25]? = some v/\v=.pointer (some ⟨g5,PL * 5,none⟩):=hg' _ (Reg.at_fact 6 rfl) (by kernel_rfl) (by simp[Reg.okTil])
   have u1:=Reg.eval_tmp hv1;exact Reg.step_val rfl rfl rfl (Reg.run_load u1 (load_pos20 ((hs.below.cell (p:=⟨g5,PL * 5,none⟩) hg5r).trans HC2.out) ((hs.below.cell (p:=⟨g5,PL * 5+1,none⟩) hg5r).trans HC3.out) ((hs.below.cell (p:=⟨g5,PL * 5+2,none⟩) hg5r).trans HC4.out) ((hs.below.cell (p:=⟨g5,PL * 5+3,none⟩) hg5r).trans HC5.out) ((hs.below.cell (p:=⟨g5,PL * 5+4,none⟩) hg5r).trans HC6.out))) rfl hs.below (fun e=>Reg.Keeps.refl e _)
  ·exact Reg.step_val rfl rfl rfl (run_alloc_pos20 (w:=w1)) ⟨w1.heap.size,rfl,hs.below.size,heap_new rfl⟩ (hs.below.alloc hs.below.size _) (fun e=>Reg.Keeps.alloc e _ _)
 ·intro vals w1 hF hfx hb1;have eX:vals 26=.agg #[.int .u8 xk,.bool ng,.int .i64 xlo,.int .i64 xhi,.slice ta xts.length tc]:=hF _ (Reg.at_fact 7 rfl) (show(9+1:Nat)<=99 by decide)
  obtain⟨g,eB,hgb,hgx⟩:∃ g,vals 9=.pointer (some ⟨g,0,none⟩)/\w2.heap.size<=g/\w1.heap[g]? = some (.cells #[.int .u8 0,.bool false,.int .i64 0,.int .i64 0,.slice none 0 0] 107 (0,0)):=hF _ (Reg.at_fact 8 rfl) (show(9+1:Nat)<=99 by decide)
  simp only[List.map_cons,List.map_nil,eX,eB]
  generalize vals 19=q19;generalize vals 20=q20;generalize vals 21=q21;generalize vals 22=q22;generalize vals 23=q23;generalize vals 24=q24;generalize vals 25=q25;have HB1:=Hyd hb1;have HGC:=Hyd hgx;have HGB:=Hyd hgb;have z0:w1.cell? ⟨g,0,none⟩=some (.int .u8 0):=(CeH hgx 0).trans rfl;have z1:w1.cell? ⟨g,1,none⟩=some (.bool false):=(CeH hgx 1).trans rfl;have z2:w1.cell? ⟨g,2,none⟩=some (.int .i64 0):=(CeH hgx 2).trans rfl;have z3:w1.cell? ⟨g,3,none⟩=some (.int .i64 0):=(CeH hgx 3).trans rfl;have z4:w1.cell? ⟨g,4,none⟩=some (.slice none 0 0):=(CeH hgx 4).trans rfl;have f0:=frozen_of_row w1 _ 0 _ _ hgx;have f1:=frozen_of_row w1 _ 1 _ _ hgx;have f2:=frozen_of_row w1 _ 2 _ _ hgx;have f3:=frozen_of_row w1 _ 3 _ _ hgx
  have f4:=frozen_of_row w1 _ 4 _ _ hgx;clear hF hfx eX eB hb1 hgb hgx;(iterate 10 unfold Reg.puts)
  go_upto_region 4 with (fail)
  obtain⟨w5,hw5⟩:∃ w5,w5=((((w1.setCell ⟨g,0,none⟩ (.int .u8 xk)).setCell ⟨g,1,none⟩ (.bool ng)).setCell ⟨g,2,none⟩ (.int .i64 xlo)).setCell ⟨g,3,none⟩ (.int .i64 xhi)).setCell ⟨g,4,none⟩ (.slice ta xts.length tc):=⟨_,rfl⟩
  have HX5:=Hyd (show w5.heap[g]? = some (.cells #[.int .u8 xk,.bool ng,.int .i64 xlo,.int .i64 xhi,.slice ta xts.length tc] 107 (0,0)) by rw[hw5];exact(blk_setc (blk_setc (blk_setc (blk_setc (blk_setc HGC.out 0 _) 1 _) 2 _) 3 _) 4 _).trans rfl)
  have hb5:Below w2.heap.size w2 w5:=by rw[hw5];exact((((HB1.out.setCell (p:=⟨g,0,none⟩) HGB.out _).setCell (p:=⟨g,1,none⟩) HGB.out _).setCell (p:=⟨g,2,none⟩) HGB.out _).setCell (p:=⟨g,3,none⟩) HGB.out _).setCell (p:=⟨g,4,none⟩) HGB.out _
  rw[<-hw5];clear hw5 z0 z1 z2 z3 z4 f0 f1 f2 f3 f4
  have HS0:=Hyd (show ToldS Bw w.heap.size g #[.bool k,.slice a0 n0 k0,.slice a1 n1 k1,.bool bl,.slice ga n gk,.slice da ds.length dk] #[.slice (some ⟨q,0,none⟩) r.counts.length cq,.slice ea r.evs.length ec,.bool r.blocked] #[.int .u8 xk,.bool ng,.int .i64 xlo,.int .i64 xhi,.slice ta xts.length tc] (.slice ga n gk) (.slice da ds.length dk) n gc ds w w5 from
   ⟨HT2.out.1.trans (BelT.of hb5 (by omega)),(hb5.block _ (heap_lt HT2.out.2.1)).trans HT2.out.2.1,(hb5.block _ (heap_lt HT2.out.2.2.1)).trans HT2.out.2.2.1,(hb5.block _ (heap_lt HT2.out.2.2.2)).trans HT2.out.2.2.2,HX5.out,own_below (own_below HO1.out HBW2.out) hb5,own_below (own_below HO2.out HBW2.out) hb5⟩)
  have hBw5:Bw<=w5.heap.size:=by have:=hb5.size;omega
  have hw5s:w.heap.size<=w5.heap.size:=by have:=hb5.size;omega
  have q0:w5.cell? ⟨w.heap.size+2,0,none⟩=some (.slice (some ⟨q,0,none⟩) r.counts.length cq):=(CeH HS0.out.rb 0).trans rfl;have qN:=HXN.out w5 HS0.out.bel;have s2:w5.cell? ⟨g,2,none⟩=some (.int .i64 xlo):=(CeH HX5.out 2).trans rfl;have s3:w5.cell? ⟨g,3,none⟩=some (.int .i64 xhi):=(CeH HX5.out 3).trans rfl;clear hb5 HX5 HT2 HC0 HC1 HC2 HC3 HC4 HC5 HC6 HBW2 HB1 HGC HGB
  go_upto_region 5 with (fail)
  rw[HE10.out]
  go_cut [10,42] (fun s10 s42 wx=>s10=.bool E/\s42=.bool D/\Below w5.heap.size w5 wx)
  case first =>
   cases hEv:E with
   | false =>
    have HV:=Hyd hEv;clear hEv;go_wp2_with fail
    go_quiet (fail)
    go_wp2_with fail;go_meet;exact⟨by rw[HV.out],by rw[HD.out,HV.out];rfl,((Mem.Grw.refl w5).drewN _).below⟩
   | true =>
    have HV:=Hyd hEv;clear hEv;go_wp2_with fail
    go_quiet (fail)
    go_wp2_with fail;go_meet;exact⟨by rw[HV.out],by rw[HD.out,HV.out];rfl,((Mem.Grw.refl w5).drewN _).below⟩
  case rest =>
   obtain⟨rfl,rfl,hbc⟩:=hcut;have HBC:=Hyd hbc;have HS1:=Hyd (HS0.out.below hbc hBw5);have hBwc:Bw<=wc.heap.size:=Nat.le_trans hBw5 hbc.size;have hwcs:w.heap.size<=wc.heap.size:=Nat.le_trans hw5s hbc.size;clear q0 qN s2 s3 hbc
   go_upto_if 42 with (fail)
   go_cut [8] (fun s8 wx=>s8=.int .i64 (L1:Nat)/\∃ da' dk',ToldS Bw w.heap.size g #[.bool k,.slice a0 n0 k0,.slice a1 n1 k1,.bool bl,.slice ga n gk,.slice da' dl.length dk'] #[.slice (some ⟨q,0,none⟩) r.counts.length cq,.slice ea r.evs.length ec,.bool r.blocked] #[.int .u8 xk,.bool ng,.int .i64 xlo,.int .i64 xhi,.slice ta xts.length tc] (.slice ga n gk) (.slice da' dl.length dk') n gc dl w wx)
   case first =>
    cases hDv:D with
    | false =>
     have HV:=Hyd hDv;clear hDv;go_wp2_with fail;go_meet;refine⟨rfl,da,dk, ?_⟩
     obtain rfl:dl=ds:=by rw[<-HDL.out,HV.out];simp
     exact HS1.out
    | true =>
     have HV:=Hyd hDv;clear hDv;have r0:wc.cell? ⟨w.heap.size+2,0,none⟩=some (.slice (some ⟨q,0,none⟩) r.counts.length cq):=(CeH HS1.out.rb 0).trans rfl;have r1:wc.cell? ⟨w.heap.size+2,1,none⟩=some (.slice ea r.evs.length ec):=(CeH HS1.out.rb 1).trans rfl;have r2:wc.cell? ⟨w.heap.size+2,2,none⟩=some (.bool r.blocked):=(CeH HS1.out.rb 2).trans rfl;have HM:=Hyd (match21 r.counts (.slice (some ⟨q,0,none⟩) r.counts.length cq) ea r.evs.length ec r.blocked wc (Sl.of_own (HS1.out.bel.ki.1 _ _ _ _ _ HDO.out.1)) hcl (by have:=HWF.out.sum;omega));go_wp2_with fail;refine HM.out.mono ?_;rintro e w6 ⟨va,vs,rfl,hom,hb6⟩;obtain⟨aa,ac,rfl⟩:=(Sl.of_own (show w6.ownsRow wc.heap.size 3 1 va (mR r).length (atsV (mR r)) from hom.1)).shape;obtain⟨sa,sc,rfl⟩:=(Sl.of_own (show w6.ownsRow wc.heap.size 3 1 vs (mR r).length (stsV (mR r)) from hom.2)).shape
     obtain⟨w7,hw7⟩:∃ w7,w7=w6.alloc (.cells #[.slice aa (mR r).length ac,.slice sa (mR r).length sc] 84):=⟨_,rfl⟩
     have hb7:Below wc.heap.size wc w7:=by rw[hw7];exact hb6.alloc hb6.size _
     have XM:=Hyd (show w7.heap[w6.heap.size]? = some (.cells #[.slice aa (mR r).length ac,.slice sa (mR r).length sc] 84 (0,0)) by rw[hw7];exact heap_new rfl);have HS7:=Hyd (HS1.out.below hb7 hBwc);have HTX:=Hyd (text21 (.slice ea r.evs.length ec) (.agg #[.slice aa (mR r).length ac,.slice sa (mR r).length sc]) r.evs (mR r) w7.heap.size w7 (Sl.of_own (HS7.out.bel.ke.1 _ _ _ _ _ HDO.out.2)) ((hom.below (show Below w6.heap.size w6 w7 by rw[hw7];exact(Below.refl _ _).alloc (Nat.le_refl _) _)).mt) (Nat.le_refl _) HOK.out.few HOK.out.at_ HF.out);have HW7:=Hyd hw7;have m0:w7.cell? ⟨w6.heap.size,0,none⟩=some (.slice aa (mR r).length ac):=(CeH XM.out 0).trans rfl;have m1:w7.cell? ⟨w6.heap.size,1,none⟩=some (.slice sa (mR r).length sc):=(CeH XM.out 1).trans rfl;have r17:w7.cell? ⟨w.heap.size+2,1,none⟩=some (.slice ea r.evs.length ec):=(CeH HS7.out.rb 1).trans rfl
     have hBw7:Bw<=w7.heap.size:=Nat.le_trans hBwc hb7.size;have HB7:=Hyd hb7;clear hom hb6 hw7 hb7 r0 r1 r2
     go_upto_region 7 with (fail)
     rw[<-HW7.out];go_wp2_with fail;refine HTX.out.mono ?_;rintro e w8 ⟨rfl,hg8⟩;rw[HT.out]
     obtain⟨T,hT⟩:∃ T,textR r=T:=⟨_,rfl⟩
     rw[hT];have HS8:=Hyd (HS7.out.below hg8.below hBw7);have hBw8:Bw<=w8.heap.size:=Nat.le_trans hBw7 hg8.below.size;have xb3:w8.cell? ⟨w.heap.size+1,5,none⟩=some (.slice da ds.length dk):=(CeH HS8.out.xb 5).trans rfl;obtain⟨i0,hi,hz0,hz1,hz2⟩:=info_parts infoStr;have HNA:=Hyd (Reg.own_new (w:=w8) (b:=0) (e:=9) (sz:=1) (n:=1) (cs:=#[.string ⟨T.toArray⟩]) rfl (Nat.zero_le _) rfl (by decide));have HNB:=Hyd (show Below w8.heap.size w8 (w8.alloc (.cells #[.string ⟨T.toArray⟩] 9)) from(Below.refl _ _).alloc (Nat.le_refl _) _);have HRO:=Hyd (own_below HS8.out.o2 HNB.out);have HB8:=Hyd (HB7.out.trans (hg8.below.mono HB7.out.size));clear hg8 m0 m1 r17
     go_wp2_with (at_builtin;refine Reg.wpList_append_src _ rfl (.tmp 50) (.tmp 52) 37 rfl Bw 0 9 i0 _ 1 16 Tryz.underlying37 hi hz0 hz1 hz2 rfl (by decide) _ _ ds.length 1 _ _ rfl HRO.out rfl HNA.out ?d1 ?d2 ?d3 ?d4 ?_)
     case d1=>first | rfl | (intro u hu;simp only[List.mem_cons,List.not_mem_nil,or_false]at hu;subst hu;rfl)
     case d2=>unfold maxLen;omega
     case d3=>omega
     case d4=>first | omega | (simp;omega)
     intro va' w9 ho9 hg9 hv9;obtain⟨A1,c1,rfl⟩:=(Sl.of_own ho9).shape;have hbt9:=BelT.grown (Bw:=Bw) HRO.out hg9 (by decide) (by decide) (Nat.le_refl _) (by simp;omega);have hxb9:=(Reg.Keeps.grown (show 56≠9 by decide) HRO.out hg9).2 _ _ (heap_alloc HS8.out.xb);have hzb9:=(Reg.Keeps.grown (show 56≠9 by decide) HRO.out hg9).2 _ _ (heap_alloc HS8.out.zb);have hrb9:=(Reg.Keeps.grown (show 53≠9 by decide) HRO.out hg9).2 _ _ (heap_alloc HS8.out.rb);have hsb9:=(Reg.Keeps.grown (show 107≠9 by decide) HRO.out hg9).2 _ _ (heap_alloc HS8.out.sb);have ho19:=(Reg.Keeps.grown (show 53≠9 by decide) HRO.out hg9).1 _ _ _ _ _ (own_below HS8.out.o1 HNB.out);have x5c:w9.cell? ⟨w.heap.size+1,5,none⟩=some (.slice da ds.length dk):=(CeH hxb9 5).trans rfl
     have x5f:=frozen_of_row w9 _ 5 _ _ hxb9;have hset:=BelT.set (Bw:=Bw) (i:=5) (u:=.slice A1 (ds.length+1) c1) hxb9 (by decide) (by decide) (by omega)
     have HNS:=Hyd (show ToldS Bw w.heap.size g #[.bool k,.slice a0 n0 k0,.slice a1 n1 k1,.bool bl,.slice ga n gk,.slice A1 (ds.length+1) c1] #[.slice (some ⟨q,0,none⟩) r.counts.length cq,.slice ea r.evs.length ec,.bool r.blocked] #[.int .u8 xk,.bool ng,.int .i64 xlo,.int .i64 xhi,.slice ta xts.length tc] (.slice ga n gk) (.slice A1 (ds.length+1) c1) n gc (ds++[T]) w (w9.setCell ⟨w.heap.size+1,5,none⟩ (.slice A1 (ds.length+1) c1)) from
      ⟨(HS8.out.bel.trans (BelT.of HNB.out hBw8)).trans (hbt9.trans hset),(blk_setc hxb9 5 _).trans rfl,(heap_setCell_other w9 ⟨w.heap.size+1,5,none⟩ (w.heap.size+2) _ (by show w.heap.size+2≠w.heap.size+1;omega)).trans hrb9,(heap_setCell_other w9 ⟨w.heap.size+1,5,none⟩ (w.heap.size+3) _ (by show w.heap.size+3≠w.heap.size+1;omega)).trans hzb9,
       by
        rw[heap_setCell_other w9 ⟨w.heap.size+1,5,none⟩ g _ (by
         show g≠w.heap.size+1
         intro e;rw[e]at hsb9;rw[hxb9]at hsb9
         injection hsb9 with h
         injection h with _ h
         exact absurd h (by decide))]
        exact hsb9,
       own_set ho19 hxb9 (by decide) 5 _,by rw[List.length_append,List.length_singleton,List.map_append];exact own_set ho9 hxb9 (by decide) 5 _⟩)
     clear ho9 hg9 hv9 hbt9 hxb9 hzb9 hrb9 hsb9 ho19 hset HRO HNA HNB hi hz0 hz1 hz2;go_wp2_with fail;go_meet;refine⟨rfl,A1,c1, ?_⟩
     obtain rfl:dl=ds++[T]:=by rw[<-HDL.out,HV.out,hT];simp
     rw[List.length_append,List.length_singleton];exact HNS.out
   case rest =>
    obtain⟨rfl,da',dk',hs2⟩:=hcut;have HS2:=Hyd hs2;have hBwc2:Bw<=wc.heap.size:=Nat.le_trans hBw hs2.bel.size;have q0:wc.cell? ⟨w.heap.size+2,0,none⟩=some (.slice (some ⟨q,0,none⟩) r.counts.length cq):=(CeH hs2.rb 0).trans rfl;have qN:=HXN.out wc hs2.bel;have s3:wc.cell? ⟨g,3,none⟩=some (.int .i64 xhi):=(CeH hs2.sb 3).trans rfl
    obtain⟨we,rfl⟩:∃ w':World,w'=wc:=⟨_,rfl⟩
    clear hs2 HS0 HS1 HBC hBw5 hw5s hBwc hwcs
    go_upto_region 9 with (fail)
    go_cut [10,66] (fun s10 s66 wx=>s10=.bool E/\s66=.bool G/\Below we.heap.size we wx)
    case first =>
     cases hEv:E with
     | false =>
      have HV:=Hyd hEv;clear hEv;go_wp2_with fail
      go_quiet (fail)
      go_wp2_with fail;go_meet;exact⟨by rw[HV.out],by rw[HGd.out,HV.out];rfl,((Mem.Grw.refl we).drewN _).below⟩
     | true =>
      have HV:=Hyd hEv;clear hEv;go_wp2_with fail
      go_quiet (fail)
      go_wp2_with fail;go_meet;exact⟨by rw[HV.out],by rw[HGd.out,HV.out];rfl,((Mem.Grw.refl we).drewN _).below⟩
    case rest =>
     obtain⟨rfl,rfl,hbc⟩:=hcut;have HS3:=Hyd (HS2.out.below hbc hBwc2);have hBwc3:Bw<=wc.heap.size:=Nat.le_trans hBwc2 hbc.size;clear q0 qN s3 hbc HS2
     go_upto_if 66 with (fail)
     go_cut [8] (fun s8 wx=>s8=.int .i64 (L1:Nat)/\∃ ga' gk',ToldS Bw w.heap.size g #[.bool k,.slice a0 n0 k0,.slice a1 n1 k1,.bool bl,.slice ga' nl gk',.slice da' dl.length dk'] #[.slice (some ⟨q,0,none⟩) r.counts.length cq,.slice ea r.evs.length ec,.bool r.blocked] #[.int .u8 xk,.bool ng,.int .i64 xlo,.int .i64 xhi,.slice ta xts.length tc] (.slice ga' nl gk') (.slice da' dl.length dk') nl gl dl w wx)
     case first =>
      cases hGv:G with
      | false =>
       have HV:=Hyd hGv;clear hGv;go_wp2_with fail;go_meet;refine⟨rfl,ga,gk, ?_⟩
       obtain rfl:nl=n:=by rw[<-HNL.out,HV.out];simp
       obtain rfl:gl=gc:=by rw[<-HGL.out,HV.out];simp
       exact HS3.out
      | true =>
       have HV:=Hyd hGv;clear hGv;have r0:wc.cell? ⟨w.heap.size+2,0,none⟩=some (.slice (some ⟨q,0,none⟩) r.counts.length cq):=(CeH HS3.out.rb 0).trans rfl;have r1:wc.cell? ⟨w.heap.size+2,1,none⟩=some (.slice ea r.evs.length ec):=(CeH HS3.out.rb 1).trans rfl;have r2:wc.cell? ⟨w.heap.size+2,2,none⟩=some (.bool r.blocked):=(CeH HS3.out.rb 2).trans rfl;have xb3:wc.cell? ⟨w.heap.size+1,4,none⟩=some (.slice ga n gk):=(CeH HS3.out.xb 4).trans rfl;obtain⟨i0,hi,hz0,hz1,hz2⟩:=info_parts infoDRun;have HNA:=Hyd (Reg.own_new (w:=wc) (b:=0) (e:=53) (sz:=3) (n:=1) (cs:=#[.slice (some ⟨q,0,none⟩) r.counts.length cq,.slice ea r.evs.length ec,.bool r.blocked]) rfl (Nat.zero_le _) rfl (by decide));have HNB:=Hyd (show Below wc.heap.size wc (wc.alloc (.cells #[.slice (some ⟨q,0,none⟩) r.counts.length cq,.slice ea r.evs.length ec,.bool r.blocked] 53)) from(Below.refl _ _).alloc (Nat.le_refl _) _)
       have HRO:=Hyd (own_below HS3.out.o1 HNB.out)
       go_wp2_with (at_builtin;refine Reg.wpList_append_src _ rfl (.tmp 68) (.tmp 70) 54 rfl Bw 0 53 i0 _ 3 56 Tryz.underlying54 hi hz0 hz1 hz2 rfl (by decide) _ _ n 1 _ _ rfl HRO.out rfl HNA.out ?d5 ?d6 ?d7 ?d8 ?_)
       case d5=>first | exact⟨rfl,rfl,rfl⟩ | (intro u hu;simp only[List.mem_cons,List.not_mem_nil,or_false]at hu;rcases hu with rfl|rfl|rfl<;>rfl)
       case d6=>unfold maxLen;omega
       case d7=>omega
       case d8=>first | omega | (simp;omega)
       intro va' w9 ho9 hg9 hv9;obtain⟨A1,c1,rfl⟩:=(Sl.of_own ho9).shape;have hbt9:=BelT.grown (Bw:=Bw) HRO.out hg9 (by decide) (by decide) (Nat.le_refl _) (by simp;omega);have hxb9:=(Reg.Keeps.grown (show 56≠53 by decide) HRO.out hg9).2 _ _ (heap_alloc HS3.out.xb);have hzb9:=(Reg.Keeps.grown (show 56≠53 by decide) HRO.out hg9).2 _ _ (heap_alloc HS3.out.zb);have hsb9:=(Reg.Keeps.grown (show 107≠53 by decide) HRO.out hg9).2 _ _ (heap_alloc HS3.out.sb);have ho29:=(Reg.Keeps.grown (show 9≠53 by decide) HRO.out hg9).1 _ _ _ _ _ (own_below HS3.out.o2 HNB.out);have hrb9:=(hg9.block (w.heap.size+2) (heap_lt (heap_alloc HS3.out.rb)) (fun e=>by have:=(own_lt HO1.out _ e.symm).2;omega)).trans (heap_alloc HS3.out.rb)
       have x5c:w9.cell? ⟨w.heap.size+1,4,none⟩=some (.slice ga n gk):=(CeH hxb9 4).trans rfl;have x5f:=frozen_of_row w9 _ 4 _ _ hxb9;have hset:=BelT.set (Bw:=Bw) (i:=4) (u:=.slice A1 (n+1) c1) hxb9 (by decide) (by decide) (by omega)
       have HNS:=Hyd (show ToldS Bw w.heap.size g #[.bool k,.slice a0 n0 k0,.slice a1 n1 k1,.bool bl,.slice A1 (n+1) c1,.slice da' dl.length dk'] #[.slice (some ⟨q,0,none⟩) r.counts.length cq,.slice ea r.evs.length ec,.bool r.blocked] #[.int .u8 xk,.bool ng,.int .i64 xlo,.int .i64 xhi,.slice ta xts.length tc] (.slice A1 (n+1) c1) (.slice da' dl.length dk') (n+1) (gc++[.slice (some ⟨q,0,none⟩) r.counts.length cq,.slice ea r.evs.length ec,.bool r.blocked]) dl w (w9.setCell ⟨w.heap.size+1,4,none⟩ (.slice A1 (n+1) c1)) from
        ⟨(HS3.out.bel.trans (BelT.of HNB.out hBwc3)).trans (hbt9.trans hset),(blk_setc hxb9 4 _).trans rfl,(heap_setCell_other w9 ⟨w.heap.size+1,4,none⟩ (w.heap.size+2) _ (by show w.heap.size+2≠w.heap.size+1;omega)).trans hrb9,(heap_setCell_other w9 ⟨w.heap.size+1,4,none⟩ (w.heap.size+3) _ (by show w.heap.size+3≠w.heap.size+1;omega)).trans hzb9,
         by
          rw[heap_setCell_other w9 ⟨w.heap.size+1,4,none⟩ g _ (by
           show g≠w.heap.size+1
           intro e;rw[e]at hsb9;rw[hxb9]at hsb9
           injection hsb9 with h
           injection h with _ h
           exact absurd h (by decide))]
          exact hsb9,
         own_set ho9 hxb9 (by decide) 4 _,own_set ho29 hxb9 (by decide) 4 _⟩)
       clear ho9 hg9 hv9 hbt9 hxb9 hzb9 hrb9 hsb9 ho29 hset HRO HNA HNB hi hz0 hz1 hz2;go_wp2_with fail;go_meet;refine⟨rfl,A1,c1, ?_⟩
       obtain rfl:nl=n+1:=by rw[<-HNL.out,HV.out];simp
       obtain rfl:gl=gc++[.slice (some ⟨q,0,none⟩) r.counts.length cq,.slice ea r.evs.length ec,.bool r.blocked]:=by rw[<-HGL.out,HV.out];simp
       exact HNS.out
     case rest =>
      clear HS3;obtain⟨rfl,ga',gk',hs4⟩:=hcut;have HS4:=Hyd hs4;have y0:wc.cell? ⟨w.heap.size+1,0,none⟩=some (.bool k):=(CeH hs4.xb 0).trans rfl;have y1:wc.cell? ⟨w.heap.size+1,1,none⟩=some (.slice a0 n0 k0):=(CeH hs4.xb 1).trans rfl;have y2:wc.cell? ⟨w.heap.size+1,2,none⟩=some (.slice a1 n1 k1):=(CeH hs4.xb 2).trans rfl;have y3:wc.cell? ⟨w.heap.size+1,3,none⟩=some (.bool bl):=(CeH hs4.xb 3).trans rfl;have y4:wc.cell? ⟨w.heap.size+1,4,none⟩=some (.slice ga' nl gk'):=(CeH hs4.xb 4).trans rfl;have y5:wc.cell? ⟨w.heap.size+1,5,none⟩=some (.slice da' dl.length dk'):=(CeH hs4.xb 5).trans rfl;have z0:wc.cell? ⟨w.heap.size+3,0,none⟩=some (.bool false):=(CeH hs4.zb 0).trans rfl;have z1:wc.cell? ⟨w.heap.size+3,1,none⟩=some (.slice none 0 0):=(CeH hs4.zb 1).trans rfl
      have z2:wc.cell? ⟨w.heap.size+3,2,none⟩=some (.slice none 0 0):=(CeH hs4.zb 2).trans rfl;have z3:wc.cell? ⟨w.heap.size+3,3,none⟩=some (.bool false):=(CeH hs4.zb 3).trans rfl;have z4:wc.cell? ⟨w.heap.size+3,4,none⟩=some (.slice none 0 0):=(CeH hs4.zb 4).trans rfl;have z5:wc.cell? ⟨w.heap.size+3,5,none⟩=some (.slice none 0 0):=(CeH hs4.zb 5).trans rfl;have f0:=frozen_of_row wc _ 0 _ _ hs4.zb;have f1:=frozen_of_row wc _ 1 _ _ hs4.zb;have f2:=frozen_of_row wc _ 2 _ _ hs4.zb;have f3:=frozen_of_row wc _ 3 _ _ hs4.zb;have f4:=frozen_of_row wc _ 4 _ _ hs4.zb;have f5:=frozen_of_row wc _ 5 _ _ hs4.zb;have s0:=(blk_setc hs4.zb 0 (.bool k)).trans rfl;have s1:=(blk_setc s0 1 (.slice a0 n0 k0)).trans rfl;have s2:=(blk_setc s1 2 (.slice a1 n1 k1)).trans rfl;have s3:=(blk_setc s2 3 (.bool bl)).trans rfl
      have s4:=(blk_setc s3 4 (.slice ga' nl gk')).trans rfl;have s5:=(blk_setc s4 5 (.slice da' dl.length dk')).trans rfl;have HS5:=Hyd s5;have hB3:Bw<=w.heap.size+3:=(by omega);have HBT:=Hyd (hs4.bel.trans ((((((BelT.set (Bw:=Bw) (i:=0) (u:=.bool k) hs4.zb (by decide) (by decide) hB3).trans (BelT.set (i:=1) (u:=.slice a0 n0 k0) s0 (by decide) (by decide) hB3)).trans (BelT.set (i:=2) (u:=.slice a1 n1 k1) s1 (by decide) (by decide) hB3)).trans (BelT.set (i:=3) (u:=.bool bl) s2 (by decide) (by decide) hB3)).trans (BelT.set (i:=4) (u:=.slice ga' nl gk') s3 (by decide) (by decide) hB3)).trans (BelT.set (i:=5) (u:=.slice da' dl.length dk') s4 (by decide) (by decide) hB3)));have HF1:=Hyd (own_set (own_set (own_set (own_set (own_set (own_set hs4.o1 hs4.zb (by decide) 0 (.bool k)) s0 (by decide) 1 (.slice a0 n0 k0)) s1 (by decide) 2 (.slice a1 n1 k1)) s2 (by decide) 3 (.bool bl)) s3 (by decide) 4 (.slice ga' nl gk')) s4 (by decide) 5 (.slice da' dl.length dk'))
      have HF2:=Hyd (own_set (own_set (own_set (own_set (own_set (own_set hs4.o2 hs4.zb (by decide) 0 (.bool k)) s0 (by decide) 1 (.slice a0 n0 k0)) s1 (by decide) 2 (.slice a1 n1 k1)) s2 (by decide) 3 (.bool bl)) s3 (by decide) 4 (.slice ga' nl gk')) s4 (by decide) 5 (.slice da' dl.length dk'));clear hs4 s0 s1 s2 s3 s4 s5;go_wp2_with fail;refine bodyPost_ret (res_d21 rfl ((CeH HS5.out 0).trans rfl) ((CeH HS5.out 1).trans rfl) ((CeH HS5.out 2).trans rfl) ((CeH HS5.out 3).trans rfl) ((CeH HS5.out 4).trans rfl) ((CeH HS5.out 5).trans rfl)) rfl ?_;exact⟨_,_,rfl,HF1.out,HF2.out,HBT.out⟩
end Go.Proofs.YtcojnojdgigmdaaGreatDoor.WR
