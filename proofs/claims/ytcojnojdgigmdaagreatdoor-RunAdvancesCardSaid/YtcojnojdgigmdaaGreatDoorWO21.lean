/- The walk of oxbowref21.more: the run with an event more. -/
import Derived.Test.YtcojnojdgigmdaaGreatDoorB01
import Derived.Test.YtcojnojdgigmdaaGreatDoorPMr
import Derived.IntWalk
set_option maxHeartbeats 3200000
set_option maxRecDepth 100000
namespace Go.Proofs.YtcojnojdgigmdaaGreatDoor.WR
open Go Go.RowKit Go.Sort PL PR Mem
def DOwnR (base:Nat) (w:World) (g:Value×Value×RRun):Prop:=w.ownsRow base 3 1 g.1 g.2.2.counts.length (cntV g.2.2.counts)/\w.ownsRow base 59 4 g.2.1 g.2.2.evs.length (cellsOf encE g.2.2.evs)
theorem DOwnR.keeps {base:Nat} {w w':World} {g:Value×Value×RRun} (h:DOwnR base w g) (h1:Reg.Keeps 3 w w') (h2:Reg.Keeps 59 w w'):DOwnR base w' g:=⟨h1.1 _ _ _ _ _ h.1,h2.1 _ _ _ _ _ h.2⟩
theorem DOwnR.below {base:Nat} {w w':World} {g:Value×Value×RRun} (h:DOwnR base w g) (hb:Below w.heap.size w w'):DOwnR base w' g:=⟨own_below h.1 hb,own_below h.2 hb⟩
theorem DOwnR.le {base base':Nat} {w:World} {g:Value×Value×RRun} (h:DOwnR base w g) (hb:base'<=base):DOwnR base' w g:=⟨Joins.ownsRow_le h.1 hb,Joins.ownsRow_le h.2 hb⟩
theorem DOwnR.runAt {base:Nat} {w:World} {g:Value×Value×RRun} (h:DOwnR base w g):RunAt w w.heap.size (.agg #[g.1,g.2.1,.bool g.2.2.blocked]) g.2.2:=⟨_,_,rfl,Sl.of_own h.1,Sl.of_own h.2⟩
theorem load_dns {w:World} {g j:Nat} {u:Value} (h:w.cell? ⟨g,j,none⟩=some u):(Instr.loadAt 45 (.pointer (some ⟨g,j,none⟩))).run Tryz.prog w=.ok u w:=by go_simp
theorem load_des {w:World} {g j:Nat} {u:Value} (h:w.cell? ⟨g,j,none⟩=some u):(Instr.loadAt 33 (.pointer (some ⟨g,j,none⟩))).run Tryz.prog w=.ok u w:=by go_simp
theorem load_de {w:World} {g j:Nat} {x:Ev} (e0:w.cell? ⟨g,j,none⟩=some (.int .i64 x.id)) (e1:w.cell? ⟨g,j+1,none⟩=some (.int .i64 x.time)) (e2:w.cell? ⟨g,j+2,none⟩=some (.int .u8 x.kind)) (e3:w.cell? ⟨g,j+3,none⟩=some (.int .i64 x.val)) :
  (Instr.loadAt 59 (.pointer (some ⟨g,j,none⟩))).run Tryz.prog w=.ok (evV x) w:=by
 go_simp
theorem build_de (w:World) (x:Ev):(Instr.buildSlice 33 1 #[(0,evV x)]).run Tryz.prog w=.ok (.slice (some ⟨w.heap.size,0,none⟩) 1 1) (w.alloc (.cells (encE x).toArray 59)):=by
 unfold encE
 go_simp
theorem infoDe:(Tryz.prog.info? 59).map (fun i=>(i.zero,i.size,i.bytes))=some (some (.agg #[.int .i64 0,.int .i64 0,.int .u8 0,.int .i64 0]),4,32):=by kernel_rfl
section
variable {a : Act} {w : World} {d : Option Tmp} {ty : TypeId} {pos : String} {af : Array Edge} {gd : Option (Nat × Bool)}
theorem ix_de {x y:Operand} {g o n c k:Nat} (h1:a.eval x=.slice (some ⟨g,o,none⟩) n c) (h2:a.eval y=.int .i64 k) (hl:k<n) :
  (execOp a.eval { dst:=d,op:=.indexAddr 33 x y,type:=ty,pos:=pos,after:=af,guard:=gd }).run Tryz.prog w=.ok (.value (.pointer (some ⟨g,o+k * 4,none⟩))) w:=by
 have h3:(k:Int)<(n:Int):=by omega
 have h4:(0:Int)<=(k:Int):=by omega
 simp only[execOp,h1,h2]
 go_simp
end
structure MorS (wa wr:World) (R O:Nat) (cv ev:Value) (c:List Nat) (l:List Ev):Prop where
 bel:Below wa.heap.size wa wr
 br:wr.heap[R]? = some (.cells #[.slice none 0 0,.slice none 0 0,.bool false] 53 (0,0))
 bo:wr.heap[O]? = some (.cells #[cv,ev,.bool false] 53 (0,0))
 rc:wr.ownsRow wa.heap.size 3 1 cv c.length (cntV c)
 re:wr.ownsRow wa.heap.size 59 4 ev l.length (cellsOf encE l)
section
variable {wa wr w' : World} {R O : Nat} {cv ev v' : Value} {c : List Nat} {l : List Ev}
theorem MorS.put0 {c':List Nat} (h1:Below wa.heap.size wa w') (br:w'.heap[R]? = some (.cells #[.slice none 0 0,.slice none 0 0,.bool false] 53 (0,0)))
  (bo:w'.heap[O]? = some (.cells #[cv,ev,.bool false] 53 (0,0))) (rc:w'.ownsRow wa.heap.size 3 1 v' c'.length (cntV c')) (re:w'.ownsRow wa.heap.size 59 4 ev l.length (cellsOf encE l)) (hO:wa.heap.size<=O) (hR:R≠O) :
  MorS wa (w'.setCell ⟨O,0,none⟩ v') R O v' ev c' l :=
 ⟨h1.setCell (p:=⟨O,0,none⟩) hO _,by rw[heap_setCell_other _ _ _ _ hR];exact br,(blk_setc bo 0 _).trans rfl,own_set rc bo (by decide) 0 _,own_set re bo (by decide) 0 _⟩
theorem MorS.put1 {l':List Ev} (h1:Below wa.heap.size wa w') (br:w'.heap[R]? = some (.cells #[.slice none 0 0,.slice none 0 0,.bool false] 53 (0,0)))
  (bo:w'.heap[O]? = some (.cells #[cv,ev,.bool false] 53 (0,0))) (rc:w'.ownsRow wa.heap.size 3 1 cv c.length (cntV c)) (re:w'.ownsRow wa.heap.size 59 4 v' l'.length (cellsOf encE l')) (hO:wa.heap.size<=O) (hR:R≠O) :
  MorS wa (w'.setCell ⟨O,1,none⟩ v') R O cv v' c l' :=
 ⟨h1.setCell (p:=⟨O,1,none⟩) hO _,by rw[heap_setCell_other _ _ _ _ hR];exact br,(blk_setc bo 1 _).trans rfl,own_set rc bo (by decide) 1 _,own_set re bo (by decide) 1 _⟩
end
theorem res_o21 {w:World} {R:Nat} {c0 c1 c2:Value} {tmps:Array Value} (h6:tmps[6]? = some (.pointer (some ⟨R,0,none⟩))) (e0:w.cell? ⟨R,0,none⟩=some c0) (e1:w.cell? ⟨R,1,none⟩=some c1) (e2:w.cell? ⟨R,2,none⟩=some c2) :
  (results Tryz.f46 tmps).run Tryz.prog w=.ok (.agg #[c0,c1,c2]) w:=by
 simp[results,Tryz.results46,go_sem,h6,e0,e1,e2]
theorem more21 (cv ev:Value) (r:RRun) (step:Nat) (e:Ev) (w:World) (hr:RunAt w w.heap.size (.agg #[cv,ev,.bool r.blocked]) r) (hw:WfR r) (hst:step<=r.counts.length) :
  Calls Tryz.prog 46 #[.agg #[cv,ev,.bool r.blocked],.int .i64 step,evV e] w fun en w'=>∃ cv' ev',en=.returned (.agg #[cv',ev',.bool false])/\DOwnR w.heap.size w' (cv',ev',withR r step e)/\Below w.heap.size w w':=by
 have mixed:Tryz.prog.follows .mixedOrders=true:=by kernel_rfl
 obtain⟨cv',ev',e0,hc,he⟩:=hr
 obtain⟨rfl,rfl⟩:cv=cv'/\ev=ev':=by simpa using e0
 obtain⟨ca,cc,rfl⟩:=Sl.shape hc;obtain⟨ea,ec,rfl⟩:=Sl.shape he;obtain⟨cs,evs,bl⟩:=r
 simp only at hc he hw hst ⊢
 have HC:=Hyd hc;have HE:=Hyd he;have HW:=Hyd hw;have hcl:cs.length<=1000000:=hw.steps;have hel:evs.length<=1000000:=hw.few
 obtain⟨wa,hwa⟩:∃ wa,wa=(w.alloc (.cells #[.slice ca cs.length cc,.slice ea evs.length ec,.bool bl] 53)).alloc (.cells #[.int .i64 e.id,.int .i64 e.time,.int .u8 e.kind,.int .i64 e.val] 59):=⟨_,rfl⟩
 have hza:wa.heap.size=w.heap.size+2:=by rw[hwa];simp
 have HBA:=Hyd (show Below w.heap.size w wa by rw[hwa];exact((Below.refl _ _).alloc (Nat.le_refl _) _).alloc (by simp) _);have XR:=Hyd (show wa.heap[w.heap.size]? = some (.cells #[.slice ca cs.length cc,.slice ea evs.length ec,.bool bl] 53 (0,0)) by rw[hwa];exact heap_alloc (heap_new rfl));have XE:=Hyd (show wa.heap[w.heap.size+1]? = some (.cells #[.int .i64 e.id,.int .i64 e.time,.int .u8 e.kind,.int .i64 e.val] 59 (0,0)) by rw[hwa];exact heap_new (by simp))
 obtain⟨w0,hw0⟩:∃ w0,w0=(wa.alloc (.cells #[.slice none 0 0,.slice none 0 0,.bool false] 53)).alloc (.cells #[.slice none 0 0,.slice none 0 0,.bool false] 53):=⟨_,rfl⟩
 obtain⟨R,hR⟩:∃ R,w.heap.size+1+1=R:=⟨_,rfl⟩
 obtain⟨O,hO⟩:∃ O,R+1=O:=⟨_,rfl⟩
 have HST:=Hyd (show MorS wa w0 R O (.slice none 0 0) (.slice none 0 0) [] [] by
  rw[hw0]
  exact⟨((Below.refl _ _).alloc (Nat.le_refl _) _).alloc (by simp) _,heap_alloc (heap_new (by omega)),heap_new (by simp;omega),World.ownsRow_nil _ _ _ _,World.ownsRow_nil _ _ _ _⟩)
 have HW0:=Hyd hw0;have HWA:=Hyd hwa
 have hWR:wa.heap.size<=R:=by omega
 have hWO:wa.heap.size<=O:=by omega
 have HRO:=Hyd (show R≠O by omega);have HRW:=Hyd hR;have HOW:=Hyd hO;have HZA:=Hyd hza
 have hzr:w.heap.size<wa.heap.size:=by omega
 have hze:w.heap.size+1<wa.heap.size:=by omega
 clear hc he hw hwa hw0 hR hO hza
 go_enter Tryz.func46,Tryz.ntmps46
 go_upto_region 2 with (fail)
 rw[HRW.out,HOW.out,<-HWA.out,<-HW0.out];go_wp2_with fail
 go_loopw [8] (fun u wr=>∃ k cv,k<=cs.length/\u=.int .i64 (k:Nat)/\MorS wa wr R O cv (.slice none 0 0) (cs.take k) []) (fun u _=>cs.length-(intOf u).toNat)
 case atStart=>exact⟨0,_,Nat.zero_le _,rfl,HST.out⟩
 case round =>
  obtain⟨k,cv,hk,rfl,hst0⟩:=hrel;have HS:=Hyd hst0;have y0:wr.cell? ⟨w.heap.size,0,none⟩=some (.slice ca cs.length cc):=(CeH ((hst0.bel.block _ hzr).trans XR.out) 0).trans rfl;have hsz:=hst0.bel.size;clear hst0
  by_cases hlt:k<cs.length
  ·have hki:(k:Int)<(cs.length:Int):=by omega
   have hk0:(0:Int)<=(k:Int):=by omega
   obtain⟨b2,o2,c2,hv2,hb2,x1⟩:=cnt_cell HC.out hlt
   obtain⟨rfl,rfl⟩:ca=some ⟨b2,o2,none⟩/\cc=c2:=by simpa using hv2
   have x2:=(HBA.out.cell (p:=⟨b2,o2+k,none⟩) hb2).trans x1
   have hb3:b2<wa.heap.size:=by omega
   have HTA:=Hyd (show cs.take (k+1)=cs.take k++[cs[k]] from List.take_succ_eq_append_getElem hlt)
   have hla:(cs.take k).length<=1000000:=by rw[List.length_take];omega
   obtain⟨p,hp⟩:∃ p,cs[k]=p:=⟨_,rfl⟩
   rw[hp]at x2 HTA
   obtain⟨xs,hxs⟩:∃ xs,cs.take k=xs:=⟨_,rfl⟩
   rw[hxs]at HS HTA hla;have HX1:=Hyd x2;clear hv2 hp hxs x1 x2
   go_upto_region 5 with (fail)
   clear y0;obtain⟨i0,hi,hz0,hz1,hz2⟩:=info_parts infoInt
   refine Reg.stand_order (W:=wa) (h:=10) (t:=1)
    [⟨0,18,[],99,[],none,fun v _=>v=.pointer (some ⟨O,0,none⟩)⟩,
     ⟨1,19,[],99,[],none,fun v _=>v=cv⟩,
     ⟨2,20,[],99,[],none,fun v _=>v=.pointer (some ⟨w.heap.size,0,none⟩)⟩,
     ⟨3,21,[],99,[],none,fun v _=>v=.slice (some ⟨b2,o2,none⟩) cs.length cc⟩,
     ⟨4,22,[],99,[],none,fun v _=>v=.int .i64 (k:Int)⟩,
     ⟨5,23,[],99,[],none,fun v _=>v=.pointer (some ⟨b2,o2+k,none⟩)⟩,
     ⟨6,24,[],99,[],none,fun v _=>v=.int .i64 (p:Nat)⟩,
     ⟨7,25,[3],8,[],none,fun v w'=>∃ g,v=.slice (some ⟨g,0,none⟩) 1 1/\w'.heap[g]? = some (.cells #[.int .i64 (p:Nat)] 3 (0,0))⟩,
     ⟨8,26,[3],99,[],some 3,fun v w'=>w'.ownsRow wa.heap.size 3 1 v (xs.length+1) (cntV xs++[.int .i64 (p:Nat)])⟩,
     ⟨9,27,[],99,[],none,fun v _=>v=.pointer (some ⟨O,0,none⟩)⟩]
    [⟨[53],99,fun w'=>w'.heap[O]? = some (.cells #[cv,.slice none 0 0,.bool false] 53 (0,0))⟩,
     ⟨[53],99,fun w'=>w'.heap[R]? = some (.cells #[.slice none 0 0,.slice none 0 0,.bool false] 53 (0,0))⟩,
     ⟨[3],8,fun w'=>w'.ownsRow wa.heap.size 3 1 cv xs.length (cntV xs)⟩,
     ⟨[59],99,fun w'=>w'.ownsRow wa.heap.size 59 4 (.slice none 0 0) ([]:List Ev).length (cellsOf encE [])⟩]
    (by kernel_rfl) rfl (by kernel_rfl) (by kernel_rfl) (by kernel_rfl) (show [0,1,2,3,4,5,6,7,8,9].Nodup by decide) (show ∀ i,i<10->i∈[0,1,2,3,4,5,6,7,8,9] by decide) ?_ (show [18,19,20,21,22,23,24,25,26,27].Nodup by decide) (show ∀ s∈[18,19,20,21,22,23,24,25,26,27],s<72 by decide) (by kernel_rfl) ?_ ?_ HS.out.bel ?_ ?_ ?_
   ·intro f hf
    simp only[List.mem_cons,List.not_mem_nil,or_false]at hf
    rcases hf with rfl|rfl|rfl|rfl|rfl|rfl|rfl|rfl|rfl|rfl<;>simp
   ·intro f hf v w1 w2 hk hF
    simp only[List.mem_cons,List.not_mem_nil,or_false]at hf
    rcases hf with rfl|rfl|rfl|rfl|rfl|rfl|rfl|rfl|rfl|rfl
    ·exact hF
    ·exact hF
    ·exact hF
    ·exact hF
    ·exact hF
    ·exact hF
    ·exact hF
    ·obtain⟨g,e1,e2⟩:=hF;exact⟨g,e1,(hk 3 (by simp)).2 _ _ e2⟩
    ·exact(hk 3 (by simp)).1 _ _ _ _ _ hF
    ·exact hF
   ·intro f hf w1 w2 hk hG
    simp only[List.mem_cons,List.not_mem_nil,or_false]at hf
    rcases hf with rfl|rfl|rfl|rfl
    ·exact(hk 53 (by simp)).2 _ _ hG
    ·exact(hk 53 (by simp)).2 _ _ hG
    ·exact(hk 3 (by simp)).1 _ _ _ _ _ hG
    ·exact(hk 59 (by simp)).1 _ _ _ _ _ hG
   ·intro f hf
    simp only[List.mem_cons,List.not_mem_nil,or_false]at hf
    rcases hf with rfl|rfl|rfl|rfl
    ·exact HS.out.bo
    ·exact HS.out.br
    ·exact HS.out.rc.drew
    ·exact HS.out.re.drew
   ·intro f hf a w1 hs hg' hst;have t3:a.eval (.tmp 3)=.pointer (some ⟨w.heap.size,0,none⟩):=Reg.eval_tmp ((hs.out 3 (show 3∉[18,19,20,21,22,23,24,25,26,27] by decide)).trans rfl);have t7:a.eval (.tmp 7)=.pointer (some ⟨O,0,none⟩):=Reg.eval_tmp ((hs.out 7 (show 7∉[18,19,20,21,22,23,24,25,26,27] by decide)).trans rfl);have t8:a.eval (.tmp 8)=.int .i64 (k:Int):=Reg.eval_tmp ((hs.out 8 (show 8∉[18,19,20,21,22,23,24,25,26,27] by decide)).trans rfl)
    simp only[List.mem_cons,List.not_mem_nil,or_false]at hf
    rcases hf with rfl|rfl|rfl|rfl|rfl|rfl|rfl|rfl|rfl|rfl
    ·have u1:=t7;exact Reg.step_val (w':=w1) (v:=.pointer (some ⟨O,0,none⟩)) rfl rfl rfl (Ord.run_fld u1 (by go_simp)) rfl hs.below (fun e=>Reg.Keeps.refl e _)
    ·obtain⟨v1,hv1,rfl⟩:∃ v,a.tmps[18]? = some v/\v=.pointer (some ⟨O,0,none⟩):=hg' _ (Reg.at_fact 0 rfl) (by kernel_rfl) (by simp[Reg.okTil])
     have u1:=Reg.eval_tmp hv1;exact Reg.step_val rfl rfl rfl (Reg.run_load u1 (load_dns ((CeH (hst _ (Reg.at_stand 0 rfl) (by simp[Reg.okTil])) 0).trans rfl))) rfl hs.below (fun e=>Reg.Keeps.refl e _)
    ·have u1:=t3;exact Reg.step_val (w':=w1) (v:=.pointer (some ⟨w.heap.size,0,none⟩)) rfl rfl rfl (Ord.run_fld u1 (by go_simp)) rfl hs.below (fun e=>Reg.Keeps.refl e _)
    ·obtain⟨v1,hv1,rfl⟩:∃ v,a.tmps[20]? = some v/\v=.pointer (some ⟨w.heap.size,0,none⟩):=hg' _ (Reg.at_fact 2 rfl) (by kernel_rfl) (by simp[Reg.okTil])
     have u1:=Reg.eval_tmp hv1;exact Reg.step_val rfl rfl rfl (Reg.run_load u1 (load_dns ((CeH ((hs.below.block _ hzr).trans XR.out) 0).trans rfl))) rfl hs.below (fun e=>Reg.Keeps.refl e _)
    ·have u1:=t8;exact Reg.step_val rfl rfl rfl (Reg.run_move u1) rfl hs.below (fun e=>Reg.Keeps.refl e _)
    ·obtain⟨v1,hv1,rfl⟩:∃ v,a.tmps[21]? = some v/\v=.slice (some ⟨b2,o2,none⟩) cs.length cc:=hg' _ (Reg.at_fact 3 rfl) (by kernel_rfl) (by simp[Reg.okTil])
     obtain⟨v2,hv2,rfl⟩:∃ v,a.tmps[22]? = some v/\v=.int .i64 (k:Int):=hg' _ (Reg.at_fact 4 rfl) (by kernel_rfl) (by simp[Reg.okTil])
     have u1:=Reg.eval_tmp hv1;have u2:=Reg.eval_tmp hv2;exact Reg.step_val (w':=w1) (v:=.pointer (some ⟨b2,o2+k,none⟩)) rfl rfl rfl (ix_int u1 u2 hlt) rfl hs.below (fun e=>Reg.Keeps.refl e _)
    ·obtain⟨v1,hv1,rfl⟩:∃ v,a.tmps[23]? = some v/\v=.pointer (some ⟨b2,o2+k,none⟩):=hg' _ (Reg.at_fact 5 rfl) (by kernel_rfl) (by simp[Reg.okTil])
     have u1:=Reg.eval_tmp hv1;exact Reg.step_val rfl rfl rfl (Reg.run_load u1 (load_int ((hs.below.cell (p:=⟨b2,o2+k,none⟩) hb3).trans HX1.out))) rfl hs.below (fun e=>Reg.Keeps.refl e _)
    ·obtain⟨v1,hv1,rfl⟩:∃ v,a.tmps[24]? = some v/\v=.int .i64 (p:Nat):=hg' _ (Reg.at_fact 6 rfl) (by kernel_rfl) (by simp[Reg.okTil])
     exact Reg.step_val rfl rfl rfl (Reg.run_build (Reg.eval_tmp hv1) (build_int1 w1 (p:Nat))) ⟨_,rfl,heap_new rfl⟩ (below_alloc0 hs.below) (fun e=>Reg.Keeps.alloc e _ _)
    ·obtain⟨v1,hv1,rfl⟩:∃ v,a.tmps[19]? = some v/\v=cv:=hg' _ (Reg.at_fact 1 rfl) (by kernel_rfl) (by simp[Reg.okTil])
     obtain⟨v2,hv2,g,rfl,hh⟩:∃ v,a.tmps[25]? = some v/\∃ g,v=.slice (some ⟨g,0,none⟩) 1 1/\w1.heap[g]? = some (.cells #[.int .i64 (p:Nat)] 3 (0,0)):=hg' _ (Reg.at_fact 7 rfl) (by kernel_rfl) (by simp[Reg.okTil])
     have hown:w1.ownsRow wa.heap.size 3 1 v1 xs.length (cntV xs):=(hst _ (Reg.at_stand 2 rfl) (by simp[Reg.okTil]));exact Reg.step_append rfl rfl rfl rfl hs.below Tryz.underlying45 hi hz0 hz1 hz2 rfl (by decide) hv1 hown hv2 (news:=[.int .i64 (p:Nat)]) rfl (fun j u hu=>World.news_of_block hh j u (by simpa using hu)) (by intro u hu;rw[List.mem_singleton.1 hu];rfl) (by decide) (by unfold maxLen;omega) (by omega) (fun v' w' h=>h)
    ·have u1:=t7;exact Reg.step_val (w':=w1) (v:=.pointer (some ⟨O,0,none⟩)) rfl rfl rfl (Ord.run_fld u1 (by go_simp)) rfl hs.below (fun e=>Reg.Keeps.refl e _)
   ·intro vals w1 hF hfx hb1;have h25:w1.ownsRow wa.heap.size 3 1 (vals 26) (xs.length+1) (cntV xs++[.int .i64 (p:Nat)]):=hF _ (Reg.at_fact 8 rfl) (show(10+1:Nat)<=99 by decide);have hbo:w1.heap[O]? = some (.cells #[cv,.slice none 0 0,.bool false] 53 (0,0)):=hfx _ (Reg.at_stand 0 rfl) (show(10+1:Nat)<=99 by decide);have hbr:w1.heap[R]? = some (.cells #[.slice none 0 0,.slice none 0 0,.bool false] 53 (0,0)):=hfx _ (Reg.at_stand 1 rfl) (show(10+1:Nat)<=99 by decide);have hre:w1.ownsRow wa.heap.size 59 4 (.slice none 0 0) ([]:List Ev).length (cellsOf encE []):=hfx _ (Reg.at_stand 3 rfl) (show(10+1:Nat)<=99 by decide);have e26:vals 27=.pointer (some ⟨O,0,none⟩):=hF _ (Reg.at_fact 9 rfl) (show(10+1:Nat)<=99 by decide);have HN:=Hyd (MorS.put0 (c':=xs++[p]) (l:=[]) hb1 hbr hbo (by rw[List.length_append,List.length_singleton,show cntV (xs++[p])=cntV xs++[.int .i64 (p:Nat)] by simp[cntV]];exact h25) hre hWO HRO.out)
    simp only[List.map_cons,List.map_nil,e26]
    generalize vals 18=q18;generalize vals 19=q19;generalize vals 20=q20;generalize vals 21=q21;generalize vals 22=q22;generalize vals 23=q23;generalize vals 24=q24;generalize vals 25=q25
    have hsh:∃ A c,vals 26=.slice A (xs.length+1) c:=(Sl.of_own h25).shape
    generalize vals 26=va1 at HN hsh ⊢;obtain⟨A1,c1,rfl⟩:=hsh;have zo:w1.cell? ⟨O,0,none⟩=some cv:=(CeH hbo 0).trans rfl;have fo:=frozen_of_row w1 _ 0 _ _ hbo;clear hF hfx e26 h25 hbo hbr hre hb1
    obtain⟨w6,hw6⟩:∃ w6,w6=w1.setCell ⟨O,0,none⟩ (.slice A1 (xs.length+1) c1):=⟨_,rfl⟩
    rw[<-hw6]at HN;have HW6:=Hyd hw6;clear hw6;(iterate 11 unfold Reg.puts);go_wp2_with fail;rw[<-HW6.out];clear zo fo HW6 hi hz0 hz1 hz2;go_roundw
    case rel=>exact⟨k+1,_,by omega,by go_num,by rw[HTA.out];exact HN.out⟩
    case measure=>simp[intOf];omega
  ·obtain rfl:k=cs.length:=by omega
   rw[List.take_length]at HS;obtain⟨C0,k0,rfl⟩:=(Sl.of_own HS.out.rc).shape;clear HST;go_wp2_with fail;clear y0
   go_loopw [9] (fun u wr=>∃ k ev,k<=evs.length/\u=.int .i64 (k:Nat)/\MorS wa wr R O (.slice C0 cs.length k0) ev cs (evs.take k)) (fun u _=>evs.length-(intOf u).toNat)
   case atStart=>exact⟨0,_,Nat.zero_le _,rfl,HS.out⟩
   case round =>
    clear HS;obtain⟨k,ev,hk,rfl,hst0⟩:=hrel;have HS:=Hyd hst0;have y0:wr.cell? ⟨w.heap.size,1,none⟩=some (.slice ea evs.length ec):=(CeH ((hst0.bel.block _ hzr).trans XR.out) 1).trans rfl;have hsz:=hst0.bel.size;clear hst0
    by_cases hlt:k<evs.length
    ·have hki:(k:Int)<(evs.length:Int):=by omega
     have hk0:(0:Int)<=(k:Int):=by omega
     obtain⟨b2,o2,c2,hv2,hb2,x0,x1,x2,x3⟩:=Evs.at_ HE.out hlt
     obtain⟨rfl,rfl⟩:ea=some ⟨b2,o2,none⟩/\ec=c2:=by simpa using hv2
     have z0:=(HBA.out.cell (p:=⟨b2,o2+k * 4,none⟩) hb2).trans x0;have z1:=(HBA.out.cell (p:=⟨b2,o2+k * 4+1,none⟩) hb2).trans x1;have z2:=(HBA.out.cell (p:=⟨b2,o2+k * 4+2,none⟩) hb2).trans x2;have z3:=(HBA.out.cell (p:=⟨b2,o2+k * 4+3,none⟩) hb2).trans x3
     have hb3:b2<wa.heap.size:=by omega
     have HTA:=Hyd (show evs.take (k+1)=evs.take k++[evs[k]] from List.take_succ_eq_append_getElem hlt)
     have hla:(evs.take k).length<=1000000:=by rw[List.length_take];omega
     obtain⟨p,hp⟩:∃ p,evs[k]=p:=⟨_,rfl⟩
     rw[hp]at z0 z1 z2 z3 HTA
     obtain⟨xs,hxs⟩:∃ xs,evs.take k=xs:=⟨_,rfl⟩
     rw[hxs]at HS HTA hla;have HX0:=Hyd z0;have HX1:=Hyd z1;have HX2:=Hyd z2;have HX3:=Hyd z3;clear hv2 hp hxs x0 x1 x2 x3 z0 z1 z2 z3
     go_upto_region 9 with (fail)
     clear y0;obtain⟨i0,hi,hz0,hz1,hz2⟩:=info_parts infoDe
     refine Reg.stand_order (W:=wa) (h:=10) (t:=1)
      [⟨0,35,[],99,[],none,fun v _=>v=.pointer (some ⟨O,1,none⟩)⟩,
       ⟨1,36,[],99,[],none,fun v _=>v=ev⟩,
       ⟨2,37,[],99,[],none,fun v _=>v=.pointer (some ⟨w.heap.size,1,none⟩)⟩,
       ⟨3,38,[],99,[],none,fun v _=>v=.slice (some ⟨b2,o2,none⟩) evs.length ec⟩,
       ⟨4,39,[],99,[],none,fun v _=>v=.int .i64 (k:Int)⟩,
       ⟨5,40,[],99,[],none,fun v _=>v=.pointer (some ⟨b2,o2+k * 4,none⟩)⟩,
       ⟨6,41,[],99,[],none,fun v _=>v=evV p⟩,
       ⟨7,42,[59],8,[],none,fun v w'=>∃ g,v=.slice (some ⟨g,0,none⟩) 1 1/\w'.heap[g]? = some (.cells (encE p).toArray 59 (0,0))⟩,
       ⟨8,43,[59],99,[],some 59,fun v w'=>w'.ownsRow wa.heap.size 59 4 v (xs.length+1) (cellsOf encE xs++encE p)⟩,
       ⟨9,44,[],99,[],none,fun v _=>v=.pointer (some ⟨O,1,none⟩)⟩]
      [⟨[53],99,fun w'=>w'.heap[O]? = some (.cells #[.slice C0 cs.length k0,ev,.bool false] 53 (0,0))⟩,
       ⟨[53],99,fun w'=>w'.heap[R]? = some (.cells #[.slice none 0 0,.slice none 0 0,.bool false] 53 (0,0))⟩,
       ⟨[59],8,fun w'=>w'.ownsRow wa.heap.size 59 4 ev xs.length (cellsOf encE xs)⟩,
       ⟨[3],99,fun w'=>w'.ownsRow wa.heap.size 3 1 (.slice C0 cs.length k0) cs.length (cntV cs)⟩]
      (by kernel_rfl) rfl (by kernel_rfl) (by kernel_rfl) (by kernel_rfl) (show [0,1,2,3,4,5,6,7,8,9].Nodup by decide) (show ∀ i,i<10->i∈[0,1,2,3,4,5,6,7,8,9] by decide) ?_ (show [35,36,37,38,39,40,41,42,43,44].Nodup by decide) (show ∀ s∈[35,36,37,38,39,40,41,42,43,44],s<72 by decide) (by kernel_rfl) ?_ ?_ HS.out.bel ?_ ?_ ?_
     ·intro f hf
      simp only[List.mem_cons,List.not_mem_nil,or_false]at hf
      rcases hf with rfl|rfl|rfl|rfl|rfl|rfl|rfl|rfl|rfl|rfl<;>simp
     ·intro f hf v w1 w2 hk hF
      simp only[List.mem_cons,List.not_mem_nil,or_false]at hf
      rcases hf with rfl|rfl|rfl|rfl|rfl|rfl|rfl|rfl|rfl|rfl
      ·exact hF
      ·exact hF
      ·exact hF
      ·exact hF
      ·exact hF
      ·exact hF
      ·exact hF
      ·obtain⟨g,e1,e2⟩:=hF;exact⟨g,e1,(hk 59 (by simp)).2 _ _ e2⟩
      ·exact(hk 59 (by simp)).1 _ _ _ _ _ hF
      ·exact hF
     ·intro f hf w1 w2 hk hG
      simp only[List.mem_cons,List.not_mem_nil,or_false]at hf
      rcases hf with rfl|rfl|rfl|rfl
      ·exact(hk 53 (by simp)).2 _ _ hG
      ·exact(hk 53 (by simp)).2 _ _ hG
      ·exact(hk 59 (by simp)).1 _ _ _ _ _ hG
      ·exact(hk 3 (by simp)).1 _ _ _ _ _ hG
     ·intro f hf
      simp only[List.mem_cons,List.not_mem_nil,or_false]at hf
      rcases hf with rfl|rfl|rfl|rfl
      ·exact HS.out.bo
      ·exact HS.out.br
      ·exact HS.out.re.drew
      ·exact HS.out.rc.drew
     ·intro f hf a w1 hs hg' hst;have t3:a.eval (.tmp 3)=.pointer (some ⟨w.heap.size,0,none⟩):=Reg.eval_tmp ((hs.out 3 (show 3∉[35,36,37,38,39,40,41,42,43,44] by decide)).trans rfl);have t7:a.eval (.tmp 7)=.pointer (some ⟨O,0,none⟩):=Reg.eval_tmp ((hs.out 7 (show 7∉[35,36,37,38,39,40,41,42,43,44] by decide)).trans rfl);have t9:a.eval (.tmp 9)=.int .i64 (k:Int):=Reg.eval_tmp ((hs.out 9 (show 9∉[35,36,37,38,39,40,41,42,43,44] by decide)).trans rfl)
      simp only[List.mem_cons,List.not_mem_nil,or_false]at hf
      rcases hf with rfl|rfl|rfl|rfl|rfl|rfl|rfl|rfl|rfl|rfl
      ·have u1:=t7;exact Reg.step_val (w':=w1) (v:=.pointer (some ⟨O,1,none⟩)) rfl rfl rfl (Ord.run_fld u1 (by go_simp)) rfl hs.below (fun e=>Reg.Keeps.refl e _)
      ·obtain⟨v1,hv1,rfl⟩:∃ v,a.tmps[35]? = some v/\v=.pointer (some ⟨O,1,none⟩):=hg' _ (Reg.at_fact 0 rfl) (by kernel_rfl) (by simp[Reg.okTil])
       have u1:=Reg.eval_tmp hv1;exact Reg.step_val rfl rfl rfl (Reg.run_load u1 (load_des ((CeH (hst _ (Reg.at_stand 0 rfl) (by simp[Reg.okTil])) 1).trans rfl))) rfl hs.below (fun e=>Reg.Keeps.refl e _)
      ·have u1:=t3;exact Reg.step_val (w':=w1) (v:=.pointer (some ⟨w.heap.size,1,none⟩)) rfl rfl rfl (Ord.run_fld u1 (by go_simp)) rfl hs.below (fun e=>Reg.Keeps.refl e _)
      ·obtain⟨v1,hv1,rfl⟩:∃ v,a.tmps[37]? = some v/\v=.pointer (some ⟨w.heap.size,1,none⟩):=hg' _ (Reg.at_fact 2 rfl) (by kernel_rfl) (by simp[Reg.okTil])
       have u1:=Reg.eval_tmp hv1;exact Reg.step_val rfl rfl rfl (Reg.run_load u1 (load_des ((CeH ((hs.below.block _ hzr).trans XR.out) 1).trans rfl))) rfl hs.below (fun e=>Reg.Keeps.refl e _)
      ·have u1:=t9;exact Reg.step_val rfl rfl rfl (Reg.run_move u1) rfl hs.below (fun e=>Reg.Keeps.refl e _)
      ·obtain⟨v1,hv1,rfl⟩:∃ v,a.tmps[38]? = some v/\v=.slice (some ⟨b2,o2,none⟩) evs.length ec:=hg' _ (Reg.at_fact 3 rfl) (by kernel_rfl) (by simp[Reg.okTil])
       obtain⟨v2,hv2,rfl⟩:∃ v,a.tmps[39]? = some v/\v=.int .i64 (k:Int):=hg' _ (Reg.at_fact 4 rfl) (by kernel_rfl) (by simp[Reg.okTil])
       have u1:=Reg.eval_tmp hv1;have u2:=Reg.eval_tmp hv2;exact Reg.step_val (w':=w1) (v:=.pointer (some ⟨b2,o2+k * 4,none⟩)) rfl rfl rfl (ix_de u1 u2 hlt) rfl hs.below (fun e=>Reg.Keeps.refl e _)
      ·obtain⟨v1,hv1,rfl⟩:∃ v,a.tmps[40]? = some v/\v=.pointer (some ⟨b2,o2+k * 4,none⟩):=hg' _ (Reg.at_fact 5 rfl) (by kernel_rfl) (by simp[Reg.okTil])
       have u1:=Reg.eval_tmp hv1;exact Reg.step_val rfl rfl rfl (Reg.run_load u1 (load_de ((hs.below.cell (p:=⟨b2,o2+k * 4,none⟩) hb3).trans HX0.out) ((hs.below.cell (p:=⟨b2,o2+k * 4+1,none⟩) hb3).trans HX1.out) ((hs.below.cell (p:=⟨b2,o2+k * 4+2,none⟩) hb3).trans HX2.out) ((hs.below.cell (p:=⟨b2,o2+k * 4+3,none⟩) hb3).trans HX3.out))) rfl hs.below (fun e=>Reg.Keeps.refl e _)
      ·obtain⟨v1,hv1,rfl⟩:∃ v,a.tmps[41]? = some v/\v=evV p:=hg' _ (Reg.at_fact 6 rfl) (by kernel_rfl) (by simp[Reg.okTil])
       exact Reg.step_val rfl rfl rfl (Reg.run_build (Reg.eval_tmp hv1) (build_de w1 p)) ⟨_,rfl,heap_new rfl⟩ (below_alloc0 hs.below) (fun e=>Reg.Keeps.alloc e _ _)
      ·obtain⟨v1,hv1,rfl⟩:∃ v,a.tmps[36]? = some v/\v=ev:=hg' _ (Reg.at_fact 1 rfl) (by kernel_rfl) (by simp[Reg.okTil])
       obtain⟨v2,hv2,g,rfl,hh⟩:∃ v,a.tmps[42]? = some v/\∃ g,v=.slice (some ⟨g,0,none⟩) 1 1/\w1.heap[g]? = some (.cells (encE p).toArray 59 (0,0)):=hg' _ (Reg.at_fact 7 rfl) (by kernel_rfl) (by simp[Reg.okTil])
       have hown:w1.ownsRow wa.heap.size 59 4 v1 xs.length (cellsOf encE xs):=(hst _ (Reg.at_stand 2 rfl) (by simp[Reg.okTil]));exact Reg.step_append rfl rfl rfl rfl hs.below Tryz.underlying33 hi hz0 hz1 hz2 rfl (by decide) hv1 hown hv2 (by rw[encE_len]) (fun j u hu=>World.news_of_block hh j u (by simpa using hu)) (encE_one p) (by decide) (by unfold maxLen;omega) (by omega) (fun v' w' h=>h)
      ·have u1:=t7;exact Reg.step_val (w':=w1) (v:=.pointer (some ⟨O,1,none⟩)) rfl rfl rfl (Ord.run_fld u1 (by go_simp)) rfl hs.below (fun e=>Reg.Keeps.refl e _)
     ·intro vals w1 hF hfx hb1;have h25:w1.ownsRow wa.heap.size 59 4 (vals 43) (xs.length+1) (cellsOf encE xs++encE p):=hF _ (Reg.at_fact 8 rfl) (show(10+1:Nat)<=99 by decide);have hbo:w1.heap[O]? = some (.cells #[.slice C0 cs.length k0,ev,.bool false] 53 (0,0)):=hfx _ (Reg.at_stand 0 rfl) (show(10+1:Nat)<=99 by decide);have hbr:w1.heap[R]? = some (.cells #[.slice none 0 0,.slice none 0 0,.bool false] 53 (0,0)):=hfx _ (Reg.at_stand 1 rfl) (show(10+1:Nat)<=99 by decide);have hre:w1.ownsRow wa.heap.size 3 1 (.slice C0 cs.length k0) cs.length (cntV cs):=hfx _ (Reg.at_stand 3 rfl) (show(10+1:Nat)<=99 by decide);have e26:vals 44=.pointer (some ⟨O,1,none⟩):=hF _ (Reg.at_fact 9 rfl) (show(10+1:Nat)<=99 by decide);have HN:=Hyd (MorS.put1 (l':=xs++[p]) hb1 hbr hbo hre (by rw[List.length_append,List.length_singleton,cellsOf_snoc];exact h25) hWO HRO.out)
      simp only[List.map_cons,List.map_nil,e26]
      generalize vals 35=q35;generalize vals 36=q36;generalize vals 37=q37;generalize vals 38=q38;generalize vals 39=q39;generalize vals 40=q40;generalize vals 41=q41;generalize vals 42=q42
      have hsh:∃ A c,vals 43=.slice A (xs.length+1) c:=(Sl.of_own h25).shape
      generalize vals 43=va1 at HN hsh ⊢;obtain⟨A1,c1,rfl⟩:=hsh;have zo:w1.cell? ⟨O,1,none⟩=some ev:=(CeH hbo 1).trans rfl;have fo:=frozen_of_row w1 _ 1 _ _ hbo;clear hF hfx e26 h25 hbo hbr hre hb1
      obtain⟨w6,hw6⟩:∃ w6,w6=w1.setCell ⟨O,1,none⟩ (.slice A1 (xs.length+1) c1):=⟨_,rfl⟩
      rw[<-hw6]at HN;have HW6:=Hyd hw6;clear hw6;(iterate 11 unfold Reg.puts);go_wp2_with fail;rw[<-HW6.out];clear zo fo HW6 hi hz0 hz1 hz2;go_roundw
      case rel=>exact⟨k+1,_,by omega,by go_num,by rw[HTA.out];exact HN.out⟩
      case measure=>simp[intOf];omega
    ·obtain rfl:k=evs.length:=by omega
     rw[List.take_length]at HS;obtain⟨E0,m0,rfl⟩:=(Sl.of_own HS.out.re).shape;have z0:wr.cell? ⟨O,0,none⟩=some (.slice C0 cs.length k0):=(CeH HS.out.bo 0).trans rfl;have zf:wr.frozen? ⟨O,0,none⟩=false:=frozen_of_row wr O 0 _ _ HS.out.bo;obtain⟨i0,hi,hz0,hz1,hz2⟩:=info_parts infoInt
     go_upto_if 49 with (fail)
     go_cut [7] (fun s7 wx=>s7=.pointer (some ⟨O,0,none⟩)/\∃ C n c1,MorS wa wx R O (.slice C n c1) (.slice E0 evs.length m0) (if step=cs.length then cs++[0] else cs) evs)
     case first =>
      by_cases heq:step=cs.length
      ·have hqb:((step:Int)==(cs.length:Int))=true:=by rw[heq];exact beq_self_eq_true _
       have HEQ:=Hyd heq;have HNA:=Hyd (Reg.own_new (w:=wr) (b:=0) (e:=3) (sz:=1) (n:=1) (cs:=#[.int .i64 0]) rfl (Nat.zero_le _) rfl (by decide));have HNB:=Hyd (show Below wr.heap.size wr (wr.alloc (.cells #[.int .i64 0] 3)) from(Below.refl _ _).alloc (Nat.le_refl _) _);have HRC:=Hyd HS.out.rc;clear heq
       go_wp2_with (at_builtin;refine Reg.wpList_append_src _ rfl (.tmp 51) (.tmp 52) 45 rfl wa.heap.size 0 3 i0 _ 1 8 Tryz.underlying45 hi hz0 hz1 hz2 rfl (by decide) _ _ cs.length 1 _ _ rfl (own_below HRC.out HNB.out) rfl HNA.out ?d1 ?d2 ?d3 ?d4 ?_)
       case d1=>first | rfl | (intro u hu;rw[List.mem_singleton.1 (by simpa using hu)];rfl)
       case d2=>unfold maxLen;omega
       case d3=>omega
       case d4=>first | omega | (simp;omega)
       intro va' w5 ho5 hg5 hv5;obtain⟨A1,c1,rfl⟩:=(Sl.of_own ho5).shape;have bo5:=(Reg.Keeps.grown (show 53≠3 by decide) (own_below HRC.out HNB.out) hg5).2 _ _ (heap_alloc HS.out.bo);have br5:=(Reg.Keeps.grown (show 53≠3 by decide) (own_below HRC.out HNB.out) hg5).2 _ _ (heap_alloc HS.out.br);have re5:=(Reg.Keeps.grown (show 59≠3 by decide) (own_below HRC.out HNB.out) hg5).1 _ _ _ _ _ (own_below HS.out.re HNB.out);have hb5:=below_grown (HS.out.bel.trans (HNB.out.mono HS.out.bel.size)) (own_below HRC.out HNB.out) hg5 (by have:=HS.out.bel.size;simp;omega) (Nat.le_refl _);have HN:=Hyd (MorS.put0 (c':=cs++[0]) hb5 br5 bo5 (by rw[List.length_append,List.length_singleton,show cntV (cs++[0])=cntV cs++[.int .i64 0] by simp[cntV]];exact ho5) re5 hWO HRO.out)
       have zo:w5.cell? ⟨O,0,none⟩=some (.slice C0 cs.length k0):=(CeH bo5 0).trans rfl;have fo:=frozen_of_row w5 _ 0 _ _ bo5;clear ho5 hg5 hv5 bo5 br5 re5 hb5 HRC HNA HNB;go_wp2_with fail;go_meet;refine⟨rfl,A1,cs.length+1,c1, ?_⟩;rw[if_pos HEQ.out];exact HN.out
      ·have hqb:((step:Int)==(cs.length:Int))=false:=by rw[beq_eq_false_iff_ne];omega
       go_wp2_with fail;go_meet;refine⟨rfl,C0,cs.length,k0, ?_⟩;rw[if_neg heq];exact HS.out
     case rest =>
      clear HS z0 zf hi hz0 hz1 hz2 y0;obtain⟨rfl,C1,n1,k1,hs1⟩:=hcut
      obtain⟨D,hD⟩:∃ D,(if step=cs.length then cs++[0] else cs)=D:=⟨_,rfl⟩
      have hDl:step<D.length/\D.length<=1000001:=by
       rw[<-hD]
       split
       ·simp;omega
       ·omega
      have hDs:D.getD step 0<=1000000:=by
       refine Nat.le_trans (getD_le_sum D step) ?_;have h1:=HW.out.sum
       simp only[]at h1
       rw[<-hD]
       split
       ·rw[List.sum_append];simp;omega
       ·omega
      have HWR:=Hyd (show withR ⟨cs,evs,bl⟩ step e=⟨D.set step (D.getD step 0+1),evs++[e],false⟩ by rw[<-hD];rfl);rw[hD]at hs1;have HS:=Hyd hs1;obtain⟨q,cq,e1,hq1,hqlt⟩:=hs1.rc.form (by omega)
      obtain⟨rfl,rfl,rfl⟩:C1=some ⟨q,0,none⟩/\n1=D.length/\k1=cq:=by simpa using e1
      obtain⟨nv,hnv⟩:∃ v,D.getD step 0=v:=⟨_,rfl⟩
      have hcs:D[step]? = some nv:=by
       rw[<-hnv,List.getD_eq_getElem?_getD,List.getElem?_eq_getElem hDl.1];rfl
      have HX1:=Hyd (show wc.cell? ⟨q,step,none⟩=some (.int .i64 (nv:Int)) by
       rw[hs1.rc.cellAt step (by omega)];unfold cntV
       rw[List.getElem?_map,hcs];rfl)
      have HXF:=Hyd (hs1.rc.frozenAt step)
      have HQO:=Hyd (show q≠O from by
       intro e2
       rcases hs1.rc.2 with ⟨h,_⟩ | ⟨g',cap,cur,h1,_,hh,_⟩
       ·cases h
       ·injection h1 with h1
        injection h1 with h1
        injection h1 with h1
        rw[<-h1,e2,hs1.bo]at hh
        injection hh with hh
        injection hh with _ h
        exact absurd h (by decide))
      have HQR:=Hyd (show q≠R from by
       intro e2
       rcases hs1.rc.2 with ⟨h,_⟩ | ⟨g',cap,cur,h1,_,hh,_⟩
       ·cases h
       ·injection h1 with h1
        injection h1 with h1
        injection h1 with h1
        rw[<-h1,e2,hs1.br]at hh
        injection hh with hh
        injection hh with _ h
        exact absurd h (by decide))
      rw[hnv]at hDs HWR;have hstD:step<D.length:=hDl.1;have hDle:=hDl.2;clear e1 hcs hs1 hnv hD hDl
      go_upto_region 12 with (fail)
      refine Reg.stand_order (W:=wc) (h:=10) (t:=1)
       [⟨0,55,[],99,[],none,fun v _=>v=.pointer (some ⟨O,0,none⟩)⟩,
        ⟨1,56,[],99,[],none,fun v _=>v=.slice (some ⟨q,0,none⟩) D.length k1⟩,
        ⟨2,57,[],99,[],none,fun v _=>v=.int .i64 (step:Nat)⟩,
        ⟨3,58,[],99,[],none,fun v _=>v=.pointer (some ⟨O,0,none⟩)⟩,
        ⟨4,59,[],99,[],none,fun v _=>v=.slice (some ⟨q,0,none⟩) D.length k1⟩,
        ⟨5,60,[],99,[],none,fun v _=>v=.int .i64 (step:Nat)⟩,
        ⟨6,61,[],99,[],none,fun v _=>v=.pointer (some ⟨q,0+step,none⟩)⟩,
        ⟨7,62,[],99,[],none,fun v _=>v=.int .i64 (nv:Int)⟩,
        ⟨8,63,[],99,[],none,fun v _=>v=.int .i64 ((nv:Int)+1)⟩,
        ⟨9,64,[],99,[],none,fun v _=>v=.pointer (some ⟨q,0+step,none⟩)⟩]
       []
       (by kernel_rfl) rfl (by kernel_rfl) (by kernel_rfl) (by kernel_rfl) (show [0,1,2,3,4,5,6,7,8,9].Nodup by decide) (show ∀ i,i<10->i∈[0,1,2,3,4,5,6,7,8,9] by decide) ?_ (show [55,56,57,58,59,60,61,62,63,64].Nodup by decide) (show ∀ s∈[55,56,57,58,59,60,61,62,63,64],s<72 by decide) (by kernel_rfl) ?_ ?_ (Below.refl _ _) ?_ ?_ ?_
      ·intro f hf
       simp only[List.mem_cons,List.not_mem_nil,or_false]at hf
       rcases hf with rfl|rfl|rfl|rfl|rfl|rfl|rfl|rfl|rfl|rfl<;>simp
      ·intro f hf v w1 w2 hk hF
       simp only[List.mem_cons,List.not_mem_nil,or_false]at hf
       rcases hf with rfl|rfl|rfl|rfl|rfl|rfl|rfl|rfl|rfl|rfl
       ·exact hF
       ·exact hF
       ·exact hF
       ·exact hF
       ·exact hF
       ·exact hF
       ·exact hF
       ·exact hF
       ·exact hF
       ·exact hF
      ·intro f hf;cases hf
      ·intro f hf;cases hf
      ·intro f hf a w1 hs hg' hst;have t1:a.eval (.tmp 1)=.int .i64 (step:Nat):=Reg.eval_tmp ((hs.out 1 (show 1∉[55,56,57,58,59,60,61,62,63,64] by decide)).trans rfl);have t7:a.eval (.tmp 7)=.pointer (some ⟨O,0,none⟩):=Reg.eval_tmp ((hs.out 7 (show 7∉[55,56,57,58,59,60,61,62,63,64] by decide)).trans rfl)
       simp only[List.mem_cons,List.not_mem_nil,or_false]at hf
       rcases hf with rfl|rfl|rfl|rfl|rfl|rfl|rfl|rfl|rfl|rfl
       ·have u1:=t7;exact Reg.step_val (w':=w1) (v:=.pointer (some ⟨O,0,none⟩)) rfl rfl rfl (Ord.run_fld u1 (by go_simp)) rfl hs.below (fun e=>Reg.Keeps.refl e _)
       ·obtain⟨v1,hv1,rfl⟩:∃ v,a.tmps[55]? = some v/\v=.pointer (some ⟨O,0,none⟩):=hg' _ (Reg.at_fact 0 rfl) (by kernel_rfl) (by simp[Reg.okTil])
        have u1:=Reg.eval_tmp hv1;exact Reg.step_val rfl rfl rfl (Reg.run_load u1 (load_dns ((CeH ((hs.below.block _ (heap_lt HS.out.bo)).trans HS.out.bo) 0).trans rfl))) rfl hs.below (fun e=>Reg.Keeps.refl e _)
       ·have u1:=t1;exact Reg.step_val rfl rfl rfl (Reg.run_move u1) rfl hs.below (fun e=>Reg.Keeps.refl e _)
       ·have u1:=t7;exact Reg.step_val (w':=w1) (v:=.pointer (some ⟨O,0,none⟩)) rfl rfl rfl (Ord.run_fld u1 (by go_simp)) rfl hs.below (fun e=>Reg.Keeps.refl e _)
       ·obtain⟨v1,hv1,rfl⟩:∃ v,a.tmps[58]? = some v/\v=.pointer (some ⟨O,0,none⟩):=hg' _ (Reg.at_fact 3 rfl) (by kernel_rfl) (by simp[Reg.okTil])
        have u1:=Reg.eval_tmp hv1;exact Reg.step_val rfl rfl rfl (Reg.run_load u1 (load_dns ((CeH ((hs.below.block _ (heap_lt HS.out.bo)).trans HS.out.bo) 0).trans rfl))) rfl hs.below (fun e=>Reg.Keeps.refl e _)
       ·have u1:=t1;exact Reg.step_val rfl rfl rfl (Reg.run_move u1) rfl hs.below (fun e=>Reg.Keeps.refl e _)
       ·obtain⟨v1,hv1,rfl⟩:∃ v,a.tmps[59]? = some v/\v=.slice (some ⟨q,0,none⟩) D.length k1:=hg' _ (Reg.at_fact 4 rfl) (by kernel_rfl) (by simp[Reg.okTil])
        obtain⟨v2,hv2,rfl⟩:∃ v,a.tmps[60]? = some v/\v=.int .i64 (step:Nat):=hg' _ (Reg.at_fact 5 rfl) (by kernel_rfl) (by simp[Reg.okTil])
        have u1:=Reg.eval_tmp hv1;have u2:=Reg.eval_tmp hv2;exact Reg.step_val (w':=w1) (v:=.pointer (some ⟨q,0+step,none⟩)) rfl rfl rfl (ix_int u1 u2 hstD) rfl hs.below (fun e=>Reg.Keeps.refl e _)
       ·obtain⟨v1,hv1,rfl⟩:∃ v,a.tmps[61]? = some v/\v=.pointer (some ⟨q,0+step,none⟩):=hg' _ (Reg.at_fact 6 rfl) (by kernel_rfl) (by simp[Reg.okTil])
        have u1:=Reg.eval_tmp hv1;exact Reg.step_val rfl rfl rfl (Reg.run_load u1 (load_int (by rw[Nat.zero_add];exact(hs.below.cell (p:=⟨q,step,none⟩) hqlt).trans HX1.out))) rfl hs.below (fun e=>Reg.Keeps.refl e _)
       ·obtain⟨v1,hv1,rfl⟩:∃ v,a.tmps[62]? = some v/\v=.int .i64 (nv:Int):=hg' _ (Reg.at_fact 7 rfl) (by kernel_rfl) (by simp[Reg.okTil])
        have u1:=Reg.eval_tmp hv1;have hv1x:IntKind.i64.wrap ((nv:Int)+1)=(nv:Int)+1:=IntWalk.i64_in _ (by omega);exact Reg.step_val rfl rfl rfl (w':=w1) (v:=.int .i64 ((nv:Int)+1)) (by go_simp) rfl hs.below (fun e=>Reg.Keeps.refl e _)
       ·obtain⟨v1,hv1,rfl⟩:∃ v,a.tmps[56]? = some v/\v=.slice (some ⟨q,0,none⟩) D.length k1:=hg' _ (Reg.at_fact 1 rfl) (by kernel_rfl) (by simp[Reg.okTil])
        obtain⟨v2,hv2,rfl⟩:∃ v,a.tmps[57]? = some v/\v=.int .i64 (step:Nat):=hg' _ (Reg.at_fact 2 rfl) (by kernel_rfl) (by simp[Reg.okTil])
        have u1:=Reg.eval_tmp hv1;have u2:=Reg.eval_tmp hv2;exact Reg.step_val (w':=w1) (v:=.pointer (some ⟨q,0+step,none⟩)) rfl rfl rfl (ix_int u1 u2 hstD) rfl hs.below (fun e=>Reg.Keeps.refl e _)
      ·intro vals w1 hF hfx hb1;have e64:vals 64=.pointer (some ⟨q,0+step,none⟩):=hF _ (Reg.at_fact 9 rfl) (show(10+1:Nat)<=99 by decide);have e63:vals 63=.int .i64 ((nv:Int)+1):=hF _ (Reg.at_fact 8 rfl) (show(10+1:Nat)<=99 by decide)
       simp only[List.map_cons,List.map_nil,e63,e64,Nat.zero_add]
       generalize vals 55=q55;generalize vals 56=q56;generalize vals 57=q57;generalize vals 58=q58;generalize vals 59=q59;generalize vals 60=q60;generalize vals 61=q61;generalize vals 62=q62;have y1:w1.cell? ⟨q,step,none⟩=some (.int .i64 (nv:Int)):=(hb1.cell (p:=⟨q,step,none⟩) hqlt).trans HX1.out;have HS1:=Hyd (show MorS wa w1 R O (.slice (some ⟨q,0,none⟩) D.length k1) (.slice E0 evs.length m0) D evs from⟨HS.out.bel.trans (hb1.mono HS.out.bel.size),(hb1.block _ (heap_lt HS.out.br)).trans HS.out.br,(hb1.block _ (heap_lt HS.out.bo)).trans HS.out.bo,own_below HS.out.rc hb1,own_below HS.out.re hb1⟩);have yf:=HS1.out.rc.frozenAt step;have hst5:=HS1.out.rc.stored step (.int .i64 ((nv:Int)+1))
       obtain⟨w5,hw5⟩:∃ w5,w5=w1.setCell ⟨q,step,none⟩ (.int .i64 ((nv:Int)+1)):=⟨_,rfl⟩
       rw[<-hw5]at hst5;have HN:=Hyd (show MorS wa w5 R O (.slice (some ⟨q,0,none⟩) D.length k1) (.slice E0 evs.length m0) (D.set step (nv+1)) evs from⟨by rw[hw5];exact HS1.out.bel.setCell (p:=⟨q,step,none⟩) (HS1.out.rc.lt q rfl).1 _,by rw[hw5,heap_setCell_other _ _ _ _ (Ne.symm HQR.out)];exact HS1.out.br,by rw[hw5,heap_setCell_other _ _ _ _ (Ne.symm HQO.out)];exact HS1.out.bo,by rw[List.length_set,show cntV (D.set step (nv+1))=(cntV D).set step (.int .i64 ((nv:Int)+1)) by unfold cntV;rw[List.map_set];rfl];exact hst5.1,own_kept2 HS1.out.re HS1.out.rc (by decide) hst5.2⟩);have HW5:=Hyd hw5;clear hF hfx e63 e64 hb1 HS HS1 HX1 HXF hst5 hw5 HQO HQR;(iterate 11 unfold Reg.puts)
       go_upto_region 13 with (fail)
       rw[<-HW5.out];have z1:w5.cell? ⟨O,1,none⟩=some (.slice E0 evs.length m0):=(CeH HN.out.bo 1).trans rfl;have xe5:=(HN.out.bel.block _ hze).trans XE.out;have y2:w5.cell? ⟨w.heap.size+1,0,none⟩=some (.int .i64 e.id):=(CeH xe5 0).trans rfl;have y3:w5.cell? ⟨w.heap.size+1,1,none⟩=some (.int .i64 e.time):=(CeH xe5 1).trans rfl;have y4:w5.cell? ⟨w.heap.size+1,2,none⟩=some (.int .u8 e.kind):=(CeH xe5 2).trans rfl;have y5:w5.cell? ⟨w.heap.size+1,3,none⟩=some (.int .i64 e.val):=(CeH xe5 3).trans rfl;obtain⟨i0,hi,hz0,hz1,hz2⟩:=info_parts infoDe;have HNA:=Hyd (Reg.own_new (w:=w5) (b:=0) (e:=59) (sz:=4) (n:=1) (cs:=#[.int .i64 e.id,.int .i64 e.time,.int .u8 e.kind,.int .i64 e.val]) rfl (Nat.zero_le _) rfl (by decide))
       have HNB:=Hyd (show Below w5.heap.size w5 (w5.alloc (.cells #[.int .i64 e.id,.int .i64 e.time,.int .u8 e.kind,.int .i64 e.val] 59)) from(Below.refl _ _).alloc (Nat.le_refl _) _);have HRE:=Hyd HN.out.re;have hsz5:=HN.out.bel.size;clear xe5 y1 yf HW5
       go_wp2_with (at_builtin;refine Reg.wpList_append_src _ rfl (.tmp 66) (.tmp 68) 33 rfl wa.heap.size 0 59 i0 _ 4 32 Tryz.underlying33 hi hz0 hz1 hz2 rfl (by decide) _ _ evs.length 1 _ _ rfl (own_below HRE.out HNB.out) rfl HNA.out ?d5 ?d6 ?d7 ?d8 ?_)
       case d5=>first | exact encE_one e | exact⟨rfl,rfl,rfl,rfl⟩
       case d6=>unfold maxLen;omega
       case d7=>omega
       case d8=>first | omega | (simp;omega)
       intro va' w6 ho6 hg6 hv6;obtain⟨A1,c1,rfl⟩:=(Sl.of_own ho6).shape;have bo6:=(Reg.Keeps.grown (show 53≠59 by decide) (own_below HRE.out HNB.out) hg6).2 _ _ (heap_alloc HN.out.bo);have br6:=(Reg.Keeps.grown (show 53≠59 by decide) (own_below HRE.out HNB.out) hg6).2 _ _ (heap_alloc HN.out.br);have rc6:=(Reg.Keeps.grown (show 3≠59 by decide) (own_below HRE.out HNB.out) hg6).1 _ _ _ _ _ (own_below HN.out.rc HNB.out);have hb6:=below_grown (HN.out.bel.trans (HNB.out.mono HN.out.bel.size)) (own_below HRE.out HNB.out) hg6 (by simp;omega) (Nat.le_refl _);have HM:=Hyd (MorS.put1 (l':=evs++[e]) hb6 br6 bo6 rc6 (by rw[List.length_append,List.length_singleton,cellsOf_snoc];exact ho6) hWO HRO.out);have zo:w6.cell? ⟨O,1,none⟩=some (.slice E0 evs.length m0):=(CeH bo6 1).trans rfl
       have fo:=frozen_of_row w6 _ 1 _ _ bo6
       obtain⟨w8,hw8⟩:∃ w8,w8=w6.setCell ⟨O,1,none⟩ (.slice A1 (evs.length+1) c1):=⟨_,rfl⟩
       rw[<-hw8]at HM;have HW8:=Hyd hw8;clear ho6 hg6 hv6 bo6 br6 rc6 hb6 hw8 HRE HNA HNB HN hi hz0 hz1 hz2 z1 y2 y3 y4 y5 hsz5
       go_upto_region 14 with (fail)
       rw[<-HW8.out];clear zo fo HW8;have bo:=HM.out.bo;have br:=HM.out.br;have z0:w8.cell? ⟨O,0,none⟩=some (.slice (some ⟨q,0,none⟩) D.length k1):=(CeH bo 0).trans rfl;have z1:w8.cell? ⟨O,1,none⟩=some (.slice A1 (evs.length+1) c1):=(CeH bo 1).trans rfl;have z2:w8.cell? ⟨O,2,none⟩=some (.bool false):=(CeH bo 2).trans rfl;have r0:w8.cell? ⟨R,0,none⟩=some (.slice none 0 0):=(CeH br 0).trans rfl;have r1:w8.cell? ⟨R,1,none⟩=some (.slice none 0 0):=(CeH br 1).trans rfl;have r2:w8.cell? ⟨R,2,none⟩=some (.bool false):=(CeH br 2).trans rfl;have f0:=frozen_of_row w8 _ 0 _ _ br;have f1:=frozen_of_row w8 _ 1 _ _ br;have f2:=frozen_of_row w8 _ 2 _ _ br;have s1:=(blk_setc br 0 (.slice (some ⟨q,0,none⟩) D.length k1)).trans rfl
       have s2:=(blk_setc s1 1 (.slice A1 (evs.length+1) c1)).trans rfl;have s3:=(blk_setc s2 2 (.bool false)).trans rfl;have HS3:=Hyd s3
       have HRES:=Hyd (show DOwnR w.heap.size (((w8.setCell ⟨R,0,none⟩ (.slice (some ⟨q,0,none⟩) D.length k1)).setCell ⟨R,1,none⟩ (.slice A1 (evs.length+1) c1)).setCell ⟨R,2,none⟩ (.bool false)) (.slice (some ⟨q,0,none⟩) D.length k1,.slice A1 (evs.length+1) c1,withR ⟨cs,evs,bl⟩ step e) from by
        rw[HWR.out];have rc:=HM.out.rc;have re:=HM.out.re
        exact⟨Joins.ownsRow_le (own_set (own_set (own_set rc br (by decide) 0 _) s1 (by decide) 1 _) s2 (by decide) 2 _) HBA.out.size,Joins.ownsRow_le (own_set (own_set (own_set re br (by decide) 0 _) s1 (by decide) 1 _) s2 (by decide) 2 _) HBA.out.size⟩)
       have hwr2:w.heap.size<=R:=(by omega);have HBF:=Hyd ((((HBA.out.trans (HM.out.bel.mono HBA.out.size)).setCell (p:=⟨R,0,none⟩) hwr2 (.slice (some ⟨q,0,none⟩) D.length k1)).setCell (p:=⟨R,1,none⟩) hwr2 (.slice A1 (evs.length+1) c1)).setCell (p:=⟨R,2,none⟩) hwr2 (.bool false));clear bo br s1 s2 s3;go_wp2_with fail;refine bodyPost_ret (res_o21 rfl ((CeH HS3.out 0).trans rfl) ((CeH HS3.out 1).trans rfl) ((CeH HS3.out 2).trans rfl)) rfl ?_;exact⟨_,_,rfl,HRES.out,HBF.out⟩
end Go.Proofs.YtcojnojdgigmdaaGreatDoor.WR
