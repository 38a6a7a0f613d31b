/- The walk of oxbowlaw21.twin: the document's run. -/
import Derived.Test.YtcojnojdgigmdaaGreatDoorB01
import Derived.Test.YtcojnojdgigmdaaGreatDoorWO21
set_option maxHeartbeats 3200000
set_option maxRecDepth 100000
namespace Go.Proofs.YtcojnojdgigmdaaGreatDoor.Reg
open Go Go.RowKit Mem
theorem step_copy {P:Program} {l:List Oper} {Q:Exit->Act->World->Prop} {W:World} {i s sx base:Nat} {F:Value->World->Prop} {a:Act} {w:World} {o:Oper} {e t:TypeId} {ti:TypeInfo} {z:Value} {sz bytes m c:Nat} {A:Option Addr} {ys:List Value}
  (ho:l[i]? = some o) (hg:o.guard=none) (hd:o.dst=some s) (hop:o.op=.call { callee:=.builtin .append,args:=#[.const (.slice none 0 0),.tmp sx],argTypes:=#[t,t] })
  (hbw:Below W.heap.size W w) (ht:P.underlying t=some (.slice e)) (hi:P.info? e=some ti) (hz:ti.zero=some z) (hsize:ti.size=sz) (hby:ti.bytes=bytes) (hzs:z.cells.size=sz) (hsz:0<sz)
  (hx:a.tmps[sx]? = some (.slice A m c)) (hm:0<m) (hlen:ys.length=m * sz) (hr:0<m->∃ b o:Nat,A=some ⟨b,o,none⟩/\∀ j u,ys[j]? = some u->w.cell? ⟨b,o+j,none⟩=some u) (h1:∀ y∈ys,y.oneCell'=true) (h63:m<=maxLen) (hbytes:m * bytes<=140737488355328) (hbase:base<=W.heap.size)
  (hF:∀ v' w',w'.ownsRow base e sz v' m ys->F v' w') :
  ∀ K:Act->World->Prop,(∀ v w',F v w' -> Below W.heap.size W w' -> (∀ e',(none:Option TypeId)≠some e' -> Keeps e' w w')->K (a.put (some s) v) w')->wpOp P l.toArray Q i K a w:=by
 intro K hK;have hown:w.ownsRow base e sz (.slice none 0 0) 0 []:=World.ownsRow_nil _ _ _ _;have hbs:base<=w.heap.size:=Nat.le_trans hbase hbw.size
 have key:∃ v' w',(Builtin.append_ #[t,t] o.type #[.slice none 0 0,.slice A m c]).run P w=.ok v' w'/\w'.ownsRow base e sz v' m ys/\w.grownBy w' (none:Option Nat):=by
  obtain⟨b,o',rfl,hc⟩:=hr hm;obtain⟨v',w',a1,a2,a3,_,a5⟩:=run_append_own_at (P:=P) w base t o.type e ti z sz bytes ht hi hz hsize hby hzs hsz (.slice none 0 0) 0 [] hown ⟨b,o',none⟩ m c ys hlen (fun j u hu=>by rw[lit_add];exact hc j u hu) h1 (by rw[Nat.zero_add];exact h63) (by rw[Nat.zero_add];exact hbytes) hbs;exact⟨v',w',a1,by simpa using a2,a3⟩
 obtain⟨v',w',a1,a2,a3⟩:=key;unfold wpOp
 have ho':l.toArray[i]? = some o:=by simpa using ho
 simp only[ho',Region.wanted,hg,if_true]
 refine .inl ?_;have hb2:Below w.heap.size w w':=⟨a3.os,a3.tape,a3.output,a3.size,fun k hk=>a3.block k hk (by simp)⟩;have k2:=hK v' w' (hF v' w' a2) (hbw.trans (hb2.mono hbw.size)) (fun e' _=>Keeps.below e' hb2);unfold Oper.wp execOp;have hcst:a.eval (.const (.slice none 0 0))=.slice none 0 0:=rfl
 simp only[hop,resolve,invoke,builtin,hcst,eval_tmp hx,List.map_toArray,List.map_cons,List.map_nil,Sem.run_bind,Sem.run_pure,a1,Result.andThen_ok]
 show K (a.put o.dst v') w'
 rw[hd];exact k2
end Go.Proofs.YtcojnojdgigmdaaGreatDoor.Reg
namespace Go.Proofs.YtcojnojdgigmdaaGreatDoor.WR
open Go Go.RowKit Go.Sort PL PR Mem
structure TwS (wa wr:World) (O:Nat) (cv ev:Value) (bl:Bool) (c:List Nat) (l:List Ev):Prop where
 bel:Below wa.heap.size wa wr
 le:wa.heap.size<=O
 bo:wr.heap[O]? = some (.cells #[cv,ev,.bool bl] 53 (0,0))
 rc:wr.ownsRow wa.heap.size 3 1 cv c.length (cntV c)
 re:wr.ownsRow wa.heap.size 59 4 ev l.length (cellsOf encE l)
theorem TwS.put {wa w':World} {O:Nat} {cv ev v':Value} {bl:Bool} {c:List Nat} {l':List Ev} (h1:Below wa.heap.size wa w') (hO:wa.heap.size<=O)
  (bo:w'.heap[O]? = some (.cells #[cv,ev,.bool bl] 53 (0,0))) (rc:w'.ownsRow wa.heap.size 3 1 cv c.length (cntV c)) (re:w'.ownsRow wa.heap.size 59 4 v' l'.length (cellsOf encE l')) :
  TwS wa (w'.setCell ⟨O,1,none⟩ v') O cv v' bl c l' :=
 ⟨h1.setCell (p:=⟨O,1,none⟩) hO _,hO,(blk_setc bo 1 _).trans rfl,own_set rc bo (by decide) 1 _,own_set re bo (by decide) 1 _⟩
theorem load_cnt {w:World} {g j:Nat} {u:Value} (h:w.cell? ⟨g,j,none⟩=some u):(Instr.loadAt 45 (.pointer (some ⟨g,j,none⟩))).run Tryz.prog w=.ok u w:=by go_simp
theorem load_bol {w:World} {g j:Nat} {b:Bool} (h:w.cell? ⟨g,j,none⟩=some (.bool b)):(Instr.loadAt 4 (.pointer (some ⟨g,j,none⟩))).run Tryz.prog w=.ok (.bool b) w:=by go_simp
theorem res_tw {w:World} {R:Nat} {c0 c1 c2:Value} {tmps:Array Value} (h6:tmps[2]? = some (.pointer (some ⟨R,0,none⟩))) (e0:w.cell? ⟨R,0,none⟩=some c0) (e1:w.cell? ⟨R,1,none⟩=some c1) (e2:w.cell? ⟨R,2,none⟩=some c2) :
  (results Tryz.f16 tmps).run Tryz.prog w=.ok (.agg #[c0,c1,c2]) w:=by
 simp[results,Tryz.results16,go_sem,h6,e0,e1,e2]
theorem twin_any (cv ev:Value) (r:RRun) (w:World) (hr:RunAt w w.heap.size (.agg #[cv,ev,.bool r.blocked]) r) (hcl0:0<r.counts.length) (hcl:r.counts.length<=1000000) (hel:r.evs.length<=1000000) :
  Calls Tryz.prog 16 #[.agg #[cv,ev,.bool r.blocked]] w fun en w'=>∃ cv' ev',en=.returned (.agg #[cv',ev',.bool r.blocked])/\DOwnR w.heap.size w' (cv',ev',r)/\Below w.heap.size w w':=by
 have mixed:Tryz.prog.follows .mixedOrders=true:=by kernel_rfl
 obtain⟨cv',ev',e0,hc,he⟩:=hr
 obtain⟨rfl,rfl⟩:cv=cv'/\ev=ev':=by simpa using e0
 obtain⟨ca,cc,rfl⟩:=Sl.shape hc;obtain⟨ea,ec,rfl⟩:=Sl.shape he;obtain⟨cs,evs,bl⟩:=r
 simp only at hc he hcl0 hcl hel ⊢
 obtain⟨wa,hwa⟩:∃ wa,wa=(w.alloc (.cells #[.slice ca cs.length cc,.slice ea evs.length ec,.bool bl] 47)).alloc (.cells #[.slice none 0 0,.slice none 0 0,.bool false] 53):=⟨_,rfl⟩
 have hza:wa.heap.size=w.heap.size+2:=by rw[hwa];simp
 have hbA:Below w.heap.size w wa:=by rw[hwa];exact((Below.refl _ _).alloc (Nat.le_refl _) _).alloc (by simp) _
 have HBA:=Hyd hbA;have XR:=Hyd (show wa.heap[w.heap.size]? = some (.cells #[.slice ca cs.length cc,.slice ea evs.length ec,.bool bl] 47 (0,0)) by rw[hwa];exact heap_alloc (heap_new rfl));have XZ:=Hyd (show wa.heap[w.heap.size+1]? = some (.cells #[.slice none 0 0,.slice none 0 0,.bool false] 53 (0,0)) by rw[hwa];exact heap_new (by simp));have HCS:=Hyd (Sl.keep hc fun a ha=>hbA.cell ha);have HE:=Hyd (Sl.keep he fun a ha=>hbA.cell ha);have HWA:=Hyd hwa;have HZA:=Hyd hza
 have hzr:w.heap.size<wa.heap.size:=by omega
 have hz1:w.heap.size+1<wa.heap.size:=by omega
 obtain⟨i0,hi,hz0,hz1',hz2⟩:=info_parts infoInt
 have HRD:=Hyd (show ∀ w',Below wa.heap.size wa w' -> 0<cs.length->∃ b o:Nat,ca=some ⟨b,o,none⟩/\∀ j u,(cntV cs)[j]? = some u->w'.cell? ⟨b,o+j,none⟩=some u from fun w' hw' h=>by
  obtain⟨_,A,c,e1,_,hr⟩:=HCS.out
  obtain⟨rfl,_⟩:ca=A/\cc=c:=by simpa using e1
  obtain⟨b,o,e2,hb,hx⟩:=hr h
  exact⟨b,o,e2,fun j u hu=>(hw'.cell (p:=⟨b,o+j,none⟩) (by show b<_;omega)).trans (hx j u hu)⟩)
 clear hc he hwa hza hbA e0
 go_enter Tryz.func16,Tryz.ntmps16
 go_upto_region 1 with (fail)
 rw[<-HWA.out]
 refine Reg.stand_order (W:=wa) (h:=7) (t:=1)
  [⟨0,6,[],99,[],none,fun v _=>v=.pointer (some ⟨w.heap.size,0,none⟩)⟩,
   ⟨1,7,[],99,[],none,fun v _=>v=.slice ca cs.length cc⟩,
   ⟨2,8,[3],99,[],none,fun v w'=>w'.ownsRow wa.heap.size 3 1 v cs.length (cntV cs)⟩,
   ⟨3,9,[],99,[],none,fun v _=>v=.pointer (some ⟨w.heap.size,2,none⟩)⟩,
   ⟨4,10,[],99,[],none,fun v _=>v=.bool bl⟩,
   ⟨5,11,[3],99,[],none,fun v w'=>∃ A1 c1,v=.agg #[.slice A1 cs.length c1,.slice none 0 0,.bool bl]/\w'.ownsRow wa.heap.size 3 1 (.slice A1 cs.length c1) cs.length (cntV cs)⟩,
   ⟨6,3,[53],99,[],none,fun v w'=>∃ g,v=.pointer (some ⟨g,0,none⟩)/\wa.heap.size<=g/\w'.heap[g]? = some (.cells #[.slice none 0 0,.slice none 0 0,.bool false] 53 (0,0))⟩]
  []
  (by kernel_rfl) rfl (by kernel_rfl) (by kernel_rfl) (by kernel_rfl) (show [0,1,2,3,4,5,6].Nodup by decide) (show ∀ i,i<7->i∈[0,1,2,3,4,5,6] by decide) ?_ (show [6,7,8,9,10,11,3].Nodup by decide) (show ∀ s∈[6,7,8,9,10,11,3],s<27 by decide) (by kernel_rfl) ?_ ?_ (Below.refl _ _) ?_ ?_ ?_
 ·intro f hf
  simp only[List.mem_cons,List.not_mem_nil,or_false]at hf
  rcases hf with rfl|rfl|rfl|rfl|rfl|rfl|rfl<;>simp
 ·intro f hf v w1 w2 hk hF
  simp only[List.mem_cons,List.not_mem_nil,or_false]at hf
  rcases hf with rfl|rfl|rfl|rfl|rfl|rfl|rfl
  ·exact hF
  ·exact hF
  ·exact(hk 3 (by simp)).1 _ _ _ _ _ hF
  ·exact hF
  ·exact hF
  ·obtain⟨A1,c1,e1,h1⟩:=hF;exact⟨A1,c1,e1,(hk 3 (by simp)).1 _ _ _ _ _ h1⟩
  ·obtain⟨g,e1,h1,h⟩:=hF;exact⟨g,e1,h1,(hk 53 (by simp)).2 _ _ h⟩
 ·intro f hf;cases hf
 ·intro f hf;cases hf
 ·intro f hf a w1 hs hg' hst;have t1:a.eval (.tmp 1)=.pointer (some ⟨w.heap.size,0,none⟩):=Reg.eval_tmp ((hs.out 1 (show 1∉[6,7,8,9,10,11,3] by decide)).trans rfl)
  simp only[List.mem_cons,List.not_mem_nil,or_false]at hf
  rcases hf with rfl|rfl|rfl|rfl|rfl|rfl|rfl
  ·exact Reg.step_val rfl rfl rfl (v:=.pointer (some ⟨w.heap.size,0,none⟩)) (w':=w1) (Ord.run_fld t1 (by go_simp)) rfl hs.below (fun e=>Reg.Keeps.refl e _)
  ·obtain⟨v1,hv1,rfl⟩:∃ v,a.tmps[6]? = some v/\v=.pointer (some ⟨w.heap.size,0,none⟩):=hg' _ (Reg.at_fact 0 rfl) (by kernel_rfl) (by simp[Reg.okTil])
   have u1:=Reg.eval_tmp hv1;exact Reg.step_val rfl rfl rfl (Reg.run_load u1 (load_cnt ((CeH ((hs.below.block _ hzr).trans XR.out) 0).trans rfl))) rfl hs.below (fun e=>Reg.Keeps.refl e _)
  ·obtain⟨v1,hv1,rfl⟩:∃ v,a.tmps[7]? = some v/\v=.slice ca cs.length cc:=hg' _ (Reg.at_fact 1 rfl) (by kernel_rfl) (by simp[Reg.okTil])
   exact Reg.step_copy (ys:=cntV cs) rfl rfl rfl rfl hs.below Tryz.underlying45 hi hz0 hz1' hz2 rfl (by decide) hv1 hcl0 (by simp[cntV]) (HRD.out w1 hs.below) (by intro u hu;obtain⟨n,_,rfl⟩:=List.mem_map.1 hu;rfl) (by unfold maxLen;omega) (by omega) (Nat.le_refl _) (fun v' w' h=>h)
  ·exact Reg.step_val rfl rfl rfl (v:=.pointer (some ⟨w.heap.size,2,none⟩)) (w':=w1) (Ord.run_fld t1 (by go_simp)) rfl hs.below (fun e=>Reg.Keeps.refl e _)
  ·obtain⟨v1,hv1,rfl⟩:∃ v,a.tmps[9]? = some v/\v=.pointer (some ⟨w.heap.size,2,none⟩):=hg' _ (Reg.at_fact 3 rfl) (by kernel_rfl) (by simp[Reg.okTil])
   have u1:=Reg.eval_tmp hv1;exact Reg.step_val rfl rfl rfl (Reg.run_load u1 (load_bol ((CeH ((hs.below.block _ hzr).trans XR.out) 2).trans rfl))) rfl hs.below (fun e=>Reg.Keeps.refl e _)
  ·obtain⟨v1,hv1,h1⟩:∃ v,a.tmps[8]? = some v/\w1.ownsRow wa.heap.size 3 1 v cs.length (cntV cs):=hg' _ (Reg.at_fact 2 rfl) (by kernel_rfl) (by simp[Reg.okTil])
   obtain⟨v2,hv2,rfl⟩:∃ v,a.tmps[10]? = some v/\v=.bool bl:=hg' _ (Reg.at_fact 4 rfl) (by kernel_rfl) (by simp[Reg.okTil])
   have u1:=Reg.eval_tmp hv1;have u2:=Reg.eval_tmp hv2;obtain⟨A1,c1,rfl⟩:=Sl.shape (Sl.of_own h1);exact Reg.step_val rfl rfl rfl (by go_simp) ⟨_,_,rfl,h1⟩ hs.below (fun e=>Reg.Keeps.refl e _)
  ·exact Reg.step_val rfl rfl rfl (by go_simp) ⟨_,rfl,hs.below.size,heap_new rfl⟩ (below_alloc0 hs.below) (fun e=>Reg.Keeps.alloc e _ _)
 ·intro vals w1 hF hfx hb1;obtain⟨A1,c1,e11,o1⟩:=hF _ (Reg.at_fact 5 rfl) (show(7+1:Nat)<=99 by decide);obtain⟨O,e3,hol,hoh⟩:=hF _ (Reg.at_fact 6 rfl) (show(7+1:Nat)<=99 by decide)
  simp only at e11 e3
  simp only[List.map_cons,List.map_nil,e11,e3]
  generalize vals 6=q6;generalize vals 7=q7;generalize vals 8=q8;generalize vals 9=q9;generalize vals 10=q10;have g0:w1.cell? ⟨O,0,none⟩=some (.slice none 0 0):=(CeH hoh 0).trans rfl;have g1:w1.cell? ⟨O,1,none⟩=some (.slice none 0 0):=(CeH hoh 1).trans rfl;have g2:w1.cell? ⟨O,2,none⟩=some (.bool false):=(CeH hoh 2).trans rfl;have f0:=frozen_of_row w1 O 0 _ _ hoh;have f1:=frozen_of_row w1 O 1 _ _ hoh;have f2:=frozen_of_row w1 O 2 _ _ hoh;have k1:=(blk_setc hoh 0 (.slice A1 cs.length c1)).trans rfl;have k2:=(blk_setc k1 1 (.slice none 0 0)).trans rfl
  obtain⟨w2,hw2⟩:∃ w2,w2=((w1.setCell ⟨O,0,none⟩ (.slice A1 cs.length c1)).setCell ⟨O,1,none⟩ (.slice none 0 0)).setCell ⟨O,2,none⟩ (.bool bl):=⟨_,rfl⟩
  have HS0:=Hyd (show TwS wa w2 O (.slice A1 cs.length c1) (.slice none 0 0) bl cs [] from by
   rw[hw2]
   exact⟨((hb1.setCell (p:=⟨O,0,none⟩) hol _).setCell (p:=⟨O,1,none⟩) hol _).setCell (p:=⟨O,2,none⟩) hol _,hol,(blk_setc k2 2 (.bool bl)).trans rfl,own_set (own_set (own_set o1 hoh (by decide) 0 _) k1 (by decide) 1 _) k2 (by decide) 2 _,World.ownsRow_nil _ _ _ _⟩)
  have HW2:=Hyd hw2;clear hF hfx e11 e3 o1 hoh hb1 k1 k2 hw2 hi hz0 hz1' hz2;(iterate 8 unfold Reg.puts)
  go_upto_region 2 with (fail)
  rw[<-HW2.out];clear g0 g1 g2 f0 f1 f2 HW2;have y0:w2.cell? ⟨w.heap.size,1,none⟩=some (.slice ea evs.length ec):=(CeH ((HS0.out.bel.block _ hzr).trans XR.out) 1).trans rfl;go_wp2_with fail;clear y0
  go_loopw [15] (fun u wr=>∃ k ev,k<=evs.length/\u=.int .i64 (k:Nat)/\TwS wa wr O (.slice A1 cs.length c1) ev bl cs (evs.take k)) (fun u _=>evs.length-(intOf u).toNat)
  case atStart=>exact⟨0,_,Nat.zero_le _,rfl,HS0.out⟩
  case round =>
   clear HS0;obtain⟨k,ev,hk,rfl,hst0⟩:=hrel;have HS:=Hyd hst0;have hsz:=hst0.bel.size;have hol:=hst0.le;clear hst0
   by_cases hlt:k<evs.length
   ·have hki:(k:Int)<(evs.length:Int):=by omega
    have hk0:(0:Int)<=(k:Int):=by omega
    obtain⟨b2,o2,c2,hv2,hb2,x0,x1,x2,x3⟩:=Evs.at_ HE.out hlt
    obtain⟨rfl,rfl⟩:ea=some ⟨b2,o2,none⟩/\ec=c2:=by simpa using hv2
    have hb3:b2<wa.heap.size:=by omega
    have z0:=(HS.out.bel.cell (p:=⟨b2,o2+k * 4,none⟩) hb3).trans x0;have z1:=(HS.out.bel.cell (p:=⟨b2,o2+k * 4+1,none⟩) hb3).trans x1;have z2:=(HS.out.bel.cell (p:=⟨b2,o2+k * 4+2,none⟩) hb3).trans x2;have z3:=(HS.out.bel.cell (p:=⟨b2,o2+k * 4+3,none⟩) hb3).trans x3;have HTA:=Hyd (show evs.take (k+1)=evs.take k++[evs[k]] from List.take_succ_eq_append_getElem hlt)
    have hla:(evs.take k).length<=1000000:=by rw[List.length_take];omega
    obtain⟨p,hp⟩:∃ p,evs[k]=p:=⟨_,rfl⟩
    rw[hp]at z0 z1 z2 z3 HTA
    obtain⟨xs,hxs⟩:∃ xs,evs.take k=xs:=⟨_,rfl⟩
    rw[hxs]at HS HTA hla;clear hv2 hp hxs x0 x1 x2 x3
    obtain⟨we,hwe⟩:∃ we,we=wr.alloc (.cells #[.int .i64 p.id,.int .i64 p.time,.int .u8 p.kind,.int .i64 p.val] 44):=⟨_,rfl⟩
    have hbe:Below wr.heap.size wr we:=by rw[hwe];exact(Below.refl _ _).alloc (Nat.le_refl _) _
    have XE:=Hyd (show we.heap[wr.heap.size]? = some (.cells #[.int .i64 p.id,.int .i64 p.time,.int .u8 p.kind,.int .i64 p.val] 44 (0,0)) by rw[hwe];exact heap_new rfl);have HBE:=Hyd hbe;have HWE:=Hyd hwe;clear hbe hwe
    go_upto_region 5 with (fail)
    rw[<-HWE.out];have bo:=(HBE.out.block _ (heap_lt HS.out.bo)).trans HS.out.bo;have o1:we.cell? ⟨O,1,none⟩=some ev:=(CeH bo 1).trans rfl;have v0:we.cell? ⟨wr.heap.size,0,none⟩=some (.int .i64 p.id):=(CeH XE.out 0).trans rfl;have v1:we.cell? ⟨wr.heap.size,1,none⟩=some (.int .i64 p.time):=(CeH XE.out 1).trans rfl;have v2:we.cell? ⟨wr.heap.size,2,none⟩=some (.int .u8 p.kind):=(CeH XE.out 2).trans rfl;have v3:we.cell? ⟨wr.heap.size,3,none⟩=some (.int .i64 p.val):=(CeH XE.out 3).trans rfl;obtain⟨i0,hi,hz0,hz1,hz2⟩:=info_parts infoDe;have HNA:=Hyd (Reg.own_new (w:=we) (b:=0) (e:=59) (sz:=4) (n:=1) (cs:=#[.int .i64 p.id,.int .i64 p.time,.int .u8 p.kind,.int .i64 p.val]) rfl (Nat.zero_le _) rfl (by decide))
    have HNB:=Hyd (show Below we.heap.size we (we.alloc (.cells #[.int .i64 p.id,.int .i64 p.time,.int .u8 p.kind,.int .i64 p.val] 59)) from(Below.refl _ _).alloc (Nat.le_refl _) _);have HRE:=Hyd (own_below (own_below HS.out.re HBE.out) HNB.out);have hszb:=HBE.out.size;clear bo z0 z1 z2 z3
    go_wp2_with (at_builtin;refine Reg.wpList_append_src _ rfl (.tmp 20) (.tmp 22) 33 rfl wa.heap.size 0 59 i0 _ 4 32 Tryz.underlying33 hi hz0 hz1 hz2 rfl (by decide) _ _ xs.length 1 _ _ rfl HRE.out rfl HNA.out ?d5 ?d6 ?d7 ?d8 ?_)
    case d5=>first | exact encE_one p | exact⟨rfl,rfl,rfl,rfl⟩
    case d6=>unfold maxLen;omega
    case d7=>omega
    case d8=>first | omega | (simp;omega)
    intro va' w6 ho6 hg6 hv6;obtain⟨A2,c2,rfl⟩:=(Sl.of_own ho6).shape;have bo6:=(Reg.Keeps.grown (show 53≠59 by decide) HRE.out hg6).2 _ _ (heap_alloc ((HBE.out.block _ (heap_lt HS.out.bo)).trans HS.out.bo));have rc6:=(Reg.Keeps.grown (show 3≠59 by decide) HRE.out hg6).1 _ _ _ _ _ (own_below (own_below HS.out.rc HBE.out) HNB.out);have hb6:=below_grown ((HS.out.bel.trans (HBE.out.mono HS.out.bel.size)).trans (HNB.out.mono (by omega))) HRE.out hg6 (by simp;omega) (Nat.le_refl _);have HM:=Hyd (TwS.put (l':=xs++[p]) hb6 hol bo6 rc6 (by rw[List.length_append,List.length_singleton,cellsOf_snoc];exact ho6));have zo:w6.cell? ⟨O,1,none⟩=some ev:=(CeH bo6 1).trans rfl;have fo:=frozen_of_row w6 _ 1 _ _ bo6;clear ho6 hg6 hv6 bo6 rc6 hb6 HRE HNA HNB hi hz0 hz1 hz2 o1 v0 v1 v2 v3 HS HBE XE HWE
    go_wp2_with fail;go_roundw
    case rel=>exact⟨k+1,_,by omega,by go_num,by rw[HTA.out];exact HM.out⟩
    case measure=>simp[intOf];omega
   ·obtain rfl:k=evs.length:=by omega
    rw[List.take_length]at HS;obtain⟨E0,m0,rfl⟩:=(Sl.of_own HS.out.re).shape;have bo:=HS.out.bo;have br:=(HS.out.bel.block _ hz1).trans XZ.out;have z0:wr.cell? ⟨O,0,none⟩=some (.slice A1 cs.length c1):=(CeH bo 0).trans rfl;have z1:wr.cell? ⟨O,1,none⟩=some (.slice E0 evs.length m0):=(CeH bo 1).trans rfl;have z2:wr.cell? ⟨O,2,none⟩=some (.bool bl):=(CeH bo 2).trans rfl;have r0:wr.cell? ⟨w.heap.size+1,0,none⟩=some (.slice none 0 0):=(CeH br 0).trans rfl;have r1:wr.cell? ⟨w.heap.size+1,1,none⟩=some (.slice none 0 0):=(CeH br 1).trans rfl;have r2:wr.cell? ⟨w.heap.size+1,2,none⟩=some (.bool false):=(CeH br 2).trans rfl;have f0:=frozen_of_row wr _ 0 _ _ br;have f1:=frozen_of_row wr _ 1 _ _ br;have f2:=frozen_of_row wr _ 2 _ _ br
    have s1:=(blk_setc br 0 (.slice A1 cs.length c1)).trans rfl;have s2:=(blk_setc s1 1 (.slice E0 evs.length m0)).trans rfl;have s3:=(blk_setc s2 2 (.bool bl)).trans rfl;have HS3:=Hyd s3
    have HRES:=Hyd (show DOwnR w.heap.size (((wr.setCell ⟨w.heap.size+1,0,none⟩ (.slice A1 cs.length c1)).setCell ⟨w.heap.size+1,1,none⟩ (.slice E0 evs.length m0)).setCell ⟨w.heap.size+1,2,none⟩ (.bool bl)) (.slice A1 cs.length c1,.slice E0 evs.length m0,⟨cs,evs,bl⟩) from
     ⟨Joins.ownsRow_le (own_set (own_set (own_set HS.out.rc br (by decide) 0 _) s1 (by decide) 1 _) s2 (by decide) 2 _) HBA.out.size,Joins.ownsRow_le (own_set (own_set (own_set HS.out.re br (by decide) 0 _) s1 (by decide) 1 _) s2 (by decide) 2 _) HBA.out.size⟩)
    have hwr2:w.heap.size<=w.heap.size+1:=by omega
    have HBF:=Hyd ((((HBA.out.trans (HS.out.bel.mono HBA.out.size)).setCell (p:=⟨w.heap.size+1,0,none⟩) hwr2 (.slice A1 cs.length c1)).setCell (p:=⟨w.heap.size+1,1,none⟩) hwr2 (.slice E0 evs.length m0)).setCell (p:=⟨w.heap.size+1,2,none⟩) hwr2 (.bool bl));clear bo br s1 s2 s3;go_wp2_with fail;refine bodyPost_ret (res_tw rfl ((CeH HS3.out 0).trans rfl) ((CeH HS3.out 1).trans rfl) ((CeH HS3.out 2).trans rfl)) rfl ?_;exact⟨_,_,rfl,HRES.out,HBF.out⟩
end Go.Proofs.YtcojnojdgigmdaaGreatDoor.WR
