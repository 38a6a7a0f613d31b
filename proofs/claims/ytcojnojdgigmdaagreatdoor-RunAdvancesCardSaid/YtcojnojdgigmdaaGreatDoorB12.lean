/- The walks of plan.Compile, planned. -/
import Derived.Test.YtcojnojdgigmdaaGreatDoorWMake1
import Derived.Test.YtcojnojdgigmdaaGreatDoorB01
import Derived.Test.YtcojnojdgigmdaaGreatDoorB10
import Derived.Test.YtcojnojdgigmdaaGreatDoorWR19e
import Derived.Test.YtcojnojdgigmdaaGreatDoorWR20d
import Derived.Test.YtcojnojdgigmdaaGreatDoorB02
/- The walks of plan.Compile and Plan.Binds. -/
set_option maxHeartbeats 3200000
set_option maxRecDepth 100000
namespace Go.Proofs.YtcojnojdgigmdaaGreatDoor.WL
open Go Go.RowKit Go.Sort PL PP Mem WP
def gS (s:Stp):GS:=⟨s.k,s.nm,s.neg,s.lo,s.hi⟩
def gC (c:Cnd):GC:=⟨c.l,c.op,c.r,c.k⟩
theorem cells_gS (l:List Stp):cellsOf encS l=cellsOf encG (l.map gS):=by
 unfold cellsOf;rw[List.flatMap_map];rfl
theorem cells_gC (l:List Cnd):cellsOf encC l=cellsOf encD (l.map gC):=by
 unfold cellsOf;rw[List.flatMap_map];rfl
def PostC (W:World) (r:Sum (Nat×Int) Ptn) (e:Ending) (w':World):Prop :=
 Below W.heap.size W w'/\match r with
 | .inl (_,er)=>e=.returned (.tuple #[.agg #[nilS,.int .i64 0],.int .i64 er])
 | .inr p=>((checkP (p.ss.map gS) (p.cs.map gC) p.wi).2≠0/\e=.returned (.tuple #[.agg #[nilS,.int .i64 0],.int .i64 (checkP (p.ss.map gS) (p.cs.map gC) p.wi).2])) \/
  (checkP (p.ss.map gS) (p.cs.map gC) p.wi=(0,0)/\OKP (p.ss.map gS) (p.cs.map gC) p.wi/\∃ vs,e=.returned (.tuple #[.agg #[vs,.int .i64 p.wi],.int .i64 0])/\PlanAt w' W.heap.size w'.heap.size vs (groups (unitl (p.ss.map gS))) (testsAt (p.ss.map gS) (p.cs.map gC)))
theorem res_comp {w:World} {B:Nat} {c0 c1 v3:Value} {tmps:Array Value} (h2:tmps[2]? = some (.pointer (some ⟨B,0,none⟩))) (h3:tmps[3]? = some v3)
  (e0:w.cell? ⟨B,0,none⟩=some c0) (e1:w.cell? ⟨B,1,none⟩=some c1) :
  (results Tryz.f25 tmps).run Tryz.prog w=.ok (.tuple #[.agg #[c0,c1],v3]) w:=by
 simp[results,Tryz.results25,go_sem,h2,h3,e0,e1]
theorem compile_any (s:ByteArray) (W:World):Calls Tryz.prog 25 #[.string s] W (PostC W (pParse s.data.toList)):=by
 obtain⟨w1,hw1⟩:∃ w1,w1=W.alloc (.cells #[nilS,.int .i64 0] 25):=⟨_,rfl⟩
 have hz1:w1.heap.size=W.heap.size+1:=by rw[hw1];simp
 have hb1:=Hyd (show Below W.heap.size W w1 by rw[hw1];exact(Below.refl _ _).alloc (Nat.le_refl _) _);have P1:=Hyd (show w1.heap[W.heap.size]? = some (.cells #[nilS,.int .i64 0] 25 (0,0)) by rw[hw1];exact heap_new rfl);have HP:=Hyd (parse_any s w1);have HW1:=Hyd hw1;clear hw1;unfold PostC
 obtain⟨pr,hpr⟩:∃ pr,pParse s.data.toList=pr:=⟨_,rfl⟩
 rw[hpr]at HP ⊢;have HPR:=Hyd hpr;clear hpr
 go_enter Tryz.func25,Tryz.ntmps25
 go_wp2_with fail;rw[<-HW1.out]
 cases pr with
 | inl f =>
  obtain⟨k,er⟩:=f;refine HP.out.mono ?_;rintro e w2 ⟨hb2,rfl⟩;have hz2:=hb2.size
  have her:(er != 0)=true:=by simp[parse_nz HPR.out]
  have Q1:=Hyd ((hb2.block _ (by omega)).trans P1.out);have HB2:=Hyd (hb1.out.trans (hb2.mono (by omega)));have u0:w2.cell? ⟨W.heap.size,0,none⟩=some nilS:=(CeH Q1.out 0).trans rfl;have u1:w2.cell? ⟨W.heap.size,1,none⟩=some (.int .i64 0):=(CeH Q1.out 1).trans rfl;have f0:w2.frozen? ⟨W.heap.size,0,none⟩=false:=Lib.frozen_of_heap Q1.out 0;have f1:w2.frozen? ⟨W.heap.size,1,none⟩=false:=Lib.frozen_of_heap Q1.out 1
  have hnw:W.heap.size≠w2.heap.size:=by omega
  have hnw':w2.heap.size≠W.heap.size:=by omega
  have Q1a:=blk_alloc Q1.out (.cells #[nilS,nilS,.int .i64 0] 140);have hba:=HB2.out.alloc (by omega) (.cells #[nilS,nilS,.int .i64 0] 140);have v0:=(CeH Q1a 0).trans rfl;have v1:=(CeH Q1a 1).trans rfl;have g0:=Lib.frozen_of_heap Q1a 0;have g1:=Lib.frozen_of_heap Q1a 1;have QA:=Hyd Q1a;have HBA:=Hyd hba;clear hb2 Q1a hba;go_wp2_with fail;have R1:=blk_set (blk_set QA.out 0 nilS) 1 (.int .i64 0);refine bodyPost_ret (res_comp rfl rfl ((CeH R1 0).trans rfl) ((CeH R1 1).trans rfl)) rfl ?_;exact⟨(HBA.out.setCell (p:=⟨W.heap.size,0,none⟩) (Nat.le_refl _) _).setCell (p:=⟨W.heap.size,1,none⟩) (Nat.le_refl _) _,rfl⟩
 | inr p =>
  refine HP.out.mono ?_;rintro e w2 ⟨hb2,sl,cl,rfl,ho1,ho2⟩;have hz2:=hb2.size;have hlen:=PLen.parse_len HPR.out;obtain⟨sad,scap,rfl⟩:=own_slice ho1;obtain⟨cad,ccap,rfl⟩:=own_slice ho2
  obtain⟨w3,hw3⟩:∃ w3,w3=w2.alloc (.cells #[.slice sad p.ss.length scap,.slice cad p.cs.length ccap,.int .i64 p.wi] 140):=⟨_,rfl⟩
  have hb3:Below w2.heap.size w2 w3:=by rw[hw3];exact(Below.refl _ _).alloc (Nat.le_refl _) _
  have hz3:w3.heap.size=w2.heap.size+1:=by rw[hw3];simp
  have hs1:Stps w3 w3.heap.size (.slice sad p.ss.length scap) (p.ss.map gS):=by
   have h:=Sl.more (Sl.below (Sl.of_own ho1) hb3) hb3.size;rw[cells_gS]at h;unfold Stps;rw[List.length_map];exact h
  have hs2:Cnds w3 w3.heap.size (.slice cad p.cs.length ccap) (p.cs.map gC):=by
   have h:=Sl.more (Sl.below (Sl.of_own ho2) hb3) hb3.size;rw[cells_gC]at h;unfold Cnds;rw[List.length_map];exact h
  have hm:=make_any (.slice sad p.ss.length scap) (.slice cad p.cs.length ccap) p.wi (p.ss.map gS) (p.cs.map gC) w3 hs1 hs2 (by rw[List.length_map];unfold maxLen;omega) (by rw[List.length_map];unfold maxLen;omega);have HM:=Hyd hm;have Q1:=Hyd ((hb3.block _ (by omega)).trans ((hb2.block _ (by omega)).trans P1.out));have HB3:=Hyd (hb1.out.trans ((hb2.mono (by omega)).trans (hb3.mono (by omega))));have HW3:=Hyd hw3;clear hb2 hb3 hs1 hs2 hm hw3 ho1 ho2;go_wp2_with fail;rw[<-HW3.out];refine HM.out.mono ?_;rintro e w4 ⟨hb4,hpost⟩;have hz4:=hb4.size;have Q4:=Hyd ((hb4.block _ (by omega)).trans Q1.out);have HB4:=Hyd (HB3.out.trans (hb4.mono (by omega)));clear hb4
  rcases hpost with ⟨hbad,rfl⟩ | ⟨hck,hokp,vs,rfl,hpa⟩
  ·have Q1a:=blk_alloc Q4.out (.cells #[nilS,.int .i64 0] 25);have hba:=HB4.out.alloc (by omega) (.cells #[nilS,.int .i64 0] 25);have v0:=(CeH Q1a 0).trans rfl;have v1:=(CeH Q1a 1).trans rfl;have g0:=Lib.frozen_of_heap Q1a 0;have g1:=Lib.frozen_of_heap Q1a 1;have QA:=Hyd Q1a;have HBA:=Hyd hba;have HBAD:=Hyd hbad
   have hnw:W.heap.size≠w4.heap.size:=by omega
   have hnw':w4.heap.size≠W.heap.size:=by omega
   clear Q1a hba hbad;go_wp2_with fail;have R1:=blk_set (blk_set QA.out 0 nilS) 1 (.int .i64 0);refine bodyPost_ret (res_comp rfl rfl ((CeH R1 0).trans rfl) ((CeH R1 1).trans rfl)) rfl ?_;exact⟨(HBA.out.setCell (p:=⟨W.heap.size,0,none⟩) (Nat.le_refl _) _).setCell (p:=⟨W.heap.size,1,none⟩) (Nat.le_refl _) _,.inl ⟨HBAD.out,rfl⟩⟩
  ·have Q1a:=blk_alloc Q4.out (.cells #[vs,.int .i64 p.wi] 25);have hba:=HB4.out.alloc (by omega) (.cells #[vs,.int .i64 p.wi] 25);have v0:=(CeH Q1a 0).trans rfl;have v1:=(CeH Q1a 1).trans rfl;have g0:=Lib.frozen_of_heap Q1a 0;have g1:=Lib.frozen_of_heap Q1a 1;have QA:=Hyd Q1a;have HBA:=Hyd hba;have HCK:=Hyd hck;have HOK:=Hyd hokp;have HPA:=Hyd hpa
   have hnw:W.heap.size≠w4.heap.size:=by omega
   have hnw':w4.heap.size≠W.heap.size:=by omega
   obtain⟨vad,vcap,hvs⟩:∃ ad c,vs=.slice ad (groups (unitl (p.ss.map gS))).length c:=by obtain⟨ad,c,e,_⟩:=hpa;exact⟨ad,c,e⟩
   subst hvs;clear Q1a hba hck hokp hpa;go_wp2_with fail;have R1:=blk_set (blk_set QA.out 0 (.slice vad (groups (unitl (p.ss.map gS))).length vcap)) 1 (.int .i64 p.wi);refine bodyPost_ret (res_comp rfl rfl ((CeH R1 0).trans rfl) ((CeH R1 1).trans rfl)) rfl ?_;refine⟨(HBA.out.setCell (p:=⟨W.heap.size,0,none⟩) (Nat.le_refl _) _).setCell (p:=⟨W.heap.size,1,none⟩) (Nat.le_refl _) _,.inr ⟨HCK.out,HOK.out,_,rfl, ?_⟩⟩;refine(HPA.out.keep (fun q h1 h2=>?_)).more (by omega) (by simp);rw[World.cell?_setCell_other _ _ _ _ (fun e=>by rw[<-e]at h1;simp at h1;omega),World.cell?_setCell_other _ _ _ _ (fun e=>by rw[<-e]at h1;simp at h1;omega)];exact World.cell?_of_block (Below.heap_alloc w4 _ q.block h2)
end Go.Proofs.YtcojnojdgigmdaaGreatDoor.WL
/- The plan of a pattern, as runs go through it. No program in sight but the plan's memory. -/
namespace Go.Proofs.YtcojnojdgigmdaaGreatDoor.WR
open Go Go.RowKit Go.Sort PL PR Mem WL
def stepOf (gs:List (Grp Unit)) (ts:Nat->List PT) (q:Nat):RPos:=match gs[q]? with
 | some g=>⟨g.1.1.k,g.1.1.lo,g.1.1.hi,ts (startG gs q),(List.range g.2.length).map fun r=>⟨(g.2.getD r (default,())).1.k,ts (startG gs q+1+r)⟩⟩
 | none=>⟨0,0,0,[],[]⟩
def stepsOf (gs:List (Grp Unit)) (ts:Nat->List PT):List RPos:=(List.range gs.length).map (stepOf gs ts)
def planR (ss:List GS) (cs:List GC) (wi:Int):RPlan:=⟨stepsOf (groups (unitl ss)) (testsAt ss cs),wi⟩
theorem stepsOf_len (gs:List (Grp Unit)) (ts:Nat->List PT):(stepsOf gs ts).length=gs.length:=by simp[stepsOf]
theorem stepsOf_get (gs:List (Grp Unit)) (ts:Nat->List PT) (q:Nat) (h:q<gs.length) (h':q<(stepsOf gs ts).length):(stepsOf gs ts)[q]=⟨gs[q].1.1.k,gs[q].1.1.lo,gs[q].1.1.hi,ts (startG gs q),(List.range gs[q].2.length).map fun r=>⟨(gs[q].2.getD r (default,())).1.k,ts (startG gs q+1+r)⟩⟩:=by
 have e:(stepsOf gs ts)[q]? = some (stepOf gs ts q):=by
  unfold stepsOf;rw[List.getElem?_map,List.getElem?_range h];rfl
 rw[List.getElem?_eq_getElem h']at e
 injection e with e
 rw[e];unfold stepOf;rw[List.getElem?_eq_getElem h]
theorem plan_pln {w:World} {L B:Nat} {vs:Value} {gs:List (Grp Unit)} {ts:Nat->List PT} (h:PlanAt w L B vs gs ts):PlnAt w B vs (stepsOf gs ts):=by
 obtain⟨ad,c,rfl,hq⟩:=h;refine⟨ad,c,by rw[stepsOf_len],fun q hql=>?_⟩
 have hqg:q<gs.length:=by rwa [stepsOf_len]at hql
 obtain⟨gv,e1,⟨_,hb⟩,x0,x1,x2,⟨vt,x3,ht⟩,vb,x4,ad2,c2,e2,hr⟩:=hq q hqg;rw[stepsOf_get gs ts q hqg hql];refine⟨gv,0,e1,hb,by rw[Nat.zero_add];exact x0,by rw[Nat.zero_add];exact x1,by rw[Nat.zero_add];exact x2,⟨vt,by rw[Nat.zero_add];exact x3,ht.1⟩,vb,by rw[Nat.zero_add];exact x4,ad2,c2, ?_,fun r hrl=>?_⟩
 ·rw[e2];simp
 ·have hrg:r<gs[q].2.length:=by simpa using hrl
  obtain⟨gb,f1,⟨_,fb⟩,y0,vt2,y1,ht2⟩:=hr r hrg;refine⟨gb,0,f1,fb, ?_,vt2,by rw[Nat.zero_add];exact y1, ?_⟩
  ·rw[Nat.zero_add]
   simp only[List.getElem_map,List.getElem_range]
   rw[List.getD_eq_getElem?_getD,List.getElem?_eq_getElem hrg];exact y0
  ·simp only[List.getElem_map,List.getElem_range]
   exact ht2.1
theorem posTo_le (ss:List GS):∀ n,posTo ss n<=n:=by
 intro n
 induction n with
 | zero=>exact Nat.le_refl _
 | succ n ih=>unfold posTo;split<;>omega
theorem testOf_ok {ss:List GS} {c:GC} (hn:ss.length<=8) (h:condE ss c=0):OkT (testOf ss c).2:=by
 have hk:-9007199254740992<=c.k/\c.k<=9007199254740992:=by
  unfold condE at h
  split at h
  ·cases h
  ·split at h
   ·cases h
   ·omega
 have h1:=findP_lt ss c.l;have h2:=findP_lt ss c.r;have p1:=posTo_le ss ((findP ss c.r).toNat+1);have p2:=posTo_le ss ((findP ss c.l).toNat+1);unfold testOf OkT Sm
 split
 ·exact⟨⟨by simp only[];omega,by simp only[];omega⟩,.inl rfl⟩
 ·split
  ·exact⟨⟨by simp only[];omega,by simp only[];omega⟩,.inr (.inl rfl)⟩
  ·split
   ·refine⟨⟨by simp only[];omega,by simp only[];omega⟩, ?_⟩
    simp only[]
    rcases Nat.eq_zero_or_pos (posTo ss ((findP ss c.r).toNat+1)) with h0 | h0
    ·left;rw[h0];rfl
    ·right;right;omega
   ·refine⟨⟨by simp only[];omega,by simp only[];omega⟩, ?_⟩
    simp only[]
    rcases Nat.eq_zero_or_pos (posTo ss ((findP ss c.l).toNat+1)) with h0 | h0
    ·left;rw[h0];rfl
    ·right;right;omega
theorem tests_ok {ss:List GS} {cs:List GC} {wi:Int} (h:OKP ss cs wi) (i:Nat):(∀ t∈testsAt ss cs i,OkT t)/\(testsAt ss cs i).length<=1000000:=by
 refine⟨fun t ht=>?_, ?_⟩
 ·unfold testsAt at ht;obtain⟨c,hc,hct⟩:=List.mem_filterMap.1 ht
  split at hct
  ·injection hct with hct
   subst hct;obtain⟨j,hj,rfl⟩:=List.mem_iff_getElem.1 hc;have:=h.cd j hj;rw[getElem!_pos cs j hj]at this;exact testOf_ok h.n8 this
  ·cases hct
 ·unfold testsAt;have:=List.length_filterMap_le (fun c=>if (testOf ss c).1=i then some (testOf ss c).2 else none) cs;have:=h.c16
  omega
theorem mem_flat {gs:List (Grp Unit)} {g:Grp Unit} (h:g∈gs):g.1∈flat gs/\g.2.length+1<=(flat gs).length:=by
 induction gs with
 | nil=>cases h
 | cons x r ih =>
  have e:flat (x :: r)=x.1 :: x.2++flat r:=by simp[flat]
  rw[e]
  rcases List.mem_cons.1 h with rfl | h
  ·exact⟨by simp,by simp<;>omega⟩
  ·obtain⟨h1,h2⟩:=ih h;exact⟨by simp[h1],by simp<;>omega⟩
theorem groups_flat_len (ss:List GS):(flat (groups (unitl ss))).length=ss.length:=by rw[flat_groups];simp[unitl]
theorem len_flat (gs:List (Grp Unit)):gs.length<=(flat gs).length:=by
 induction gs with
 | nil=>exact Nat.le_refl _
 | cons x r ih =>
  have e:flat (x :: r)=x.1 :: x.2++flat r:=by simp[flat]
  rw[e];simp<;>omega
theorem planR_ok {ss:List GS} {cs:List GC} {wi:Int} (h:OKP ss cs wi):OkP (planR ss cs wi)/\(planR ss cs wi).steps.length<=8:=by
 have hl:(planR ss cs wi).steps.length<=8:=by
  show(stepsOf _ _).length<=8
  rw[stepsOf_len];have:=len_flat (groups (unitl ss));rw[groups_flat_len]at this;have:=h.n8
  omega
 have hget:∀ s∈(planR ss cs wi).steps,∃ q,∃ hq:q<(groups (unitl ss)).length,s=⟨(groups (unitl ss))[q].1.1.k,(groups (unitl ss))[q].1.1.lo,(groups (unitl ss))[q].1.1.hi,testsAt ss cs (startG (groups (unitl ss)) q),(List.range (groups (unitl ss))[q].2.length).map fun r=>⟨((groups (unitl ss))[q].2.getD r (default,())).1.k,testsAt ss cs (startG (groups (unitl ss)) q+1+r)⟩⟩:=by
  intro s hs;obtain⟨q,hq,rfl⟩:=List.mem_iff_getElem.1 hs
  have hq':q<(groups (unitl ss)).length:=by
   have:q<(stepsOf (groups (unitl ss)) (testsAt ss cs)).length:=hq
   rwa [stepsOf_len]at this
  exact⟨q,hq',stepsOf_get _ _ q hq' hq⟩
 refine⟨⟨by omega, ?_, ?_, ?_, ?_⟩,hl⟩
 ·intro s hs;obtain⟨q,hq,rfl⟩:=hget s hs;have hm:=(mem_flat (List.getElem_mem hq)).1;rw[flat_groups]at hm;obtain⟨x,hx,he⟩:=List.mem_map.1 hm;obtain⟨j,hj,rfl⟩:=List.mem_iff_getElem.1 hx;have hst:=h.st j hj
  have e1:(groups (unitl ss))[q].1.1=ss[j]:=by rw[<-he]
  simp only[]
  rw[e1];unfold stepE at hst;rw[getElem!_pos ss j hj]at hst
  simp only[]at hst
  repeat (split at hst<;>try cases hst)
  omega
 ·intro s hs;obtain⟨q,hq,rfl⟩:=hget s hs;exact tests_ok h _
 ·intro s hs;obtain⟨q,hq,rfl⟩:=hget s hs;have hm:=(mem_flat (List.getElem_mem hq)).2;rw[groups_flat_len]at hm;have:=h.n8;refine⟨by simp only[List.length_map,List.length_range];omega,fun b hb=>?_⟩;obtain⟨r,_,rfl⟩:=List.mem_map.1 hb;exact tests_ok h _
 ·have h1:=h.w0;have h2:=h.wm;exact⟨by show _<=wi;omega,by show wi<=_;omega⟩
end Go.Proofs.YtcojnojdgigmdaaGreatDoor.WR
/- The walk of oxbowlaw21.planned: the program's and the document's plan of a text. -/
namespace Go.Proofs.YtcojnojdgigmdaaGreatDoor.WR
open Go Go.RowKit Go.Sort PL PR Mem WS WL PP WP
def PostPl (W:World) (e:Ending) (w':World):Prop:=Below W.heap.size W w'/\∃ (pa qa:Option Addr) (pn pc qn qc:Nat) (wi wj:Int) (ok:Bool),e=.returned (.tuple #[.agg #[.slice pa pn pc,.int .i64 wi],.agg #[.slice qa qn qc,.int .i64 wj],.bool ok]) /\
 (ok=true->∃ ss cs,OKP ss cs wi/\wj=wi/\pn=(planR ss cs wi).steps.length/\PlnAt w' w'.heap.size (.slice pa pn pc) (planR ss cs wi).steps/\DocAt w' W.heap.size w'.heap.size (.slice qa qn qc) ss (testsAt ss cs))
theorem res_pl {w:World} {A B:Nat} {c0 c1 d0 d1 v4:Value} {tmps:Array Value} (h2:tmps[2]? = some (.pointer (some ⟨A,0,none⟩))) (h3:tmps[3]? = some (.pointer (some ⟨B,0,none⟩))) (h4:tmps[4]? = some v4)
  (e0:w.cell? ⟨A,0,none⟩=some c0) (e1:w.cell? ⟨A,1,none⟩=some c1) (f0:w.cell? ⟨B,0,none⟩=some d0) (f1:w.cell? ⟨B,1,none⟩=some d1) :
  (results Tryz.f6 tmps).run Tryz.prog w=.ok (.tuple #[.agg #[c0,c1],.agg #[d0,d1],v4]) w:=by
 simp[results,Tryz.results6,go_sem,h2,h3,h4,e0,e1,f0,f1]
structure PlJ (W w5:World) (L3 z q:Nat) (pbox qbox:Array Value) (vs:Value) (gs:List (Grp Unit)) (ts:Nat->List PT) (ss:List GS) (wi:Int) (k:Nat) (v:Value) (w:World):Prop where
 bel:Below W.heap.size W w
 size:w5.heap.size<=w.heap.size
 pb:w.heap[z]? = some (.cells pbox 25 (0,0))
 qb:w.heap[q]? = some (.cells qbox 70 (0,0))
 pl:PlanAt w L3 z vs gs ts
 x:w.heap[W.heap.size]? = some (.cells (if 2<=k then pbox else #[nilS,.int .i64 0]) 25 (0,0))
 y:k<3->w.heap[W.heap.size+1]? = some (.cells #[nilS,.int .i64 0] 28 (0,0))
 d:1<=k->∃ qa qn qc,v=.agg #[.slice qa qn qc,.int .i64 wi]/\DocAt w w5.heap.size w.heap.size (.slice qa qn qc) ss ts/\(k=3->w.heap[W.heap.size+1]? = some (.cells #[.slice qa qn qc,.int .i64 wi] 28 (0,0)))
 z0:k=0->Below w5.heap.size w5 w
section
variable {W w5 : World} {L3 z q : Nat} {pbox qbox : Array Value} {vs : Value} {gs : List (Grp Unit)} {ts : Nat -> List PT} {ss : List GS} {wi : Int} {v : Value} {w w' : World}
theorem PlJ.call (h:PlJ W w5 L3 z q pbox qbox vs gs ts ss wi 0 v w) {qa:Option Addr} {qn qc:Nat} (hb:Below w.heap.size w w') (hd:DocAt w' w.heap.size w'.heap.size (.slice qa qn qc) ss ts):PlJ W w5 L3 z q pbox qbox vs gs ts ss wi 1 (.agg #[.slice qa qn qc,.int .i64 wi]) w' :=
 ⟨h.bel.trans (hb.mono h.bel.size),Nat.le_trans h.size hb.size,(hb.block _ (heap_lt h.pb)).trans h.pb,(hb.block _ (heap_lt h.qb)).trans h.qb,h.pl.keep fun p _ hp=>hb.cell (Nat.lt_trans hp (heap_lt h.pb)),(hb.block _ (heap_lt h.x)).trans h.x,fun _=>(hb.block _ (heap_lt (h.y (by omega)))).trans (h.y (by omega)),
  fun _=>⟨qa,qn,qc,rfl,hd.more h.size (Nat.le_refl _),fun h=>by cases h⟩,fun h=>by cases h⟩
theorem PlJ.st1 {c0 c1:Value} (hp:pbox=#[c0,c1]) (hL:W.heap.size+1<L3/\L3<=z/\z<w5.heap.size/\q≠W.heap.size/\q≠W.heap.size+1) (h:PlJ W w5 L3 z q pbox qbox vs gs ts ss wi 1 v w):PlJ W w5 L3 z q pbox qbox vs gs ts ss wi 2 v ((w.setCell ⟨W.heap.size,0,none⟩ c0).setCell ⟨W.heap.size,1,none⟩ c1):=by
 subst hp;obtain⟨l1,l2,l3,l4,l5⟩:=hL
 have oth:∀ g,g≠W.heap.size->((w.setCell ⟨W.heap.size,0,none⟩ c0).setCell ⟨W.heap.size,1,none⟩ c1).heap[g]? = w.heap[g]?:=fun g hg=>by
  rw[heap_setCell_other _ ⟨W.heap.size,1,none⟩ _ _ hg,heap_setCell_other _ ⟨W.heap.size,0,none⟩ _ _ hg]
 have cel:∀ p:Addr,p.block≠W.heap.size->((w.setCell ⟨W.heap.size,0,none⟩ c0).setCell ⟨W.heap.size,1,none⟩ c1).cell? p=w.cell? p:=fun p hp=>World.cell?_of_block (oth _ hp)
 have hsz:((w.setCell ⟨W.heap.size,0,none⟩ c0).setCell ⟨W.heap.size,1,none⟩ c1).heap.size=w.heap.size:=by simp
 refine⟨(h.bel.setCell (p:=⟨W.heap.size,0,none⟩) (Nat.le_refl _) _).setCell (p:=⟨W.heap.size,1,none⟩) (Nat.le_refl _) _,by rw[hsz];exact h.size,(oth _ (by omega)).trans h.pb,(oth _ l4).trans h.qb,h.pl.keep fun p hp _=>cel p (by omega), ?_,fun _=>(oth _ (by omega)).trans (h.y (by omega)),fun _=>?_,fun h=>by cases h⟩
 ·exact(blk_setc (blk_setc h.x 0 _) 1 _).trans rfl
 ·obtain⟨qa,qn,qc,e1,e2,_⟩:=h.d (by omega);exact⟨qa,qn,qc,e1,by rw[hsz];exact e2.keep fun p hp _=>cel p (by omega),fun h=>by cases h⟩
theorem PlJ.st2 {c0 c1:Value} (hv:v=.agg #[c0,c1]) (hL:W.heap.size+1<L3/\L3<=z/\z<w5.heap.size/\q≠W.heap.size/\q≠W.heap.size+1) (h:PlJ W w5 L3 z q pbox qbox vs gs ts ss wi 2 v w):PlJ W w5 L3 z q pbox qbox vs gs ts ss wi 3 v ((w.setCell ⟨W.heap.size+1,0,none⟩ c0).setCell ⟨W.heap.size+1,1,none⟩ c1):=by
 obtain⟨l1,l2,l3,l4,l5⟩:=hL
 have oth:∀ g,g≠W.heap.size+1->((w.setCell ⟨W.heap.size+1,0,none⟩ c0).setCell ⟨W.heap.size+1,1,none⟩ c1).heap[g]? = w.heap[g]?:=fun g hg=>by
  rw[heap_setCell_other _ ⟨W.heap.size+1,1,none⟩ _ _ hg,heap_setCell_other _ ⟨W.heap.size+1,0,none⟩ _ _ hg]
 have cel:∀ p:Addr,p.block≠W.heap.size+1->((w.setCell ⟨W.heap.size+1,0,none⟩ c0).setCell ⟨W.heap.size+1,1,none⟩ c1).cell? p=w.cell? p:=fun p hp=>World.cell?_of_block (oth _ hp)
 have hsz:((w.setCell ⟨W.heap.size+1,0,none⟩ c0).setCell ⟨W.heap.size+1,1,none⟩ c1).heap.size=w.heap.size:=by simp
 obtain⟨qa,qn,qc,e1,e2,_⟩:=h.d (by omega);rw[e1]at hv
 obtain⟨rfl,rfl⟩:c0=.slice qa qn qc/\c1=.int .i64 wi:=by simpa using hv.symm
 refine⟨(h.bel.setCell (p:=⟨W.heap.size+1,0,none⟩) (Nat.le_succ _) _).setCell (p:=⟨W.heap.size+1,1,none⟩) (Nat.le_succ _) _,by rw[hsz];exact h.size,(oth _ (by omega)).trans h.pb,(oth _ l5).trans h.qb,h.pl.keep fun p hp _=>cel p (by omega),(oth _ (by omega)).trans h.x,fun h=>by omega,fun _=>?_,fun h=>by cases h⟩;exact⟨qa,qn,qc,e1,by rw[hsz];exact e2.keep fun p hp _=>cel p (by omega),fun _=>(blk_setc (blk_setc (h.y (by omega)) 0 _) 1 _).trans rfl⟩
end
theorem run_store_pl {a:Act} {w:World} {x y:Operand} {g:Nat} {c0 c1:Value} {a1:Option Addr} {n1 k1:Nat} {wi:Int} {ty:TypeId} {pos:String} {af:Array Edge} (hx:a.eval x=.pointer (some ⟨g,0,none⟩)) (hy:a.eval y=.agg #[.slice a1 n1 k1,.int .i64 wi])
  (h:w.heap[g]? = some (.cells #[c0,c1] 25 (0,0))) :
  (execOp a.eval { dst:=none,op:=.store 25 x y,type:=ty,pos:=pos,after:=af,guard:=none }).run Tryz.prog w=.ok .skip ((w.setCell ⟨g,0,none⟩ (.slice a1 n1 k1)).setCell ⟨g,1,none⟩ (.int .i64 wi)):=by
 have e1:w.cell? ⟨g,0,none⟩=some c0:=(CeH h 0).trans rfl;have e2:w.cell? ⟨g,1,none⟩=some c1:=(CeH h 1).trans rfl;have f1:=frozen_of_row w _ 0 _ _ h;have f2:=frozen_of_row w _ 1 _ _ h
 simp only[execOp,hx,hy]
 go_simp
theorem run_store_dl {a:Act} {w:World} {x y:Operand} {g:Nat} {c0 c1:Value} {a1:Option Addr} {n1 k1:Nat} {wi:Int} {ty:TypeId} {pos:String} {af:Array Edge} (hx:a.eval x=.pointer (some ⟨g,0,none⟩)) (hy:a.eval y=.agg #[.slice a1 n1 k1,.int .i64 wi])
  (h:w.heap[g]? = some (.cells #[c0,c1] 28 (0,0))) :
  (execOp a.eval { dst:=none,op:=.store 28 x y,type:=ty,pos:=pos,after:=af,guard:=none }).run Tryz.prog w=.ok .skip ((w.setCell ⟨g,0,none⟩ (.slice a1 n1 k1)).setCell ⟨g,1,none⟩ (.int .i64 wi)):=by
 have e1:w.cell? ⟨g,0,none⟩=some c0:=(CeH h 0).trans rfl;have e2:w.cell? ⟨g,1,none⟩=some c1:=(CeH h 1).trans rfl;have f1:=frozen_of_row w _ 0 _ _ h;have f2:=frozen_of_row w _ 1 _ _ h
 simp only[execOp,hx,hy]
 go_simp
theorem wpOp_dummy {P:Program} {ops:Array Oper} {Q:Exit->Act->World->Prop} {i s:Nat} {o:Oper} {a:Act} {w w':World} {K:Act->World->Prop} (ho:ops[i]? = some o) (hg:o.guard=none) (hd:o.dst=none) (hr:(execOp a.eval o).run P w=.ok .skip w') (hs:s<a.tmps.size) (hK:∀ v,K (a.put (some s) v) w'):wpOp P ops Q i K a w:=by
 have e:a.put (some s) a.tmps[s]=a:=by
  have h:a.tmps.setIfInBounds s a.tmps[s]=a.tmps:=by
   apply Array.ext_getElem?
   intro j;rw[Array.getElem?_setIfInBounds]
   by_cases hj:s=j
   ·subst hj;rw[if_pos rfl,if_pos hs];simp
   ·rw[if_neg hj]
  show({ a with tmps:=a.tmps.setIfInBounds s a.tmps[s] }:Act)=a
  rw[h]
 unfold wpOp
 simp only[ho,Region.wanted,hg,if_true]
 refine .inl ?_;unfold Oper.wp;rw[hr]
 show K (a.put o.dst undef) w'
 rw[hd];have:=hK a.tmps[s];rw[e]at this;exact this
theorem load_pat {w:World} {g:Nat} {a1 a2:Option Addr} {n1 k1 n2 k2:Nat} {wi:Int} (h:w.heap[g]? = some (.cells #[.slice a1 n1 k1,.slice a2 n2 k2,.int .i64 wi] 70 (0,0))) :
  (Instr.loadAt 70 (.pointer (some ⟨g,0,none⟩))).run Tryz.prog w=.ok (.agg #[.slice a1 n1 k1,.slice a2 n2 k2,.int .i64 wi]) w:=by
 have e0:w.cell? ⟨g,0,none⟩=some (.slice a1 n1 k1):=(CeH h 0).trans rfl;have e1:w.cell? ⟨g,1,none⟩=some (.slice a2 n2 k2):=(CeH h 1).trans rfl;have e2:w.cell? ⟨g,2,none⟩=some (.int .i64 wi):=(CeH h 2).trans rfl
 go_simp
theorem set_two {w:World} {A:Nat} {c0 c1:Value} {t:TypeId} (h:w.heap[A]? = some (.cells #[c0,c1] t (0,0))):(w.setCell ⟨A,0,none⟩ c0).setCell ⟨A,1,none⟩ c1=w:=by
 rw[set_self (v:=c0) h rfl,set_self (v:=c1) h rfl]
theorem planned_any (s:ByteArray) (W:World):Calls Tryz.prog 6 #[.string s] W (PostPl W):=by
 obtain⟨w0,hw0⟩:∃ w0,w0=(W.alloc (.cells #[nilS,.int .i64 0] 25)).alloc (.cells #[nilS,.int .i64 0] 28):=⟨_,rfl⟩
 have hb0:=Hyd (show Below W.heap.size W w0 by rw[hw0];exact((Below.refl _ _).alloc (Nat.le_refl _) _).alloc (by simp) _);have X0:=Hyd (show w0.heap[W.heap.size]? = some (.cells #[nilS,.int .i64 0] 25 (0,0)) by rw[hw0];exact heap_alloc (heap_new rfl));have Y0:=Hyd (show w0.heap[W.heap.size+1]? = some (.cells #[nilS,.int .i64 0] 28 (0,0)) by rw[hw0];exact heap_new (by simp))
 have hz0:w0.heap.size=W.heap.size+2:=by rw[hw0];simp
 have HZ0:=Hyd hz0;have HP:=Hyd (parse9 s w0);have HC:=Hyd (fun w=>compile_any s w);have HW0:=Hyd hw0;clear hw0 hz0
 go_enter Tryz.func6,Tryz.ntmps6
 go_wp2_with fail;rw[<-HW0.out];refine HP.out.mono ?_
 cases hr:pParse s.data.toList with
 | inl f =>
  obtain⟨k,er⟩:=f;have her:(er != 0)=true:=bne_iff_ne.2 (parse_nz hr);have HR:=Hyd hr;clear hr;rintro e w1 ⟨hb1,rfl⟩
  obtain⟨w2,hw2⟩:∃ w2,w2=w1.alloc (.cells #[.slice none 0 0,.slice none 0 0,.int .i64 0] 70):=⟨_,rfl⟩
  have hb2:Below w0.heap.size w0 w2:=by rw[hw2];exact hb1.alloc hb1.size _
  have HB2:=Hyd hb2;have HW2:=Hyd hw2;have X2:=Hyd ((hb2.block _ (heap_lt X0.out)).trans X0.out);have Y2:=Hyd ((hb2.block _ (heap_lt Y0.out)).trans Y0.out);clear hb1 hb2 hw2
  go_upto_region 3 with (fail)
  rw[<-HW2.out];have x0:=(CeH X2.out 0).trans rfl;have x1:=(CeH X2.out 1).trans rfl;have y0:=(CeH Y2.out 0).trans rfl;have y1:=(CeH Y2.out 1).trans rfl;have fx0:=frozen_of_row w2 _ 0 _ _ X2.out;have fx1:=frozen_of_row w2 _ 1 _ _ X2.out;have fy0:=frozen_of_row w2 _ 0 _ _ Y2.out;have fy1:=frozen_of_row w2 _ 1 _ _ Y2.out;go_wp2_with fail;rw[set_two X2.out,set_two Y2.out];refine bodyPost_ret (res_pl rfl rfl rfl x0 x1 y0 y1) rfl ⟨hb0.out.trans (HB2.out.mono (by have:=HZ0.out;omega)),none,none,0,0,0,0,0,0,false,rfl,fun h=>by cases h⟩
 | inr P =>
  have HR:=Hyd hr;rintro e w1 ⟨hb1,sl,cl,rfl,hs,hc⟩;obtain⟨sa,sc,rfl⟩:=(Sl.of_own hs).shape;obtain⟨ca,cc,rfl⟩:=(Sl.of_own hc).shape
  obtain⟨wi,hwi⟩:∃ wi:Int,(P.wi:Int)=wi:=⟨_,rfl⟩
  rw[hwi];have HWI:=Hyd hwi
  have hs2:Stps w1 w1.heap.size (.slice sa P.ss.length sc) (P.ss.map gS):=by
   show Sl _ _ 5 _ _ _
   rw[List.length_map,<-cells_gS];exact Sl.of_own hs
  have hc2:Cnds w1 w1.heap.size (.slice ca P.cs.length cc) (P.cs.map gC):=by
   show Sl _ _ 4 _ _ _
   rw[List.length_map,<-cells_gC];exact Sl.of_own hc
  obtain⟨w2,hw2⟩:∃ w2,w2=w1.alloc (.cells #[.slice sa P.ss.length sc,.slice ca P.cs.length cc,.int .i64 wi] 70):=⟨_,rfl⟩
  have hb12:Below w1.heap.size w1 w2:=by rw[hw2];exact(Below.refl _ _).alloc (Nat.le_refl _) _
  have hb2:Below w0.heap.size w0 w2:=hb1.trans (hb12.mono hb1.size);have Q2:=Hyd (show w2.heap[w1.heap.size]? = some (.cells #[.slice sa P.ss.length sc,.slice ca P.cs.length cc,.int .i64 wi] 70 (0,0)) by rw[hw2];exact heap_new rfl)
  have hss:P.ss.length<=maxLen/\P.cs.length<=maxLen:=by
   have h1:=hs.2;have h2:=hc.2
   constructor
   ·rcases h1 with ⟨_,h1⟩ | ⟨_,cap,_,_,_,_,h1,h3,_⟩
    ·rw[h1];exact Nat.zero_le _
    ·exact Nat.le_trans h1 h3
   ·rcases h2 with ⟨_,h1⟩ | ⟨_,cap,_,_,_,_,h1,h3,_⟩
    ·rw[h1];exact Nat.zero_le _
    ·exact Nat.le_trans h1 h3
  have HS2:=Hyd (show Stps w2 w2.heap.size (.slice sa P.ss.length sc) (P.ss.map gS) from(Sl.below hs2 hb12).more hb12.size);have HC2:=Hyd (show Cnds w2 w2.heap.size (.slice ca P.cs.length cc) (P.cs.map gC) from(Sl.below hc2 hb12).more hb12.size);have HCK:=Hyd (check20 (.slice sa P.ss.length sc) (.slice ca P.cs.length cc) wi (P.ss.map gS) (P.cs.map gC) w2 HS2.out HC2.out (by rw[List.length_map];exact hss.1) (by rw[List.length_map];exact hss.2));have HQN:=Hyd (show w1.heap.size≠W.heap.size/\w1.heap.size≠W.heap.size+1 by have:=hb1.size;have:=HZ0.out;omega)
  obtain⟨q,hq⟩:∃ q,w1.heap.size=q:=⟨_,rfl⟩
  rw[hq]at HQN;rw[hq]at Q2;have HQ:=Hyd hq;have HB2:=Hyd hb2;have HW2:=Hyd hw2;have X2:=Hyd ((hb2.block _ (heap_lt X0.out)).trans X0.out);have Y2:=Hyd ((hb2.block _ (heap_lt Y0.out)).trans Y0.out);clear hb1 hb2 hb12 hw2 hs hc hs2 hc2 hss hr hwi hq
  go_upto_region 4 with (fail)
  rw[<-HW2.out,HQ.out];have q0:=(CeH Q2.out 0).trans rfl;have q1:=(CeH Q2.out 1).trans rfl;have q2:=(CeH Q2.out 2).trans rfl;go_wp2_with fail;refine HCK.out.mono ?_;rintro e w3 ⟨rfl,hg3⟩;have X3:=Hyd ((hg3.below.block _ (heap_lt X2.out)).trans X2.out);have Y3:=Hyd ((hg3.below.block _ (heap_lt Y2.out)).trans Y2.out);have Q3:=Hyd ((hg3.below.block _ (heap_lt Q2.out)).trans Q2.out);have HB3:=Hyd (HB2.out.trans (hg3.below.mono HB2.out.size));have HS3:=Hyd (show Stps w3 w3.heap.size (.slice sa P.ss.length sc) (P.ss.map gS) from(Sl.below HS2.out hg3.below).more hg3.size);have HC3:=Hyd (show Cnds w3 w3.heap.size (.slice ca P.cs.length cc) (P.cs.map gC) from(Sl.below HC2.out hg3.below).more hg3.size);clear hg3 q0 q1 q2
  rcases checkP_cases (P.ss.map gS) (P.cs.map gC) wi with hbad | ⟨hck,hok⟩
  ·obtain⟨er,her⟩:∃ er,(checkP (P.ss.map gS) (P.cs.map gC) wi).2=er:=⟨_,rfl⟩
   rw[her]at hbad ⊢;have hbd:(er != 0)=true:=bne_iff_ne.2 hbad;clear her hbad
   go_upto_region 6 with (fail)
   have x0:=(CeH X3.out 0).trans rfl;have x1:=(CeH X3.out 1).trans rfl;have y0:=(CeH Y3.out 0).trans rfl;have y1:=(CeH Y3.out 1).trans rfl;have fx0:=frozen_of_row w3 _ 0 _ _ X3.out;have fx1:=frozen_of_row w3 _ 1 _ _ X3.out;have fy0:=frozen_of_row w3 _ 0 _ _ Y3.out;have fy1:=frozen_of_row w3 _ 1 _ _ Y3.out;go_wp2_with fail;rw[set_two X3.out,set_two Y3.out];refine bodyPost_ret (res_pl rfl rfl rfl x0 x1 y0 y1) rfl ⟨hb0.out.trans (HB3.out.mono (by have:=HZ0.out;omega)),none,none,0,0,0,0,0,0,false,rfl,fun h=>by cases h⟩
  ·rw[hck];have HOK:=Hyd hok;have HC':=Hyd (HC.out w3);have HKK:=Hyd hck;rw[HR.out]at HC';clear hck hok
   go_upto_region 7 with (fail)
   go_wp2_with fail;refine HC'.out.mono ?_;rintro e w4 ⟨hb4,hpost⟩
   dsimp only at hpost
   rw[HWI.out]at hpost
   rcases hpost with ⟨hbad,_⟩ | ⟨_,_,vs,rfl,hpa⟩
   ·exact absurd (by rw[HKK.out]) hbad
   ·have hpl:=plan_pln hpa;obtain⟨pa,pc,rfl,_⟩:=id hpl
    obtain⟨n,hn⟩:∃ n,(stepsOf (groups (unitl (P.ss.map gS))) (testsAt (P.ss.map gS) (P.cs.map gC))).length=n:=⟨_,rfl⟩
    have HPL:=Hyd hpl;rw[hn]at HPL hpa ⊢;have HNN:=Hyd hn
    obtain⟨w5,hw5⟩:∃ w5,w5=w4.alloc (.cells #[.slice pa n pc,.int .i64 wi] 25):=⟨_,rfl⟩
    have hb45:Below w4.heap.size w4 w5:=by rw[hw5];exact(Below.refl _ _).alloc (Nat.le_refl _) _
    have hb35:Below w3.heap.size w3 w5:=hb4.trans (hb45.mono hb4.size);have P5:=Hyd (show w5.heap[w4.heap.size]? = some (.cells #[.slice pa n pc,.int .i64 wi] 25 (0,0)) by rw[hw5];exact heap_new rfl);have X5:=Hyd ((hb35.block _ (heap_lt X3.out)).trans X3.out);have Y5:=Hyd ((hb35.block _ (heap_lt Y3.out)).trans Y3.out);have Q5:=Hyd ((hb35.block _ (heap_lt Q3.out)).trans Q3.out);have HB5:=Hyd (HB3.out.trans (hb35.mono HB3.out.size));have HS5:=Hyd (show Stps w5 w5.heap.size (.slice sa P.ss.length sc) (P.ss.map gS) from(Sl.below HS3.out hb35).more hb35.size);have HC5:=Hyd (show Cnds w5 w5.heap.size (.slice ca P.cs.length cc) (P.cs.map gC) from(Sl.below HC3.out hb35).more hb35.size);have HPA5:=Hyd (PlanAt.keep hpa fun a _ ha=>hb45.cell ha);have HZ3:=Hyd hb4.size
    obtain⟨z,hz⟩:∃ z,w4.heap.size=z:=⟨_,rfl⟩
    have hz5:z<w5.heap.size:=by rw[<-hz];exact heap_lt P5.out
    rw[hz]at P5 HPA5 HZ3;have HZZ:=Hyd hz;have HW5:=Hyd hw5;have HL5:=Hyd (show W.heap.size<w5.heap.size/\W.heap.size+1<w5.heap.size/\q<w5.heap.size from⟨heap_lt X5.out,heap_lt Y5.out,heap_lt Q5.out⟩);clear hb4 hpa hpl hn hb45 hb35 hw5 hz
    go_upto_region 8 with (fail)
    rw[<-HW5.out,HZZ.out];go_wp2_with fail;have HMK:=Hyd (fun w (hb:Below w5.heap.size w5 w)=>make20 (.slice sa P.ss.length sc) (.slice ca P.cs.length cc) wi (P.ss.map gS) (P.cs.map gC) w ((Sl.below HS5.out hb).more hb.size) ((Sl.below HC5.out hb).more hb.size) HOK.out);have hLL:=Hyd (show W.heap.size+1<w3.heap.size/\w3.heap.size<=z/\z<w5.heap.size/\q≠W.heap.size/\q≠W.heap.size+1 from⟨heap_lt Y3.out,HZ3.out,hz5,HQN.out.1,HQN.out.2⟩)
    have HJ0:=Hyd (show PlJ W w5 w3.heap.size z q #[.slice pa n pc,.int .i64 wi] #[.slice sa P.ss.length sc,.slice ca P.cs.length cc,.int .i64 wi] (.slice pa n pc) (groups (unitl (P.ss.map gS))) (testsAt (P.ss.map gS) (P.cs.map gC)) (P.ss.map gS) wi 0 nilS w5.drew from
     ⟨(hb0.out.trans (HB5.out.mono (by have:=HZ0.out;omega))).drew,Nat.le_refl _,P5.out,Q5.out,HPA5.out,X5.out,fun _=>Y5.out,fun h=>by omega,fun _=>(Below.refl _ _).drew⟩)
    refine Ord.chain_order (h:=7) (t:=1) (floats:=[(0,34,.agg #[.slice pa n pc,.int .i64 wi]),(1,35,.agg #[.slice sa P.ss.length sc,.slice ca P.cs.length cc,.int .i64 wi]),(3,37,.int .i64 0),(4,38,.bool true)]) (chain:=[(2,36),(5,10),(6,11)])
     (by kernel_rfl) rfl (by kernel_rfl) (by kernel_rfl) (by kernel_rfl) (by kernel_rfl) (show [0,1,3,4,2,5,6].Nodup by decide) (show ∀ i,i<7->i∈[0,1,3,4,2,5,6] by decide) (show ∀ i∈[0,1,3,4,2,5,6],i<7 by decide) (show [34,35,37,38,36,10,11].Nodup by decide) (show ∀ s∈[34,35,37,38,36,10,11],s<39 by decide)
     (fun vs w=>PlJ W w5 w3.heap.size z q #[.slice pa n pc,.int .i64 wi] #[.slice sa P.ss.length sc,.slice ca P.cs.length cc,.int .i64 wi] (.slice pa n pc) (groups (unitl (P.ss.map gS))) (testsAt (P.ss.map gS) (P.cs.map gC)) (P.ss.map gS) wi vs.length (vs.headD nilS) w) HJ0.out ?_ ?_ ?_
    ·intro i s' y hm
     simp only[List.mem_cons,List.not_mem_nil,or_false,Prod.mk.injEq]at hm
     rcases hm with ⟨rfl,rfl,rfl⟩ | ⟨rfl,rfl,rfl⟩ | ⟨rfl,rfl,rfl⟩ | ⟨rfl,rfl,rfl⟩
     ·refine⟨_,rfl,rfl,rfl,fun a w vs hs _ hJ=>?_⟩;exact Ord.run_load (Ord.eval_tmp ((hs.out 8 (show 8∉[34,35,37,38,36,10,11] by decide)).trans rfl)) (load_plan hJ.pb)
     ·refine⟨_,rfl,rfl,rfl,fun a w vs hs _ hJ=>?_⟩;exact Ord.run_load (Ord.eval_tmp ((hs.out 5 (show 5∉[34,35,37,38,36,10,11] by decide)).trans rfl)) (load_pat hJ.qb)
     ·refine⟨_,rfl,rfl,rfl,fun a w vs hs _ _=>?_⟩;exact Ord.run_move (Ord.eval_tmp ((hs.out 9 (show 9∉[34,35,37,38,36,10,11] by decide)).trans rfl))
     ·refine⟨_,rfl,rfl,rfl,fun a w vs hs hk _=>?_⟩;have hv1:=hk 3 37 (.int .i64 0) (by simp) (Ord.waits_of (by kernel_rfl));have u1:=Ord.eval_tmp hv1
      go_simp
    ·intro m i s' hm a w vs K hvl hs hk hc hJ hK
     rcases m with _ | _ | _ | m
     ·obtain⟨rfl,rfl⟩:2=i/\36=s':=by simpa using hm
      obtain rfl:vs=[]:=List.eq_nil_of_length_eq_zero hvl;have hv1:=hk _ 1 35 (.agg #[.slice sa P.ss.length sc,.slice ca P.cs.length cc,.int .i64 wi]) rfl (by simp) (Ord.waits_of (by kernel_rfl));have u1:=Ord.eval_tmp hv1;refine Ord.wpOp_enter (o:=_) rfl rfl (f:=26) (args:=#[.agg #[.slice sa P.ss.length sc,.slice ca P.cs.length cc,.int .i64 wi]]) (by go_simp) ((HMK.out w (hJ.z0 rfl)).mono ?_);rintro e w' ⟨hb',qs,rfl,hdoc⟩
      obtain⟨qa,qn,qc,rfl⟩:∃ a n c,qs=.slice a n c:=by obtain⟨a,c,h,_⟩:=id hdoc;exact⟨a,_,c,h⟩
      exact hK _ w' (hJ.call hb' hdoc)
     ·obtain⟨rfl,rfl⟩:5=i/\10=s':=by simpa using hm
      obtain⟨v1,rfl⟩:∃ v,vs=[v]:=List.length_eq_one_iff.1 hvl
      have hv1:=hk _ 0 34 (.agg #[.slice pa n pc,.int .i64 wi]) rfl (by simp) (Ord.waits_of (by kernel_rfl))
      exact wpOp_dummy (o:=_) rfl rfl rfl (run_store_pl (Ord.eval_tmp ((hs.out 2 (show 2∉[34,35,37,38,36,10,11] by decide)).trans rfl)) (Ord.eval_tmp hv1) hJ.x) (by rw[hs.size];exact(by decide:10<39)) fun v=>hK v _ (hJ.st1 rfl hLL.out)
     ·obtain⟨rfl,rfl⟩:6=i/\11=s':=by simpa using hm
      obtain⟨v1,v2,rfl⟩:∃ v u,vs=[v,u]:=by
       match vs,hvl with
       | [v,u],_=>exact⟨v,u,rfl⟩
      obtain⟨qa,qn,qc,e1,_,_⟩:=hJ.d (show 1<=2 by decide);have hv1:=hc 0 2 36 v1 rfl rfl;have e1':v1=.agg #[.slice qa qn qc,.int .i64 wi]:=e1;rw[e1']at hv1
      exact wpOp_dummy (o:=_) rfl rfl rfl (run_store_dl (Ord.eval_tmp ((hs.out 3 (show 3∉[34,35,37,38,36,10,11] by decide)).trans rfl)) (Ord.eval_tmp hv1) (hJ.y (by show 2<3;decide))) (by rw[hs.size];exact(by decide:11<39)) fun v=>hK v _ (hJ.st2 e1 hLL.out)
     ·simp at hm
    ·intro w6 vs hvl hJ
     obtain⟨v1,v2,v3,rfl⟩:∃ v u t,vs=[v,u,t]:=by
      match vs,hvl with
      | [v,u,t],_=>exact⟨v,u,t,rfl⟩
     obtain⟨qa,qn,qc,e1,hd,hy⟩:=hJ.d (show 1<=3 by decide);have e1':v1=.agg #[.slice qa qn qc,.int .i64 wi]:=e1;subst e1';have HJ6:=Hyd hJ;have HD6:=Hyd hd;have x0:=(CeH hJ.x 0).trans rfl;have x1:=(CeH hJ.x 1).trans rfl;have y0:=(CeH (hy rfl) 0).trans rfl;have y1:=(CeH (hy rfl) 1).trans rfl;clear hJ hd hy
     simp only[Ord.puts,List.map_cons,List.map_nil,List.zip_cons_cons,List.zip_nil_right,List.cons_append,List.nil_append]
     go_wp2_with fail;have hpl6:PlnAt w6 w6.heap.size (.slice pa n pc) (planR (P.ss.map gS) (P.cs.map gC) wi).steps:=(plan_pln HJ6.out.pl).more (Nat.le_of_lt (heap_lt HJ6.out.pb));refine bodyPost_ret (res_pl rfl rfl rfl x0 x1 y0 y1) rfl ⟨HJ6.out.bel,pa,qa,n,pc,qn,qc,wi,wi,true,rfl,fun _=>⟨P.ss.map gS,P.cs.map gC,HOK.out,rfl,HNN.out.symm,hpl6,HD6.out.more (by have:=HL5.out.1;omega) (Nat.le_refl _)⟩⟩
end Go.Proofs.YtcojnojdgigmdaaGreatDoor.WR
