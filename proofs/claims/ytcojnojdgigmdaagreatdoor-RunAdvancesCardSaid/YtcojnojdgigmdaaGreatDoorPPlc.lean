/- The places of the document's positive steps, and the plan that runs go through. No program in sight but the plan's form. -/
import Derived.Test.YtcojnojdgigmdaaGreatDoorB12
import Derived.Test.YtcojnojdgigmdaaGreatDoorPGrow3
namespace Go.Proofs.YtcojnojdgigmdaaGreatDoor.WR
open Go PL PR Mem WL
def plc (ss:List GS) (k:Nat):List Nat:=(List.range k).filter fun i=>!(ss[i]!).neg
theorem plc_succ (ss:List GS) (k:Nat):plc ss (k+1)=plc ss k++if (ss[k]!).neg then [] else [k]:=by
 unfold plc;rw[List.range_succ,List.filter_append]
 congr 1
 cases h:(ss[k]!).neg with
 | false=>rw[List.filter_cons_of_pos (by rw[h];rfl)];rfl
 | true=>rw[List.filter_cons_of_neg (by rw[h];decide)];rfl
theorem plc_len (ss:List GS) (k:Nat):(plc ss k).length<=k:=by
 unfold plc;exact Nat.le_trans (List.length_filter_le _ _) (by simp)
structure PlcOk (ss:List GS) (ts:Nat->List PT) (pl:List Nat) (ps:List RPos):Prop where
 len:pl.length=ps.length
 at_:∀ q (h:q<ps.length) (h':q<pl.length),pl[q]+1+ps[q].bars.length<=ss.length/\(ss[pl[q]]!).k=ps[q].kind/\(ss[pl[q]]!).lo=ps[q].lo/\(ss[pl[q]]!).hi=ps[q].hi/\ts pl[q]=ps[q].tests /\
  (∀ r (hr:r<ps[q].bars.length),(ss[pl[q]+1+r]!).k=ps[q].bars[r].kind/\(ss[pl[q]+1+r]!).neg=true/\ts (pl[q]+1+r)=ps[q].bars[r].tests) /\
  (pl[q]+1+ps[q].bars.length<ss.length->(ss[pl[q]+1+ps[q].bars.length]!).neg=false)
theorem flat_at {gs:List (Grp Unit)} {ss:List GS} (hf:(flat gs).map (·.1)=ss) {k:Nat} {x:GS×Unit} (hk:(flat gs)[k]? = some x):ss[k]! = x.1:=by
 have:ss[k]? = some x.1:=by rw[<-hf,List.getElem?_map,hk];rfl
 rw[List.getElem!_eq_getElem?_getD,this];rfl
theorem plc_groups {gs:List (Grp Unit)} {ss:List GS} (hg:goodG gs) (hf:(flat gs).map (·.1)=ss):∀ q,q<=gs.length->plc ss (startG gs q)=(List.range q).map (startG gs):=by
 intro q
 induction q with
 | zero=>intro _;rw[startG_zero];rfl
 | succ q ih =>
  intro h
  have hq:q<gs.length:=by omega
  obtain⟨h1,h2⟩:=hg gs[q] (List.getElem_mem hq)
  have e1:plc ss (startG gs q+1)=(List.range (q+1)).map (startG gs):=by
   rw[plc_succ,ih (by omega),flat_at hf (flat_head gs q hq),h1,List.range_succ,List.map_append];rfl
  have e2:∀ r,r<=gs[q].2.length->plc ss (startG gs q+1+r)=(List.range (q+1)).map (startG gs):=by
   intro r
   induction r with
   | zero=>intro _;exact e1
   | succ r ihr =>
    intro hr;rw[show startG gs q+1+(r+1)=(startG gs q+1+r)+1 by omega,plc_succ,ihr (by omega),flat_at hf (flat_bar gs q r hq (by omega)),h2 _ (List.getElem_mem (by omega))]
    simp
  rw[startG_succ gs q hq];exact e2 _ (Nat.le_refl _)
theorem plc_ok {ss:List GS} {cs:List GC} {wi:Int} (h:OKP ss cs wi):PlcOk ss (testsAt ss cs) (plc ss ss.length) (planR ss cs wi).steps:=by
 have hn:0<ss.length:=by have:=h.n1;omega
 obtain⟨x,l,hxl⟩:∃ x l,ss=x :: l:=by
  cases hs:ss with
  | nil=>rw[hs]at hn;cases hn
  | cons x l=>exact⟨x,l,rfl⟩
 have hx:x.neg=false:=by
  have h0:=h.st 0 hn
  have e0:ss[0]! = x:=by rw[hxl];rfl
  unfold stepE at h0;rw[e0]at h0
  cases hneg:x.neg with
  | false=>rfl
  | true =>
   simp only[]at h0
   rw[hneg]at h0
   repeat (split at h0<;>try cases h0)
   all_goals simp_all
 have hg:goodG (groups (unitl ss)):=by
  rw[hxl];exact goodG_groups (x,()) (unitl l) hx
 have hf:(flat (groups (unitl ss))).map (·.1)=ss:=by rw[flat_groups];simp[unitl,Function.comp_def]
 have hfl:(flat (groups (unitl ss))).length=ss.length:=by rw[flat_groups];simp[unitl]
 obtain⟨gs,hgs⟩:∃ gs,groups (unitl ss)=gs:=⟨_,rfl⟩
 have hst:(planR ss cs wi).steps=stepsOf gs (testsAt ss cs):=by rw[<-hgs];rfl
 rw[hgs]at hg hf hfl
 have hend:plc ss ss.length=(List.range gs.length).map (startG gs):=by
  rw[<-plc_groups hg hf gs.length (Nat.le_refl _),startG_end,hfl]
 rw[hst,hend];refine⟨by rw[List.length_map,List.length_range,stepsOf_len], ?_⟩;intro q hq hq'
 have hqg:q<gs.length:=by rwa [stepsOf_len]at hq
 have ep:((List.range gs.length).map (startG gs))[q]=startG gs q:=by rw[List.getElem_map,List.getElem_range]
 rw[ep,stepsOf_get gs _ q hqg hq];have ehead:=flat_at hf (flat_head gs q hqg)
 have ebar:=fun r (hr:r<gs[q].2.length)=>flat_at hf (flat_bar gs q r hqg hr)
 have hnext:startG gs q+1+gs[q].2.length=startG gs (q+1):=(startG_succ gs q hqg).symm
 have hle:startG gs (q+1)<=ss.length:=by rw[<-hfl];exact startG_le gs _
 refine⟨by simp only[List.length_map,List.length_range];omega,by rw[ehead],by rw[ehead],by rw[ehead],rfl, ?_, ?_⟩
 ·intro r hr
  have hrg:r<gs[q].2.length:=by simpa using hr
  have hb:=(hg gs[q] (List.getElem_mem hqg)).2 _ (List.getElem_mem hrg);rw[ebar r hrg];refine⟨?_,hb, ?_⟩
  ·simp only[List.getElem_map,List.getElem_range]
   rw[List.getD_eq_getElem?_getD,List.getElem?_eq_getElem hrg];rfl
  ·simp only[List.getElem_map,List.getElem_range]
 ·intro hlt
  simp only[List.length_map,List.length_range]at hlt ⊢
  rw[hnext]at hlt ⊢
  have hq1:q+1<gs.length:=by
   rcases Nat.lt_or_ge (q+1) gs.length with h1 | h1
   ·exact h1
   ·have:q+1=gs.length:=by omega
    rw[this,startG_end]at hlt
    omega
  rw[flat_at hf (flat_head gs (q+1) hq1)];exact(hg gs[q+1] (List.getElem_mem hq1)).1
end Go.Proofs.YtcojnojdgigmdaaGreatDoor.WR
