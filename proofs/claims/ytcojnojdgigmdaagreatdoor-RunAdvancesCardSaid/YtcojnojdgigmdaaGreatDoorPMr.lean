/- A run's events as a row of places: what the document asks of the row is what the program asks of the run. No program in sight. -/
import Derived.Test.YtcojnojdgigmdaaGreatDoorWM21
import Derived.Test.YtcojnojdgigmdaaGreatDoorPText
namespace Go.Proofs.YtcojnojdgigmdaaGreatDoor.WR
open Go PL PR Mem
theorem stT_left (c:List Nat) (n k:Nat):stT (c++[n]) c.length k=stT c c.length 0++List.replicate k c.length:=by
 unfold stT
 simp only[List.replicate_zero,List.append_nil]
 congr 1
 have h:∀ j∈List.range c.length,List.replicate ((c++[n]).getD j 0) j=List.replicate (c.getD j 0) j:=by
  intro j hj;rw[getD_left (List.mem_range.1 hj)]
 rw[List.flatMap_def,List.flatMap_def,List.map_congr_left h]
theorem stT_snoc (c:List Nat) (n:Nat):stT (c++[n]) (c++[n]).length 0=stT c c.length 0++List.replicate n c.length:=by
 rw[List.length_append,List.length_singleton,stT_next,getD_len,stT_left]
theorem mtOf_snoc (st:List Nat) (s:Nat):mtOf (st++[s])=mtOf st++[(st.length,s)]:=by
 unfold mtOf;rw[List.length_append,List.length_singleton,List.range_succ,List.zip_append (by simp)]
 rfl
theorem mR_row:∀ (c:List Nat),(∀ n∈c,1<=n)->c≠[]->SOk (mtOf (stT c c.length 0))/\mtOf (stT c c.length 0)≠[]/\lastS (mtOf (stT c c.length 0))=c.length-1/\cntM (mtOf (stT c c.length 0))=c:=by
 intro c
 induction c using snocInd with
 | nil=>intro _ h;exact absurd rfl h
 | snoc c n ih =>
  intro hpos _;have hn:1<=n:=hpos n (by simp)
  have hc:∀ x∈c,1<=x:=fun x hx=>hpos x (List.mem_append_left _ hx)
  obtain⟨k,rfl⟩:∃ k,n=k+1:=⟨n-1,by omega⟩
  clear hpos hn;rw[stT_snoc]
  have key:∀ k,SOk (mtOf (stT c c.length 0++List.replicate (k+1) c.length))/\mtOf (stT c c.length 0++List.replicate (k+1) c.length)≠[]/\lastS (mtOf (stT c c.length 0++List.replicate (k+1) c.length))=c.length/\cntM (mtOf (stT c c.length 0++List.replicate (k+1) c.length))=c++[k+1]:=by
   intro k
   induction k with
   | zero =>
    show SOk (mtOf (stT c c.length 0++[c.length]))/\mtOf (stT c c.length 0++[c.length])≠[]/\lastS (mtOf (stT c c.length 0++[c.length]))=c.length/\cntM (mtOf (stT c c.length 0++[c.length]))=c++[1]
    rw[mtOf_snoc]
    by_cases h0:c=[]
    ·subst h0;exact⟨SOk.one 0,by simp,rfl,rfl⟩
    ·obtain⟨h1,h2,h3,h4⟩:=ih hc h0
     have hl:lastS (mtOf (stT c c.length 0))+1=c.length:=by
      have:=List.length_pos_iff.2 h0
      omega
     have e:=cntM_next h1 h2 (stT c c.length 0).length;have e1:=SOk.next (stT c c.length 0).length h1 h2;rw[hl]at e e1;refine⟨e1,snoc_ne _ _,lastS_snoc _ _ _, ?_⟩;rw[cntM_ne h2]at h4
     have e2:cntI (mtOf (stT c c.length 0))++[countM (mtOf (stT c c.length 0)),1]=(cntI (mtOf (stT c c.length 0))++[countM (mtOf (stT c c.length 0))])++[1]:=by simp
     rw[e,e2,h4]
   | succ k ihk =>
    obtain⟨h1,h2,h3,h4⟩:=ihk;rw[show List.replicate (k+1+1) c.length=List.replicate (k+1) c.length++[c.length] from List.replicate_succ',<-List.append_assoc,mtOf_snoc];have e:=cntM_same (m:=mtOf (stT c c.length 0++List.replicate (k+1) c.length)) (stT c c.length 0++List.replicate (k+1) c.length).length;have e1:=SOk.same (stT c c.length 0++List.replicate (k+1) c.length).length h1 h2;rw[h3]at e e1;refine⟨e1,snoc_ne _ _,lastS_snoc _ _ _, ?_⟩;rw[cntM_ne h2]at h4;have h5:=List.append_inj' h4 rfl;rw[e,h5.1]
    have h6:countM (mtOf (stT c c.length 0++List.replicate (k+1) c.length))=k+1:=by simpa using h5.2
    rw[h6]
  obtain⟨h1,h2,h3,h4⟩:=key k;exact⟨h1,h2,by rw[h3];simp,h4⟩
theorem stT_sum (c:List Nat):(stT c c.length 0).length=c.sum:=by
 rw[stT_len c c.length 0 (Nat.le_refl _),List.take_length];rfl
theorem mtOf_evs (l:List Ev) (st:List Nat) (h:st.length=l.length):(mtOf st).map (fun x=>evAt l x.1)=l:=by
 have h1:(mtOf st).map (fun x=>evAt l x.1)=((mtOf st).map (·.1)).map (evAt l):=by rw[List.map_map];rfl
 rw[h1];unfold mtOf;rw[List.map_fst_zip (by simp)]
 refine List.ext_getElem (by simp[h]) fun i hi hj=>?_
 rw[List.getElem_map,List.getElem_range,evAt_eq hj]
structure Rowed (r:RRun):Prop where
 ne:r.counts≠[]
 pos:∀ n∈r.counts,1<=n
 sum:r.counts.sum=r.evs.length
theorem Rowed.toR {r:RRun} (h:Rowed r) (p:RPlan):toR p r.evs 0 (mR r)=⟨r.counts,r.evs,(PR.toR p r.evs 0 (mR r)).blocked⟩:=by
 obtain⟨h1,h2,h3,h4⟩:=mR_row r.counts h.pos h.ne;have e1:cntM (mR r)=r.counts:=h4;have e2:(mR r).map (fun x=>evAt r.evs x.1)=r.evs:=mtOf_evs r.evs _ (by rw[stT_sum,h.sum]);unfold PR.toR;rw[e1,e2]
theorem Rowed.all_ {r:RRun} (h:Rowed r) (ts:List PT) {step:Nat} (hs:r.counts.length-1<=step) (e:Ev):allP ts (pmM r.evs (mR r)) step e=allT ts r step e:=by
 obtain⟨h1,h2,h3,h4⟩:=mR_row r.counts h.pos h.ne;have:=all_row ⟨[],0⟩ r.evs 0 h1 ts (step:=step) (by rw[h3];exact hs) e;rw[show mtOf (stT r.counts r.counts.length 0)=mR r from rfl,h.toR]at this;rw[<-this];rfl
theorem Rowed.text {r:RRun} (h:Rowed r):textTo r.evs (mR r) (mR r).length=textR r:=by
 obtain⟨h1,h2,h3,h4⟩:=mR_row r.counts h.pos h.ne;have e:=textTo_all r.evs h1;rw[show mtOf (stT r.counts r.counts.length 0)=mR r from rfl]at e;rw[e,<-text_row ⟨[],0⟩ r.evs 0,h.toR];rfl
theorem Rowed.okm {r:RRun} (h:Rowed r) (hn:r.evs.length<=1000000) (hl:r.counts.length<=1000000):OkM r.evs (mR r):=by
 obtain⟨h1,h2,h3,h4⟩:=mR_row r.counts h.pos h.ne
 have hlen:(mR r).length=r.evs.length:=by
  show(mtOf _).length=_
  rw[mtOf_len,stT_sum,h.sum]
 refine⟨by omega,fun x hx=>?_,fun x hx=>?_⟩
 ·have:x.1∈(mR r).map (·.1):=List.mem_map.2 ⟨x,hx,rfl⟩;unfold mR mtOf at this;rw[List.map_fst_zip (by simp)]at this;have:=List.mem_range.1 this;rw[stT_sum,h.sum]at this;exact this
 ·have:=h1.le x hx;rw[h3]at this
  omega
theorem empty_all (ts:List PT) (e:Ev):allP ts (pmM [] []) 0 e=allT ts noRun 0 e:=by
 have:=all_row ⟨[],0⟩ [] 0 SOk.nil ts (step:=0) (Nat.le_refl _) e;rw[<-this];rfl
theorem Rowed.with_ {r:RRun} (h:Rowed r) {step:Nat} (e:Ev) (hs:step<=r.counts.length):Rowed (withR r step e):=by
 have hlen:(if step=r.counts.length then r.counts++[0] else r.counts).length=if step=r.counts.length then r.counts.length+1 else r.counts.length:=by split<;>simp
 refine⟨?_, ?_, ?_⟩
 ·intro h0;have h1:(List.set (if step=r.counts.length then r.counts++[0] else r.counts) step ((if step=r.counts.length then r.counts++[0] else r.counts).getD step 0+1))=[]:=h0;have h2:=congrArg List.length h1;rw[List.length_set,hlen]at h2;have:=List.length_pos_iff.2 h.ne
  simp only[List.length_nil]at h2
  split at h2<;>omega
 ·intro n hn;have hn':n∈List.set (if step=r.counts.length then r.counts++[0] else r.counts) step ((if step=r.counts.length then r.counts++[0] else r.counts).getD step 0+1):=hn
  by_cases hst:step=r.counts.length
  ·rw[if_pos hst,hst]at hn'
   have e3:(r.counts++[0]).set r.counts.length ((r.counts++[0]).getD r.counts.length 0+1)=r.counts++[1]:=by simp
   rw[e3]at hn'
   rcases List.mem_append.1 hn' with h1 | h1
   ·exact h.pos n h1
   ·rw[List.mem_singleton.1 h1];exact Nat.le_refl _
  ·rw[if_neg hst]at hn'
   rcases List.mem_or_eq_of_mem_set hn' with h1 | h1
   ·exact h.pos n h1
   ·omega
 ·show(List.set _ step _).sum=(r.evs++[e]).length
  rw[sum_set_add _ _ (by rw[hlen];split<;>omega),List.length_append,List.length_singleton,<-h.sum]
  split<;>simp
theorem rowed_start (e:Ev):Rowed (withR noRun 0 e):=⟨by rw[with_start];simp,by rw[with_start];simp,rfl⟩
theorem rowed_adv {p:RPlan} {r:RRun} (h:Rowed r) (e:Ev):(∀ g∈(advR p r e).grown,Rowed g)/\((advR p r e).keep=true->Rowed (advR p r e).run):=by
 unfold advR
 cases hN:r.counts.getLast? with
 | none=>exact⟨fun g hg=>(by cases hg),fun h=>(by cases h)⟩
 | some n =>
  simp only[]
  cases hS:p.steps[r.counts.length-1]? with
  | none=>exact⟨fun g hg=>(by cases hg),fun h=>(by cases h)⟩
  | some s =>
   simp only[]
   have hpos:=List.length_pos_iff.2 h.ne
   split
   ·exact⟨fun g hg=>(by cases hg),fun h=>(by cases h)⟩
   ·have one:∀ (c:Prop) [Decidable c] (w:RRun),Rowed w->∀ g∈(if c then addR p noRes w else noRes).grown,Rowed g:=by
     intro c _ w hw g hg
     split at hg
     ·rw[addR_grown]at hg
      rcases List.mem_append.1 hg with h' | h'
      ·cases h'
      ·split at h'
       ·rw[List.mem_singleton.1 h'];exact hw
       ·cases h'
     ·cases hg
    generalize hx1:(if (n:Int)<s.hi/\fitsS s r (r.counts.length-1) e=true then addR p noRes (withR r (r.counts.length-1) e) else noRes)=x1
    have a1:∀ g∈x1.grown,Rowed g:=by
     rw[<-hx1];exact one _ _ (h.with_ e (by omega))
    refine⟨?_,fun _=>⟨h.ne,h.pos,h.sum⟩⟩
    cases hS2:p.steps[r.counts.length-1+1]? with
    | none=>exact a1
    | some s2 =>
     simp only[]
     split
     ·intro g hg;rw[addR_grown]at hg
      rcases List.mem_append.1 hg with h' | h'
      ·exact a1 g h'
      ·split at h'
       ·rw[List.mem_singleton.1 h'];exact h.with_ e (by omega)
       ·cases h'
     ·exact a1
theorem rowed_start' {p:RPlan} {e:Ev}:∀ g∈(startR p e).grown,Rowed g:=by
 unfold startR
 cases hS:p.steps with
 | nil=>intro g hg;cases hg
 | cons s l =>
  simp only[]
  split
  ·intro g hg;rw[addR_grown]at hg
   rcases List.mem_append.1 hg with h' | h'
   ·cases h'
   ·split at h'
    ·rw[List.mem_singleton.1 h'];exact rowed_start e
    ·cases h'
  ·intro g hg;cases hg
end Go.Proofs.YtcojnojdgigmdaaGreatDoor.WR
