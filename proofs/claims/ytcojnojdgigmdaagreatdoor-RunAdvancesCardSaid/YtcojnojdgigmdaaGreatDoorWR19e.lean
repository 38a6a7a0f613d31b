/- The walk of the document's Parse. -/
import Derived.Test.YtcojnojdgigmdaaGreatDoorWR19d
import Derived.Test.YtcojnojdgigmdaaGreatDoorB01
import Derived.Test.YtcojnojdgigmdaaGreatDoorB05
import Derived.Deep.RegionHeld3
set_option maxHeartbeats 3200000
set_option maxRecDepth 100000
namespace Go.Proofs.YtcojnojdgigmdaaGreatDoor.WP
open Go.RowKit PP Mem
structure Sq (W w:World) (s:ByteArray) (st:S9) (sl cl:Value) (ss:List Stp) (cs:List Cnd):Prop where
 rd:R9 w (W.heap.size+1) s st
 blk:w.heap[W.heap.size+2]? = some (.cells #[sl,cl,.int .i64 0] 70 (0,0))
 res:w.heap[W.heap.size]? = some (.cells #[.slice none 0 0,.slice none 0 0,.int .i64 0] 70 (0,0))
 own1:w.ownsRow W.heap.size 126 5 sl ss.length (cellsOf encS ss)
 own2:w.ownsRow W.heap.size 131 4 cl cs.length (cellsOf encC cs)
 bel:Below W.heap.size W w
theorem Sq.move {W w w':World} {s:ByteArray} {st st':S9} {sl cl:Value} {ss:List Stp} {cs:List Cnd} (h:Sq W w s st sl cl ss cs) (hr:R9 w' (W.heap.size+1) s st') (hg:w.grownBy w' (some (W.heap.size+1))):Sq W w' s st' sl cl ss cs :=
 ⟨hr,blk_grown h.blk hg (by omega),blk_grown h.res hg (by omega),h.own1.kept hg (own_ne_blk h.own1 h.rd.blk (by decide)),h.own2.kept hg (own_ne_blk h.own2 h.rd.blk (by decide)),below_grown1 h.bel hg (by omega)⟩
theorem Sq.drewN {W w:World} {s:ByteArray} {st:S9} {sl cl:Value} {ss:List Stp} {cs:List Cnd} (h:Sq W w s st sl cl ss cs) (n:Nat):Sq W (w.drewN n) s st sl cl ss cs :=
 h.move (h.rd.drewN n) (grown_drewN _ _ _)
theorem Sq.alloc {W w:World} {s:ByteArray} {st:S9} {sl cl:Value} {ss:List Stp} {cs:List Cnd} (h:Sq W w s st sl cl ss cs) (o:Obj):Sq W (w.alloc o) s st sl cl ss cs :=
 h.move (h.rd.alloc o) (grown_alloc _ _ _)
theorem Sq.step {W w w2:World} {s:ByteArray} {st:S9} {sl cl r:Value} {ss:List Stp} {cs:List Cnd} {x:Stp} (h:Sq W w s st sl cl ss cs) (hg:w.grownBy w2 sl.ownBlock)
  (ho:w2.ownsRow W.heap.size 126 5 r (ss.length+1) (cellsOf encS ss++encS x)):Sq W (w2.setCell ⟨W.heap.size+2,0,none⟩ r) s st r cl (ss++[x]) cs:=by
 have hb:=heap_kept h.blk h.own1 (by decide) hg;have hr:=heap_kept h.rd.blk h.own1 (by decide) hg;have hq:=heap_kept h.res h.own1 (by decide) hg;have ho2:=own_kept2 h.own2 h.own1 (by decide) hg
 exact⟨⟨blk_other hr _ _ _ (by omega),h.rd.le,h.rd.ne⟩,blk_set hb 0 r,blk_other hq _ _ _ (by omega),by
   rw[cellsOf_snoc,List.length_append]
   exact own_set ho hb (by decide),own_set ho2 hb (by decide),
  (below_grown0 h.bel h.own1 hg).setCell (p:=⟨W.heap.size+2,0,none⟩) (Nat.le_add_right _ 2) r⟩
theorem Sq.cond {W w w2:World} {s:ByteArray} {st:S9} {sl cl r:Value} {ss:List Stp} {cs:List Cnd} {x:Cnd} (h:Sq W w s st sl cl ss cs) (hg:w.grownBy w2 cl.ownBlock)
  (ho:w2.ownsRow W.heap.size 131 4 r (cs.length+1) (cellsOf encC cs++encC x)):Sq W (w2.setCell ⟨W.heap.size+2,1,none⟩ r) s st sl r ss (cs++[x]):=by
 have hb:=heap_kept h.blk h.own2 (by decide) hg;have hr:=heap_kept h.rd.blk h.own2 (by decide) hg;have hq:=heap_kept h.res h.own2 (by decide) hg;have ho1:=own_kept2 h.own1 h.own2 (by decide) hg
 exact⟨⟨blk_other hr _ _ _ (by omega),h.rd.le,h.rd.ne⟩,blk_set hb 1 r,blk_other hq _ _ _ (by omega),own_set ho1 hb (by decide),by
   rw[cellsOf_snoc,List.length_append]
   exact own_set ho hb (by decide),
  (below_grown0 h.bel h.own2 hg).setCell (p:=⟨W.heap.size+2,1,none⟩) (Nat.le_add_right _ 2) r⟩
theorem Sq.len1 {W w:World} {s:ByteArray} {st:S9} {sl cl:Value} {ss:List Stp} {cs:List Cnd} (h:Sq W w s st sl cl ss cs):lenAt w (W.heap.size+2) 0=ss.length:=by
 obtain⟨ad,c,rfl⟩:=own_slice h.own1;unfold lenAt;rw[CeH h.blk]
 rfl
theorem Sq.len2 {W w:World} {s:ByteArray} {st:S9} {sl cl:Value} {ss:List Stp} {cs:List Cnd} (h:Sq W w s st sl cl ss cs):lenAt w (W.heap.size+2) 1=cs.length:=by
 obtain⟨ad,c,rfl⟩:=own_slice h.own2;unfold lenAt;rw[CeH h.blk]
 rfl
theorem Sq.cells {W w:World} {s:ByteArray} {st:S9} {sl cl:Value} {ss:List Stp} {cs:List Cnd} (h:Sq W w s st sl cl ss cs) :
  w.cell? ⟨W.heap.size+1+1,0,none⟩=some sl/\w.cell? ⟨W.heap.size+1+1,1,none⟩=some cl/\w.cell? ⟨W.heap.size+1+1,2,none⟩=some (.int .i64 0)/\w.frozen? ⟨W.heap.size+1+1,0,none⟩=false/\w.frozen? ⟨W.heap.size+1+1,1,none⟩=false/\w.frozen? ⟨W.heap.size+1+1,2,none⟩=false /\
  w.cell? ⟨W.heap.size+1,0,none⟩=some (.string s)/\w.cell? ⟨W.heap.size+1,1,none⟩=some (.int .i64 st.at)/\w.cell? ⟨W.heap.size+1,2,none⟩=some (.int .i64 st.bad)/\w.cell? ⟨W.heap.size+1,3,none⟩=some (.int .i64 st.pos) :=
 ⟨(CeH h.blk 0).trans rfl,(CeH h.blk 1).trans rfl,(CeH h.blk 2).trans rfl,Lib.frozen_of_heap h.blk 0,Lib.frozen_of_heap h.blk 1,Lib.frozen_of_heap h.blk 2,
  (CeH h.rd.blk 0).trans rfl,(CeH h.rd.blk 1).trans rfl,(CeH h.rd.blk 2).trans rfl,(CeH h.rd.blk 3).trans rfl⟩
structure Sz (W w:World) (s:ByteArray) (st:S9) (sl cl:Value) (k:Nat) (ss:List Stp) (cs:List Cnd):Prop where
 rd:R9 w (W.heap.size+1) s st
 blk:w.heap[W.heap.size+2]? = some (.cells #[sl,cl,.int .i64 k] 70 (0,0))
 res:w.heap[W.heap.size]? = some (.cells #[.slice none 0 0,.slice none 0 0,.int .i64 0] 70 (0,0))
 own1:w.ownsRow W.heap.size 126 5 sl ss.length (cellsOf encS ss)
 own2:w.ownsRow W.heap.size 131 4 cl cs.length (cellsOf encC cs)
 bel:Below W.heap.size W w
theorem Sz.move {W w w':World} {s:ByteArray} {st st':S9} {sl cl:Value} {k:Nat} {ss:List Stp} {cs:List Cnd} (h:Sz W w s st sl cl k ss cs) (hr:R9 w' (W.heap.size+1) s st') (hg:w.grownBy w' (some (W.heap.size+1))):Sz W w' s st' sl cl k ss cs :=
 ⟨hr,blk_grown h.blk hg (by omega),blk_grown h.res hg (by omega),h.own1.kept hg (own_ne_blk h.own1 h.rd.blk (by decide)),h.own2.kept hg (own_ne_blk h.own2 h.rd.blk (by decide)),below_grown1 h.bel hg (by omega)⟩
theorem Sq.win {W w:World} {s:ByteArray} {st:S9} {sl cl:Value} {ss:List Stp} {cs:List Cnd} (h:Sq W w s st sl cl ss cs) (k:Nat):Sz W (w.setCell ⟨W.heap.size+2,2,none⟩ (.int .i64 k)) s st sl cl k ss cs :=
 ⟨⟨blk_other h.rd.blk _ _ _ (by omega),h.rd.le,h.rd.ne⟩,blk_set h.blk 2 _,blk_other h.res _ _ _ (by omega),own_set h.own1 h.blk (by decide),own_set h.own2 h.blk (by decide),h.bel.setCell (p:=⟨W.heap.size+2,2,none⟩) (Nat.le_add_right _ 2) _⟩
theorem Sz.cells {W w:World} {s:ByteArray} {st:S9} {sl cl:Value} {k:Nat} {ss:List Stp} {cs:List Cnd} (h:Sz W w s st sl cl k ss cs) :
  w.cell? ⟨W.heap.size+1+1,0,none⟩=some sl/\w.cell? ⟨W.heap.size+1+1,1,none⟩=some cl/\w.cell? ⟨W.heap.size+1+1,2,none⟩=some (.int .i64 k) /\
  w.cell? ⟨W.heap.size+1,0,none⟩=some (.string s)/\w.cell? ⟨W.heap.size+1,1,none⟩=some (.int .i64 st.at)/\w.cell? ⟨W.heap.size+1,2,none⟩=some (.int .i64 st.bad)/\w.cell? ⟨W.heap.size+1,3,none⟩=some (.int .i64 st.pos) /\
  w.cell? ⟨W.heap.size,0,none⟩=some (.slice none 0 0)/\w.cell? ⟨W.heap.size,1,none⟩=some (.slice none 0 0)/\w.cell? ⟨W.heap.size,2,none⟩=some (.int .i64 0)/\w.frozen? ⟨W.heap.size,0,none⟩=false/\w.frozen? ⟨W.heap.size,1,none⟩=false/\w.frozen? ⟨W.heap.size,2,none⟩=false :=
 ⟨(CeH h.blk 0).trans rfl,(CeH h.blk 1).trans rfl,(CeH h.blk 2).trans rfl,
  (CeH h.rd.blk 0).trans rfl,(CeH h.rd.blk 1).trans rfl,(CeH h.rd.blk 2).trans rfl,(CeH h.rd.blk 3).trans rfl,
  (CeH h.res 0).trans rfl,(CeH h.res 1).trans rfl,(CeH h.res 2).trans rfl,Lib.frozen_of_heap h.res 0,Lib.frozen_of_heap h.res 1,Lib.frozen_of_heap h.res 2⟩
theorem res_parse9 {w:World} {B:Nat} {c0 c1 c2 v3 v4:Value} {tmps:Array Value} (h2:tmps[2]? = some (.pointer (some ⟨B,0,none⟩))) (h3:tmps[3]? = some v3) (h4:tmps[4]? = some v4)
  (s0:w.heap[B]? = some (.cells #[c0,c1,c2] 70 (0,0))) :
  (results Tryz.f23 tmps).run Tryz.prog w=.ok (.tuple #[.agg #[c0,c1,c2],v3,v4]) w:=by
 have e0:w.cell? ⟨B,0,none⟩=some c0:=(CeH s0 0).trans rfl;have e1:w.cell? ⟨B,1,none⟩=some c1:=(CeH s0 1).trans rfl;have e2:w.cell? ⟨B,2,none⟩=some c2:=(CeH s0 2).trans rfl
 simp[results,Tryz.results23,go_sem,h2,h3,h4,e0,e1,e2]
theorem Sz.fin {W w:World} {s:ByteArray} {st:S9} {sl cl:Value} {k:Nat} {ss:List Stp} {cs:List Cnd} (h:Sz W w s st sl cl k ss cs) (v0 v1 v2:Value) :
  let w':=((w.setCell ⟨W.heap.size,0,none⟩ v0).setCell ⟨W.heap.size,1,none⟩ v1).setCell ⟨W.heap.size,2,none⟩ v2
  w'.heap[W.heap.size]? = some (.cells #[v0,v1,v2] 70 (0,0))/\Below W.heap.size W w'/\w'.ownsRow W.heap.size 126 5 sl ss.length (cellsOf encS ss)/\w'.ownsRow W.heap.size 131 4 cl cs.length (cellsOf encC cs):=by
 have q1:=blk_set h.res 0 v0;have q2:=blk_set q1 1 v1;have q3:=blk_set q2 2 v2;have hb1:=h.bel.setCell (p:=⟨W.heap.size,0,none⟩) (Nat.le_refl _) v0;have hb2:=hb1.setCell (p:=⟨W.heap.size,1,none⟩) (Nat.le_refl _) v1;have hb3:=hb2.setCell (p:=⟨W.heap.size,2,none⟩) (Nat.le_refl _) v2;exact⟨q3,hb3,own_set (own_set (own_set h.own1 h.res (by decide)) q1 (by decide)) q2 (by decide),own_set (own_set (own_set h.own2 h.res (by decide)) q1 (by decide)) q2 (by decide)⟩
theorem infoS9:(Tryz.prog.info? 126).map (fun i=>(i.zero,i.size,i.bytes))=some (some (.agg #[.int .u8 0,.int .u8 0,.bool false,.int .i64 0,.int .i64 0]),5,24):=by kernel_rfl
theorem infoC9:(Tryz.prog.info? 131).map (fun i=>(i.zero,i.size,i.bytes))=some (some (.agg #[.int .u8 0,.int .i64 0,.int .u8 0,.int .i64 0]),4,32):=by kernel_rfl
def PostT9 (W:World) (r:Sum (Nat×Int) Ptn) (e:Ending) (w':World):Prop :=
 Below W.heap.size W w'/\match r with
 | .inl (k,er)=>e=.returned (.tuple #[.agg #[.slice none 0 0,.slice none 0 0,.int .i64 0],.int .i64 k,.int .i64 er])
 | .inr p=>∃ sl cl,e=.returned (.tuple #[.agg #[sl,cl,.int .i64 p.wi],.int .i64 0,.int .i64 0]) /\
   w'.ownsRow W.heap.size 126 5 sl p.ss.length (cellsOf encS p.ss)/\w'.ownsRow W.heap.size 131 4 cl p.cs.length (cellsOf encC p.cs)
theorem parse9 (s:ByteArray) (W:World):Calls Tryz.prog 23 #[.string s] W (PostT9 W (pParse s.data.toList)):=by
 have hlen:s.data.toList.length=s.size:=Array.length_toList
 by_cases hlong:4096<s.size
 ·have hP:pParse s.data.toList=.inl (0,5):=by unfold pParse;rw[if_pos (by omega)]
  rw[hP]
  have hl:(4096:Int)<s.size:=by omega
  clear hP hlen hlong
  go_enter Tryz.func23,Tryz.ntmps23
  go_wp2_with fail;refine bodyPost_ret (res_parse9 rfl rfl rfl (blk_new W _)) rfl ?_;exact⟨(Below.refl _ _).alloc (Nat.le_refl _) _,rfl⟩
 ·have hl:(s.size:Int)<=4096:=by omega
  have hs:s.size<=4096:=by omega
  obtain⟨i0,hi,hz0,hz1,hz2⟩:=info_parts infoS9;obtain⟨i1,hj,hy0,hy1,hy2⟩:=info_parts infoC9
  obtain⟨w3,hw3⟩:∃ w3,w3=((W.alloc (.cells #[.slice none 0 0,.slice none 0 0,.int .i64 0] 70)).alloc (.cells #[.string s,.int .i64 0,.int .i64 0,.int .i64 0] 123)).alloc (.cells #[.slice none 0 0,.slice none 0 0,.int .i64 0] 70):=⟨_,rfl⟩
  have hsq:Sq W w3 s (.inr 0) (.slice none 0 0) (.slice none 0 0) [] []:=by
   refine⟨⟨?_,Nat.zero_le _,fun _ _ _ he=>by cases he⟩, ?_, ?_,World.ownsRow_nil _ _ _ _,World.ownsRow_nil _ _ _ _, ?_⟩
   ·rw[hw3];exact blk_alloc (heap_new (by simp)) _
   ·rw[hw3];exact heap_new (by simp)
   ·rw[hw3];exact blk_alloc (blk_alloc (blk_new W _) _) _
   ·rw[hw3];exact(((Below.refl _ _).alloc (Nat.le_refl _) _).alloc (by simp) _).alloc (by simp;omega) _
  have HS:=Hyd hsq
  have HPP:=Hyd (show pParse s.data.toList=(match pPat s.data.toList with
   | .inl f=>.inl f
   | .inr (p,a)=>if a<s.data.toList.length then .inl (a,20) else .inr p) by unfold pParse;rw[if_neg (by omega)];rfl)
  have Hlen:=Hyd hlen;clear hsq hlen hlong
  go_enter Tryz.func23,Tryz.ntmps23
  go_wp2_with fail;rw[<-hw3];refine(word9 (W.heap.size+1) s _ ⟨#[83,69,81,40]⟩ _ HS.out.rd hs (by decide)).mono ?_;rintro e w4 ⟨u4,st4,rfl,hr4,hg4,hgo4⟩;have HS4:=Hyd (HS.out.move hr4 hg4)
  have HGO:Hid (∀ y st',Goes st4 (qSteps s.data.toList []) y st' -> Goes (.inr 0) (fun _=>pPat s.data.toList) y st'):=Hyd fun y st' hh=>(hgo4.bind (q:=fun _ a0=>qSteps s.data.toList [] a0) hh).alive (pat_eq _).symm
  clear hr4 hg4 hgo4 HS hw3;go_wp2_with fail
  rcases st4 with ⟨fk,fe,fa⟩ | a4
  case' inl =>
   go_loopw [7] (fun u7 wr=>∃ (ss:List Stp) (sl:Value),u7=.bool true/\Sq W wr s (.inl (fk,fe,fa)) sl (.slice none 0 0) ss []) (fun _ _=>0)
   case atStart=>exact⟨[],_,rfl,HS4.out⟩
   case round =>
    clear HS4;obtain⟨ss,sl,rfl,hsq⟩:=hrel;have HS:=Hyd hsq;clear hsq;obtain⟨sad,scap,hsl⟩:=own_slice HS.out.own1;subst hsl
    have hne1:(fe==0)=false:=by rw[beq_eq_false_iff_ne];exact HS.out.rd.ne fk fe fa rfl
    obtain⟨p0,p1,p2,p3,p4,p5,q0,q1,q2,q3⟩:=HS.out.cells
    simp only[S9.bad]at q2
    go_wp2_with fail;clear p0 p1 p2 p3 p4 p5 q0 q1 q2 q3 hne1;refine(word9 (W.heap.size+1) s _ ⟨#[41,32,87]⟩ _ HS.out.rd hs (by decide)).mono ?_;rintro e w5 ⟨u5,st5,rfl,hr5,hg5,hgo5⟩;obtain⟨fa2,rfl⟩:=hgo5;have HS5:=Hyd (HS.out.move hr5 hg5)
    have HGOe:Hid (∀ y st',Goes (.inl (fk,fe,fa2)) (pEnd s.data.toList ss []) y st' -> Goes (.inr 0) (fun _=>pPat s.data.toList) y st'):=Hyd fun y st' hh=>HGO.out y st' (goes_dead_any hh)
    clear hr5 hg5 HGO HS;go_wp2_with fail;refine(next9_dead (W.heap.size+1) s fk fe fa2 72 72 w5 HS5.out.rd hs).mono ?_;rintro e w6 ⟨rfl,n6,rfl⟩;have HS6:=Hyd (HS5.out.drewN n6);clear HS5;go_wp2_with fail;refine(word9 (W.heap.size+1) s _ ⟨#[73,84,72,73,78,32]⟩ _ HS6.out.rd hs (by decide)).mono ?_;rintro e wt ⟨ut,stt,rfl,hrt,hgt,hgot⟩;have hst:=Hyd (HS6.out.move hrt hgt)
    have HGOt:Hid (∀ y st',Goes stt (pEnd2 s.data.toList ss []) y st' -> Goes (.inr 0) (fun _=>pPat s.data.toList) y st'):=Hyd fun y st' hh=>HGOe.out y st' ((hgot.bind (q:=fun _ a1=>pEnd2 s.data.toList ss [] a1) hh).eq fun a _=>(end_eq _ _ _ _).symm)
    clear hrt hgt hgot HGOe;go_wp2_with fail;refine(number9 (W.heap.size+1) s _ 48 _ hst.out.rd hs (by decide)).mono ?_;rintro e wk ⟨k,stk,hk,rfl,hrk,hgk,hgok⟩;have hsk:=Hyd (hst.out.move hrk hgk);have HF:Hid (Goes (.inr 0) (fun _=>pPat s.data.toList) (⟨ss,[],k⟩:Ptn) stk):=Hyd (HGOt.out _ _ ((hgok.bind (q:=fun k a2=>(.inr ((⟨ss,[],k⟩:Ptn),a2):PR Ptn)) (goes_end _ _ _ fun _=>rfl)).eq fun _ _=>rfl));clear hrk hgk hgok HGOt;obtain⟨p0,p1,p2,p3,p4,p5,q0,q1,q2,q3⟩:=hsk.out.cells;have hz:=Hyd (hsk.out.win k)
    rcases stk with ⟨dk,de,da⟩ | a6
    ·have HPE:Hid (pParse s.data.toList=.inl (dk,de)):=Hyd (by
      rw[HPP.out];have hf:=HF.out
      simp only[Goes]at hf
      cases hx:pPat s.data.toList with
      | inl f =>
       obtain⟨k1,e1⟩:=f;rw[hx]at hf;obtain⟨a',hf⟩:=hf
       cases hf
       rfl
      | inr f =>
       obtain⟨p1,a1⟩:=f;rw[hx]at hf;obtain⟨_,hf⟩:=hf
       cases hf)
     have hne:=hsk.out.rd.ne dk de da rfl
     have hne1:(de != 0)=true:=by rw[bne_iff_ne];exact hne
     have hne2:(de==0)=false:=by rw[beq_eq_false_iff_ne];exact hne
     simp only[S9.at,S9.bad,S9.pos]at q1 q2 q3
     clear hne;have HZ:=hz
     rcases Nat.lt_or_ge da s.size with hlt | hge
     ·have hlt':(da:Int)<s.size:=by omega
      go_wp2_with fail;clear p0 p1 p2 p3 p4 p5 q0 q1 q2 q3;generalize hwz:wk.setCell ⟨W.heap.size+1+1,2,none⟩ (.int .i64 k)=wz;have hz:Hid (Sz W wz _ _ _ _ _ _ _):=Hyd (by rw[<-hwz];exact HZ.out);clear hwz HZ;refine(fail9_dead (W.heap.size+1) s dk de da _ _ _ hz.out.rd).mono ?_;rintro e wf ⟨rfl,hrf,hgf⟩;have hzf:=Hyd (hz.out.move hrf hgf);clear hrf hgf hz;obtain⟨z0,z1,z2,z3,z4,z5,z6,z7,z8,z9,y0,y1,y2⟩:=hzf.out.cells
      simp only[S9.at,S9.bad,S9.pos]at z4 z5 z6
      have n0:W.heap.size≠W.heap.size+1:=(by omega);have n1:W.heap.size+1≠W.heap.size:=(by omega);go_wp2_with fail
      go_region_held3 (fun w'=>w'.cell? ⟨W.heap.size+1,2,none⟩=some (.int .i64 de)/\w'.cell? ⟨W.heap.size+1,3,none⟩=some (.int .i64 dk)) (go_keep) (fail)
      obtain⟨u0,hb6,-,-⟩:=hzf.out.fin (.slice none 0 0) (.slice none 0 0) (.int .i64 0);go_wp2_with fail;refine bodyPost_ret (res_parse9 rfl rfl rfl ((drew_heap _ ▸ u0:_))) rfl ?_;rw[HPE.out];exact⟨hb6.drew,rfl⟩
     ·have hge':(s.size:Int)<=da:=by omega
      go_wp2_with fail;clear p0 p1 p2 p3 p4 p5 q0 q1 q2 q3;generalize hwz:wk.setCell ⟨W.heap.size+1+1,2,none⟩ (.int .i64 k)=wz;have hz:Hid (Sz W wz _ _ _ _ _ _ _):=Hyd (by rw[<-hwz];exact HZ.out);clear hwz HZ;obtain⟨z0,z1,z2,z3,z4,z5,z6,z7,z8,z9,y0,y1,y2⟩:=hz.out.cells
      simp only[S9.at,S9.bad,S9.pos]at z4 z5 z6
      have n0:W.heap.size≠W.heap.size+1:=(by omega);have n1:W.heap.size+1≠W.heap.size:=(by omega)
      go_region_held3 (fun w'=>w'.cell? ⟨W.heap.size+1,2,none⟩=some (.int .i64 de)/\w'.cell? ⟨W.heap.size+1,3,none⟩=some (.int .i64 dk)) (go_keep) (fail)
      obtain⟨u0,hb6,-,-⟩:=hz.out.fin (.slice none 0 0) (.slice none 0 0) (.int .i64 0);go_wp2_with fail;refine bodyPost_ret (res_parse9 rfl rfl rfl ((drew_heap _ ▸ u0:_))) rfl ?_;rw[HPE.out];exact⟨hb6.drew,rfl⟩
    ·have hpa:Hid (pPat s.data.toList=.inr (⟨ss,[],k⟩,a6)):=Hyd (by
      have hf:=HF.out
      simp only[Goes]at hf
      cases hx:pPat s.data.toList with
      | inl f =>
       obtain⟨k1,e1⟩:=f;rw[hx]at hf;obtain⟨a',hf⟩:=hf
       cases hf
      | inr f =>
       obtain⟨p1,a1⟩:=f;rw[hx]at hf;obtain⟨hf1,hf2⟩:=hf
       cases hf2
       rw[<-hf1])
     simp only[S9.at,S9.bad,S9.pos]at q1 q2 q3
     have HZ:=hz
     rcases Nat.lt_or_ge a6 s.size with hlt | hge
     ·have hlt':(a6:Int)<s.size:=by omega
      have HPE:Hid (pParse s.data.toList=.inl (a6,20)):=Hyd (by rw[HPP.out,hpa.out];exact if_pos (by rw[Hlen.out];exact hlt));go_wp2_with fail;clear p0 p1 p2 p3 p4 p5 q0 q1 q2 q3;generalize hwz:wk.setCell ⟨W.heap.size+1+1,2,none⟩ (.int .i64 k)=wz;have hz:Hid (Sz W wz _ _ _ _ _ _ _):=Hyd (by rw[<-hwz];exact HZ.out);clear hwz HZ;refine(fail9_alive (W.heap.size+1) s a6 a6 20 _ hz.out.rd (by decide)).mono ?_;rintro e wf ⟨rfl,hrf,hgf⟩;have hzf:=Hyd (hz.out.move hrf hgf);clear hrf hgf hz;obtain⟨z0,z1,z2,z3,z4,z5,z6,z7,z8,z9,y0,y1,y2⟩:=hzf.out.cells
      simp only[S9.at,S9.bad,S9.pos]at z4 z5 z6
      have n0:W.heap.size≠W.heap.size+1:=(by omega);have n1:W.heap.size+1≠W.heap.size:=(by omega);go_wp2_with fail
      go_region_held3 (fun w'=>w'.cell? ⟨W.heap.size+1,2,none⟩=some (.int .i64 20)/\w'.cell? ⟨W.heap.size+1,3,none⟩=some (.int .i64 a6)) (go_keep) (fail)
      obtain⟨u0,hb6,-,-⟩:=hzf.out.fin (.slice none 0 0) (.slice none 0 0) (.int .i64 0);go_wp2_with fail;refine bodyPost_ret (res_parse9 rfl rfl rfl ((drew_heap _ ▸ u0:_))) rfl ?_;rw[HPE.out];exact⟨hb6.drew,rfl⟩
     ·have hge':(s.size:Int)<=a6:=by omega
      have HPE:Hid (pParse s.data.toList=.inr ⟨ss,[],k⟩):=Hyd (by rw[HPP.out,hpa.out];exact if_neg (by rw[Hlen.out];omega));have z7:wk.cell? ⟨W.heap.size,0,none⟩=some (.slice none 0 0):=(CeH hsk.out.res 0).trans rfl;have z8:wk.cell? ⟨W.heap.size,1,none⟩=some (.slice none 0 0):=(CeH hsk.out.res 1).trans rfl;have z9:wk.cell? ⟨W.heap.size,2,none⟩=some (.int .i64 0):=(CeH hsk.out.res 2).trans rfl;have y0:=Lib.frozen_of_heap hsk.out.res 0;have y1:=Lib.frozen_of_heap hsk.out.res 1;have y2:=Lib.frozen_of_heap hsk.out.res 2;go_wp2_with fail;obtain⟨u0,hb6,o1,o2⟩:=HZ.out.fin (.slice sad ss.length scap) (.slice none 0 0) (.int .i64 k);refine bodyPost_ret (res_parse9 rfl rfl rfl u0) rfl ?_;rw[HPE.out];exact⟨hb6,_,_,rfl,o1,o2⟩
  case' inr =>
   go_loopw [7] (fun u7 wr=>∃ (m:Bool) (ss:List Stp) (st:S9) (sl:Value),u7=.bool m/\ss.length<=9/\(m=true->ss.length<=8/\∃ a,st=.inr a)/\Sq W wr s st sl (.slice none 0 0) ss []/\∀ y st',Goes st (if m then qSteps s.data.toList ss else pRest s.data.toList ss) y st' -> Goes (.inr 0) (fun _=>pPat s.data.toList) y st') (fun _ wr=>10-lenAt wr (W.heap.size+2) 0)
   case atStart=>exact⟨true,[],_,_,rfl,by simp,fun _=>⟨by simp,_,rfl⟩,HS4.out,HGO.out⟩
   case round =>
    clear HGO HS4;obtain⟨m,ss,st,sl,rfl,h9,hm8,hsq,hgo⟩:=hrel;have HS:=Hyd hsq;have HGO:=Hyd hgo;clear hsq hgo;obtain⟨sad,scap,hsl⟩:=own_slice HS.out.own1;subst hsl
    cases m with
    | true =>
     obtain⟨h8,a,rfl⟩:=hm8 rfl;clear hm8;obtain⟨p0,p1,p2,p3,p4,p5,q0,q1,q2,q3⟩:=HS.out.cells
     simp only[S9.bad]at q2
     go_wp2_with fail;refine(step9 (W.heap.size+1) s _ ss.length wr HS.out.rd hs h8).mono ?_;rintro e w1 ⟨x,st1,rfl,hr1,hg1,hgo1⟩;have hs1:=Hyd (HS.out.move hr1 hg1);have Hgo1:=Hyd hgo1;unfold stpV;clear hr1 hg1 hgo1 p0 p1 p2 p3 p4 p5 q0 q1 q2 q3;have hsa:=Hyd (hs1.out.alloc (.cells #[.int .u8 x.k,.int .u8 x.nm,.bool x.neg,.int .i64 x.lo,.int .i64 x.hi] 126));obtain⟨p0,p1,p2,p3,p4,p5,q0,q1,q2,q3⟩:=hsa.out.cells
     go_wp2_with (at_builtin;refine wpList_append_lies _ rfl (.tmp 35) (.tmp 37) 67 rfl W.heap.size 126 i0 _ 5 24 Tryz.underlying67 hi hz0 hz1 hz2 rfl (by decide) _ _ _ rfl (hsa.out.own1.alloc _) ⟨w1.heap.size+1,0,none⟩ 1 1 (encS x) rfl rfl ?c1 ?c2 (by decide) ?c3 ?c4 ?c5 _ rfl ?_)
     case c1 =>
      intro j u hu;have:=new_cell (w1.alloc (.cells #[.int .u8 x.k,.int .u8 x.nm,.bool x.neg,.int .i64 x.lo,.int .i64 x.hi] 126)) (encS x).toArray 126 j u (by simpa using hu);rw[show(w1.alloc (.cells #[.int .u8 x.k,.int .u8 x.nm,.bool x.neg,.int .i64 x.lo,.int .i64 x.hi] 126)).heap.size=w1.heap.size+1 by simp]at this;exact this
     case c2=>exact encS_one _
     case c3=>unfold maxLen;omega
     case c4=>omega
     case c5=>have:=hs1.out.bel.size;simp;omega
     intro g cap w2 hown hgrow _ _;have hb2:=Hyd (heap_kept (heap_alloc (o':=.cells #[.int .u8 x.k,.int .u8 x.nm,.bool x.neg,.int .i64 x.lo,.int .i64 x.hi] 126) hsa.out.blk) (hsa.out.own1.alloc _) (by decide) hgrow);have hs2:=Hyd ((hsa.out.alloc (.cells #[.int .u8 x.k,.int .u8 x.nm,.bool x.neg,.int .i64 x.lo,.int .i64 x.hi] 126)).step hgrow hown);clear p0 p1 p2 p3 p4 p5 q0 q1 q2 q3;have c0:w2.cell? ⟨W.heap.size+1+1,0,none⟩=some _:=(CeH hb2.out 0).trans rfl;have f0:w2.frozen? ⟨W.heap.size+1+1,0,none⟩=false:=Lib.frozen_of_heap hb2.out 0;clear hown hgrow hsa hb2;go_wp2_with fail;clear c0 f0;generalize hw5:w2.setCell ⟨W.heap.size+1+1,0,none⟩ _=w5;have hs2:Hid (Sq W w5 _ _ _ _ _ _):=Hyd (by rw[<-hw5];exact hs2.out);clear hw5;have hnx:=next9 (W.heap.size+1) s st1 44 44 w5 hs2.out.rd hs
     cases hb:nextB s.data.toList st1 44 44 with
     | true =>
      obtain⟨a1,rfl⟩:=nextB_alive hb;have hib:pHas s.data.toList a1 44=true:=inB_has.symm.trans hb
      have hl8:ss.length<8:=by
       obtain⟨a0,he0,hp0⟩:=Hgo1.out.inr;exact pStep_lt hp0 h8
      have HGO2:Hid (∀ y st',Goes (.inr (a1+1)) (qSteps s.data.toList (ss++[x])) y st' -> Goes (.inr 0) (fun _=>pPat s.data.toList) y st'):=Hyd fun y st' hh=>HGO.out y st' (by
       refine Hgo1.out.bind (q:=fun x a'=>(pSteps s.data.toList (8-ss.length) a' (ss++[x])).bind fun ss a2=>pRest s.data.toList ss a2) ?_;have hm:=steps_more (l:=s.data.toList) (ss:=ss++[x]) (a:=a1) (by simp;omega) (by simp) hib;rw[show 9-(ss++[x]).length=8-ss.length by rw[List.length_append,List.length_singleton];omega]at hm
       simp only[Goes]at hh ⊢
       rw[hm]
       exact hh)
      rw[hb]at hnx;have Hnx:=Hyd hnx;have Hib:=Hyd hib;clear hb hnx hib HGO Hgo1;refine Hnx.out.mono ?_;rintro e w6 ⟨rfl,n6,rfl⟩;go_wp2_with fail;refine(take9_has (W.heap.size+1) s a1 44 44 44 _ (hs2.out.drewN n6).rd hs Hib.out (by decide) (by decide)).mono ?_;rintro e w7 ⟨rfl,hr7,hg7⟩;have hs7:=Hyd ((hs2.out.drewN n6).move hr7 hg7);clear hr7 hg7;go_wp2_with fail;go_roundw
      case rel=>exact⟨true,ss++[x],_,_,rfl,by simp;omega,fun _=>⟨by simp;omega,_,rfl⟩,hs7.out,HGO2.out⟩
      case measure =>
       have e1:=hs7.out.len1;have e2:=HS.out.len1;rw[List.length_append,List.length_singleton]at e1
       simp only[e1,e2]
       omega
     | false =>
      have HGO2:Hid (∀ y st',Goes st1 (pRest s.data.toList (ss++[x])) y st' -> Goes (.inr 0) (fun _=>pPat s.data.toList) y st'):=Hyd fun y st' hh=>HGO.out y st' (by
       refine Hgo1.out.bind (q:=fun x a'=>(pSteps s.data.toList (8-ss.length) a' (ss++[x])).bind fun ss a2=>pRest s.data.toList ss a2) ?_
       refine hh.eq fun a1 he=>?_
       subst he
       have hl8:ss.length<8:=by
        obtain⟨a0,he0,hp0⟩:=Hgo1.out.inr;exact pStep_lt hp0 h8
       have hib:pHas s.data.toList a1 44=false:=inB_has.symm.trans hb;have hm:=steps_done (l:=s.data.toList) (ss:=ss++[x]) (a:=a1) (by simp;omega) hib;rw[show 9-(ss++[x]).length=8-ss.length by rw[List.length_append,List.length_singleton];omega]at hm
       exact hm.symm)
      rw[hb]at hnx;have Hnx:=Hyd hnx;clear hb hnx HGO Hgo1;refine Hnx.out.mono ?_;rintro e w6 ⟨rfl,n6,rfl⟩;go_wp2_with fail;have hs7:=Hyd (hs2.out.drewN n6);go_roundw
      case rel=>exact⟨false,ss++[x],_,_,rfl,by simp;omega,(fun h=>by cases h),hs7.out,HGO2.out⟩
      case measure =>
       have e1:=hs7.out.len1;have e2:=HS.out.len1;rw[List.length_append,List.length_singleton]at e1
       simp only[e1,e2]
       omega
    | false =>
     clear hm8 h9;go_wp2_with fail
     have HGO:Hid (∀ y st',Goes st (pRest s.data.toList ss) y st' -> Goes (.inr 0) (fun _=>pPat s.data.toList) y st'):=Hyd fun y st' hh=>HGO.out y st' hh
     refine(word9 (W.heap.size+1) s _ ⟨#[41,32,87]⟩ _ HS.out.rd hs (by decide)).mono ?_;rintro e w5 ⟨u5,st5,rfl,hr5,hg5,hgo5⟩;have HS5:=Hyd (HS.out.move hr5 hg5)
     have HGO5:Hid (∀ y st',Goes st5 (qWhere s.data.toList ss) y st' -> Goes (.inr 0) (fun _=>pPat s.data.toList) y st'):=Hyd fun y st' hh=>HGO.out y st' ((hgo5.bind (q:=fun _ a3=>qWhere s.data.toList ss a3) hh).eq fun a _=>(rest_eq _ _ _).symm)
     clear hr5 hg5 hgo5 HGO HS;go_wp2_with fail;refine(next9 (W.heap.size+1) s st5 72 72 w5 HS5.out.rd hs).mono ?_;rintro e w6 ⟨rfl,n6,rfl⟩;have HS6:=Hyd (HS5.out.drewN n6)
     cases hb:nextB s.data.toList st5 72 72 with
     | false =>
      have HGOe:Hid (∀ y st',Goes st5 (pEnd s.data.toList ss []) y st' -> Goes (.inr 0) (fun _=>pPat s.data.toList) y st'):=Hyd fun y st' hh=>HGO5.out y st' (hh.eq fun a he=>by
       subst he;have hib:pHas s.data.toList a 72=false:=inB_has.symm.trans hb;unfold qWhere
       rw[if_neg (by rw[hib];simp)])
      clear hb HGO5;go_wp2_with fail;refine(word9 (W.heap.size+1) s _ ⟨#[73,84,72,73,78,32]⟩ _ HS6.out.rd hs (by decide)).mono ?_;rintro e wt ⟨ut,stt,rfl,hrt,hgt,hgot⟩;have hst:=Hyd (HS6.out.move hrt hgt)
      have HGOt:Hid (∀ y st',Goes stt (pEnd2 s.data.toList ss []) y st' -> Goes (.inr 0) (fun _=>pPat s.data.toList) y st'):=Hyd fun y st' hh=>HGOe.out y st' ((hgot.bind (q:=fun _ a1=>pEnd2 s.data.toList ss [] a1) hh).eq fun a _=>(end_eq _ _ _ _).symm)
      clear hrt hgt hgot HGOe;go_wp2_with fail;refine(number9 (W.heap.size+1) s _ 48 _ hst.out.rd hs (by decide)).mono ?_;rintro e wk ⟨k,stk,hk,rfl,hrk,hgk,hgok⟩;have hsk:=Hyd (hst.out.move hrk hgk);have HF:Hid (Goes (.inr 0) (fun _=>pPat s.data.toList) (⟨ss,[],k⟩:Ptn) stk):=Hyd (HGOt.out _ _ ((hgok.bind (q:=fun k a2=>(.inr ((⟨ss,[],k⟩:Ptn),a2):PR Ptn)) (goes_end _ _ _ fun _=>rfl)).eq fun _ _=>rfl));clear hrk hgk hgok HGOt;obtain⟨p0,p1,p2,p3,p4,p5,q0,q1,q2,q3⟩:=hsk.out.cells;have hz:=Hyd (hsk.out.win k)
      rcases stk with ⟨dk,de,da⟩ | a6
      ·have HPE:Hid (pParse s.data.toList=.inl (dk,de)):=Hyd (by
        rw[HPP.out];have hf:=HF.out
        simp only[Goes]at hf
        cases hx:pPat s.data.toList with
        | inl f =>
         obtain⟨k1,e1⟩:=f;rw[hx]at hf;obtain⟨a',hf⟩:=hf
         cases hf
         rfl
        | inr f =>
         obtain⟨p1,a1⟩:=f;rw[hx]at hf;obtain⟨_,hf⟩:=hf
         cases hf)
       have hne:=hsk.out.rd.ne dk de da rfl
       have hne1:(de != 0)=true:=by rw[bne_iff_ne];exact hne
       have hne2:(de==0)=false:=by rw[beq_eq_false_iff_ne];exact hne
       simp only[S9.at,S9.bad,S9.pos]at q1 q2 q3
       clear hne;have HZ:=hz
       rcases Nat.lt_or_ge da s.size with hlt | hge
       ·have hlt':(da:Int)<s.size:=(by omega);go_wp2_with fail;clear p0 p1 p2 p3 p4 p5 q0 q1 q2 q3;generalize hwz:wk.setCell ⟨W.heap.size+1+1,2,none⟩ (.int .i64 k)=wz;have hz:Hid (Sz W wz _ _ _ _ _ _ _):=Hyd (by rw[<-hwz];exact HZ.out);clear hwz HZ;refine(fail9_dead (W.heap.size+1) s dk de da _ _ _ hz.out.rd).mono ?_;rintro e wf ⟨rfl,hrf,hgf⟩;have hzf:=Hyd (hz.out.move hrf hgf);clear hrf hgf hz;obtain⟨z0,z1,z2,z3,z4,z5,z6,z7,z8,z9,y0,y1,y2⟩:=hzf.out.cells
        simp only[S9.at,S9.bad,S9.pos]at z4 z5 z6
        have n0:W.heap.size≠W.heap.size+1:=(by omega);have n1:W.heap.size+1≠W.heap.size:=(by omega);go_wp2_with fail
        go_region_held3 (fun w'=>w'.cell? ⟨W.heap.size+1,2,none⟩=some (.int .i64 de)/\w'.cell? ⟨W.heap.size+1,3,none⟩=some (.int .i64 dk)) (go_keep) (fail)
        obtain⟨u0,hb6,-,-⟩:=hzf.out.fin (.slice none 0 0) (.slice none 0 0) (.int .i64 0);go_wp2_with fail;refine bodyPost_ret (res_parse9 rfl rfl rfl ((drew_heap _ ▸ u0:_))) rfl ?_;rw[HPE.out];exact⟨hb6.drew,rfl⟩
       ·have hge':(s.size:Int)<=da:=(by omega);go_wp2_with fail;clear p0 p1 p2 p3 p4 p5 q0 q1 q2 q3;generalize hwz:wk.setCell ⟨W.heap.size+1+1,2,none⟩ (.int .i64 k)=wz;have hz:Hid (Sz W wz _ _ _ _ _ _ _):=Hyd (by rw[<-hwz];exact HZ.out);clear hwz HZ;obtain⟨z0,z1,z2,z3,z4,z5,z6,z7,z8,z9,y0,y1,y2⟩:=hz.out.cells
        simp only[S9.at,S9.bad,S9.pos]at z4 z5 z6
        have n0:W.heap.size≠W.heap.size+1:=(by omega);have n1:W.heap.size+1≠W.heap.size:=(by omega)
        go_region_held3 (fun w'=>w'.cell? ⟨W.heap.size+1,2,none⟩=some (.int .i64 de)/\w'.cell? ⟨W.heap.size+1,3,none⟩=some (.int .i64 dk)) (go_keep) (fail)
        obtain⟨u0,hb6,-,-⟩:=hz.out.fin (.slice none 0 0) (.slice none 0 0) (.int .i64 0);go_wp2_with fail;refine bodyPost_ret (res_parse9 rfl rfl rfl ((drew_heap _ ▸ u0:_))) rfl ?_;rw[HPE.out];exact⟨hb6.drew,rfl⟩
      ·have hpa:Hid (pPat s.data.toList=.inr (⟨ss,[],k⟩,a6)):=Hyd (by
        have hf:=HF.out
        simp only[Goes]at hf
        cases hx:pPat s.data.toList with
        | inl f =>
         obtain⟨k1,e1⟩:=f;rw[hx]at hf;obtain⟨a',hf⟩:=hf
         cases hf
        | inr f =>
         obtain⟨p1,a1⟩:=f;rw[hx]at hf;obtain⟨hf1,hf2⟩:=hf
         cases hf2
         rw[<-hf1])
       simp only[S9.at,S9.bad,S9.pos]at q1 q2 q3
       have HZ:=hz
       rcases Nat.lt_or_ge a6 s.size with hlt | hge
       ·have hlt':(a6:Int)<s.size:=(by omega);have HPE:Hid (pParse s.data.toList=.inl (a6,20)):=Hyd (by rw[HPP.out,hpa.out];exact if_pos (by rw[Hlen.out];exact hlt));go_wp2_with fail;clear p0 p1 p2 p3 p4 p5 q0 q1 q2 q3;generalize hwz:wk.setCell ⟨W.heap.size+1+1,2,none⟩ (.int .i64 k)=wz;have hz:Hid (Sz W wz _ _ _ _ _ _ _):=Hyd (by rw[<-hwz];exact HZ.out);clear hwz HZ;refine(fail9_alive (W.heap.size+1) s a6 a6 20 _ hz.out.rd (by decide)).mono ?_;rintro e wf ⟨rfl,hrf,hgf⟩;have hzf:=Hyd (hz.out.move hrf hgf);clear hrf hgf hz;obtain⟨z0,z1,z2,z3,z4,z5,z6,z7,z8,z9,y0,y1,y2⟩:=hzf.out.cells
        simp only[S9.at,S9.bad,S9.pos]at z4 z5 z6
        have n0:W.heap.size≠W.heap.size+1:=(by omega);have n1:W.heap.size+1≠W.heap.size:=(by omega);go_wp2_with fail
        go_region_held3 (fun w'=>w'.cell? ⟨W.heap.size+1,2,none⟩=some (.int .i64 20)/\w'.cell? ⟨W.heap.size+1,3,none⟩=some (.int .i64 a6)) (go_keep) (fail)
        obtain⟨u0,hb6,-,-⟩:=hzf.out.fin (.slice none 0 0) (.slice none 0 0) (.int .i64 0);go_wp2_with fail;refine bodyPost_ret (res_parse9 rfl rfl rfl ((drew_heap _ ▸ u0:_))) rfl ?_;rw[HPE.out];exact⟨hb6.drew,rfl⟩
       ·have hge':(s.size:Int)<=a6:=(by omega);have HPE:Hid (pParse s.data.toList=.inr ⟨ss,[],k⟩):=Hyd (by rw[HPP.out,hpa.out];exact if_neg (by rw[Hlen.out];omega));have z7:wk.cell? ⟨W.heap.size,0,none⟩=some (.slice none 0 0):=(CeH hsk.out.res 0).trans rfl;have z8:wk.cell? ⟨W.heap.size,1,none⟩=some (.slice none 0 0):=(CeH hsk.out.res 1).trans rfl;have z9:wk.cell? ⟨W.heap.size,2,none⟩=some (.int .i64 0):=(CeH hsk.out.res 2).trans rfl;have y0:=Lib.frozen_of_heap hsk.out.res 0;have y1:=Lib.frozen_of_heap hsk.out.res 1;have y2:=Lib.frozen_of_heap hsk.out.res 2;go_wp2_with fail;obtain⟨u0,hb6,o1,o2⟩:=HZ.out.fin (.slice sad ss.length scap) (.slice none 0 0) (.int .i64 k);refine bodyPost_ret (res_parse9 rfl rfl rfl u0) rfl ?_;rw[HPE.out];exact⟨hb6,_,_,rfl,o1,o2⟩
     | true =>
      obtain⟨a5,rfl⟩:=nextB_alive hb;have hib:pHas s.data.toList a5 72=true:=inB_has.symm.trans hb
      have HGO6:Hid (∀ y st',Goes (.inr a5) (fun a=>(pWord s.data.toList [72,69,82,69,32] a).bind fun _ a4=>qConds s.data.toList ss [] a4) y st' -> Goes (.inr 0) (fun _=>pPat s.data.toList) y st'):=Hyd fun y st' hh=>HGO5.out y st' (hh.alive (by unfold qWhere;rw[if_pos hib]))
      clear hb hib HGO5;go_wp2_with fail;refine(word9 (W.heap.size+1) s _ ⟨#[72,69,82,69,32]⟩ _ HS6.out.rd hs (by decide)).mono ?_;rintro e w7 ⟨u7',st7,rfl,hr7,hg7,hgo7⟩;have HS7:=Hyd (HS6.out.move hr7 hg7)
      have HGO7:Hid (∀ y st',Goes st7 (qConds s.data.toList ss []) y st' -> Goes (.inr 0) (fun _=>pPat s.data.toList) y st'):=Hyd fun y st' hh=>HGO6.out y st' (hgo7.bind (q:=fun _ a4=>qConds s.data.toList ss [] a4) hh)
      clear hr7 hg7 hgo7 HGO6 HS6 HS5;go_wp2_with fail
      ·go_loopw [7] (fun u7 wr=>∃ (m:Bool) (cs:List Cnd) (st:S9) (cl:Value),u7=.bool m/\cs.length<=17/\(m=true->cs.length<=16)/\Sq W wr s st (.slice sad ss.length scap) cl ss cs/\∀ y st',Goes st (if m then qConds s.data.toList ss cs else qTail s.data.toList ss cs) y st' -> Goes (.inr 0) (fun _=>pPat s.data.toList) y st') (fun _ wr=>18-lenAt wr (W.heap.size+2) 1)
       case atStart=>exact⟨true,[],_,_,rfl,by simp,fun _=>by simp,HS7.out,HGO7.out⟩
       case round =>
        clear HGO7 HS7;obtain⟨m,cs,st,cl,rfl,h17,hm16,hsq,hgo⟩:=hrel;have HS:=Hyd hsq;have HGO:=Hyd hgo;clear hsq hgo;obtain⟨cad,ccap,hcl⟩:=own_slice HS.out.own2;subst hcl
        cases m with
        | true =>
         have h16:=hm16 rfl;clear hm16
         rcases st with ⟨fk,fe,fa⟩ | a
         ·have hne1:(fe==0)=false:=by rw[beq_eq_false_iff_ne];exact HS.out.rd.ne fk fe fa rfl
          obtain⟨p0,p1,p2,p3,p4,p5,q0,q1,q2,q3⟩:=HS.out.cells
          simp only[S9.bad]at q2
          go_wp2_with fail;clear p0 p1 p2 p3 p4 p5 q0 q1 q2 q3 hne1;refine(take9 (W.heap.size+1) s _ 87 87 _ HS.out.rd hs).mono ?_;rintro e w8 ⟨u8',st8,rfl,hr8,hg8,hgo8⟩;have HS8:=Hyd (HS.out.move hr8 hg8)
          have HGOe:Hid (∀ y st',Goes st8 (pEnd s.data.toList ss cs) y st' -> Goes (.inr 0) (fun _=>pPat s.data.toList) y st'):=Hyd fun y st' hh=>HGO.out y st' (Goes.dead (hgo8.bind (q:=fun _ a8=>pEnd s.data.toList ss cs a8) hh))
          clear hr8 hg8 hgo8 HGO HS;go_wp2_with fail;refine(word9 (W.heap.size+1) s _ ⟨#[73,84,72,73,78,32]⟩ _ HS8.out.rd hs (by decide)).mono ?_;rintro e wt ⟨ut,stt,rfl,hrt,hgt,hgot⟩;have hst:=Hyd (HS8.out.move hrt hgt)
          have HGOt:Hid (∀ y st',Goes stt (pEnd2 s.data.toList ss cs) y st' -> Goes (.inr 0) (fun _=>pPat s.data.toList) y st'):=Hyd fun y st' hh=>HGOe.out y st' ((hgot.bind (q:=fun _ a1=>pEnd2 s.data.toList ss cs a1) hh).eq fun a _=>(end_eq _ _ _ _).symm)
          clear hrt hgt hgot HGOe;go_wp2_with fail;refine(number9 (W.heap.size+1) s _ 48 _ hst.out.rd hs (by decide)).mono ?_;rintro e wk ⟨k,stk,hk,rfl,hrk,hgk,hgok⟩;have hsk:=Hyd (hst.out.move hrk hgk);have HF:Hid (Goes (.inr 0) (fun _=>pPat s.data.toList) (⟨ss,cs,k⟩:Ptn) stk):=Hyd (HGOt.out _ _ ((hgok.bind (q:=fun k a2=>(.inr ((⟨ss,cs,k⟩:Ptn),a2):PR Ptn)) (goes_end _ _ _ fun _=>rfl)).eq fun _ _=>rfl));clear hrk hgk hgok HGOt;obtain⟨p0,p1,p2,p3,p4,p5,q0,q1,q2,q3⟩:=hsk.out.cells;have hz:=Hyd (hsk.out.win k)
          rcases stk with ⟨dk,de,da⟩ | a6
          ·have HPE:Hid (pParse s.data.toList=.inl (dk,de)):=Hyd (by
            rw[HPP.out];have hf:=HF.out
            simp only[Goes]at hf
            cases hx:pPat s.data.toList with
            | inl f =>
             obtain⟨k1,e1⟩:=f;rw[hx]at hf;obtain⟨a',hf⟩:=hf
             cases hf
             rfl
            | inr f =>
             obtain⟨p1,a1⟩:=f;rw[hx]at hf;obtain⟨_,hf⟩:=hf
             cases hf)
           have hne:=hsk.out.rd.ne dk de da rfl
           have hne1:(de != 0)=true:=by rw[bne_iff_ne];exact hne
           have hne2:(de==0)=false:=by rw[beq_eq_false_iff_ne];exact hne
           simp only[S9.at,S9.bad,S9.pos]at q1 q2 q3
           clear hne;have HZ:=hz
           rcases Nat.lt_or_ge da s.size with hlt | hge
           ·have hlt':(da:Int)<s.size:=(by omega);go_wp2_with fail;clear p0 p1 p2 p3 p4 p5 q0 q1 q2 q3;generalize hwz:wk.setCell ⟨W.heap.size+1+1,2,none⟩ (.int .i64 k)=wz;have hz:Hid (Sz W wz _ _ _ _ _ _ _):=Hyd (by rw[<-hwz];exact HZ.out);clear hwz HZ;refine(fail9_dead (W.heap.size+1) s dk de da _ _ _ hz.out.rd).mono ?_;rintro e wf ⟨rfl,hrf,hgf⟩;have hzf:=Hyd (hz.out.move hrf hgf);clear hrf hgf hz;obtain⟨z0,z1,z2,z3,z4,z5,z6,z7,z8,z9,y0,y1,y2⟩:=hzf.out.cells
            simp only[S9.at,S9.bad,S9.pos]at z4 z5 z6
            have n0:W.heap.size≠W.heap.size+1:=(by omega);have n1:W.heap.size+1≠W.heap.size:=(by omega);go_wp2_with fail
            go_region_held3 (fun w'=>w'.cell? ⟨W.heap.size+1,2,none⟩=some (.int .i64 de)/\w'.cell? ⟨W.heap.size+1,3,none⟩=some (.int .i64 dk)) (go_keep) (fail)
            obtain⟨u0,hb6,-,-⟩:=hzf.out.fin (.slice none 0 0) (.slice none 0 0) (.int .i64 0);go_wp2_with fail;refine bodyPost_ret (res_parse9 rfl rfl rfl ((drew_heap _ ▸ u0:_))) rfl ?_;rw[HPE.out];exact⟨hb6.drew,rfl⟩
           ·have hge':(s.size:Int)<=da:=(by omega);go_wp2_with fail;clear p0 p1 p2 p3 p4 p5 q0 q1 q2 q3;generalize hwz:wk.setCell ⟨W.heap.size+1+1,2,none⟩ (.int .i64 k)=wz;have hz:Hid (Sz W wz _ _ _ _ _ _ _):=Hyd (by rw[<-hwz];exact HZ.out);clear hwz HZ;obtain⟨z0,z1,z2,z3,z4,z5,z6,z7,z8,z9,y0,y1,y2⟩:=hz.out.cells
            simp only[S9.at,S9.bad,S9.pos]at z4 z5 z6
            have n0:W.heap.size≠W.heap.size+1:=(by omega);have n1:W.heap.size+1≠W.heap.size:=(by omega)
            go_region_held3 (fun w'=>w'.cell? ⟨W.heap.size+1,2,none⟩=some (.int .i64 de)/\w'.cell? ⟨W.heap.size+1,3,none⟩=some (.int .i64 dk)) (go_keep) (fail)
            obtain⟨u0,hb6,-,-⟩:=hz.out.fin (.slice none 0 0) (.slice none 0 0) (.int .i64 0);go_wp2_with fail;refine bodyPost_ret (res_parse9 rfl rfl rfl ((drew_heap _ ▸ u0:_))) rfl ?_;rw[HPE.out];exact⟨hb6.drew,rfl⟩
          ·have hpa:Hid (pPat s.data.toList=.inr (⟨ss,cs,k⟩,a6)):=Hyd (by
            have hf:=HF.out
            simp only[Goes]at hf
            cases hx:pPat s.data.toList with
            | inl f =>
             obtain⟨k1,e1⟩:=f;rw[hx]at hf;obtain⟨a',hf⟩:=hf
             cases hf
            | inr f =>
             obtain⟨p1,a1⟩:=f;rw[hx]at hf;obtain⟨hf1,hf2⟩:=hf
             cases hf2
             rw[<-hf1])
           simp only[S9.at,S9.bad,S9.pos]at q1 q2 q3
           have HZ:=hz
           rcases Nat.lt_or_ge a6 s.size with hlt | hge
           ·have hlt':(a6:Int)<s.size:=(by omega);have HPE:Hid (pParse s.data.toList=.inl (a6,20)):=Hyd (by rw[HPP.out,hpa.out];exact if_pos (by rw[Hlen.out];exact hlt));go_wp2_with fail;clear p0 p1 p2 p3 p4 p5 q0 q1 q2 q3;generalize hwz:wk.setCell ⟨W.heap.size+1+1,2,none⟩ (.int .i64 k)=wz;have hz:Hid (Sz W wz _ _ _ _ _ _ _):=Hyd (by rw[<-hwz];exact HZ.out);clear hwz HZ;refine(fail9_alive (W.heap.size+1) s a6 a6 20 _ hz.out.rd (by decide)).mono ?_;rintro e wf ⟨rfl,hrf,hgf⟩;have hzf:=Hyd (hz.out.move hrf hgf);clear hrf hgf hz;obtain⟨z0,z1,z2,z3,z4,z5,z6,z7,z8,z9,y0,y1,y2⟩:=hzf.out.cells
            simp only[S9.at,S9.bad,S9.pos]at z4 z5 z6
            have n0:W.heap.size≠W.heap.size+1:=(by omega);have n1:W.heap.size+1≠W.heap.size:=(by omega);go_wp2_with fail
            go_region_held3 (fun w'=>w'.cell? ⟨W.heap.size+1,2,none⟩=some (.int .i64 20)/\w'.cell? ⟨W.heap.size+1,3,none⟩=some (.int .i64 a6)) (go_keep) (fail)
            obtain⟨u0,hb6,-,-⟩:=hzf.out.fin (.slice none 0 0) (.slice none 0 0) (.int .i64 0);go_wp2_with fail;refine bodyPost_ret (res_parse9 rfl rfl rfl ((drew_heap _ ▸ u0:_))) rfl ?_;rw[HPE.out];exact⟨hb6.drew,rfl⟩
           ·have hge':(s.size:Int)<=a6:=(by omega);have HPE:Hid (pParse s.data.toList=.inr ⟨ss,cs,k⟩):=Hyd (by rw[HPP.out,hpa.out];exact if_neg (by rw[Hlen.out];omega));have z7:wk.cell? ⟨W.heap.size,0,none⟩=some (.slice none 0 0):=(CeH hsk.out.res 0).trans rfl;have z8:wk.cell? ⟨W.heap.size,1,none⟩=some (.slice none 0 0):=(CeH hsk.out.res 1).trans rfl;have z9:wk.cell? ⟨W.heap.size,2,none⟩=some (.int .i64 0):=(CeH hsk.out.res 2).trans rfl;have y0:=Lib.frozen_of_heap hsk.out.res 0;have y1:=Lib.frozen_of_heap hsk.out.res 1;have y2:=Lib.frozen_of_heap hsk.out.res 2;go_wp2_with fail;obtain⟨u0,hb6,o1,o2⟩:=HZ.out.fin (.slice sad ss.length scap) (.slice cad cs.length ccap) (.int .i64 k);refine bodyPost_ret (res_parse9 rfl rfl rfl u0) rfl ?_;rw[HPE.out];exact⟨hb6,_,_,rfl,o1,o2⟩
         obtain⟨p0,p1,p2,p3,p4,p5,q0,q1,q2,q3⟩:=HS.out.cells
         simp only[S9.bad]at q2
         go_wp2_with fail;refine(cond9 (W.heap.size+1) s _ cs.length wr HS.out.rd hs h16).mono ?_;rintro e w1 ⟨x,st1,rfl,hr1,hg1,hgo1⟩;have hs1:=Hyd (HS.out.move hr1 hg1);have Hgo1:=Hyd hgo1;unfold cndV;clear hr1 hg1 hgo1 p0 p1 p2 p3 p4 p5 q0 q1 q2 q3;have hsa:=Hyd (hs1.out.alloc (.cells #[.int .u8 x.l,.int .i64 x.op,.int .u8 x.r,.int .i64 x.k] 131));obtain⟨p0,p1,p2,p3,p4,p5,q0,q1,q2,q3⟩:=hsa.out.cells
         go_wp2_with (at_builtin;refine wpList_append_lies _ rfl (.tmp 66) (.tmp 68) 68 rfl W.heap.size 131 i1 _ 4 32 Tryz.underlying68 hj hy0 hy1 hy2 rfl (by decide) _ _ _ rfl (hsa.out.own2.alloc _) ⟨w1.heap.size+1,0,none⟩ 1 1 (encC x) rfl rfl ?c1 ?c2 (by decide) ?c3 ?c4 ?c5 _ rfl ?_)
         case c1 =>
          intro j u hu;have:=new_cell (w1.alloc (.cells #[.int .u8 x.l,.int .i64 x.op,.int .u8 x.r,.int .i64 x.k] 131)) (encC x).toArray 131 j u (by simpa using hu);rw[show(w1.alloc (.cells #[.int .u8 x.l,.int .i64 x.op,.int .u8 x.r,.int .i64 x.k] 131)).heap.size=w1.heap.size+1 by simp]at this;exact this
         case c2=>exact encC_one _
         case c3=>unfold maxLen;omega
         case c4=>omega
         case c5=>have:=hs1.out.bel.size;simp;omega
         intro g cap w2 hown hgrow _ _;have hb2:=Hyd (heap_kept (heap_alloc (o':=.cells #[.int .u8 x.l,.int .i64 x.op,.int .u8 x.r,.int .i64 x.k] 131) hsa.out.blk) (hsa.out.own2.alloc _) (by decide) hgrow);have hs2:=Hyd ((hsa.out.alloc (.cells #[.int .u8 x.l,.int .i64 x.op,.int .u8 x.r,.int .i64 x.k] 131)).cond hgrow hown);clear p0 p1 p2 p3 p4 p5 q0 q1 q2 q3;have c0:w2.cell? ⟨W.heap.size+1+1,1,none⟩=some _:=(CeH hb2.out 1).trans rfl;have f0:w2.frozen? ⟨W.heap.size+1+1,1,none⟩=false:=Lib.frozen_of_heap hb2.out 1;clear hown hgrow hsa hb2;go_wp2_with fail;clear c0 f0;generalize hw5:w2.setCell ⟨W.heap.size+1+1,1,none⟩ _=w5;have hs2:Hid (Sq W w5 _ _ _ _ _ _):=Hyd (by rw[<-hw5];exact hs2.out);clear hw5;refine(take9 (W.heap.size+1) s st1 32 32 w5 hs2.out.rd hs).mono ?_
         rintro e w6 ⟨v6,st2,rfl,hr6,hg6,hgo6⟩;have hs6:=Hyd (hs2.out.move hr6 hg6);have Hgo6:=Hyd hgo6;clear hr6 hg6 hgo6 hs2 hs1
         have HGO1:Hid (∀ y st',Goes st2 (fun a3=>(pConds s.data.toList (16-cs.length) a3 (cs++[x])).bind fun cs a7=>qTail s.data.toList ss cs a7) y st' -> Goes (.inr 0) (fun _=>pPat s.data.toList) y st'):=Hyd fun y st' hh=>HGO.out y st' (Hgo1.out.bind (q:=fun x a2=>(pOne s.data.toList a2 32 32).bind fun _ a3=>(pConds s.data.toList (16-cs.length) a3 (cs++[x])).bind fun cs a7=>qTail s.data.toList ss cs a7) (Hgo6.out.bind (q:=fun _ a3=>(pConds s.data.toList (16-cs.length) a3 (cs++[x])).bind fun cs a7=>qTail s.data.toList ss cs a7) hh))
         have hl16:∀ a3,st2=.inr a3->cs.length<16:=by
          intro a3 he;subst he;obtain⟨a2,he2,_⟩:=Hgo6.out.inr;subst he2;obtain⟨a0,he0,hp0⟩:=Hgo1.out.inr;exact pCond_lt hp0 h16
         have Hl16:=Hyd hl16;clear hl16 Hgo1 Hgo6 HGO;go_wp2_with fail;have hnx:=next9 (W.heap.size+1) s st2 65 65 w6 hs6.out.rd hs
         cases hb:nextB s.data.toList st2 65 65 with
         | true =>
          obtain⟨a1,rfl⟩:=nextB_alive hb;have hib:pHas s.data.toList a1 65=true:=inB_has.symm.trans hb;have hl8:=Hl16.out a1 rfl
          have HGO2:Hid (∀ y st',Goes (.inr a1) (fun a=>(pWord s.data.toList [65,78,68,32] a).bind fun _ a1=>qConds s.data.toList ss (cs++[x]) a1) y st' -> Goes (.inr 0) (fun _=>pPat s.data.toList) y st'):=Hyd fun y st' hh=>HGO1.out y st' (hh.alive (by
           have hm:=conds_more (l:=s.data.toList) (ss:=ss) (cs:=cs++[x]) (a:=a1) (by simp;omega) hib;rw[show 17-(cs++[x]).length=16-cs.length by rw[List.length_append,List.length_singleton];omega]at hm
           exact hm.symm))
          rw[hb]at hnx;have Hnx:=Hyd hnx;clear hb hnx hib HGO1;refine Hnx.out.mono ?_;rintro e w7 ⟨rfl,n7,rfl⟩;go_wp2_with fail;refine(word9 (W.heap.size+1) s _ ⟨#[65,78,68,32]⟩ _ (hs6.out.drewN n7).rd hs (by decide)).mono ?_;rintro e w8 ⟨u8',st8,rfl,hr8,hg8,hgo8⟩;have hs8:=Hyd ((hs6.out.drewN n7).move hr8 hg8)
          have HGO3:Hid (∀ y st',Goes st8 (qConds s.data.toList ss (cs++[x])) y st' -> Goes (.inr 0) (fun _=>pPat s.data.toList) y st'):=Hyd fun y st' hh=>HGO2.out y st' (hgo8.bind (q:=fun _ a1=>qConds s.data.toList ss (cs++[x]) a1) hh)
          clear hr8 hg8 hgo8 HGO2;go_wp2_with fail;go_roundw
          case rel=>exact⟨true,cs++[x],_,_,rfl,by simp;omega,(fun _=>by simp;omega),hs8.out,HGO3.out⟩
          case measure =>
           have e1:=hs8.out.len2;have e2:=HS.out.len2;rw[List.length_append,List.length_singleton]at e1
           simp only[e1,e2]
           omega
         | false =>
          have HGO2:Hid (∀ y st',Goes st2 (qTail s.data.toList ss (cs++[x])) y st' -> Goes (.inr 0) (fun _=>pPat s.data.toList) y st'):=Hyd fun y st' hh=>HGO1.out y st' (hh.eq fun a1 he=>by
           have hl8:=Hl16.out a1 he;subst he;have hib:pHas s.data.toList a1 65=false:=inB_has.symm.trans hb;have hm:=conds_done (l:=s.data.toList) (ss:=ss) (cs:=cs++[x]) (a:=a1) (by simp;omega) hib;rw[show 17-(cs++[x]).length=16-cs.length by rw[List.length_append,List.length_singleton];omega]at hm
           exact hm.symm)
          rw[hb]at hnx;have Hnx:=Hyd hnx;clear hb hnx HGO1;refine Hnx.out.mono ?_;rintro e w7 ⟨rfl,n7,rfl⟩;go_wp2_with fail;have hs7:=Hyd (hs6.out.drewN n7);go_roundw
          case rel=>exact⟨false,cs++[x],_,_,rfl,by simp;omega,(fun h=>by cases h),hs7.out,HGO2.out⟩
          case measure =>
           have e1:=hs7.out.len2;have e2:=HS.out.len2;rw[List.length_append,List.length_singleton]at e1
           simp only[e1,e2]
           omega
        | false =>
         clear hm16 h17
         have HGO:Hid (∀ y st',Goes st (qTail s.data.toList ss cs) y st' -> Goes (.inr 0) (fun _=>pPat s.data.toList) y st'):=Hyd fun y st' hh=>HGO.out y st' hh
         go_wp2_with fail;refine(take9 (W.heap.size+1) s _ 87 87 _ HS.out.rd hs).mono ?_;rintro e w8 ⟨u8',st8,rfl,hr8,hg8,hgo8⟩;have HS8:=Hyd (HS.out.move hr8 hg8)
         have HGOe:Hid (∀ y st',Goes st8 (pEnd s.data.toList ss cs) y st' -> Goes (.inr 0) (fun _=>pPat s.data.toList) y st'):=Hyd fun y st' hh=>HGO.out y st' (hgo8.bind (q:=fun _ a8=>pEnd s.data.toList ss cs a8) hh)
         clear hr8 hg8 hgo8 HGO HS;go_wp2_with fail;refine(word9 (W.heap.size+1) s _ ⟨#[73,84,72,73,78,32]⟩ _ HS8.out.rd hs (by decide)).mono ?_;rintro e wt ⟨ut,stt,rfl,hrt,hgt,hgot⟩;have hst:=Hyd (HS8.out.move hrt hgt)
         have HGOt:Hid (∀ y st',Goes stt (pEnd2 s.data.toList ss cs) y st' -> Goes (.inr 0) (fun _=>pPat s.data.toList) y st'):=Hyd fun y st' hh=>HGOe.out y st' ((hgot.bind (q:=fun _ a1=>pEnd2 s.data.toList ss cs a1) hh).eq fun a _=>(end_eq _ _ _ _).symm)
         clear hrt hgt hgot HGOe;go_wp2_with fail;refine(number9 (W.heap.size+1) s _ 48 _ hst.out.rd hs (by decide)).mono ?_;rintro e wk ⟨k,stk,hk,rfl,hrk,hgk,hgok⟩;have hsk:=Hyd (hst.out.move hrk hgk);have HF:Hid (Goes (.inr 0) (fun _=>pPat s.data.toList) (⟨ss,cs,k⟩:Ptn) stk):=Hyd (HGOt.out _ _ ((hgok.bind (q:=fun k a2=>(.inr ((⟨ss,cs,k⟩:Ptn),a2):PR Ptn)) (goes_end _ _ _ fun _=>rfl)).eq fun _ _=>rfl));clear hrk hgk hgok HGOt;obtain⟨p0,p1,p2,p3,p4,p5,q0,q1,q2,q3⟩:=hsk.out.cells;have hz:=Hyd (hsk.out.win k)
         rcases stk with ⟨dk,de,da⟩ | a6
         ·have HPE:Hid (pParse s.data.toList=.inl (dk,de)):=Hyd (by
           rw[HPP.out];have hf:=HF.out
           simp only[Goes]at hf
           cases hx:pPat s.data.toList with
           | inl f =>
            obtain⟨k1,e1⟩:=f;rw[hx]at hf;obtain⟨a',hf⟩:=hf
            cases hf
            rfl
           | inr f =>
            obtain⟨p1,a1⟩:=f;rw[hx]at hf;obtain⟨_,hf⟩:=hf
            cases hf)
          have hne:=hsk.out.rd.ne dk de da rfl
          have hne1:(de != 0)=true:=by rw[bne_iff_ne];exact hne
          have hne2:(de==0)=false:=by rw[beq_eq_false_iff_ne];exact hne
          simp only[S9.at,S9.bad,S9.pos]at q1 q2 q3
          clear hne;have HZ:=hz
          rcases Nat.lt_or_ge da s.size with hlt | hge
          ·have hlt':(da:Int)<s.size:=(by omega);go_wp2_with fail;clear p0 p1 p2 p3 p4 p5 q0 q1 q2 q3;generalize hwz:wk.setCell ⟨W.heap.size+1+1,2,none⟩ (.int .i64 k)=wz;have hz:Hid (Sz W wz _ _ _ _ _ _ _):=Hyd (by rw[<-hwz];exact HZ.out);clear hwz HZ;refine(fail9_dead (W.heap.size+1) s dk de da _ _ _ hz.out.rd).mono ?_;rintro e wf ⟨rfl,hrf,hgf⟩;have hzf:=Hyd (hz.out.move hrf hgf);clear hrf hgf hz;obtain⟨z0,z1,z2,z3,z4,z5,z6,z7,z8,z9,y0,y1,y2⟩:=hzf.out.cells
           simp only[S9.at,S9.bad,S9.pos]at z4 z5 z6
           have n0:W.heap.size≠W.heap.size+1:=(by omega);have n1:W.heap.size+1≠W.heap.size:=(by omega);go_wp2_with fail
           go_region_held3 (fun w'=>w'.cell? ⟨W.heap.size+1,2,none⟩=some (.int .i64 de)/\w'.cell? ⟨W.heap.size+1,3,none⟩=some (.int .i64 dk)) (go_keep) (fail)
           obtain⟨u0,hb6,-,-⟩:=hzf.out.fin (.slice none 0 0) (.slice none 0 0) (.int .i64 0);go_wp2_with fail;refine bodyPost_ret (res_parse9 rfl rfl rfl ((drew_heap _ ▸ u0:_))) rfl ?_;rw[HPE.out];exact⟨hb6.drew,rfl⟩
          ·have hge':(s.size:Int)<=da:=(by omega);go_wp2_with fail;clear p0 p1 p2 p3 p4 p5 q0 q1 q2 q3;generalize hwz:wk.setCell ⟨W.heap.size+1+1,2,none⟩ (.int .i64 k)=wz;have hz:Hid (Sz W wz _ _ _ _ _ _ _):=Hyd (by rw[<-hwz];exact HZ.out);clear hwz HZ;obtain⟨z0,z1,z2,z3,z4,z5,z6,z7,z8,z9,y0,y1,y2⟩:=hz.out.cells
           simp only[S9.at,S9.bad,S9.pos]at z4 z5 z6
           have n0:W.heap.size≠W.heap.size+1:=(by omega);have n1:W.heap.size+1≠W.heap.size:=(by omega)
           go_region_held3 (fun w'=>w'.cell? ⟨W.heap.size+1,2,none⟩=some (.int .i64 de)/\w'.cell? ⟨W.heap.size+1,3,none⟩=some (.int .i64 dk)) (go_keep) (fail)
           obtain⟨u0,hb6,-,-⟩:=hz.out.fin (.slice none 0 0) (.slice none 0 0) (.int .i64 0);go_wp2_with fail;refine bodyPost_ret (res_parse9 rfl rfl rfl ((drew_heap _ ▸ u0:_))) rfl ?_;rw[HPE.out];exact⟨hb6.drew,rfl⟩
         ·have hpa:Hid (pPat s.data.toList=.inr (⟨ss,cs,k⟩,a6)):=Hyd (by
           have hf:=HF.out
           simp only[Goes]at hf
           cases hx:pPat s.data.toList with
           | inl f =>
            obtain⟨k1,e1⟩:=f;rw[hx]at hf;obtain⟨a',hf⟩:=hf
            cases hf
           | inr f =>
            obtain⟨p1,a1⟩:=f;rw[hx]at hf;obtain⟨hf1,hf2⟩:=hf
            cases hf2
            rw[<-hf1])
          simp only[S9.at,S9.bad,S9.pos]at q1 q2 q3
          have HZ:=hz
          rcases Nat.lt_or_ge a6 s.size with hlt | hge
          ·have hlt':(a6:Int)<s.size:=(by omega);have HPE:Hid (pParse s.data.toList=.inl (a6,20)):=Hyd (by rw[HPP.out,hpa.out];exact if_pos (by rw[Hlen.out];exact hlt));go_wp2_with fail;clear p0 p1 p2 p3 p4 p5 q0 q1 q2 q3;generalize hwz:wk.setCell ⟨W.heap.size+1+1,2,none⟩ (.int .i64 k)=wz;have hz:Hid (Sz W wz _ _ _ _ _ _ _):=Hyd (by rw[<-hwz];exact HZ.out);clear hwz HZ;refine(fail9_alive (W.heap.size+1) s a6 a6 20 _ hz.out.rd (by decide)).mono ?_;rintro e wf ⟨rfl,hrf,hgf⟩;have hzf:=Hyd (hz.out.move hrf hgf);clear hrf hgf hz;obtain⟨z0,z1,z2,z3,z4,z5,z6,z7,z8,z9,y0,y1,y2⟩:=hzf.out.cells
           simp only[S9.at,S9.bad,S9.pos]at z4 z5 z6
           have n0:W.heap.size≠W.heap.size+1:=(by omega);have n1:W.heap.size+1≠W.heap.size:=(by omega);go_wp2_with fail
           go_region_held3 (fun w'=>w'.cell? ⟨W.heap.size+1,2,none⟩=some (.int .i64 20)/\w'.cell? ⟨W.heap.size+1,3,none⟩=some (.int .i64 a6)) (go_keep) (fail)
           obtain⟨u0,hb6,-,-⟩:=hzf.out.fin (.slice none 0 0) (.slice none 0 0) (.int .i64 0);go_wp2_with fail;refine bodyPost_ret (res_parse9 rfl rfl rfl ((drew_heap _ ▸ u0:_))) rfl ?_;rw[HPE.out];exact⟨hb6.drew,rfl⟩
          ·have hge':(s.size:Int)<=a6:=(by omega);have HPE:Hid (pParse s.data.toList=.inr ⟨ss,cs,k⟩):=Hyd (by rw[HPP.out,hpa.out];exact if_neg (by rw[Hlen.out];omega));have z7:wk.cell? ⟨W.heap.size,0,none⟩=some (.slice none 0 0):=(CeH hsk.out.res 0).trans rfl;have z8:wk.cell? ⟨W.heap.size,1,none⟩=some (.slice none 0 0):=(CeH hsk.out.res 1).trans rfl;have z9:wk.cell? ⟨W.heap.size,2,none⟩=some (.int .i64 0):=(CeH hsk.out.res 2).trans rfl;have y0:=Lib.frozen_of_heap hsk.out.res 0;have y1:=Lib.frozen_of_heap hsk.out.res 1;have y2:=Lib.frozen_of_heap hsk.out.res 2;go_wp2_with fail;obtain⟨u0,hb6,o1,o2⟩:=HZ.out.fin (.slice sad ss.length scap) (.slice cad cs.length ccap) (.int .i64 k);refine bodyPost_ret (res_parse9 rfl rfl rfl u0) rfl ?_;rw[HPE.out];exact⟨hb6,_,_,rfl,o1,o2⟩
end Go.Proofs.YtcojnojdgigmdaaGreatDoor.WP
