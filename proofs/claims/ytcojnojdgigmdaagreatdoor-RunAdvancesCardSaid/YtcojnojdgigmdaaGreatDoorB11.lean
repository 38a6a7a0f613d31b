/- The walks of event.Sort, near, equal. -/
import Derived.Test.YtcojnojdgigmdaaGreatDoorB01
import Derived.Shelf.SlSortCmp.InsertionK
import Derived.Test.YtcojnojdgigmdaaGreatDoorChecked
import Derived.WalkKit
import Derived.Outline
import Derived.RegionTactic
import Derived.Lib.Hide
import Derived.Test.YtcojnojdgigmdaaGreatDoorB10
import Derived.StillTailTactics
import Derived.Ground.SlsfProg
/- Sorting events: the row of events that a sort turns is still a row of the call's own. Plain worlds; no program in sight. -/
set_option maxHeartbeats 1600000
set_option maxRecDepth 100000
namespace Go.Proofs.YtcojnojdgigmdaaGreatDoor.Mem
open Go Go.RowKit Go.Sort
instance:Inhabited Ev:=⟨⟨0,0,0,0⟩⟩
theorem flat_cells (d:Array Ev):(flatK encE 4 d).toList=cellsOf encE d.toList:=by
 apply List.ext_getElem?
 intro t
 by_cases ht:t<d.size * 4
 ·have h1:(flatK encE 4 d).toList[t]? = some ((flatK encE 4 d)[t]!):=by
   rw[Array.getElem?_toList,getElem!_pos _ t (by simpa using ht),Array.getElem?_eq_getElem]
  rw[h1,get_flatK _ _ _ _ ht]
  have hd:t / 4<d.size:=by omega
  have e:t=t / 4 * 4+t % 4:=by omega
  have h2:=cellsOf_get encE_len d.toList (t / 4) (t % 4) (by omega) (by simpa using hd);rw[<-e]at h2;rw[h2,getElem!_pos d (t / 4) hd]
  have hl:t % 4<(encE d[t / 4]).length:=by rw[encE_len];omega
  rw[Array.getElem_toList,List.getElem?_eq_getElem hl]
  show some ((encE d[t / 4])[t % 4]!)=_
  rw[getElem!_pos (encE d[t / 4]) (t % 4) hl]
 ·rw[List.getElem?_eq_none (by simp;omega),List.getElem?_eq_none (by rw[cellsOf_length encE_len];simp;omega)]
theorem holds_own {w:World} {base g n cap:Nat} {e:TypeId} {l:List Ev} (h:w.ownsRow base e 4 (.slice (some ⟨g,0,none⟩) n cap) n (cellsOf encE l)):HoldsK encE 4 w g 0 l.toArray:=by
 have hn:l.length=n:=by
  have:=h.1;rw[cellsOf_length encE_len]at this;omega
 intro j hj
 have hj':j<n * 4:=by
  have:j<l.toArray.size * 4:=by simpa using hj
  simp at this;omega
 have hl:j<(cellsOf encE l).length:=by rw[cellsOf_length encE_len];omega
 have hc:=h.cells (g:=g) rfl j _ (List.getElem?_eq_getElem hl);rw[lit_add]at hc;refine⟨?_, ?_⟩
 ·rw[hc]
  congr 1
  have e1:(flatK encE 4 l.toArray)[j]! = (flatK encE 4 l.toArray)[j]:=getElem!_pos _ j (by simpa using hj)
  show _=(flatK encE 4 l.toArray)[j]!
  rw[e1];have h2:=flat_cells l.toArray
  have h3:(flatK encE 4 l.toArray).toList[j]? = (cellsOf encE l)[j]?:=by rw[h2]
  rw[Array.getElem?_toList,Array.getElem?_eq_getElem (by simpa using hj),List.getElem?_eq_getElem hl]at h3
  injection h3 with h3
  exact h3.symm
 ·rcases h.2 with ⟨h0,_⟩ | ⟨g',cap',cur,h0,_,hh,_⟩
  ·cases h0
  ·injection h0 with h0;injection h0 with h0;injection h0 with h0
   subst h0
   simp[World.frozen?,hh]
theorem heap_putRow_other (w:World) (blk off:Nat) (F:Array Value) (k:Nat) (hk:k≠blk):(putRow id w blk off F).heap[k]? = w.heap[k]?:=by
 simp only[putRow,mapBlock,Array.getElem?_modify]
 rw[if_neg (Ne.symm hk)]
theorem heap_putRow_same (w:World) (blk off:Nat) (F cur:Array Value) (t:TypeId) (fr:Nat×Nat) (h:w.heap[blk]? = some (.cells cur t fr)):(putRow id w blk off F).heap[blk]? = some (.cells (putCells id off F cur) t fr):=by
 simp only[putRow,mapBlock,Array.getElem?_modify,if_true,h]
 rfl
theorem own_sorted {w:World} {base g n cap m:Nat} {e:TypeId} {l:List Ev} {d:Array Ev} {os:Array Obj} (h:w.ownsRow base e 4 (.slice (some ⟨g,0,none⟩) n cap) n (cellsOf encE l)) (hd:d.size=n) :
  (sortWorldK encE 4 w g 0 m d os).ownsRow base e 4 (.slice (some ⟨g,0,none⟩) n cap) n (cellsOf encE d.toList)/\Below base w (sortWorldK encE 4 w g 0 m d os):=by
 rcases h.2 with ⟨h0,_⟩ | ⟨g',cap',cur,h0,hb,hh,hnc,hcm,hcs,hx⟩
 ·cases h0
 ·injection h0 with h0 _ hc;injection h0 with h0;injection h0 with h0
  subst h0 hc;have hg:g<w.heap.size:=heap_lt hh;have hp:(putRow id (Sort.ahead w m) g 0 (flatK encE 4 d)).heap[g]? = some (.cells (putCells id 0 (flatK encE 4 d) cur) e (0,0)):=heap_putRow_same (Sort.ahead w m) g 0 _ cur e (0,0) hh
  have hsz:(putRow id (Sort.ahead w m) g 0 (flatK encE 4 d)).heap.size=w.heap.size:=by
   show(putRowK encE 4 (Sort.ahead w m) g 0 d).heap.size=_
   rw[size_putRowK];rfl
  refine⟨⟨by rw[cellsOf_length encE_len];simp[hd],.inr ⟨g,cap,putCells id 0 (flatK encE 4 d) cur,rfl,hb, ?_,hnc,hcm, ?_, ?_⟩⟩, ?_⟩
  ·show(grow (putRow id (Sort.ahead w m) g 0 (flatK encE 4 d)) os).heap[g]? = _
   rw[heap_grow_old _ os (by rw[hsz];exact hg),hp]
  ·simp[putCells,hcs]
  ·rw[<-flat_cells]
   apply List.ext_getElem?
   intro t
   by_cases ht:t<n * 4
   ·have h1:t<cur.size:=by
     have:=Nat.mul_le_mul_right 4 hnc;omega
    rw[List.getElem?_take_of_lt ht,Array.getElem?_toList,Array.getElem?_toList]
    simp only[putCells,Array.getElem?_mapIdx,Array.getElem?_eq_getElem h1,Option.map_some]
    rw[if_pos ⟨Nat.zero_le _,by simp[hd];omega⟩,Array.getElem?_eq_getElem (by simp[hd];omega)];rw[getElem!_pos _ _ (by simp[hd];omega)];rfl
   ·rw[List.getElem?_eq_none (by simp;omega),List.getElem?_eq_none (by simp[hd];omega)]
  ·refine⟨rfl,rfl,rfl, ?_,fun k hk=>?_⟩
   ·show w.heap.size<=(grow (putRow id (Sort.ahead w m) g 0 (flatK encE 4 d)) os).heap.size
    rw[size_grow,hsz];exact Nat.le_add_right _ _
   ·show(grow (putRow id (Sort.ahead w m) g 0 (flatK encE 4 d)) os).heap[k]? = _
    rw[heap_grow_old _ os (by rw[hsz];omega),heap_putRow_other _ _ _ _ _ (by omega)]
    rfl
end Go.Proofs.YtcojnojdgigmdaaGreatDoor.Mem
/- cmp.Or at two numbers. -/
namespace Go.Proofs.YtcojnojdgigmdaaGreatDoor.WK
open Go Go.RowKit Mem
theorem or_any (a b:Int) (A:Nat) (W:World) (c0:W.cell? ⟨A,0,none⟩=some (.int .i64 a)) (c1:W.cell? ⟨A,1,none⟩=some (.int .i64 b)) :
  Calls Tryz.prog 74 #[.slice (some ⟨A,0,none⟩) 2 2] W fun e w'=>e=.returned (.int .i64 (if a≠0 then a else b))/\w'=W:=by
 obtain⟨r,hr⟩:∃ r,(if a≠0 then a else b)=r:=⟨_,rfl⟩
 rw[hr];have HR:=Hyd hr;clear hr
 go_enter Tryz.func74,Tryz.ntmps74
 go_wp2_with fail
 go_loopw [8] (fun i wr=>∃ k:Nat,k<=2/\i=.int .i64 k/\(1<=k->a=0)/\(2<=k->b=0)/\wr=W) (fun i _=>2-(intOf i).toNat)
 case atStart=>exact⟨0,by omega,rfl,by omega,by omega,rfl⟩
 case round =>
  obtain⟨k,hk,rfl,h1,h2,rfl⟩:=hrel
  rcases(by omega:k=0 \/ k=1 \/ k=2) with rfl|rfl|rfl
  ·by_cases ha:a=0
   ·have ha':(a != 0)=false:=by simp[ha]
    go_wp2_with fail;go_roundw
    case rel=>exact⟨1,by omega,by go_num,fun _=>ha,by omega,by trivial⟩
    case measure=>simp[intOf]
   ·have ha':(a != 0)=true:=by simp[ha]
    go_wp2_with fail;go_ret;exact⟨by rw[<-HR.out,if_pos ha];rfl,rfl⟩
  ·have ha:=h1 (by omega)
   by_cases hb:b=0
   ·have hb':(b != 0)=false:=by simp[hb]
    go_wp2_with fail;go_roundw
    case rel=>exact⟨2,by omega,by go_num,fun _=>ha,fun _=>hb,by trivial⟩
    case measure=>simp[intOf]
   ·have hb':(b != 0)=true:=by simp[hb]
    go_wp2_with fail;go_ret;exact⟨by rw[<-HR.out,if_neg (by simp[ha])];rfl,rfl⟩
  ·have ha:=h1 (by omega);have hb:=h2 (by omega);go_wp2_with fail;go_ret;exact⟨by rw[<-HR.out,if_neg (by simp[ha]),hb];rfl,rfl⟩
end Go.Proofs.YtcojnojdgigmdaaGreatDoor.WK
/- The order of events, in plain Lean; the walks of cmp.Compare, event.compare. -/
namespace Go.Proofs.YtcojnojdgigmdaaGreatDoor.WR
open Go Go.RowKit Go.Sort PL PR Mem WK
def cmpI (a b:Int):Int:=if a<b then -1 else if b<a then 1 else 0
def evCmp (x y:Ev):Int:=if cmpI x.time y.time≠0 then cmpI x.time y.time else cmpI x.id y.id
def ltE (x y:Ev):Bool:=decide (x.time<y.time \/ x.time=y.time/\x.id<y.id)
theorem evCmp_less (x y:Ev):ltOf evCmp x y=ltE x y:=by
 unfold ltOf evCmp ltE cmpI;rw[decide_eq_decide]
 split<;>(try split)<;>omega
theorem evCmp_lt:(ltOf evCmp:Ev->Ev->Bool)=ltE:=by funext x y;exact evCmp_less x y
theorem ltE_swo:SWO ltE:=by
 refine⟨fun x=>?_,fun x y z h1 h2=>?_,fun x y z h1 h2=>?_⟩
 ·unfold ltE;simp
 ·unfold ltE at *;simp only[decide_eq_true_eq]at *;omega
 ·unfold ltE at *;simp only[decide_eq_false_iff_not]at *;omega
def SortedE (l:List Ev):Prop:=l.Pairwise fun x y=>ltE y x=false
theorem nan_any (n:Int) (w:World):Calls Tryz.prog 99 #[.int .i64 n] w fun e w'=>e=.returned (.bool false)/\w'=w:=by
 go_enter Tryz.func99,Tryz.ntmps99
 go_wp2_with fail;go_ret;exact⟨rfl,rfl⟩
theorem cmpint_any (n m:Int) (w:World):Calls Tryz.prog 75 #[.int .i64 n,.int .i64 m] w fun e w'=>e=.returned (.int .i64 (cmpI n m))/\w'=w:=by
 have h1:=Hyd (nan_any n w);have h2:=Hyd (nan_any m w)
 go_enter Tryz.func75,Tryz.ntmps75
 go_wp2_with fail;refine h1.out.mono ?_;rintro e w1 ⟨rfl,rfl⟩;go_wp2_with fail;refine h2.out.mono ?_;rintro e w2 ⟨rfl,rfl⟩
 rcases Int.lt_trichotomy n m with h | h | h
 ·have e:cmpI n m=-1:=by unfold cmpI;rw[if_pos h]
  have HE:=Hyd e;clear e;go_wp2_with fail;go_ret;exact⟨by rw[HE.out];rfl,rfl⟩
 ·subst h
  have e:cmpI n n=0:=by unfold cmpI;rw[if_neg (by omega),if_neg (by omega)]
  have HE:=Hyd e;clear e;go_wp2_with fail;go_ret;exact⟨by rw[HE.out];rfl,rfl⟩
 ·have e:cmpI n m=1:=by unfold cmpI;rw[if_neg (by omega),if_pos h]
  have HE:=Hyd e
  have h':¬ n<m:=by omega
  clear e;go_wp2_with fail;go_ret;exact⟨by rw[HE.out];rfl,rfl⟩
theorem ecmp_any (x y:Ev) (W:World) :
  Calls Tryz.prog 34 #[evV x,evV y] W fun e w'=>e=.returned (.int .i64 (evCmp x y))/\Grw W w':=by
 unfold evV;have HR:=Hyd (show(if cmpI x.time y.time≠0 then cmpI x.time y.time else cmpI x.id y.id)=evCmp x y from rfl)
 obtain⟨p,hp⟩:∃ p,cmpI x.time y.time=p:=⟨_,rfl⟩
 obtain⟨q,hq⟩:∃ q,cmpI x.id y.id=q:=⟨_,rfl⟩
 have HC1:=Hyd (fun w=>cmpint_any x.time y.time w);have HC2:=Hyd (fun w=>cmpint_any x.id y.id w);rw[hp,hq]at HR;rw[hp]at HC1;rw[hq]at HC2;clear hp hq;have HB:=Hyd (show ∃ w1,w1=(W.alloc (.cells #[.int .i64 x.id,.int .i64 x.time,.int .u8 x.kind,.int .i64 x.val] 44)).alloc (.cells #[.int .i64 y.id,.int .i64 y.time,.int .u8 y.kind,.int .i64 y.val] 44) from⟨_,rfl⟩);obtain⟨w1,hw1⟩:=HB.out
 have x0:w1.cell? ⟨W.heap.size,0,none⟩=some (.int .i64 x.id):=by rw[hw1];exact(CeH (heap_alloc (heap_new rfl)) 0).trans rfl
 have x1:w1.cell? ⟨W.heap.size,1,none⟩=some (.int .i64 x.time):=by rw[hw1];exact(CeH (heap_alloc (heap_new rfl)) 1).trans rfl
 have y0:w1.cell? ⟨W.heap.size+1,0,none⟩=some (.int .i64 y.id):=by rw[hw1];exact(CeH (heap_new (by simp)) 0).trans rfl
 have y1:w1.cell? ⟨W.heap.size+1,1,none⟩=some (.int .i64 y.time):=by rw[hw1];exact(CeH (heap_new (by simp)) 1).trans rfl
 have HG:=Hyd (show Grw W w1 by rw[hw1];exact((Grw.refl W).alloc _).alloc _);have HW:=Hyd hw1;have HS:=Hyd (show w1.heap.size=W.heap.size+2 by rw[hw1];simp);clear hw1 HB
 go_enter Tryz.func34,Tryz.ntmps34
 go_wp2_with fail;rw[<-HW.out]
 go_still_tail 10,(by kernel_rfl)
 still_call (HC1.out _)
 repeat still_step
 still_call (HC2.out _)
 repeat still_step
 try refine wpStill_nil ?_
 have HO:=Hyd (or_any p q (W.heap.size+2) (w1.drew.alloc (.cells #[.int .i64 p,.int .i64 q] 3)) ((CeH (heap_new HS.out.symm) 0).trans rfl) ((CeH (heap_new HS.out.symm) 1).trans rfl));rw[HR.out]at HO;change wpList _ _ _ _ _ w1.drew;have hz:w1.drew.heap.size=W.heap.size+2:=HS.out;have HGD:=Hyd (show Grw W (w1.drew.alloc (.cells #[.int .i64 p,.int .i64 q] 3)) from(HG.out.drewN 1).alloc _);clear x0 x1 y0 y1;generalize w1.drew=w2 at *;go_wp2_with fail;refine HO.out.mono ?_;rintro e w3 ⟨rfl,rfl⟩;go_wp2_with fail;go_ret;exact⟨rfl,HGD.out⟩
end Go.Proofs.YtcojnojdgigmdaaGreatDoor.WR
/- The walk of event.Sort at fewer than 20 events: the same events, in order, in a row of the call's own. -/
namespace Go.Proofs
open Go.Shelf
def Tryz.insE_ren : Go.Shelf.Ren:=⟨fun|20=>97 |n=>n, fun|24=>44 |22=>32 |25=>88 |n=>n, fun|n=>n⟩
theorem Tryz.insE:Go.Proofs.SlLaysF0.n20 Tryz.prog Tryz.insE_ren:={
 mixed:=by kernel_rfl
 f20:=⟨f97.name, by decide, func97.trans (congrArg some (by kernel_rfl))⟩
 t0:=underlying0
 a0:=isAgg0
 z0:=sizeOf0
 v0:=zeroValue0
 t3:=underlying3
 a3:=isAgg3
 z3:=sizeOf3
 v3:=zeroValue3
 t4:=underlying4
 a4:=isAgg4
 z4:=sizeOf4
 v4:=zeroValue4
 t22:=underlying32
 a22:=isAgg32
 z22:=sizeOf32
 v22:=zeroValue32
 t25:=underlying88
 a25:=isAgg88
 z25:=sizeOf88
 v25:=zeroValue88 }
end Go.Proofs
namespace Go.Proofs.YtcojnojdgigmdaaGreatDoor.WR
open Go Go.RowKit Go.Sort PL PR Mem WK
abbrev cmpF:Value:=.func (.func 34) #[] #[]
theorem cmp_lays (blk off size:Nat) (w:World):CmpLays Tryz.prog 34 #[] encE 4 evCmp blk off size w:=by
 intro m os dk _ x y;exact ecmp_any x y _
def SortPost (W:World) (g:Nat) (l:List Ev) (e:Ending) (w':World):Prop:=e=.returned (.tuple #[])/\∃ n os d,d.size=l.length/\d.toList.Perm l/\SortedE d.toList/\w'=sortWorldK encE 4 W g 0 n d os
theorem sorted_of (d:Array Ev) (h:SortedIn ltE 0 d.size d):SortedE d.toList:=by
 unfold SortedE;rw[List.pairwise_iff_getElem];intro i j hi hj hij;have:=h i j (Nat.zero_le _) hij (by simpa using hj);rw[getElem!_pos d j (by simpa using hj),getElem!_pos d i (by simpa using hi)]at this
 simpa using this
theorem ins_any (l:List Ev) (g cap base:Nat) (W:World) (h:W.ownsRow base 44 4 (.slice (some ⟨g,0,none⟩) l.length cap) l.length (cellsOf encE l)) (hn:l.length<=1000000) :
  Calls Tryz.prog 97 #[.slice (some ⟨g,0,none⟩) l.length cap,.int .i64 0,.int .i64 l.length,cmpF] W (SortPost W g l):=by
 have hlt:g<W.heap.size:=(h.lt g rfl).2;refine(AnyQ.insertionSortCmpFunc (P:=Tryz.prog) Tryz.insE 4 Tryz.isAgg44 Tryz.sizeOf44 encE encE_len encE_one evCmp 34 #[] g 0 cap 0 l.length l.toArray W (fun _ _=>rfl) (cmp_lays _ _ _ _) (holds_own h) hlt (Nat.zero_le _) (by simp) (by simp;omega)).mono ?_;rintro e w' ⟨rfl,n,os,rfl⟩;have hs:=insertionSort_holds (lt:=ltOf evCmp) (by rw[evCmp_lt];exact ltE_swo) l.toArray 0 l.length (Nat.zero_le _) (by simp)
 obtain⟨d,hd⟩:∃ d,Sort.insertionSort (ltOf evCmp) l.toArray 0 l.length=d:=⟨_,rfl⟩
 rw[hd]at hs ⊢;obtain⟨⟨h1,_,h2⟩,h3⟩:=hs
 have h1':d.size=l.length:=by simpa using h1
 refine⟨rfl,n,os,d,h1', ?_, ?_,rfl⟩
 ·have e1:(d.extract 0 l.length).toList=d.toList:=by
   rw[<-h1',Array.toList_extract]
   simp only[List.extract_eq_take_drop,Nat.sub_zero,List.drop_zero]
   exact List.take_of_length_le (by simp)
  have e2:(l.toArray.extract 0 l.length).toList=l:=by simp
  rw[e1,e2]at h2;exact h2
 ·rw[evCmp_lt]at h3;exact sorted_of _ (by rw[h1'];exact h3)
theorem stable_any (l:List Ev) (g cap base:Nat) (W:World) (h:W.ownsRow base 44 4 (.slice (some ⟨g,0,none⟩) l.length cap) l.length (cellsOf encE l)) (hn:l.length<=19) :
  Calls Tryz.prog 73 #[.slice (some ⟨g,0,none⟩) l.length cap,.int .i64 l.length,cmpF] W (SortPost W g l):=by
 have HI:=Hyd (ins_any l g cap base W h (by omega));clear h
 obtain⟨n,hnl⟩:∃ n,l.length=n:=⟨_,rfl⟩
 rw[hnl]at HI hn ⊢
 have h20:¬ (20:Int)<=(n:Int):=by omega
 have h20':¬ (20:Int)<(n:Int):=by omega
 have HNL:=Hyd hnl;clear hnl
 go_enter Tryz.func73,Tryz.ntmps73
 go_wp2;refine wp_loop_rounds 1 ?_;rw[rounds_succ];go_wp2_with fail;refine HI.out.mono ?_;rintro e w' ⟨rfl,HP⟩;have HPH:=Hyd HP;clear HP;go_wp2_with fail;refine wp_loop_rounds 1 ?_;rw[rounds_succ];go_wp2_with fail;go_end0;exact⟨rfl,HPH.out⟩
theorem ins_none (W:World):Calls Tryz.prog 97 #[.slice none 0 0,.int .i64 0,.int .i64 0,cmpF] W fun e w'=>e=.returned (.tuple #[])/\w'=W:=by
 go_enter Tryz.func97,Tryz.ntmps97
 go_wp2;refine wp_loop_rounds 1 ?_;rw[rounds_succ];go_wp2_with fail;go_end0;exact⟨rfl,rfl⟩
theorem stable_none (W:World):Calls Tryz.prog 73 #[.slice none 0 0,.int .i64 0,cmpF] W fun e w'=>e=.returned (.tuple #[])/\w'=W:=by
 have HI:=Hyd (ins_none W)
 go_enter Tryz.func73,Tryz.ntmps73
 go_wp2;refine wp_loop_rounds 1 ?_;rw[rounds_succ];go_wp2_with fail;refine HI.out.mono ?_;rintro e w' ⟨rfl,rfl⟩;go_wp2_with fail;refine wp_loop_rounds 1 ?_;rw[rounds_succ];go_wp2_with fail;go_end0;exact⟨rfl,rfl⟩
theorem sstable_any (l:List Ev) (v:Value) (base:Nat) (W:World) (h:W.ownsRow base 44 4 v l.length (cellsOf encE l)) (hn:l.length<=19) :
  Calls Tryz.prog 33 #[v,cmpF] W fun e w'=>e=.returned (.tuple #[])/\∃ ls,ls.Perm l/\SortedE ls/\w'.ownsRow base 44 4 v l.length (cellsOf encE ls)/\Below base W w':=by
 rcases h.2 with ⟨rfl,h0⟩ | ⟨g,cap,cur,rfl,_⟩
 ·have HS:=Hyd (stable_none W);have hl:l=[]:=List.eq_nil_of_length_eq_zero h0;subst hl;have HP:=Hyd (show ∃ ls:List Ev,ls.Perm []/\SortedE ls/\W.ownsRow base 44 4 (.slice none 0 0) ([]:List Ev).length (cellsOf encE ls)/\Below base W W from⟨[],List.Perm.refl _,List.Pairwise.nil,World.ownsRow_nil _ _ _ _,Below.refl _ _⟩);clear h h0 hn
  go_enter Tryz.func33,Tryz.ntmps33
  go_wp2_with fail;refine HS.out.mono ?_;rintro e w' ⟨rfl,rfl⟩;go_wp2_with fail;go_end0;exact⟨rfl,HP.out⟩
 ·have HS:=Hyd (stable_any l g cap base W h hn);have HO:=Hyd h;clear h
  obtain⟨n,hnl⟩:∃ n,l.length=n:=⟨_,rfl⟩
  rw[hnl]at HS HO hn ⊢;have HNL:=Hyd hnl;clear hnl
  go_enter Tryz.func33,Tryz.ntmps33
  go_wp2_with fail;refine HS.out.mono ?_;rintro e w' ⟨rfl,m,os,d,h1,h2,h3,rfl⟩
  have HP:=Hyd (show ∃ ls:List Ev,ls.Perm l/\SortedE ls/\(sortWorldK encE 4 W g 0 m d os).ownsRow base 44 4 (.slice (some ⟨g,0,none⟩) n cap) n (cellsOf encE ls)/\Below base W (sortWorldK encE 4 W g 0 m d os) by
   obtain⟨k1,k2⟩:=own_sorted (m:=m) (os:=os) (d:=d) HO.out (by rw[h1];exact HNL.out)
   exact⟨d.toList,h2,h3,k1,k2⟩)
  clear h1 h2 h3;generalize sortWorldK encE 4 W g 0 m d os=w2 at HP ⊢;go_wp2_with fail;go_end0;exact⟨rfl,HP.out⟩
theorem sort_any (ev:Value) (l:List Ev) (W:World) (B:Nat) (h:Evs W B ev l) (hl:Lit ev) (hn:l.length<=19) :
  Calls Tryz.prog 12 #[ev] W fun e w'=>∃ v' ls,e=.returned v'/\ls.Perm l/\SortedE ls/\w'.ownsRow W.heap.size 44 4 v' l.length (cellsOf encE ls)/\Below W.heap.size W w':=by
 have HC:=Hyd (cloneE_any ev l W B h hl (by omega));obtain⟨A,c,rfl⟩:=Sl.shape h;have HN:=Hyd hn;clear h hl hn
 go_enter Tryz.func12,Tryz.ntmps12
 go_wp2_with fail;refine HC.out.mono ?_;rintro e w1 ⟨v',rfl,ho,hb⟩;obtain⟨A',c',rfl⟩:=(Sl.of_own ho).shape;have HS:=Hyd (sstable_any l _ W.heap.size w1 ho HN.out);have HB:=Hyd hb;clear ho hb;go_wp2_with fail;refine HS.out.mono ?_;rintro e w2 ⟨rfl,ls,h1,h2,h3,h4⟩;have HP:=Hyd (show ∃ v' ls,Ending.returned (.slice A' l.length c')=.returned v'/\ls.Perm l/\SortedE ls/\w2.ownsRow W.heap.size 44 4 v' l.length (cellsOf encE ls)/\Below W.heap.size W w2 from⟨_,ls,rfl,h1,h2,h3,HB.out.trans h4⟩);clear h1 h2 h3 h4;go_wp2_with fail;go_ret;exact HP.out
end Go.Proofs.YtcojnojdgigmdaaGreatDoor.WR
/- The walks of oxbowlaw21.near and equal. -/
namespace Go.Proofs.YtcojnojdgigmdaaGreatDoor.WR
open Go Go.RowKit Go.Sort PL PR Mem WS
def nearI (n most:Int):Int:=(if n<0 then -(n+1) else n) % most
theorem nearI_in (n most:Int) (hm:0<most):0<=nearI n most/\nearI n most<most:=by
 unfold nearI;exact⟨Int.emod_nonneg _ (by omega),Int.emod_lt_of_pos _ hm⟩
theorem near_any (n most:Int) (w:World) (hn:-9223372036854775808<=n/\n<=9223372036854775807) (hm:0<most/\most<=1000000) :
  Calls Tryz.prog 27 #[.int .i64 n,.int .i64 most] w fun e w'=>e=.returned (.int .i64 (nearI n most))/\w=w':=by
 obtain⟨h1,h2⟩:=hn;obtain⟨m1,m2⟩:=hm
 by_cases h0:n<0
 ·have HE:=Hyd (show nearI n most=-((n+1).tmod most) by
   unfold nearI
   rw[if_pos h0,<-Int.neg_tmod,Int.tmod_eq_emod_of_nonneg (by omega)])
  have p0:0<=-(n+1):=by omega
  have p1:-(n+1)<=9223372036854775807:=by omega
  go_enter Tryz.func27,Tryz.ntmps27
  go_wp2;go_ret;refine⟨?_,rfl⟩;rw[HE.out];rfl
 ·have HE:=Hyd (show nearI n most=n % most by unfold nearI;rw[if_neg h0])
  have p0:0<=n:=by omega
  go_enter Tryz.func27,Tryz.ntmps27
  go_wp2;go_ret;refine⟨?_,rfl⟩;rw[HE.out];rfl
theorem str_at {w:World} {B:Nat} {v:Value} {l:List (List UInt8)} (h:Sl w B 1 v l.length (l.map strV)) {i:Nat} (hi:i<l.length):∃ b o c,v=.slice (some ⟨b,o,none⟩) l.length c/\b<B/\w.cell? ⟨b,o+i,none⟩=some (.string ⟨l[i].toArray⟩):=by
 obtain⟨b,o,c,hv,hb,hx⟩:=Sl.elem h hi;refine⟨b,o,c,hv,hb, ?_⟩;have:=hx 0 (strV l[i]) (by omega) (by simp[hi])
 simpa using this
theorem take_ne {α:Type} {a b:List α} {k:Nat} (h1:k<a.length) (h2:k<b.length) (h:a[k]≠b[k]):a≠b:=by
 intro e;subst e;exact h rfl
theorem eq_of_take {α:Type} {a b:List α} (hl:a.length=b.length) (h:∀ k (h1:k<a.length) (h2:k<b.length),a[k]=b[k]):a=b:=List.ext_getElem hl h
def EqRel (a b:List (List UInt8)) (W:World) (i:Value) (wr:World):Prop:=∃ k d:Nat,k<=a.length/\i=.int .i64 k/\wr=W.drewN d/\∀ j (h1:j<a.length) (h2:j<b.length),j<k->a[j]=b[j]
theorem equal_any (va vb:Value) (a b:List (List UInt8)) (W:World) (ha:Sl W W.heap.size 1 va a.length (a.map strV)) (hb:Sl W W.heap.size 1 vb b.length (b.map strV)) (ha9:a.length<=9223372036854775807) (_:b.length<=9223372036854775807) :
  Calls Tryz.prog 9 #[va,vb] W fun e w'=>e=.returned (.bool (decide (a=b)))/\Grw W w':=by
 obtain⟨aa,ac,rfl⟩:=Sl.shape ha;obtain⟨ba,bc,rfl⟩:=Sl.shape hb;have HA:=Hyd ha;have HB:=Hyd hb;clear ha hb
 go_enter Tryz.func9,Tryz.ntmps9
 by_cases hl:a.length=b.length
 ·have hlb:((a.length:Int) != (b.length:Int))=false:=by simp[hl]
  have HL:=Hyd hl;clear hl;go_wp2_with fail
  go_loopw [13] (fun i wr=>EqRel a b W i wr) (fun i _=>a.length-(intOf i).toNat)
  case atStart=>exact⟨0,0,Nat.zero_le _,rfl,rfl,fun j _ _ h=>absurd h (Nat.not_lt_zero _)⟩
  case round =>
   obtain⟨k,d,hk,rfl,rfl,hall⟩:=hrel;have HALL:=Hyd hall;clear hall
   by_cases hlt:k<a.length
   ·have hlt2:k<b.length:=by have:=HL.out;omega
    have hki:(k:Int)<(a.length:Int):=by omega
    have hki2:(k:Int)<(b.length:Int):=by omega
    have hk0:(0:Int)<=(k:Int):=by omega
    obtain⟨b1,o1,c1,e1,_,x1⟩:=str_at HA.out hlt
    obtain⟨rfl,rfl⟩:aa=some ⟨b1,o1,none⟩/\ac=c1:=by simpa using e1
    obtain⟨b2,o2,c2,e2,_,x2⟩:=str_at HB.out hlt2
    obtain⟨rfl,rfl⟩:ba=some ⟨b2,o2,none⟩/\bc=c2:=by simpa using e2
    have HX:=Hyd (show ∀ q:Bool,(a[k]==b[k])=q->(((⟨a[k].toArray⟩:ByteArray).toList==(⟨b[k].toArray⟩:ByteArray).toList)=q) by
     intro q hq
     rw[<-hq,Lib.toList_data,Lib.toList_data])
    obtain⟨q,hq⟩:∃ q,(a[k]==b[k])=q:=⟨_,rfl⟩
    have hq2:=HX.out q hq;have HQ:=Hyd hq;clear e1 e2 hq
    obtain⟨sx,hsx⟩:∃ sx:ByteArray,(⟨a[k].toArray⟩:ByteArray)=sx:=⟨_,rfl⟩
    obtain⟨sy,hsy⟩:∃ sy:ByteArray,(⟨b[k].toArray⟩:ByteArray)=sy:=⟨_,rfl⟩
    rw[hsx]at x1 hq2;rw[hsy]at x2 hq2;clear hsx hsy HX;go_wp2_with fail
    go_quiet (fail)
    cases hqv:q with
    | false =>
     have HV:=Hyd (HQ.out.trans hqv);rw[hqv]at hq2;clear hqv;go_wp2_with fail;go_ret;refine⟨?_,⟨d+nq,#[],by rw[grow_empty,World.drewN_drewN]⟩⟩;rw[decide_eq_false (take_ne hlt hlt2 (beq_eq_false_iff_ne.1 HV.out))];rfl
    | true =>
     have HV:=Hyd (HQ.out.trans hqv);rw[hqv]at hq2;clear hqv;go_wp2_with fail;go_roundw
     case rel =>
      refine⟨k+1,d+nq,by omega,by go_num,rfl,fun j h1 h2 h3=>?_⟩
      rcases Nat.lt_or_ge j k with h | h
      ·exact HALL.out j h1 h2 h
      ·obtain rfl:j=k:=by omega
       simpa using HV.out
     case measure=>simp[intOf];omega
   ·obtain rfl:k=a.length:=by omega
    have HE:=Hyd (show decide (a=b)=true from decide_eq_true (eq_of_take HL.out fun j h1 h2=>HALL.out j h1 h2 h1));go_wp2_with fail;go_ret;exact⟨by rw[HE.out];rfl,⟨d,#[],by rw[grow_empty]⟩⟩
 ·have hlb:((a.length:Int) != (b.length:Int))=true:=by simp;omega
  have HE:=Hyd (show decide (a=b)=false from decide_eq_false fun e=>hl (by rw[e]));clear hl;go_wp2_with fail;go_ret;exact⟨by rw[HE.out];rfl,Grw.refl _⟩
end Go.Proofs.YtcojnojdgigmdaaGreatDoor.WR
