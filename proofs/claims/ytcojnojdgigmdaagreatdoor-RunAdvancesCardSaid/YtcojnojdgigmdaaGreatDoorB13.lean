/- The walks of wakes, events; what the rows list. -/
import Derived.Test.YtcojnojdgigmdaaGreatDoorB12
import Derived.Test.YtcojnojdgigmdaaGreatDoorWAll
import Derived.Test.YtcojnojdgigmdaaGreatDoorB11
import Derived.Test.YtcojnojdgigmdaaGreatDoorB10
import Derived.Test.YtcojnojdgigmdaaGreatDoorB02
import Derived.IntWalk
import Derived.Test.YtcojnojdgigmdaaGreatDoorRows
import Derived.Test.YtcojnojdgigmdaaGreatDoorB01
import Derived.WalkKit
import Derived.ProofKit
import Derived.OpenShut
import Derived.ShutString
import Derived.ChangeOld
import Derived.JoinedCond
import Derived.Deep.Slices
import Derived.Deep.Fields
import Derived.ChangeSame
import Derived.Lib.LaidTab
import Derived.Stop.LaidErr
import Derived.LaidMore
import Derived.Lay
import Derived.Handed
import Derived.SizedLaws
/- The walk of oxbowlaw21.wakes: matches that the document fixes. -/
set_option maxHeartbeats 3200000
set_option maxRecDepth 100000
namespace Go.Proofs.YtcojnojdgigmdaaGreatDoor.WR
open Go Go.RowKit Go.Sort PL PR Mem WS WL PP WP
def StrictE (l:List Ev):Prop:=l.Pairwise fun x y=>ltE x y=true
theorem ltE_asym {x y:Ev} (h:ltE x y=true):ltE y x=false:=by
 unfold ltE at *
 simp only[decide_eq_true_eq,decide_eq_false_iff_not]at *
 omega
theorem strict_unique:∀ (a b:List Ev),a.Perm b->StrictE a->StrictE b->a=b:=by
 intro a
 induction a with
 | nil=>intro b h _ _;exact h.nil_eq
 | cons x a ih =>
  intro b h ha hb
  cases b with
  | nil=>exact absurd h.length_eq (by simp)
  | cons y b =>
   have ha':=List.pairwise_cons.1 ha;have hb':=List.pairwise_cons.1 hb
   have hxy:x=y:=by
    rcases List.mem_cons.1 (h.mem_iff.1 List.mem_cons_self) with e | hx
    ·exact e
    ·rcases List.mem_cons.1 (h.mem_iff.2 List.mem_cons_self) with e | hy
     ·exact e.symm
     ·have h1:=ha'.1 y hy;have h2:=hb'.1 x hx;rw[ltE_asym h1]at h2;cases h2
   subst hxy;rw[ih b (List.perm_cons x |>.1 h) ha'.2 hb'.2]
def DistE (l:List Ev):Prop:=l.Pairwise fun x y=>x.id≠y.id
theorem DistE.perm {a b:List Ev} (h:a.Perm b) (hb:DistE b):DistE a:=h.symm.pairwise hb fun h=>Ne.symm h
theorem SortedE.strict {l:List Ev} (h:SortedE l) (hd:DistE l):StrictE l:=by
 refine List.Pairwise.imp₂ ?_ h hd;intro x y h1 h2;unfold ltE at *
 simp only[decide_eq_true_eq,decide_eq_false_iff_not]at *
 omega
theorem sort_eq {a b l:List Ev} (ha:a.Perm l) (hb:b.Perm l) (sa:SortedE a) (sb:SortedE b) (hd:DistE l):a=b :=
 strict_unique a b (ha.trans hb.symm) (sa.strict (DistE.perm ha hd)) (sb.strict (DistE.perm hb hd))
def strW:ByteArray:=⟨#[83,69,81,40,65,32,97,44,33,66,32,98,44,67,32,99,41,32,87,73,84,72,73,78,32,57]⟩
def ssW:List GS:=[⟨65,97,false,1,1⟩,⟨66,98,true,1,1⟩,⟨67,99,false,1,1⟩]
def lW:List Ev:=[⟨1,1,65,0⟩,⟨2,2,67,0⟩,⟨3,3,66,0⟩,⟨4,4,67,0⟩]
theorem parseW:pParse strW.data.toList=.inr ⟨[⟨65,97,false,1,1⟩,⟨66,98,true,1,1⟩,⟨67,99,false,1,1⟩],[],9⟩:=by kernel_rfl
theorem checkW:checkP ssW [] 9=(0,0):=by kernel_rfl
theorem runW:(runA (planR ssW [] 9) lW).2=[[49,124,50]]:=by kernel_rfl
theorem sortedW:SortedE lW:=by unfold SortedE lW;decide
theorem distW:DistE lW:=by unfold DistE lW;decide
theorem compW (W:World):Calls Tryz.prog 25 #[.string strW] W fun e w'=>Below W.heap.size W w'/\∃ pa n pc,e=.returned (.tuple #[.agg #[.slice pa n pc,.int .i64 9],.int .i64 0])/\OKP ssW [] 9/\n=(planR ssW [] 9).steps.length/\PlnAt w' w'.heap.size (.slice pa n pc) (planR ssW [] 9).steps:=by
 refine(compile_any strW W).mono ?_;rintro e w' ⟨hb,h⟩;rw[parseW]at h
 dsimp only at h
 have e1:(List.map gS [⟨65,97,false,1,1⟩,⟨66,98,true,1,1⟩,⟨67,99,false,1,1⟩])=ssW:=rfl;have e2:(List.map gC ([]:List Cnd))=[]:=rfl;rw[e1,e2]at h
 rcases h with ⟨h,_⟩ | ⟨_,hok,vs,rfl,hpa⟩
 ·exact absurd (show(checkP ssW [] ((9:Nat):Int)).2=0 by rw[show((9:Nat):Int)=9 from rfl,checkW]) h
 ·have hpl:=plan_pln hpa;obtain⟨pa,pc,rfl,_⟩:=id hpl;exact⟨hb,pa,_,pc,rfl,hok,rfl,hpl⟩
theorem wakes_any (W:World) (ht:Tab W) (hg:0 < W.heap.size):Calls Tryz.prog 7 #[] W fun e w'=>e=.returned (.bool true)/\Below W.heap.size W w':=by
 have HC:=Hyd (compW W);have HT:=Hyd ht;clear ht;unfold strW at HC
 go_enter Tryz.func7,Tryz.ntmps7
 go_wp2_with fail;refine HC.out.mono ?_;rintro e w1 ⟨hb1,pa,n,pc,rfl,hok,hn,hpl⟩
 obtain⟨w2,hw2⟩:∃ w2,w2=(w1.alloc (.cells #[.slice pa n pc,.int .i64 9] 25)).alloc (.cells #[.int .i64 1,.int .i64 1,.int .u8 65,.int .i64 0,.int .i64 2,.int .i64 2,.int .u8 67,.int .i64 0,.int .i64 3,.int .i64 3,.int .u8 66,.int .i64 0,.int .i64 4,.int .i64 4,.int .u8 67,.int .i64 0] 44):=⟨_,rfl⟩
 have hb12:Below w1.heap.size w1 w2:=by rw[hw2];exact((Below.refl _ _).alloc (Nat.le_refl _) _).alloc (by simp) _
 have hown:w2.ownsRow 0 44 4 (.slice (some ⟨w1.heap.size+1,0,none⟩) 4 4) 4 (cellsOf encE lW):=by
  rw[hw2];exact Reg.own_new (w:=w1.alloc (.cells #[.slice pa n pc,.int .i64 9] 25)) (cs:=#[.int .i64 1,.int .i64 1,.int .u8 65,.int .i64 0,.int .i64 2,.int .i64 2,.int .u8 67,.int .i64 0,.int .i64 3,.int .i64 3,.int .u8 66,.int .i64 0,.int .i64 4,.int .i64 4,.int .u8 67,.int .i64 0]) (by simp) (Nat.zero_le _) rfl (by decide)
 have hz1:=hb1.size;have hz2:=hb12.size;have hbW:Below W.heap.size W w2:=hb1.trans (hb12.mono hz1)
 have HAL:=Hyd (runAll_any (planR ssW [] 9) (.slice pa n pc) (.slice (some ⟨w1.heap.size+1,0,none⟩) 4 4) lW w1.heap.size w2 (planR_ok hok).1 (by have:=(planR_ok hok).2;omega) (PlnAt.keep hpl fun a ha=>hb12.cell ha) hz2 (Sl.of_own hown) (Lit.of_own hown) (by decide)
  (by
   intro e he
   simp only[lW,List.mem_cons,List.not_mem_nil,or_false]at he
   unfold OkEv Sm
   rcases he with rfl|rfl|rfl|rfl<;>simp) (Tab.of_eq HT.out (hbW.block _ hg)) (by omega))
 have HBW:=Hyd hbW;have HW2:=Hyd hw2;have w9:(planR ssW [] 9).within=9:=rfl;rw[w9]at HAL;clear hb1 hok hn hpl hw2 hb12 hown hbW w9;go_wp2_with fail;rw[<-HW2.out];refine HAL.out.mono ?_;rintro e w3 ⟨v,ls,rfl,hperm,hsort,hown,hb3⟩;have hls:ls=lW:=sort_eq hperm (List.Perm.refl _) hsort sortedW distW;subst hls;rw[runW]at hown;obtain⟨b,c,rfl,_,_⟩:=hown.form (by decide);have x0:=hown.cells (g:=b) rfl 0 (.string ⟨#[49,124,50]⟩) rfl;rw[lit_add,Nat.zero_add]at x0;have HB3:=Hyd (HBW.out.trans (hb3.mono HBW.out.size));clear hperm hsort hown hb3;go_wp2_with fail;go_ret;exact⟨rfl,HB3.out⟩
end Go.Proofs.YtcojnojdgigmdaaGreatDoor.WR
/- The walk of oxbowlaw21.events: good events of any ones. -/
namespace Go.Proofs.YtcojnojdgigmdaaGreatDoor.WR
open Go Go.RowKit Go.Sort PL PR Mem WS
def evE (i:Nat) (e:Ev):Ev:=⟨(i:Int)+1,nearI e.time 60,65+e.kind % 4,nearI e.val 9⟩
def evsK (l:List Ev) (k:Nat):List Ev:=(List.range k).map fun i=>evE i (l.getD i ⟨0,0,0,0⟩)
theorem evsK_len (l:List Ev) (k:Nat):(evsK l k).length=k:=by simp[evsK]
theorem evsK_succ (l:List Ev) (k:Nat) (h:k<l.length):evsK l (k+1)=evsK l k++[evE k l[k]]:=by
 unfold evsK;rw[List.range_succ,List.map_append,List.map_singleton,List.getD_eq_getElem?_getD,List.getElem?_eq_getElem h];rfl
theorem fld_lev1 (w:World) (g:Nat):(Instr.fieldAt 78 (.pointer (some ⟨g,0,none⟩)) 1).run Tryz.prog w=.ok (.pointer (some ⟨g,1,none⟩)) w:=by go_simp
theorem fld_lev2 (w:World) (g:Nat):(Instr.fieldAt 78 (.pointer (some ⟨g,0,none⟩)) 2).run Tryz.prog w=.ok (.pointer (some ⟨g,2,none⟩)) w:=by go_simp
theorem fld_lev3 (w:World) (g:Nat):(Instr.fieldAt 78 (.pointer (some ⟨g,0,none⟩)) 3).run Tryz.prog w=.ok (.pointer (some ⟨g,3,none⟩)) w:=by go_simp
theorem load_i64 {w:World} {g j:Nat} {n:Int} (h:w.cell? ⟨g,j,none⟩=some (.int .i64 n)):(Instr.loadAt 2 (.pointer (some ⟨g,j,none⟩))).run Tryz.prog w=.ok (.int .i64 n) w:=by go_simp
theorem load_u8 {w:World} {g j:Nat} {n:Int} (h:w.cell? ⟨g,j,none⟩=some (.int .u8 n)):(Instr.loadAt 5 (.pointer (some ⟨g,j,none⟩))).run Tryz.prog w=.ok (.int .u8 n) w:=by go_simp
theorem run_build4 {a:Act} {w:World} {x y z u:Operand} {n1 n2 n3 n4:Int} {d:Option Tmp} {ty:TypeId} {pos:String} {af:Array Edge} (hx:a.eval x=.int .i64 n1) (hy:a.eval y=.int .i64 n2) (hz:a.eval z=.int .u8 n3) (hu:a.eval u=.int .i64 n4) :
  (execOp a.eval { dst:=d,op:=.build 44 #[(0,x),(1,y),(2,z),(3,u)],type:=ty,pos:=pos,after:=af,guard:=none }).run Tryz.prog w=.ok (.value (.agg #[.int .i64 n1,.int .i64 n2,.int .u8 n3,.int .i64 n4])) w:=by
 simp only[execOp,Sem.run_bind]
 have e:Array.map (fun x=>(x.1,a.eval x.2)) #[(0,x),(1,y),(2,z),(3,u)]=#[(0,.int .i64 n1),(1,.int .i64 n2),(2,.int .u8 n3),(3,.int .i64 n4)]:=by simp[hx,hy,hz,hu]
 rw[e]
 go_simp
theorem run_alloc_ev {a:Act} {w:World} {d:Option Tmp} {ty:TypeId} {pos:String} {af:Array Edge} :
  (execOp a.eval { dst:=d,op:=.alloc 44,type:=ty,pos:=pos,after:=af,guard:=none }).run Tryz.prog w=.ok (.value (.pointer (some ⟨w.heap.size,0,none⟩))) (w.alloc (.cells #[.int .i64 0,.int .i64 0,.int .u8 0,.int .i64 0] 44)):=by
 simp only[execOp]
 go_simp
theorem infoEv:(Tryz.prog.info? 44).map (fun i=>(i.zero,i.size,i.bytes))=some (some (.agg #[.int .i64 0,.int .i64 0,.int .u8 0,.int .i64 0]),4,32):=by kernel_rfl
theorem infoRv:(Tryz.prog.info? 59).map (fun i=>(i.zero,i.size,i.bytes))=some (some (.agg #[.int .i64 0,.int .i64 0,.int .u8 0,.int .i64 0]),4,32):=by kernel_rfl
theorem build_evE (w:World) (e:Ev):(Instr.buildSlice 32 1 #[(0,evV e)]).run Tryz.prog w=.ok (.slice (some ⟨w.heap.size,0,none⟩) 1 1) (w.alloc (.cells (encE e).toArray 44)):=by
 unfold encE
 go_simp
theorem build_rv (w:World) (e:Ev):(Instr.buildSlice 33 1 #[(0,evV e)]).run Tryz.prog w=.ok (.slice (some ⟨w.heap.size,0,none⟩) 1 1) (w.alloc (.cells (encE e).toArray 59)):=by
 unfold encE
 go_simp
def EvR (W:World) (l:List Ev) (m:Nat) (va vb i:Value) (wr:World):Prop:=∃ k,k<=m/\i=.int .i64 (k:Nat)/\wr.ownsRow W.heap.size 44 4 va k (cellsOf encE (evsK l k))/\wr.ownsRow W.heap.size 59 4 vb k (cellsOf encE (evsK l k))/\Below W.heap.size W wr
theorem events_any (v:Value) (l:List Ev) (W:World) (hv:Evs W W.heap.size v l) (hf:∀ x∈l,x.fits) :
  Calls Tryz.prog 8 #[v,.int .i64 8] W fun e w'=>∃ va vb,e=.returned (.tuple #[va,vb])/\w'.ownsRow W.heap.size 44 4 va (min l.length 8) (cellsOf encE (evsK l (min l.length 8))) /\
   w'.ownsRow W.heap.size 59 4 vb (min l.length 8) (cellsOf encE (evsK l (min l.length 8)))/\Below W.heap.size W w':=by
 obtain⟨_,A,c,rfl,hlc,_⟩:=id hv;have HV:=Hyd hv;have HF:=Hyd hf;clear hv hf
 obtain⟨m,hm⟩:∃ m,min l.length 8=m:=⟨_,rfl⟩
 rw[hm]
 have hml:m<=l.length:=by omega
 have hm8:m<=8:=by omega
 have hmi:min (l.length:Int) 8=(m:Int):=by omega
 have hm0:(0:Int)<=(m:Int):=by omega
 have hmc:(m:Int)<=(c:Int):=by omega
 clear hm
 go_enter Tryz.func8,Tryz.ntmps8
 go_wp2_with fail
 go_loopw [6,7,18] (fun va vb i wr=>EvR W l m va vb i wr) (fun _ _ i _=>m-(intOf i).toNat)
 case atStart=>exact⟨0,Nat.zero_le _,rfl,World.ownsRow_nil _ _ _ _,World.ownsRow_nil _ _ _ _,Below.refl _ _⟩
 case round =>
  obtain⟨k,hk,rfl,hoa,hob,hb⟩:=hrel
  by_cases hlt:k<m
  ·have hki:(k:Int)<(m:Int):=by omega
   have hk0:(0:Int)<=(k:Int):=by omega
   have hkl:k<l.length:=by omega
   obtain⟨b,o,c',hc',hbl,g0,g1,g2,g3⟩:=HV.out.at_ hkl
   obtain⟨rfl,rfl⟩:A=some ⟨b,o,none⟩/\c=c':=by simpa using hc'
   have HFE:=Hyd (HF.out _ (List.getElem_mem hkl));have HSU:=Hyd (evsK_succ l k hkl)
   obtain⟨e,he⟩:∃ e,l[k]=e:=⟨_,rfl⟩
   rw[he]at g0 g1 g2 g3 HFE HSU;have hc0:=(hb.cell (p:=⟨b,o+k * 4,none⟩) hbl).trans g0;have hc1:=(hb.cell (p:=⟨b,o+k * 4+1,none⟩) hbl).trans g1;have hc2:=(hb.cell (p:=⟨b,o+k * 4+2,none⟩) hbl).trans g2;have hc3:=(hb.cell (p:=⟨b,o+k * 4+3,none⟩) hbl).trans g3;obtain⟨aa,ac,rfl⟩:=(Sl.of_own hoa).shape;obtain⟨ba,bc,rfl⟩:=(Sl.of_own hob).shape;have HOA:=Hyd hoa;have HOB:=Hyd hob;have HB:=Hyd hb;have hWr:=hb.size
   obtain⟨wx,hwx⟩:∃ wx,wx=wr.alloc (.cells #[.int .i64 e.id,.int .i64 e.time,.int .u8 e.kind,.int .i64 e.val] 78):=⟨_,rfl⟩
   have HBX:=Hyd (show wx.heap[wr.heap.size]? = some (.cells #[.int .i64 e.id,.int .i64 e.time,.int .u8 e.kind,.int .i64 e.val] 78 (0,0)) by rw[hwx];exact heap_new rfl);have HGX:=Hyd (show Below wr.heap.size wr wx by rw[hwx];exact(Below.refl _ _).alloc (Nat.le_refl _) _);have HWX:=Hyd hwx;clear hc' g0 g1 g2 g3 he hoa hob hb hwx
   go_upto_region 6 with (fail)
   rw[<-HWX.out];clear hc0 hc1 hc2 hc3;have HW1:=Hyd (show IntKind.i64.wrap ((k:Int)+1)=(k:Int)+1 from IntWalk.i64_in _ (by omega));have HM4:=Hyd (show e.kind.tmod 4=e.kind % 4 from Int.tmod_eq_emod_of_nonneg HFE.out.2.2.1.1)
   have HW2:=Hyd (show IntKind.u8.wrap (65+e.kind % 4)=65+e.kind % 4 by
    have:=HFE.out.2.2.1
    exact(by decide:∀ n:Fin 4,IntKind.u8.wrap (65+(n.val:Int))=65+(n.val:Int)) ⟨(e.kind % 4).toNat,by omega⟩ |> fun h=>by
     have e4:(((e.kind % 4).toNat:Nat):Int)=e.kind % 4:=Int.toNat_of_nonneg (by omega)
     rw[<-e4];exact h)
   refine Reg.stand_order (W:=wx) (h:=14) (t:=1)
    [⟨0,23,[],99,[],none,fun v _=>v=.int .i64 (k:Int)⟩,
     ⟨1,24,[],99,[],none,fun v _=>v=.int .i64 ((k:Int)+1)⟩,
     ⟨2,25,[],99,[],none,fun v _=>v=.pointer (some ⟨wr.heap.size,1,none⟩)⟩,
     ⟨3,26,[],99,[],none,fun v _=>v=.int .i64 e.time⟩,
     ⟨4,27,[],99,[],none,fun v _=>v=.int .i64 (nearI e.time 60)⟩,
     ⟨5,28,[],99,[],none,fun v _=>v=.pointer (some ⟨wr.heap.size,2,none⟩)⟩,
     ⟨6,29,[],99,[],none,fun v _=>v=.int .u8 e.kind⟩,
     ⟨7,30,[],99,[],none,fun v _=>v=.int .u8 (e.kind % 4)⟩,
     ⟨8,31,[],99,[],none,fun v _=>v=.int .u8 (65+e.kind % 4)⟩,
     ⟨9,32,[],99,[],none,fun v _=>v=.pointer (some ⟨wr.heap.size,3,none⟩)⟩,
     ⟨10,33,[],99,[],none,fun v _=>v=.int .i64 e.val⟩,
     ⟨11,34,[],99,[],none,fun v _=>v=.int .i64 (nearI e.val 9)⟩,
     ⟨12,35,[],99,[],none,fun v _=>v=evV (evE k e)⟩,
     ⟨13,10,[44],99,[],none,fun v w'=>∃ g,v=.pointer (some ⟨g,0,none⟩)/\wx.heap.size<=g/\w'.heap[g]? = some (.cells #[.int .i64 0,.int .i64 0,.int .u8 0,.int .i64 0] 44 (0,0))⟩]
    []
    (by kernel_rfl) rfl (by kernel_rfl) (by kernel_rfl) (by kernel_rfl) (show [0,1,2,3,4,5,6,7,8,9,10,11,12,13].Nodup by decide) (show ∀ i,i<14->i∈[0,1,2,3,4,5,6,7,8,9,10,11,12,13] by decide) ?_ (show [23,24,25,26,27,28,29,30,31,32,33,34,35,10].Nodup by decide) (show ∀ s∈[23,24,25,26,27,28,29,30,31,32,33,34,35,10],s<47 by decide) (by kernel_rfl) ?_ ?_ (Below.refl _ _) ?_ ?_ ?_
   ·intro f hf
    simp only[List.mem_cons,List.not_mem_nil,or_false]at hf
    rcases hf with rfl|rfl|rfl|rfl|rfl|rfl|rfl|rfl|rfl|rfl|rfl|rfl|rfl|rfl<;>simp
   ·intro f hf v w1 w2 hk hF
    simp only[List.mem_cons,List.not_mem_nil,or_false]at hf
    rcases hf with rfl|rfl|rfl|rfl|rfl|rfl|rfl|rfl|rfl|rfl|rfl|rfl|rfl|rfl
    ·exact hF
    ·exact hF
    ·exact hF
    ·exact hF
    ·exact hF
    ·exact hF
    ·exact hF
    ·exact hF
    ·exact hF
    ·exact hF
    ·exact hF
    ·exact hF
    ·exact hF
    ·obtain⟨g,e1,e2,e3⟩:=hF;exact⟨g,e1,e2,(hk 44 (by simp)).2 _ _ e3⟩
   ·intro f hf;cases hf
   ·intro f hf;cases hf
   ·intro f hf a w1 hs hg' hst;have hx:=(hs.below.block _ (heap_lt HBX.out)).trans HBX.out;have t8:a.eval (.tmp 8)=.int .i64 (k:Int):=Reg.eval_tmp ((hs.out 8 (show 8∉[23,24,25,26,27,28,29,30,31,32,33,34,35,10] by decide)).trans rfl);have t9:a.eval (.tmp 9)=.pointer (some ⟨wr.heap.size,0,none⟩):=Reg.eval_tmp ((hs.out 9 (show 9∉[23,24,25,26,27,28,29,30,31,32,33,34,35,10] by decide)).trans rfl)
    simp only[List.mem_cons,List.not_mem_nil,or_false]at hf
    rcases hf with rfl|rfl|rfl|rfl|rfl|rfl|rfl|rfl|rfl|rfl|rfl|rfl|rfl|rfl
    ·exact Reg.step_val rfl rfl rfl (Reg.run_move t8) rfl hs.below (fun e=>Reg.Keeps.refl e _)
    ·obtain⟨v1,hv1,rfl⟩:∃ v,a.tmps[23]? = some v/\v=.int .i64 (k:Int):=hg' _ (Reg.at_fact 0 rfl) (by kernel_rfl) (by simp[Reg.okTil])
     have u1:=Reg.eval_tmp hv1;have hw1:=HW1.out;exact Reg.step_val rfl rfl rfl (w':=w1) (v:=.int .i64 ((k:Int)+1)) (by go_simp) rfl hs.below (fun e=>Reg.Keeps.refl e _)
    ·exact Reg.step_val rfl rfl rfl (Ord.run_fld t9 (fld_lev1 w1 _)) rfl hs.below (fun e=>Reg.Keeps.refl e _)
    ·obtain⟨v1,hv1,rfl⟩:∃ v,a.tmps[25]? = some v/\v=.pointer (some ⟨wr.heap.size,1,none⟩):=hg' _ (Reg.at_fact 2 rfl) (by kernel_rfl) (by simp[Reg.okTil])
     exact Reg.step_val rfl rfl rfl (Reg.run_load (Reg.eval_tmp hv1) (load_i64 ((CeH hx 1).trans rfl))) rfl hs.below (fun e=>Reg.Keeps.refl e _)
    ·obtain⟨v1,hv1,rfl⟩:∃ v,a.tmps[26]? = some v/\v=.int .i64 e.time:=hg' _ (Reg.at_fact 3 rfl) (by kernel_rfl) (by simp[Reg.okTil])
     have u1:=Reg.eval_tmp hv1;refine Reg.step_call (f:=27) (args:=#[.int .i64 e.time,.int .i64 60]) rfl rfl rfl (by go_simp) hs.below ((near_any e.time 60 w1 HFE.out.2.1 (by omega)).mono ?_);rintro en w2 ⟨rfl,rfl⟩;exact⟨_,rfl,rfl,Below.refl _ _⟩
    ·exact Reg.step_val rfl rfl rfl (Ord.run_fld t9 (fld_lev2 w1 _)) rfl hs.below (fun e=>Reg.Keeps.refl e _)
    ·obtain⟨v1,hv1,rfl⟩:∃ v,a.tmps[28]? = some v/\v=.pointer (some ⟨wr.heap.size,2,none⟩):=hg' _ (Reg.at_fact 5 rfl) (by kernel_rfl) (by simp[Reg.okTil])
     exact Reg.step_val rfl rfl rfl (Reg.run_load (Reg.eval_tmp hv1) (load_u8 ((CeH hx 2).trans rfl))) rfl hs.below (fun e=>Reg.Keeps.refl e _)
    ·obtain⟨v1,hv1,rfl⟩:∃ v,a.tmps[29]? = some v/\v=.int .u8 e.kind:=hg' _ (Reg.at_fact 6 rfl) (by kernel_rfl) (by simp[Reg.okTil])
     have u1:=Reg.eval_tmp hv1;have hm4:=HM4.out;exact Reg.step_val rfl rfl rfl (w':=w1) (v:=.int .u8 (e.kind % 4)) (by go_simp) rfl hs.below (fun e=>Reg.Keeps.refl e _)
    ·obtain⟨v1,hv1,rfl⟩:∃ v,a.tmps[30]? = some v/\v=.int .u8 (e.kind % 4):=hg' _ (Reg.at_fact 7 rfl) (by kernel_rfl) (by simp[Reg.okTil])
     have u1:=Reg.eval_tmp hv1;have hw2:=HW2.out;exact Reg.step_val rfl rfl rfl (w':=w1) (v:=.int .u8 (65+e.kind % 4)) (by go_simp) rfl hs.below (fun e=>Reg.Keeps.refl e _)
    ·exact Reg.step_val rfl rfl rfl (Ord.run_fld t9 (fld_lev3 w1 _)) rfl hs.below (fun e=>Reg.Keeps.refl e _)
    ·obtain⟨v1,hv1,rfl⟩:∃ v,a.tmps[32]? = some v/\v=.pointer (some ⟨wr.heap.size,3,none⟩):=hg' _ (Reg.at_fact 9 rfl) (by kernel_rfl) (by simp[Reg.okTil])
     exact Reg.step_val rfl rfl rfl (Reg.run_load (Reg.eval_tmp hv1) (load_i64 ((CeH hx 3).trans rfl))) rfl hs.below (fun e=>Reg.Keeps.refl e _)
    ·obtain⟨v1,hv1,rfl⟩:∃ v,a.tmps[33]? = some v/\v=.int .i64 e.val:=hg' _ (Reg.at_fact 10 rfl) (by kernel_rfl) (by simp[Reg.okTil])
     have u1:=Reg.eval_tmp hv1;refine Reg.step_call (f:=27) (args:=#[.int .i64 e.val,.int .i64 9]) rfl rfl rfl (by go_simp) hs.below ((near_any e.val 9 w1 HFE.out.2.2.2 (by omega)).mono ?_);rintro en w2 ⟨rfl,rfl⟩;exact⟨_,rfl,rfl,Below.refl _ _⟩
    ·obtain⟨v1,hv1,rfl⟩:∃ v,a.tmps[24]? = some v/\v=.int .i64 ((k:Int)+1):=hg' _ (Reg.at_fact 1 rfl) (by kernel_rfl) (by simp[Reg.okTil])
     obtain⟨v2,hv2,rfl⟩:∃ v,a.tmps[27]? = some v/\v=.int .i64 (nearI e.time 60):=hg' _ (Reg.at_fact 4 rfl) (by kernel_rfl) (by simp[Reg.okTil])
     obtain⟨v3,hv3,rfl⟩:∃ v,a.tmps[31]? = some v/\v=.int .u8 (65+e.kind % 4):=hg' _ (Reg.at_fact 8 rfl) (by kernel_rfl) (by simp[Reg.okTil])
     obtain⟨v4,hv4,rfl⟩:∃ v,a.tmps[34]? = some v/\v=.int .i64 (nearI e.val 9):=hg' _ (Reg.at_fact 11 rfl) (by kernel_rfl) (by simp[Reg.okTil])
     exact Reg.step_val rfl rfl rfl (run_build4 (Reg.eval_tmp hv1) (Reg.eval_tmp hv2) (Reg.eval_tmp hv3) (Reg.eval_tmp hv4)) rfl hs.below (fun e=>Reg.Keeps.refl e _)
    ·exact Reg.step_val rfl rfl rfl (run_alloc_ev (w:=w1)) ⟨w1.heap.size,rfl,hs.below.size,heap_new rfl⟩ (hs.below.alloc hs.below.size _) (fun e=>Reg.Keeps.alloc e _ _)
   ·intro vals w1 hF hfx hb1;have e35:vals 35=evV (evE k e):=hF _ (Reg.at_fact 12 rfl) (show(14+1:Nat)<=99 by decide)
    obtain⟨g,e10,hgb,hgx⟩:∃ g,vals 10=.pointer (some ⟨g,0,none⟩)/\wx.heap.size<=g/\w1.heap[g]? = some (.cells #[.int .i64 0,.int .i64 0,.int .u8 0,.int .i64 0] 44 (0,0)):=hF _ (Reg.at_fact 13 rfl) (show(14+1:Nat)<=99 by decide)
    simp only[List.map_cons,List.map_nil,e35,e10]
    generalize vals 23=q23;generalize vals 24=q24;generalize vals 25=q25;generalize vals 26=q26;generalize vals 27=q27;generalize vals 28=q28;generalize vals 29=q29;generalize vals 30=q30;generalize vals 31=q31;generalize vals 32=q32;generalize vals 33=q33;generalize vals 34=q34;have HB1:=Hyd hb1;have HGC:=Hyd hgx;have HGB:=Hyd hgb;have z0:=(CeH hgx 0).trans rfl;have z1:=(CeH hgx 1).trans rfl;have z2:=(CeH hgx 2).trans rfl;have z3:=(CeH hgx 3).trans rfl;have f0:=frozen_of_row w1 _ 0 _ _ hgx;have f1:=frozen_of_row w1 _ 1 _ _ hgx;have f2:=frozen_of_row w1 _ 2 _ _ hgx;have f3:=frozen_of_row w1 _ 3 _ _ hgx;clear hF hfx e35 e10 hb1 hgb hgx;(iterate 15 unfold Reg.puts)
    go_upto_region 7 with (fail)
    obtain⟨e',he'⟩:∃ e',evE k e=e':=⟨_,rfl⟩
    rw[he'];have HE':=Hyd he'
    obtain⟨w2,hw2⟩:∃ w2,w2=(((w1.setCell ⟨g,0,none⟩ (.int .i64 e'.id)).setCell ⟨g,1,none⟩ (.int .i64 e'.time)).setCell ⟨g,2,none⟩ (.int .u8 e'.kind)).setCell ⟨g,3,none⟩ (.int .i64 e'.val):=⟨_,rfl⟩
    have HX2:=Hyd (show w2.heap[g]? = some (.cells (encE e').toArray 44 (0,0)) by rw[hw2];exact(blk_setc (blk_setc (blk_setc (blk_setc HGC.out 0 _) 1 _) 2 _) 3 _).trans rfl)
    have hb2:Below wx.heap.size wx w2:=by rw[hw2];exact(((HB1.out.setCell (p:=⟨g,0,none⟩) HGB.out _).setCell (p:=⟨g,1,none⟩) HGB.out _).setCell (p:=⟨g,2,none⟩) HGB.out _).setCell (p:=⟨g,3,none⟩) HGB.out _
    have hbw:Below wr.heap.size wr w2:=HGX.out.trans (hb2.mono HGX.out.size);have HOA2:=Hyd (own_below HOA.out hbw);have HOB2:=Hyd (own_below HOB.out hbw);have HBW2:=Hyd (HB.out.trans (hbw.mono hWr));have HGN:=Hyd (show(Value.slice aa k ac).ownBlock≠some g from fun h=>by have:=(own_lt HOA.out g h).2;have:=HGX.out.size;have:=HGB.out;omega);rw[<-hw2];clear hw2 hb2 hbw z0 z1 z2 z3 f0 f1 f2 f3 he';obtain⟨i0,hi,hz0,hz1,hz2⟩:=info_parts infoEv;obtain⟨i1,hj,hy0,hy1,hy2⟩:=info_parts infoRv;go_wp2_with fail
    refine Reg.inv_order (W:=W) (h:=8) (t:=2)
     [⟨0,36,[],99,[],none,fun v _=>v=.slice aa k ac⟩,
      ⟨1,37,[],99,[],none,fun v _=>v=evV e'⟩,
      ⟨2,38,[44],3,[],none,fun v w'=>∃ q,v=.slice (some ⟨q,0,none⟩) 1 1/\w'.ownsRow 0 44 4 v 1 (encE e')⟩,
      ⟨3,39,[44],99,[],some 44,fun v w'=>w'.ownsRow W.heap.size 44 4 v (k+1) (cellsOf encE (evsK l k)++encE e')⟩,
      ⟨4,40,[],99,[],none,fun v _=>v=.slice ba k bc⟩,
      ⟨5,41,[],99,[],none,fun v _=>v=evV e'⟩,
      ⟨6,42,[59],7,[],none,fun v w'=>∃ q,v=.slice (some ⟨q,0,none⟩) 1 1/\w'.ownsRow 0 59 4 v 1 (encE e')⟩,
      ⟨7,43,[59],99,[],some 59,fun v w'=>w'.ownsRow W.heap.size 59 4 v (k+1) (cellsOf encE (evsK l k)++encE e')⟩]
     [⟨[44],3,fun w'=>w'.ownsRow W.heap.size 44 4 (.slice aa k ac) k (cellsOf encE (evsK l k))⟩,
      ⟨[59],7,fun w'=>w'.ownsRow W.heap.size 59 4 (.slice ba k bc) k (cellsOf encE (evsK l k))⟩]
     (fun w'=>w'.heap[g]? = some (.cells (encE e').toArray 44 (0,0)))
     (by kernel_rfl) rfl (by kernel_rfl) (by kernel_rfl) (by kernel_rfl) (show [0,1,2,3,4,5,6,7].Nodup by decide) (show ∀ i,i<8->i∈[0,1,2,3,4,5,6,7] by decide) ?_ (show [36,37,38,39,40,41,42,43].Nodup by decide) (show ∀ s∈[36,37,38,39,40,41,42,43],s<47 by decide) (by kernel_rfl) ?_ ?_ HBW2.out (HX2.out) ?_ ?_ ?_
    ·intro f hf
     simp only[List.mem_cons,List.not_mem_nil,or_false]at hf
     rcases hf with rfl|rfl|rfl|rfl|rfl|rfl|rfl|rfl<;>simp
    ·intro f hf v w1 w2 hk hF
     simp only[List.mem_cons,List.not_mem_nil,or_false]at hf
     rcases hf with rfl|rfl|rfl|rfl|rfl|rfl|rfl|rfl
     ·exact hF
     ·exact hF
     ·obtain⟨q,e1,e2⟩:=hF;exact⟨q,e1,(hk 44 (by simp)).1 _ _ _ _ _ e2⟩
     ·exact(hk 44 (by simp)).1 _ _ _ _ _ hF
     ·exact hF
     ·exact hF
     ·obtain⟨q,e1,e2⟩:=hF;exact⟨q,e1,(hk 59 (by simp)).1 _ _ _ _ _ e2⟩
     ·exact(hk 59 (by simp)).1 _ _ _ _ _ hF
    ·intro f hf w1 w2 hk hG
     simp only[List.mem_cons,List.not_mem_nil,or_false]at hf
     rcases hf with rfl|rfl
     ·exact(hk 44 (by simp)).1 _ _ _ _ _ hG
     ·exact(hk 59 (by simp)).1 _ _ _ _ _ hG
    ·intro f hf
     simp only[List.mem_cons,List.not_mem_nil,or_false]at hf
     rcases hf with rfl|rfl
     ·exact HOA2.out.drew
     ·exact HOB2.out.drew
    ·intro f hf a w1 hs hI hg' hst;have t6:a.eval (.tmp 6)=.slice aa k ac:=Reg.eval_tmp ((hs.out 6 (show 6∉[36,37,38,39,40,41,42,43] by decide)).trans rfl);have t7:a.eval (.tmp 7)=.slice ba k bc:=Reg.eval_tmp ((hs.out 7 (show 7∉[36,37,38,39,40,41,42,43] by decide)).trans rfl);have t10:a.eval (.tmp 10)=.pointer (some ⟨g,0,none⟩):=Reg.eval_tmp ((hs.out 10 (show 10∉[36,37,38,39,40,41,42,43] by decide)).trans rfl)
     simp only[List.mem_cons,List.not_mem_nil,or_false]at hf
     rcases hf with rfl|rfl|rfl|rfl|rfl|rfl|rfl|rfl
     ·exact Reg.step_valI rfl rfl rfl (Reg.run_move t6) rfl hs.below hI
     ·exact Reg.step_valI rfl rfl rfl (Reg.run_load t10 (load_ev (show w1.heap[g]? = some (.cells #[.int .i64 e'.id,.int .i64 e'.time,.int .u8 e'.kind,.int .i64 e'.val] 44 (0,0)) from hI))) rfl hs.below hI
     ·obtain⟨v1,hv1,rfl⟩:∃ v,a.tmps[37]? = some v/\v=evV e':=hg' _ (Reg.at_fact 1 rfl) (by kernel_rfl) (by simp[Reg.okTil])
      exact Reg.step_genI rfl rfl rfl (Reg.run_build (Reg.eval_tmp hv1) (build_evE w1 e')) ⟨_,rfl,Reg.own_new (cs:=(encE e').toArray) rfl (Nat.zero_le _) rfl (by decide)⟩ (hs.below.alloc hs.below.size _) (fun e _=>Reg.Keeps.alloc e _ _) (heap_alloc hI)
     ·obtain⟨v1,hv1,rfl⟩:∃ v,a.tmps[36]? = some v/\v=.slice aa k ac:=hg' _ (Reg.at_fact 0 rfl) (by kernel_rfl) (by simp[Reg.okTil])
      obtain⟨v2,hv2,q,rfl,ho2⟩:∃ v,a.tmps[38]? = some v/\∃ q,v=.slice (some ⟨q,0,none⟩) 1 1/\w1.ownsRow 0 44 4 v 1 (encE e'):=hg' _ (Reg.at_fact 2 rfl) (by kernel_rfl) (by simp[Reg.okTil])
      have hs0:=hst _ (Reg.at_stand 0 rfl) (by simp[Reg.okTil]);refine Reg.step_appI rfl rfl rfl rfl hs.below Tryz.underlying32 hi hz0 hz1 hz2 rfl (by decide) hv1 hs0 hv2 ho2 (encE_one _) (by unfold maxLen;omega) (by omega) (Nat.le_refl _) hs.below.size (fun v' w' ho hgr hv=>?_);exact⟨ho,(hgr.block g (heap_lt hI) (fun h=>HGN.out h.symm)).trans hI⟩
     ·exact Reg.step_valI rfl rfl rfl (Reg.run_move t7) rfl hs.below hI
     ·exact Reg.step_valI rfl rfl rfl (Reg.run_load t10 (load_ev (show w1.heap[g]? = some (.cells #[.int .i64 e'.id,.int .i64 e'.time,.int .u8 e'.kind,.int .i64 e'.val] 44 (0,0)) from hI))) rfl hs.below hI
     ·obtain⟨v1,hv1,rfl⟩:∃ v,a.tmps[41]? = some v/\v=evV e':=hg' _ (Reg.at_fact 5 rfl) (by kernel_rfl) (by simp[Reg.okTil])
      exact Reg.step_genI rfl rfl rfl (Reg.run_build (Reg.eval_tmp hv1) (build_rv w1 e')) ⟨_,rfl,Reg.own_new (cs:=(encE e').toArray) rfl (Nat.zero_le _) rfl (by decide)⟩ (hs.below.alloc hs.below.size _) (fun e _=>Reg.Keeps.alloc e _ _) (heap_alloc hI)
     ·obtain⟨v1,hv1,rfl⟩:∃ v,a.tmps[40]? = some v/\v=.slice ba k bc:=hg' _ (Reg.at_fact 4 rfl) (by kernel_rfl) (by simp[Reg.okTil])
      obtain⟨v2,hv2,q,rfl,ho2⟩:∃ v,a.tmps[42]? = some v/\∃ q,v=.slice (some ⟨q,0,none⟩) 1 1/\w1.ownsRow 0 59 4 v 1 (encE e'):=hg' _ (Reg.at_fact 6 rfl) (by kernel_rfl) (by simp[Reg.okTil])
      have hs0:=hst _ (Reg.at_stand 1 rfl) (by simp[Reg.okTil]);refine Reg.step_appI rfl rfl rfl rfl hs.below Tryz.underlying33 hj hy0 hy1 hy2 rfl (by decide) hv1 hs0 hv2 ho2 (encE_one _) (by unfold maxLen;omega) (by omega) (Nat.le_refl _) hs.below.size (fun v' w' ho hgr hv=>?_);exact⟨ho,(Reg.Keeps.grown (show(44:TypeId)≠59 by decide) hs0 hgr).2 _ _ hI⟩
    ·intro vals w1 hF hfx hb1 hI;have h39:w1.ownsRow W.heap.size 44 4 (vals 39) (k+1) (cellsOf encE (evsK l k)++encE e'):=hF _ (Reg.at_fact 3 rfl) (show(8+2:Nat)<=99 by decide);have h43:w1.ownsRow W.heap.size 59 4 (vals 43) (k+1) (cellsOf encE (evsK l k)++encE e'):=hF _ (Reg.at_fact 7 rfl) (show(8+2:Nat)<=99 by decide);have HREL:=Hyd (show EvR W l m (vals 39) (vals 43) (.int .i64 ((k:Int)+1)) w1 from⟨k+1,by omega,by go_num,by rw[HSU.out,HE'.out,cellsOf_snoc];exact h39,by rw[HSU.out,HE'.out,cellsOf_snoc];exact h43,hb1⟩)
     simp only[List.map_cons,List.map_nil]
     generalize vals 36=p36 at HREL ⊢;generalize vals 37=p37 at HREL ⊢;generalize vals 38=p38 at HREL ⊢;generalize vals 39=p39 at HREL ⊢;generalize vals 40=p40 at HREL ⊢;generalize vals 41=p41 at HREL ⊢;generalize vals 42=p42 at HREL ⊢;generalize vals 43=p43 at HREL ⊢;clear hF hfx h39 h43 hb1 hI;(iterate 9 unfold Reg.puts);go_wp2_with fail;go_roundw
     case rel=>exact HREL.out
     case measure=>simp[intOf];omega
  ·obtain rfl:k=m:=by omega
   obtain⟨aa,ac,rfl⟩:=(Sl.of_own hoa).shape;obtain⟨ba,bc,rfl⟩:=(Sl.of_own hob).shape;have HP:=Hyd (show ∃ va vb,Ending.returned (.tuple #[.slice aa k ac,.slice ba k bc])=.returned (.tuple #[va,vb])/\wr.ownsRow W.heap.size 44 4 va k (cellsOf encE (evsK l k))/\wr.ownsRow W.heap.size 59 4 vb k (cellsOf encE (evsK l k))/\Below W.heap.size W wr from⟨_,_,rfl,hoa,hob,hb⟩);clear hoa hob hb;go_wp2_with fail
   go_ret2
   exact HP.out
end Go.Proofs.YtcojnojdgigmdaaGreatDoor.WR
/- How the arguments read: slices of structs of plain fields as lists. -/
namespace Go.Proofs.YtcojnojdgigmdaaGreatDoor.Op
open Go.RowKit Go.ChangeShapes Go.WideShapes Go.Deep Mem
def cellIs:TypeDesc->Value->Prop
 | .int k,v=>∃ n,v=.int k n/\(Lit.int k n).wf=true
 | .bool,v=>∃ b,v=.bool b
 | .string,v=>∃ s:ByteArray,v=.string s/\s.size<=maxLen
 | _,_=>True
def plainK:TypeDesc->Bool
 | .int _=>true
 | .bool=>true
 | .string=>true
 | _=>false
section
variable {H : Type} {enc : TypeId × Value -> H} {P : Program} {w : World}
theorem cell_of_trod {t:TypeId} {d:TypeDesc} {fuel:Nat} {v:Value} {x:DataW H×List MemPlace} (ht:P.underlying t=some d) (hd:plainK d=true)
  (h:DataW.trod enc P w 0 (fun _=>true) true fuel t [v]=some x):cellIs d v:=by
 cases d with
 | int k =>
  obtain⟨n,hv,_,hw⟩:=DataW.trod_int ht h;exact⟨n,by simpa using hv,hw⟩
 | bool =>
  obtain⟨b,hv,_⟩:=DataW.trod_bool ht h;exact⟨b,by simpa using hv⟩
 | string =>
  obtain⟨s,hv,_,hs⟩:=DataW.trod_string ht h;exact⟨s,by simpa using hv,hs⟩
 | _=>cases hd
theorem open_structs {t e:TypeId} {fs:Array Field} {ds:List TypeDesc} {fuel:Nat} {cs:List Value} {x:DataW H×List MemPlace} (ht:P.underlying t=some (.slice e)) (he:P.underlying e=some (.struct fs))
  (hone:oneCellFields P fs=true) (hC:P.cellsOf e=fs.size) (hds:∀ (j:Nat) (f:Field),fs[j]? = some f->∃ d,ds[j]? = some d/\P.underlying f.type=some d/\plainK d=true)
  (h:DataW.trod enc P w 0 (fun _=>true) true fuel t cs=some x) :
  (cs=[.slice none 0 0]/\x.1=.nil) \/
  ∃ (a:Addr) (len cap:Nat) (elems spare:List (DataW H)),cs=[.slice (some a) len cap]/\len<=cap/\x.1=.slice elems spare/\elems.length=len /\
   ∀ i,i<len->∀ j,j<fs.size->∃ d v,ds[j]? = some d/\w.cell? (a.add (i * fs.size+j))=some v/\cellIs d v:=by
 rcases open_slice ht h with h0 | ⟨a,len,cap,m,n,D,Pl,hcs,hb,hl,hm,hmm,hx,hi⟩
 ·exact .inl ⟨h0.1,by rw[h0.2]⟩
 ·refine .inr ⟨a,len,cap,_,_,hcs,hl,by rw[hx],by simp,fun i him j hj=>?_⟩
  have hmm':m=cap:=by simpa using hmm
  obtain⟨cs',hc,ht'⟩:=hi i (by omega);rw[hC]at hc;obtain⟨ys,n',hn',hy,hlen,hyl,hf⟩:=DataW.trod_struct he ht';obtain⟨_,hcl,hat⟩:=World.cells?_some hc
  have hjf:fs[j]? = some fs[j]:=by simp[hj]
  obtain⟨d,hd,hu,hk⟩:=hds j _ hjf;obtain⟨ho,hkk⟩:=hone_of hone j _ hjf;have hcell:=hat j hj;have h1:=hf j _ hjf;rw[ho,hkk]at h1
  have hone':(cs'.drop j).take 1=[cs'[j]'(by omega)]:=by
   rw[List.drop_eq_getElem_cons (by omega)]
   rfl
  rw[hone']at h1;have hys:ys[j]? = some (ys[j]'(by omega)):=List.getElem?_eq_getElem (by omega);refine⟨d,cs'[j]'(by omega),hd, ?_,cell_of_trod hu hk (h1.trans hys)⟩;rw[<-Mem.add_add,hcell];exact List.getElem?_eq_getElem (by omega)
end
theorem pick {α:Type} {p:Nat->α->Prop}:∀ n:Nat,(∀ i,i<n->∃ x,p i x)->∃ l:List α,l.length=n/\∀ i (h:i<l.length),p i l[i]
 | 0,_=>⟨[],rfl,fun i h=>absurd h (by simp)⟩
 | n+1,h=>by
  obtain⟨l,hl,hp⟩:=pick n (fun i hi=>h i (by omega));obtain⟨x,hx⟩:=h n (by omega);refine⟨l++[x],by simp[hl],fun i hi=>?_⟩
  by_cases hin:i<l.length
  ·rw[List.getElem_append_left hin];exact hp i hin
  ·have:i=l.length:=by simp at hi;omega
   subst this;rw[List.getElem_append_right (by omega)]
   simpa [hl] using hx
theorem wf_i64 {n:Int} (h:(Lit.int .i64 n).wf=true):-9223372036854775808<=n/\n<=9223372036854775807:=by simpa [Lit.wf,IntKind.min,IntKind.max,IntKind.signed,IntKind.bits] using h
theorem wf_u8 {n:Int} (h:(Lit.int .u8 n).wf=true):0<=n/\n<=255:=by simpa [Lit.wf,IntKind.min,IntKind.max,IntKind.signed,IntKind.bits] using h
theorem open_events {H:Type} {enc:TypeId×Value->H} {P:Program} {w:World} {t e:TypeId} {fs:Array Field} {fuel:Nat} {v:Value} {x:DataW H×List MemPlace} (ht:P.underlying t=some (.slice e)) (he:P.underlying e=some (.struct fs))
  (hone:oneCellFields P fs=true) (hC:P.cellsOf e=fs.size) (h4:fs.size=4) (hds:∀ (j:Nat) (f:Field),fs[j]? = some f->∃ d,[TypeDesc.int .i64,.int .i64,.int .u8,.int .i64][j]? = some d/\P.underlying f.type=some d/\plainK d=true)
  (h:DataW.trod enc P w 0 (fun _=>true) true fuel t [v]=some x) :
  ∃ l:List Ev,Evs w w.heap.size v l/\(∀ e∈l,e.fits)/\((l=[]/\x.1=.nil) \/ ∃ elems spare,x.1=.slice elems spare/\elems.length=l.length):=by
 rcases open_structs ht he hone hC hds h with ⟨hcs,hx⟩ | ⟨a,len,cap,elems,spare,hcs,hl,hx,hel,hcell⟩
 ·have hv:v=.slice none 0 0:=by simpa using hcs
  subst hv;exact⟨[],Sl.nil_ _ _ _,by simp,.inl ⟨rfl,hx⟩⟩
 ·have hv:v=.slice (some a) len cap:=by simpa using hcs
  subst hv;rw[h4]at hcell
  have hex:∀ i,i<len->∃ e:Ev,e.fits/\w.cell? (a.add (i * 4))=some (.int .i64 e.id)/\w.cell? (a.add (i * 4+1))=some (.int .i64 e.time)/\w.cell? (a.add (i * 4+2))=some (.int .u8 e.kind)/\w.cell? (a.add (i * 4+3))=some (.int .i64 e.val):=by
   intro i hi;obtain⟨d0,v0,e0,c0,k0⟩:=hcell i hi 0 (by omega);obtain⟨d1,v1,e1,c1,k1⟩:=hcell i hi 1 (by omega);obtain⟨d2,v2,e2,c2,k2⟩:=hcell i hi 2 (by omega);obtain⟨d3,v3,e3,c3,k3⟩:=hcell i hi 3 (by omega)
   simp only[List.getElem?_cons_zero,List.getElem?_cons_succ,Option.some.injEq]at e0 e1 e2 e3
   subst e0;subst e1;subst e2;subst e3;obtain⟨n0,rfl,w0⟩:=k0;obtain⟨n1,rfl,w1⟩:=k1;obtain⟨n2,rfl,w2⟩:=k2;obtain⟨n3,rfl,w3⟩:=k3;exact⟨⟨n0,n1,n2,n3⟩,⟨wf_i64 w0,wf_i64 w1,wf_u8 w2,wf_i64 w3⟩,c0,c1,c2,c3⟩
  obtain⟨l,hll,hp⟩:=pick len hex;refine⟨l,⟨cellsOf_length encE_len l,_,cap,by rw[hll],by omega,fun hn=>?_⟩, ?_,.inr ⟨elems,spare,hx,by omega⟩⟩
  ·have hp0:=hp 0 hn
   have hblk:a.block<w.heap.size:=by
    have:=World.block_lt_of_cell? w _ hp0.2.1
    rwa [Mem.block_add]at this
   have hlit:∃ b o,a=⟨b,o,none⟩:=by
    have:=hp0.2.1;rw[Nat.zero_mul]at this
    have e:a.add 0=a:=by simp[Addr.add]
    rw[e]at this;exact lit_of_cell this
   obtain⟨b,o,rfl⟩:=hlit;refine⟨b,o,rfl,hblk,fun j u hu=>?_⟩
   have hj:j<l.length * 4:=by
    have:=(List.getElem?_eq_some_iff.1 hu).1
    rwa [cellsOf_length encE_len]at this
   have hq:j / 4<l.length:=by omega
   have hpj:=hp (j / 4) hq
   have hje:j=j / 4 * 4+j % 4:=by omega
   rw[hje,cellsOf_get encE_len l (j / 4) (j % 4) (by omega) hq]at hu
   have h4c:j % 4=0 \/ j % 4=1 \/ j % 4=2 \/ j % 4=3:=by omega
   rw[hje,<-lit_add]
   rcases h4c with h | h | h | h<;>rw[h]at hu ⊢ <;> simp only[encE,List.getElem?_cons_zero,List.getElem?_cons_succ,Option.some.injEq]at hu<;>subst hu
   ·exact hpj.2.1
   ·exact hpj.2.2.1
   ·exact hpj.2.2.2.1
   ·exact hpj.2.2.2.2
  ·intro e he';obtain⟨i,hi,rfl⟩:=List.getElem_of_mem he';exact(hp i hi).1
end Go.Proofs.YtcojnojdgigmdaaGreatDoor.Op
/- What the rows list (the table of ten's powers), as the walks want it; the wrap that keeps the world's shape beside what the row lists. -/
namespace Go.Proofs.YtcojnojdgigmdaaGreatDoor.WS
open Go Go.RowKit Mem
theorem gPow : Tryz.prog.globalNamed "internal/strconv.uint64pow10" = some 0 := by kernel_rfl
theorem tab_of {W:World} (h:laidMetH Tryz.prog Rows.runAllRow.laid W):Tab W:=by
 rw[MakeChecks.laidMetH_plain _ _ _ (by kernel_rfl)]at h;have h3:=laidMet.tail (laidMet.tail h);exact Lib.tabIs_of_head gPow (by kernel_rfl) Tryz.underlying230 Tryz.underlying206 (by kernel_rfl) (by kernel_rfl) h3
theorem pow_lt {W:World} (h:Tab W):0 < W.heap.size:=by
 have h0:=Lib.TabIs.cell h gPow 0 (by decide)
 rcases Nat.lt_or_ge 0 W.heap.size with h' | h'
 ·exact h'
 ·simp[World.cell?,Array.getElem?_eq_none h']at h0
end Go.Proofs.YtcojnojdgigmdaaGreatDoor.WS
namespace Go.Proofs.YtcojnojdgigmdaaGreatDoor.Door
open Go
theorem returns_and_shaped {H:Type} {enc:TypeId×Value->H} {a:Assume} {C:Checked} {os:Os} {f:FuncId} {fn:Func} {s:ChangeSpec} {conds:List PathCond} {apart fresh handsOn again:Bool} {X:World->Array Value->Prop}
  (hX:∀ (w w':World) (args:Array Value),w.heap=w'.heap->X w args->X w' args)
  (own:ownKnob C.prog.godebug=none) (started:os.Started) (noInit:C.prog.inits.idxOf? f=none) (hfn:C.prog.funcs[f]? = some fn)
  (witness:∃ (w:World) (tape:Tape) (i:Input),w.os=os/\(w.forCall tape i).Shaped C.prog/\i.vars=[]/\Input.okWide C.prog (w.forCall tape i) .any w.heap.size f i /\
   ((s.pre enc C.prog fn conds apart (w.forCall tape i).memory i.args/\X (w.forCall tape i).memory i.args)/\sizedMet enc C.prog fn (OpenSpec.ofChange s) apart (w.forCall tape i).memory i.args)/\a.holds C.prog (lone (Frame.enter C.prog f i.args .normal) [] (w.forCall tape i)))
  (contract:∀ (W:World) (base:Nat) (args:Array Value) (ds gs:List (DataW H)) (before:List MemPlace),
   (∀ (j:Nat) t v,fn.params[j]? = some t->args[j]? = some v->Value.okWide C.prog W .any base t v) ->
   DataW.Whole enc C.prog fn.params.toList s.vars apart W args.toList ds gs before ->
   conds.all (PathCond.test C.prog ⟨fn.params.toList,ds,s.plain.varTypes C.prog,gs⟩)=true ->
   (DataW.weightsEach C.prog (fn.params.toList++s.plain.varTypes C.prog) (ds++gs)).all (·<=reachBytes)=true->X W args->W.ShapedOpen C.prog ->
   Calls C.prog f args W fun e W'=>∃ v,e=.returned v/\s.post enc C.prog fn apart fresh handsOn again W args v W') :
  ReturnsInHanded a C os f .any (fun w args=>(s.pre enc C.prog fn conds apart w args/\X w args)/\sizedMet enc C.prog fn (OpenSpec.ofChange s) apart w args) (s.post enc C.prog fn apart fresh handsOn again):=by
 refine returnsInHanded_of_calls own started noInit witness ?_;intro w tape i _ hsh _ hok hpre _;obtain⟨_,_,_,fn',hfn',_,_,_,_,hval⟩:=hok;have e:fn'=fn:=Option.some.inj (hfn'.symm.trans hfn);subst e;obtain⟨⟨⟨ds,gs,before,hw,hc⟩,hx⟩,hz⟩:=hpre;have hw':=DataW.Whole.of_heap (w':=w.forCall tape i) (by rfl) hw
 refine(contract (w.forCall tape i) w.heap.size i.args ds gs before hval hw' hc (hz.weights hw) (hX _ _ _ (by rfl) hx) hsh).mono fun e W' ⟨v,he,hp⟩=>?_
 subst he;exact ChangeSpec.post_blind hp
end Go.Proofs.YtcojnojdgigmdaaGreatDoor.Door
