/- The walks of a run: with, Text, add, Start. -/
import Derived.Test.YtcojnojdgigmdaaGreatDoorB09
import Derived.Ground.SlgnProg
import Derived.Shelf.SlicesE.Clone
import Derived.Test.YtcojnojdgigmdaaGreatDoorB02
import Derived.Lib.SmallJoins
import Derived.Deep.RegionHeld3
import Derived.Deep.DeepCutAuto
import Derived.Test.YtcojnojdgigmdaaGreatDoorChecked
import Derived.Test.YtcojnojdgigmdaaGreatDoorB01
import Derived.Ground.NamesProg
import Derived.Shelf.Strings.OnBuilder
import Derived.Shelf.Strconv.Itoa4
import Derived.Lib.AppendIntMem
import Derived.Lib.Hide
import Derived.Lib.Builder
import Derived.Lib.ItoaLen
import Derived.Deep.AppendLies
/- The walks of run.Until and (run.Run).with. -/
set_option maxHeartbeats 6400000
set_option maxRecDepth 100000
namespace Go.Proofs
open Go.Shelf
def Tryz.cloneI_ren : Go.Shelf.Ren:=⟨fun|41=>38 |n=>n, fun|22=>45 |23=>3 |n=>n, fun|n=>n⟩
theorem Tryz.cloneI:Go.Proofs.SlLaysE0.n41 Tryz.prog Tryz.cloneI_ren:={
 mixed:=by kernel_rfl
 f41:=⟨f38.name, by decide, func38.trans (congrArg some (by kernel_rfl))⟩
 t4:=underlying4
 a4:=isAgg4
 z4:=sizeOf4
 v4:=zeroValue4
 t22:=underlying45
 a22:=isAgg45
 z22:=sizeOf45
 v22:=zeroValue45 }
def Tryz.cloneE_ren : Go.Shelf.Ren:=⟨fun|41=>32 |n=>n, fun|22=>32 |23=>44 |n=>n, fun|n=>n⟩
theorem Tryz.cloneE:Go.Proofs.SlLaysE0.n41 Tryz.prog Tryz.cloneE_ren:={
 mixed:=by kernel_rfl
 f41:=⟨f32.name, by decide, func32.trans (congrArg some (by kernel_rfl))⟩
 t4:=underlying4
 a4:=isAgg4
 z4:=sizeOf4
 v4:=zeroValue4
 t22:=underlying32
 a22:=isAgg32
 z22:=sizeOf32
 v22:=zeroValue32 }
noncomputable def Tryz.infI:TypeInfo:=(Tryz.prog.info? 3).get (by kernel_rfl)
noncomputable def Tryz.infE:TypeInfo:=(Tryz.prog.info? 44).get (by kernel_rfl)
end Go.Proofs
namespace Go.Proofs.YtcojnojdgigmdaaGreatDoor.WR
open Go Go.RowKit Go.Sort PL PR Mem
def Lit (v:Value):Prop:=∀ ad n c,v=.slice ad n c->ad=none \/ ∃ b o,ad=some ⟨b,o,none⟩
theorem Lit.of_own {w:World} {base:Nat} {e:TypeId} {size n:Nat} {v:Value} {xs:List Value} (h:w.ownsRow base e size v n xs):Lit v:=by
 intro ad m c hv
 rcases h.2 with ⟨rfl,_⟩ | ⟨g,cap,cur,rfl,_⟩
 ·injection hv with h1;exact .inl h1.symm
 ·injection hv with h1;exact .inr ⟨g,0,h1.symm⟩
theorem cntV_len (l:List Nat):(cntV l).length=l.length:=by simp[cntV]
theorem cntV_one (l:List Nat):∀ u∈cntV l,u.oneCell'=true:=by
 intro u hu;obtain⟨n,_,rfl⟩:=List.mem_map.1 hu
 rfl
theorem cellsE_one (l:List Ev):∀ u∈cellsOf encE l,u.oneCell'=true:=by
 intro u hu;obtain⟨e,_,hu⟩:=List.mem_flatMap.1 hu;exact encE_one e u hu
theorem cloneI_any (cv:Value) (l:List Nat) (w:World) (B:Nat) (h:Sl w B 1 cv l.length (cntV l)) (hl:Lit cv) (hn:l.length<=1000000) :
  Calls Tryz.prog 38 #[cv] w fun e w'=>∃ v',e=.returned v'/\w'.ownsRow w.heap.size 3 1 v' l.length (cntV l)/\Below w.heap.size w w':=by
 obtain⟨hx,A,c,rfl,hc,hr⟩:=h
 rcases hl _ _ _ rfl with rfl | ⟨b,o,rfl⟩
 ·have h0:l=[]:=by
   rcases l with _ | ⟨x,r⟩
   ·rfl
   ·obtain⟨b,o,h,_⟩:=hr (by simp)
    cases h
  subst h0;refine(AnyE.slices_Clone_nil Tryz.cloneI _ _ w).mono ?_;rintro e w' ⟨rfl,rfl⟩;exact⟨_,rfl,World.ownsRow_nil _ _ _ _,Below.refl _ _⟩
 ·refine(AnyE.slices_Clone Tryz.cloneI Tryz.infI (.int .i64 0) 1 8 (by kernel_rfl) (by kernel_rfl) (by kernel_rfl) (by kernel_rfl) rfl (by decide) Tryz.sizeOf3 b o l.length c (cntV l) w (by rw[cntV_len];omega) (by unfold maxLen;omega) (by omega) ?_ (cntV_one l)).mono ?_
  ·intro j u hu
   have h0:0<l.length:=by
    have:=(List.getElem?_eq_some_iff.1 hu).1;rw[cntV_len]at this;omega
   obtain⟨b',o',e,_,hx⟩:=hr h0
   injection e with e;injection e with e1 e2;subst e1 e2
   exact hx j u hu
  ·rintro e w' ⟨v',rfl,h1,_,h2⟩;exact⟨v',rfl,h1,h2⟩
theorem cloneE_any (ev:Value) (l:List Ev) (w:World) (B:Nat) (h:Evs w B ev l) (hl:Lit ev) (hn:l.length<=1000000) :
  Calls Tryz.prog 32 #[ev] w fun e w'=>∃ v',e=.returned v'/\w'.ownsRow w.heap.size 44 4 v' l.length (cellsOf encE l)/\Below w.heap.size w w':=by
 obtain⟨hx,A,c,rfl,hc,hr⟩:=h
 rcases hl _ _ _ rfl with rfl | ⟨b,o,rfl⟩
 ·have h0:l=[]:=by
   rcases l with _ | ⟨x,r⟩
   ·rfl
   ·obtain⟨b,o,h,_⟩:=hr (by simp)
    cases h
  subst h0;refine(AnyE.slices_Clone_nil Tryz.cloneE _ _ w).mono ?_;rintro e w' ⟨rfl,rfl⟩;exact⟨_,rfl,World.ownsRow_nil _ _ _ _,Below.refl _ _⟩
 ·refine(AnyE.slices_Clone Tryz.cloneE Tryz.infE (.agg #[.int .i64 0,.int .i64 0,.int .u8 0,.int .i64 0]) 4 32 (by kernel_rfl) (by kernel_rfl) (by kernel_rfl) (by kernel_rfl) rfl (by decide) Tryz.sizeOf44 b o l.length c (cellsOf encE l) w hx (by unfold maxLen;omega) (by omega) ?_ (cellsE_one l)).mono ?_
  ·intro j u hu
   have h0:0<l.length:=by
    have:=(List.getElem?_eq_some_iff.1 hu).1;rw[hx]at this;omega
   obtain⟨b',o',e,_,hx⟩:=hr h0
   injection e with e;injection e with e1 e2;subst e1 e2
   exact hx j u hu
  ·rintro e w' ⟨v',rfl,h1,_,h2⟩;exact⟨v',rfl,h1,h2⟩
theorem until_any (p:RPlan) (ad:Option Addr) (n c:Nat) (v:Value) (r:RRun) (B:Nat) (w:World) (hr:RunAt w B v r) (hBw:B<=w.heap.size) (hp:Sm p.within) (hs:∀ y∈r.evs,Sm y.time) :
  Calls Tryz.prog 22 #[.agg #[.slice ad n c,.int .i64 p.within],v] w fun en w'=>en=.returned (.int .i64 (untilR p r))/\Grw w w':=by
 obtain⟨cv,ev,rfl,hc,he⟩:=hr;obtain⟨ca,cc,rfl⟩:=Sl.shape hc;obtain⟨ea,ec,rfl⟩:=Sl.shape he;have HG:=Hyd (show Grw w ((w.alloc (.cells #[.slice ad n c,.int .i64 p.within] 25)).alloc (.cells #[.slice ca r.counts.length cc,.slice ea r.evs.length ec,.bool r.blocked] 47)) from((Grw.refl _).alloc _).alloc _);have HE:=Hyd he;have HS:=Hyd hs;have HU:=Hyd (show untilR p r=match r.evs with | []=>-1 | y :: _=>y.time+p.within from rfl);obtain⟨cs,evs,bl⟩:=r
 simp only at HE HS HU ⊢
 unfold Sm at hp;clear hc he hs
 go_enter Tryz.func22,Tryz.ntmps22
 rcases evs with _ | ⟨y,l⟩
 ·have HR:=Hyd (show untilR p ⟨cs,[],bl⟩=-1 from rfl);go_wp2_with fail;go_ret;exact⟨by rw[HR.out];rfl,HG.out⟩
 ·have hlen:(0:Int)<((y :: l).length:Int):=by simp only[List.length_cons];omega
  obtain⟨b,o,c',hv,hb,h0,h1,h2,h3⟩:=HE.out.at_ (i:=0) (by simp)
  obtain⟨rfl,rfl⟩:ea=some ⟨b,o,none⟩/\ec=c':=by simpa using hv
  simp only[Nat.zero_mul,Nat.add_zero,List.getElem_cons_zero]at h0 h1 h2 h3
  have hSt:=HS.out y List.mem_cons_self;unfold Sm at hSt;have HR:=Hyd (show untilR p ⟨cs,y :: l,bl⟩=y.time+p.within from rfl);have z1:=HG.out.cell (Nat.lt_of_lt_of_le hb hBw) h1
  obtain⟨m,hm⟩:∃ m,(y :: l).length=m:=⟨_,rfl⟩
  rw[hm]at hlen HG z1 ⊢
  have hlen0:(m==0)=false:=by rw[beq_eq_false_iff_ne];omega
  have hne1:(m:Int)≠0:=by omega
  clear h0 h1 h2 h3 hv hm;go_wp2_with fail
  go_quiet (fail)
  go_wp2_with fail;go_ret;exact⟨by rw[HR.out];go_num,HG.out.drewN _⟩
def RunOwn (base:Nat) (w:World) (v:Value) (r:RRun):Prop:=∃ cv ev,v=.agg #[cv,ev,.bool r.blocked]/\w.ownsRow base 3 1 cv r.counts.length (cntV r.counts)/\w.ownsRow base 44 4 ev r.evs.length (cellsOf encE r.evs)
theorem infoR1:(Tryz.prog.info? 3).map (fun i=>(i.zero,i.size,i.bytes))=some (some (.int .i64 0),1,8):=by kernel_rfl
theorem infoR2:(Tryz.prog.info? 44).map (fun i=>(i.zero,i.size,i.bytes))=some (some (.agg #[.int .i64 0,.int .i64 0,.int .u8 0,.int .i64 0]),4,32):=by kernel_rfl
theorem fld_run0 (w:World) (g:Nat):(Instr.fieldAt 47 (.pointer (some ⟨g,0,none⟩)) 0).run Tryz.prog w=.ok (.pointer (some ⟨g,0,none⟩)) w:=by go_simp
theorem fld_run1 (w:World) (g:Nat):(Instr.fieldAt 47 (.pointer (some ⟨g,0,none⟩)) 1).run Tryz.prog w=.ok (.pointer (some ⟨g,1,none⟩)) w:=by go_simp
theorem load_ints {w:World} {g j:Nat} {u:Value} (h:w.cell? ⟨g,j,none⟩=some u):(Instr.loadAt 45 (.pointer (some ⟨g,j,none⟩))).run Tryz.prog w=.ok u w:=by go_simp
theorem load_evs {w:World} {g j:Nat} {u:Value} (h:w.cell? ⟨g,j,none⟩=some u):(Instr.loadAt 32 (.pointer (some ⟨g,j,none⟩))).run Tryz.prog w=.ok u w:=by go_simp
theorem load_ev {w:World} {g:Nat} {x:Ev} (h:w.heap[g]? = some (.cells #[.int .i64 x.id,.int .i64 x.time,.int .u8 x.kind,.int .i64 x.val] 44 (0,0))) :
  (Instr.loadAt 44 (.pointer (some ⟨g,0,none⟩))).run Tryz.prog w=.ok (evV x) w:=by
 have e0:w.cell? ⟨g,0,none⟩=some (.int .i64 x.id):=(CeH h 0).trans rfl;have e1:w.cell? ⟨g,1,none⟩=some (.int .i64 x.time):=(CeH h 1).trans rfl;have e2:w.cell? ⟨g,2,none⟩=some (.int .u8 x.kind):=(CeH h 2).trans rfl;have e3:w.cell? ⟨g,3,none⟩=some (.int .i64 x.val):=(CeH h 3).trans rfl
 go_simp
theorem build_ev (w:World) (x:Ev):(Instr.buildSlice 32 1 #[(0,evV x)]).run Tryz.prog w=.ok (.slice (some ⟨w.heap.size,0,none⟩) 1 1) (w.alloc (.cells (encE x).toArray 44)):=by
 unfold encE
 go_simp
theorem run_enter1 {P:Program} {a:Act} {w:World} {x:Operand} {vx:Value} {f:FuncId} {d:Option Tmp} {ty:TypeId} {pos:String} {af:Array Edge} {g:Option (Nat×Bool)} {ts:Array TypeId} (hx:a.eval x=vx) (hf:(callFunc f #[vx]).run P w=.ok (.enter f #[vx]) w) :
  (execOp a.eval { dst:=d,op:=.call { callee:=.value (.func f),args:=#[x],argTypes:=ts },type:=ty,pos:=pos,after:=af,guard:=g }).run P w=.ok (.enter f #[vx]) w:=by
 have he:a.eval (.func f)=.func (.func f) #[] #[]:=rfl
 simp only[execOp,resolve,he,Deferred.ofValue,invoke,Sem.run_bind,Sem.run_pure,Result.andThen_ok,List.map_toArray,List.map_cons,List.map_nil,hx]
 exact hf
theorem own_set {w:World} {base g:Nat} {e t:TypeId} {sz n:Nat} {v:Value} {xs:List Value} {cs:Array Value} {fr:Nat×Nat} (h:w.ownsRow base e sz v n xs) (hh:w.heap[g]? = some (.cells cs t fr)) (hne:e≠t) (i:Nat) (u:Value):(w.setCell ⟨g,i,none⟩ u).ownsRow base e sz v n xs:=by
 have hg:w.grownBy (w.setCell ⟨g,i,none⟩ u) (some g):=⟨rfl,rfl,rfl,by simp,fun k _ hk=>heap_setCell_other w ⟨g,i,none⟩ k u (fun e=>hk (by simp[e]))⟩;refine h.kept hg ?_
 rcases h.2 with ⟨rfl,_⟩ | ⟨g',cap,cur,rfl,_,hh',_⟩
 ·exact .inl rfl
 ·refine .inr fun he=>?_
  have:g'=g:=by simpa [Value.ownBlock] using he
  subst this;rw[hh]at hh'
  injection hh' with hh'
  injection hh' with _ ht
  exact hne ht.symm
theorem getD_le_sum:∀ (l:List Nat) (k:Nat),l.getD k 0<=l.sum:=by
 intro l
 induction l with
 | nil=>intro k;simp
 | cons x l ih =>
  intro k
  cases k with
  | zero=>simp
  | succ k=>have:=ih k;simp only[List.getD_cons_succ,List.sum_cons];omega
theorem res_with {w:World} {B:Nat} {c0 c1 c2:Value} {tmps:Array Value} (h2:tmps[6]? = some (.pointer (some ⟨B,0,none⟩)))
  (e0:w.cell? ⟨B,0,none⟩=some c0) (e1:w.cell? ⟨B,1,none⟩=some c1) (e2:w.cell? ⟨B,2,none⟩=some c2) :
  (results Tryz.f37 tmps).run Tryz.prog w=.ok (.agg #[c0,c1,c2]) w:=by
 simp[results,Tryz.results37,go_sem,h2,e0,e1,e2]
structure Mid (wa:World) (n m:Nat) (xe:List Value) (c:List Nat) (g q n' cq:Nat) (A2:Option Addr) (c2:Nat) (w:World):Prop where
 blk:w.heap[g]? = some (.cells #[.slice (some ⟨q,0,none⟩) n' cq,.slice A2 m c2,.bool false] 47 (0,0))
 own1:w.ownsRow wa.heap.size 3 1 (.slice (some ⟨q,0,none⟩) n' cq) n' (cntV c)
 own2:w.ownsRow wa.heap.size 44 4 (.slice A2 m c2) m xe
 bel:Below wa.heap.size wa w
 len:c.length=n'
 lt:n<n'
 le:wa.heap.size<=g
theorem with_any (cv ev:Value) (r:RRun) (step B:Nat) (e:Ev) (w:World) (hr:RunAt w B (.agg #[cv,ev,.bool r.blocked]) r) (hBw:B<=w.heap.size) (hlc:Lit cv) (hle:Lit ev) (hw:WfR r) (hst:step<=r.counts.length) :
  Calls Tryz.prog 37 #[.agg #[cv,ev,.bool r.blocked],.int .i64 step,evV e] w fun en w'=>∃ v',en=.returned v'/\RunOwn w.heap.size w' v' (withR r step e)/\Below w.heap.size w w':=by
 obtain⟨cv',ev',e0,hc,he⟩:=hr
 obtain⟨rfl,rfl⟩:cv=cv'/\ev=ev':=by simpa using e0
 obtain⟨ca,cc,rfl⟩:=Sl.shape hc;obtain⟨ea,ec,rfl⟩:=Sl.shape he;have X0:w.heap.size=w.heap.size:=rfl
 obtain⟨wa,hwa⟩:∃ wa,wa=((w.alloc (.cells #[.slice ca r.counts.length cc,.slice ea r.evs.length ec,.bool r.blocked] 47)).alloc (.cells #[.int .i64 e.id,.int .i64 e.time,.int .u8 e.kind,.int .i64 e.val] 44)).alloc (.cells #[.slice none 0 0,.slice none 0 0,.bool false] 47):=⟨_,rfl⟩
 have hg:Grw w wa:=by rw[hwa];exact(((Grw.refl _).alloc _).alloc _).alloc _
 have hza:wa.heap.size=w.heap.size+3:=by rw[hwa];simp
 have XR:=Hyd (show wa.heap[w.heap.size]? = some (.cells #[.slice ca r.counts.length cc,.slice ea r.evs.length ec,.bool r.blocked] 47 (0,0)) by rw[hwa];exact heap_alloc (heap_alloc (heap_new rfl)));have XE:=Hyd (show wa.heap[w.heap.size+1]? = some (.cells #[.int .i64 e.id,.int .i64 e.time,.int .u8 e.kind,.int .i64 e.val] 44 (0,0)) by rw[hwa];exact heap_alloc (heap_new (by simp)));have XZ:=Hyd (show wa.heap[w.heap.size+2]? = some (.cells #[.slice none 0 0,.slice none 0 0,.bool false] 47 (0,0)) by rw[hwa];exact heap_new (by simp))
 have HCI:∀ W,Below wa.heap.size wa W->Calls Tryz.prog 38 #[.slice ca r.counts.length cc] W fun en w'=>∃ v',en=.returned v'/\w'.ownsRow wa.heap.size 3 1 v' r.counts.length (cntV r.counts)/\Below W.heap.size W w':=fun W hW =>
  (cloneI_any _ r.counts W B (Sl.keep hc fun p hp=>(hW.cell (show p.block<wa.heap.size by omega)).trans (hg.below.cell (Nat.lt_of_lt_of_le hp hBw))) hlc hw.steps).mono fun en w' ⟨v',h1,h2,h3⟩=>⟨v',h1,Joins.ownsRow_le h2 hW.size,h3⟩
 have HCE:∀ W,Below wa.heap.size wa W->Calls Tryz.prog 32 #[.slice ea r.evs.length ec] W fun en w'=>∃ v',en=.returned v'/\w'.ownsRow wa.heap.size 44 4 v' r.evs.length (cellsOf encE r.evs)/\Below W.heap.size W w':=fun W hW =>
  (cloneE_any _ r.evs W B (Sl.keep he fun p hp=>(hW.cell (show p.block<wa.heap.size by omega)).trans (hg.below.cell (Nat.lt_of_lt_of_le hp hBw))) hle hw.few).mono fun en w' ⟨v',h1,h2,h3⟩=>⟨v',h1,Joins.ownsRow_le h2 hW.size,h3⟩
 have HCIh:=Hyd HCI;have HCEh:=Hyd HCE;clear HCI HCE
 go_enter Tryz.func37,Tryz.ntmps37
 go_wp2_with fail;rw[<-hwa];have y0:wa.cell? ⟨w.heap.size,0,none⟩=some (.slice ca r.counts.length cc):=(CeH XR.out 0).trans rfl;have y1:wa.cell? ⟨w.heap.size,1,none⟩=some (.slice ea r.evs.length ec):=(CeH XR.out 1).trans rfl;have y2:wa.cell? ⟨w.heap.size+1,0,none⟩=some (.int .i64 e.id):=(CeH XE.out 0).trans rfl;have y3:wa.cell? ⟨w.heap.size+1,1,none⟩=some (.int .i64 e.time):=(CeH XE.out 1).trans rfl;have y4:wa.cell? ⟨w.heap.size+1,2,none⟩=some (.int .u8 e.kind):=(CeH XE.out 2).trans rfl;have y5:wa.cell? ⟨w.heap.size+1,3,none⟩=some (.int .i64 e.val):=(CeH XE.out 3).trans rfl;obtain⟨i0,hi,hz0,hz1,hz2⟩:=info_parts infoR2;have HW:=Hyd hw;clear y0 y1 y2 y3 y4 y5
 refine Reg.facts_order (W:=wa) (h:=11) (t:=1)
  [⟨0,8,[],99,[],none,fun v _=>v=.pointer (some ⟨w.heap.size,0,none⟩)⟩,
   ⟨1,9,[],99,[],none,fun v _=>v=.slice ca r.counts.length cc⟩,
   ⟨2,10,[3],99,[],none,fun v w'=>w'.ownsRow wa.heap.size 3 1 v r.counts.length (cntV r.counts)⟩,
   ⟨3,11,[],99,[],none,fun v _=>v=.pointer (some ⟨w.heap.size,1,none⟩)⟩,
   ⟨4,12,[],99,[],none,fun v _=>v=.slice ea r.evs.length ec⟩,
   ⟨5,13,[44],8,[],none,fun v w'=>w'.ownsRow wa.heap.size 44 4 v r.evs.length (cellsOf encE r.evs)⟩,
   ⟨6,14,[],99,[],none,fun v _=>v=evV e⟩,
   ⟨7,15,[44],8,[],none,fun v w'=>∃ g,v=.slice (some ⟨g,0,none⟩) 1 1/\w'.heap[g]? = some (.cells (encE e).toArray 44 (0,0))⟩,
   ⟨8,16,[44],99,[],some 44,fun v w'=>w'.ownsRow wa.heap.size 44 4 v (r.evs.length+1) (cellsOf encE r.evs++encE e)⟩,
   ⟨9,17,[3,44],99,[2,8],none,fun v w'=>∃ v1 v2,v=.agg #[v1,v2,.bool false]/\w'.ownsRow wa.heap.size 3 1 v1 r.counts.length (cntV r.counts)/\w'.ownsRow wa.heap.size 44 4 v2 (r.evs.length+1) (cellsOf encE r.evs++encE e)⟩,
   ⟨10,7,[47],99,[],none,fun v w'=>∃ g,v=.pointer (some ⟨g,0,none⟩)/\wa.heap.size<=g/\w'.heap[g]? = some (.cells #[.slice none 0 0,.slice none 0 0,.bool false] 47 (0,0))⟩]
  (by kernel_rfl) rfl (by kernel_rfl) (by kernel_rfl) (by kernel_rfl) (show [0,1,2,3,4,5,6,7,8,9,10].Nodup by decide) (show ∀ i,i<11->i∈[0,1,2,3,4,5,6,7,8,9,10] by decide) ?_ (show [8,9,10,11,12,13,14,15,16,17,7].Nodup by decide) (show ∀ s∈[8,9,10,11,12,13,14,15,16,17,7],s<36 by decide) (by kernel_rfl) ?_ (Below.refl _ _) ?_ ?_
 ·intro f hf
  simp only[List.mem_cons,List.not_mem_nil,or_false]at hf
  rcases hf with rfl|rfl|rfl|rfl|rfl|rfl|rfl|rfl|rfl|rfl|rfl<;>simp
 ·intro f hf v w1 w2 hk hF
  simp only[List.mem_cons,List.not_mem_nil,or_false]at hf
  rcases hf with rfl|rfl|rfl|rfl|rfl|rfl|rfl|rfl|rfl|rfl|rfl
  ·exact hF
  ·exact hF
  ·exact(hk 3 (by simp)).1 _ _ _ _ _ hF
  ·exact hF
  ·exact hF
  ·exact(hk 44 (by simp)).1 _ _ _ _ _ hF
  ·exact hF
  ·obtain⟨g,e1,h⟩:=hF;exact⟨g,e1,(hk 44 (by simp)).2 _ _ h⟩
  ·exact(hk 44 (by simp)).1 _ _ _ _ _ hF
  ·obtain⟨v1,v2,e1,h1,h2⟩:=hF;exact⟨v1,v2,e1,(hk 3 (by simp)).1 _ _ _ _ _ h1,(hk 44 (by simp)).1 _ _ _ _ _ h2⟩
  ·obtain⟨g,e1,h1,h⟩:=hF;exact⟨g,e1,h1,(hk 47 (by simp)).2 _ _ h⟩
 ·intro f hf a w1 hs hg'
  have hlw:w.heap.size<wa.heap.size:=by omega
  have hlw1:w.heap.size+1<wa.heap.size:=by omega
  have hxr:w1.heap[w.heap.size]? = _:=(hs.below.block _ hlw).trans XR.out;have hxe:w1.heap[w.heap.size+1]? = _:=(hs.below.block _ hlw1).trans XE.out;have t3:a.eval (.tmp 3)=.pointer (some ⟨w.heap.size,0,none⟩):=Reg.eval_tmp ((hs.out 3 (show 3∉[8,9,10,11,12,13,14,15,16,17,7] by decide)).trans rfl);have t5:a.eval (.tmp 5)=.pointer (some ⟨w.heap.size+1,0,none⟩):=Reg.eval_tmp ((hs.out 5 (show 5∉[8,9,10,11,12,13,14,15,16,17,7] by decide)).trans rfl)
  simp only[List.mem_cons,List.not_mem_nil,or_false]at hf
  rcases hf with rfl|rfl|rfl|rfl|rfl|rfl|rfl|rfl|rfl|rfl|rfl
  ·exact Reg.step_val rfl rfl rfl (Ord.run_fld t3 (fld_run0 w1 _)) rfl hs.below (fun e=>Reg.Keeps.refl e _)
  ·obtain⟨v,hv,rfl⟩:∃ v,a.tmps[8]? = some v/\v=.pointer (some ⟨w.heap.size,0,none⟩):=hg' _ (Reg.at_fact 0 rfl) (by kernel_rfl) (.inr (show(11+1:Nat)<=99 by decide))
   exact Reg.step_val rfl rfl rfl (Reg.run_load (Reg.eval_tmp hv) (load_ints ((CeH hxr 0).trans rfl))) rfl hs.below (fun e=>Reg.Keeps.refl e _)
  ·obtain⟨v,hv,rfl⟩:∃ v,a.tmps[9]? = some v/\v=.slice ca r.counts.length cc:=hg' _ (Reg.at_fact 1 rfl) (by kernel_rfl) (.inr (show(11+1:Nat)<=99 by decide))
   exact Reg.step_call rfl rfl rfl (run_enter1 (Reg.eval_tmp hv) (by go_simp)) hs.below (HCIh.out w1 hs.below)
  ·exact Reg.step_val rfl rfl rfl (Ord.run_fld t3 (fld_run1 w1 _)) rfl hs.below (fun e=>Reg.Keeps.refl e _)
  ·obtain⟨v,hv,rfl⟩:∃ v,a.tmps[11]? = some v/\v=.pointer (some ⟨w.heap.size,1,none⟩):=hg' _ (Reg.at_fact 3 rfl) (by kernel_rfl) (.inr (show(11+1:Nat)<=99 by decide))
   exact Reg.step_val rfl rfl rfl (Reg.run_load (Reg.eval_tmp hv) (load_evs ((CeH hxr 1).trans rfl))) rfl hs.below (fun e=>Reg.Keeps.refl e _)
  ·obtain⟨v,hv,rfl⟩:∃ v,a.tmps[12]? = some v/\v=.slice ea r.evs.length ec:=hg' _ (Reg.at_fact 4 rfl) (by kernel_rfl) (.inr (show(11+1:Nat)<=99 by decide))
   exact Reg.step_call rfl rfl rfl (run_enter1 (Reg.eval_tmp hv) (by go_simp)) hs.below (HCEh.out w1 hs.below)
  ·exact Reg.step_val rfl rfl rfl (Reg.run_load t5 (load_ev hxe)) rfl hs.below (fun e=>Reg.Keeps.refl e _)
  ·obtain⟨v,hv,rfl⟩:∃ v,a.tmps[14]? = some v/\v=evV e:=hg' _ (Reg.at_fact 6 rfl) (by kernel_rfl) (.inr (show(11+1:Nat)<=99 by decide))
   exact Reg.step_val rfl rfl rfl (Reg.run_build (Reg.eval_tmp hv) (build_ev w1 e)) ⟨_,rfl,heap_new rfl⟩ (below_alloc0 hs.below) (fun e=>Reg.Keeps.alloc e _ _)
  ·obtain⟨v1,hv1,hown⟩:∃ v,a.tmps[13]? = some v/\w1.ownsRow wa.heap.size 44 4 v r.evs.length (cellsOf encE r.evs):=hg' _ (Reg.at_fact 5 rfl) (by kernel_rfl) (.inl rfl)
   obtain⟨v2,hv2,g,rfl,hh⟩:∃ v,a.tmps[15]? = some v/\∃ g,v=.slice (some ⟨g,0,none⟩) 1 1/\w1.heap[g]? = some (.cells (encE e).toArray 44 (0,0)):=hg' _ (Reg.at_fact 7 rfl) (by kernel_rfl) (.inl rfl)
   exact Reg.step_append rfl rfl rfl rfl hs.below Tryz.underlying32 hi hz0 hz1 hz2 rfl (by decide) hv1 hown hv2 (by rw[encE_len]) (fun j u hu=>World.news_of_block hh j u (by simpa using hu)) (encE_one e) (by decide) (by have:=HW.out.few;unfold maxLen;omega) (by have:=HW.out.few;omega) (fun v' w' h=>h)
  ·obtain⟨v1,hv1,h1⟩:∃ v,a.tmps[10]? = some v/\w1.ownsRow wa.heap.size 3 1 v r.counts.length (cntV r.counts):=hg' _ (Reg.at_fact 2 rfl) (by kernel_rfl) (.inr (show(11+1:Nat)<=99 by decide))
   obtain⟨v2,hv2,h2⟩:∃ v,a.tmps[16]? = some v/\w1.ownsRow wa.heap.size 44 4 v (r.evs.length+1) (cellsOf encE r.evs++encE e):=hg' _ (Reg.at_fact 8 rfl) (by kernel_rfl) (.inr (show(11+1:Nat)<=99 by decide))
   have u1:=Reg.eval_tmp hv1;have u2:=Reg.eval_tmp hv2;obtain⟨A1,c1,rfl⟩:=Sl.shape (Sl.of_own h1);obtain⟨A2,c2,rfl⟩:=Sl.shape (Sl.of_own h2);exact Reg.step_val rfl rfl rfl (by go_simp) ⟨_,_,rfl,h1,h2⟩ hs.below (fun e=>Reg.Keeps.refl e _)
  ·exact Reg.step_val rfl rfl rfl (by go_simp) ⟨_,rfl,hs.below.size,heap_new rfl⟩ (below_alloc0 hs.below) (fun e=>Reg.Keeps.alloc e _ _)
 ·intro vals w1 hF hb1;obtain⟨v1,v2,e17,o1,o2⟩:=hF _ (Reg.at_fact 9 rfl) (show(11+1:Nat)<=99 by decide);obtain⟨g,e7,hgl,hgh⟩:=hF _ (Reg.at_fact 10 rfl) (show(11+1:Nat)<=99 by decide)
  simp only at e17 e7
  obtain⟨A1,c1,rfl⟩:=Sl.shape (Sl.of_own o1);obtain⟨A2,c2,rfl⟩:=Sl.shape (Sl.of_own o2);have HO1:=Hyd o1;have HO2:=Hyd o2;have HB1:=Hyd hb1
  simp only[List.map_cons,List.map_nil,e17,e7]
  generalize vals 8=q8;generalize vals 9=q9;generalize vals 10=q10;generalize vals 11=q11;generalize vals 12=q12;generalize vals 13=q13;generalize vals 14=q14;generalize vals 15=q15;generalize vals 16=q16;have g0:w1.cell? ⟨g,0,none⟩=some (.slice none 0 0):=(CeH hgh 0).trans rfl;have HGH:=Hyd hgh;clear hF o1 o2 hb1 e17 e7 hgh XR XE HCIh HCEh;(iterate 12 unfold Reg.puts);have g1:w1.cell? ⟨g,1,none⟩=some (.slice none 0 0):=(CeH HGH.out 1).trans rfl;have g2:w1.cell? ⟨g,2,none⟩=some (.bool false):=(CeH HGH.out 2).trans rfl;have f0:w1.frozen? ⟨g,0,none⟩=false:=frozen_of_row w1 g 0 _ _ HGH.out;have f1:w1.frozen? ⟨g,1,none⟩=false:=frozen_of_row w1 g 1 _ _ HGH.out;have f2:w1.frozen? ⟨g,2,none⟩=false:=frozen_of_row w1 g 2 _ _ HGH.out
  go_upto_region 2 with (fail)
  obtain⟨w2,hw2⟩:∃ w2,w2=((w1.setCell ⟨g,0,none⟩ (.slice A1 r.counts.length c1)).setCell ⟨g,1,none⟩ (.slice A2 (r.evs.length+1) c2)).setCell ⟨g,2,none⟩ (.bool false):=⟨_,rfl⟩
  rw[<-hw2];have k1:=heap_setCell_same w1 g 0 _ _ (.slice A1 r.counts.length c1) HGH.out;have k2:=heap_setCell_same _ g 1 _ _ (.slice A2 (r.evs.length+1) c2) k1;have H2:=Hyd (show w2.heap[g]? = some (.cells #[.slice A1 r.counts.length c1,.slice A2 (r.evs.length+1) c2,.bool false] 47 (0,0)) by rw[hw2];exact heap_setCell_same _ g 2 _ _ (.bool false) k2);have P1:=Hyd (show w2.ownsRow wa.heap.size 3 1 (.slice A1 r.counts.length c1) r.counts.length (cntV r.counts) by rw[hw2];exact own_set (own_set (own_set HO1.out HGH.out (by decide) _ _) k1 (by decide) _ _) k2 (by decide) _ _);have P2:=Hyd (show w2.ownsRow wa.heap.size 44 4 (.slice A2 (r.evs.length+1) c2) (r.evs.length+1) (cellsOf encE r.evs++encE e) by rw[hw2];exact own_set (own_set (own_set HO2.out HGH.out (by decide) _ _) k1 (by decide) _ _) k2 (by decide) _ _)
  have B2:=Hyd (show Below wa.heap.size wa w2 by rw[hw2];exact((HB1.out.setCell hgl _).setCell hgl _).setCell hgl _);clear hw2 k1 k2 g0 g1 g2 f0 f1 f2 HGH HO1 HO2 HB1;have z0:w2.cell? ⟨g,0,none⟩=some (.slice A1 r.counts.length c1):=(CeH H2.out 0).trans rfl;have zf:w2.frozen? ⟨g,0,none⟩=false:=frozen_of_row w2 g 0 _ _ H2.out;obtain⟨j0,hj,hy0,hy1,hy2⟩:=info_parts infoR1
  go_upto_if 22 with (fail)
  go_cut [7] (fun s7 wx=>s7=.pointer (some ⟨g,0,none⟩)/\∃ q n' cq,Mid wa step (r.evs.length+1) (cellsOf encE r.evs++encE e) (if step=r.counts.length then r.counts++[0] else r.counts) g q n' cq A2 c2 wx)
  case first =>
   by_cases heq:step=r.counts.length
   ·have hqb:((step:Int)==(r.counts.length:Int))=true:=by rw[heq];exact beq_self_eq_true _
    have hfw:=HW.out.steps;have HEQ:=Hyd heq;clear heq
    go_wp2_with (at_builtin;refine wpList_append_lies _ rfl (.tmp 24) (.tmp 25) 45 rfl wa.heap.size 3 j0 _ 1 8 Tryz.underlying45 hj hy0 hy1 hy2 rfl (by decide) _ _ _ rfl (P1.out.alloc _) ⟨w2.heap.size,0,none⟩ 1 1 [.int .i64 0] rfl rfl ?c1 ?c2 (by decide) ?c3 ?c4 ?c5 _ rfl ?_)
    case c1=>exact World.news_of_block (cs:=#[.int .i64 0]) (heap_new rfl)
    case c2=>intro u hu;simp only[List.mem_cons,List.not_mem_nil,or_false]at hu;subst hu;rfl
    case c3=>unfold maxLen;omega
    case c4=>omega
    case c5=>exact Nat.le_trans B2.out.size (by simp)
    intro q cq w3 ho3 hgr3 hat3 hlt3
    have e3:w.heap.size+1+1+1=wa.heap.size:=by omega
    rw[e3]at ho3;have G3:=Hyd (show w3.heap[g]? = some (.cells #[.slice A1 r.counts.length c1,.slice A2 (r.evs.length+1) c2,.bool false] 47 (0,0)) from heap_kept (heap_alloc H2.out) (P1.out.alloc _) (by decide) hgr3);have E3:=Hyd (own_kept2 (P2.out.alloc _) (P1.out.alloc _) (by decide) hgr3);have B3:=Hyd (below_grown0 (below_alloc0 B2.out) (P1.out.alloc _) hgr3);have O3:=Hyd ho3;have z3:w3.cell? ⟨g,0,none⟩=some (.slice A1 r.counts.length c1):=(CeH G3.out 0).trans rfl;have z3f:w3.frozen? ⟨g,0,none⟩=false:=frozen_of_row w3 g 0 _ _ G3.out;clear ho3 hgr3 hat3;go_wp2_with fail;go_meet;refine⟨rfl,q,r.counts.length+1,cq, ?_⟩;rw[if_pos HEQ.out];have k3:=heap_setCell_same w3 g 0 _ _ (.slice (some ⟨q,0,none⟩) (r.counts.length+1) cq) G3.out;refine⟨k3, ?_,own_set E3.out G3.out (by decide) _ _,B3.out.setCell hgl _,by simp,by have:=HEQ.out;omega,hgl⟩
    have h:=own_set O3.out G3.out (by decide) 0 (.slice (some ⟨q,0,none⟩) (r.counts.length+1) cq);rw[show cntV (r.counts++[0])=cntV r.counts++[.int .i64 0] by simp[cntV]];exact h
   ·have hqb:((step:Int)==(r.counts.length:Int))=false:=by rw[beq_eq_false_iff_ne];omega
    obtain⟨q,cq,e1,_,_⟩:=P1.out.form (by omega)
    injection e1 with e1 _ e2
    subst e1 e2;go_wp2_with fail;go_meet;refine⟨rfl,q,r.counts.length,c1, ?_⟩;rw[if_neg heq];exact⟨H2.out,P1.out,P2.out,B2.out,rfl,by omega,hgl⟩
  case rest =>
   obtain⟨rfl,q,n',cq,hmid⟩:=hcut
   obtain⟨C,hC⟩:∃ C,(if step=r.counts.length then r.counts++[0] else r.counts)=C:=⟨_,rfl⟩
   rw[hC]at hmid;have HC:=Hyd hC;have HM:=Hyd hmid;clear hmid hC H2 P1 P2 B2 z0 zf;have hqw:=(HM.out.own1.lt q rfl);have hqb:=hqw.1;have hlt:=HM.out.lt
   have hlti:(step:Int)<(n':Int):=by omega
   have h0i:(0:Int)<=(step:Int):=by omega
   have hlen:=HM.out.len
   have hqg:q≠g:=by
    intro e
    rcases HM.out.own1.2 with ⟨h,_⟩ | ⟨g',cap,cur,h1,_,hh,_⟩
    ·cases h
    ·injection h1 with h1
     injection h1 with h1
     injection h1 with h1
     rw[<-h1,e,HM.out.blk]at hh
     injection hh with hh
     injection hh with _ h
     exact absurd h (by decide)
   have hcs:C[step]? = some (C.getD step 0):=by
    rw[List.getD_eq_getElem?_getD,List.getElem?_eq_getElem (by omega)];rfl
   have x1:wc.cell? ⟨q,step,none⟩=some (.int .i64 ((C.getD step 0:Nat):Int)):=by
    rw[HM.out.own1.cellAt step (by omega)];unfold cntV;rw[List.getElem?_map,hcs];rfl
   have x1f:=HM.out.own1.frozenAt step;have x0:wc.cell? ⟨g,0,none⟩=some (.slice (some ⟨q,0,none⟩) n' cq):=(CeH HM.out.blk 0).trans rfl
   obtain⟨v,hv⟩:∃ v,C.getD step 0=v:=⟨_,rfl⟩
   rw[hv]at x1;have HV:=Hyd hv
   have hvs:v<=1000000:=by
    rw[<-hv];refine Nat.le_trans (getD_le_sum C step) ?_;have h1:=HW.out.sum;have h2:=HW.out.few;rw[<-HC.out]
    split
    ·rw[List.sum_append];simp;omega
    ·omega
   clear hv hcs hlen
   go_upto_region 5 with (fail)
   obtain⟨w5,hw5⟩:∃ w5,w5=wc.setCell ⟨q,step,none⟩ (.int .i64 ((v:Int)+1)):=⟨_,rfl⟩
   rw[<-hw5];have hst5:=HM.out.own1.stored step (.int .i64 ((v:Int)+1));rw[<-hw5]at hst5;have Q5:=Hyd (show w5.heap[g]? = some (.cells #[.slice (some ⟨q,0,none⟩) n' cq,.slice A2 (r.evs.length+1) c2,.bool false] 47 (0,0)) by rw[hw5,heap_setCell_other _ _ _ _ (Ne.symm hqg)];exact HM.out.blk);have O5:=Hyd hst5.1;have E5:=Hyd (own_kept2 HM.out.own2 HM.out.own1 (by decide) hst5.2);have B5:=Hyd (show Below wa.heap.size wa w5 by rw[hw5];exact HM.out.bel.setCell hqb _)
   have hz2:w.heap.size+2<wa.heap.size:=by omega
   have Z5:=Hyd ((B5.out.block _ hz2).trans XZ.out);have a0:w5.cell? ⟨g,0,none⟩=some (.slice (some ⟨q,0,none⟩) n' cq):=(CeH Q5.out 0).trans rfl;have a1:w5.cell? ⟨g,1,none⟩=some (.slice A2 (r.evs.length+1) c2):=(CeH Q5.out 1).trans rfl;have a2:w5.cell? ⟨g,2,none⟩=some (.bool false):=(CeH Q5.out 2).trans rfl;have b0:w5.cell? ⟨w.heap.size+2,0,none⟩=some (.slice none 0 0):=(CeH Z5.out 0).trans rfl;have b1:w5.cell? ⟨w.heap.size+2,1,none⟩=some (.slice none 0 0):=(CeH Z5.out 1).trans rfl;have b2:w5.cell? ⟨w.heap.size+2,2,none⟩=some (.bool false):=(CeH Z5.out 2).trans rfl;have c0:=frozen_of_row w5 _ 0 _ _ Z5.out;have c1':=frozen_of_row w5 _ 1 _ _ Z5.out;have c2':=frozen_of_row w5 _ 2 _ _ Z5.out;clear hw5 hst5 x0 x1 x1f hqg hz2
   go_wp2_with fail;have s1:=heap_setCell_same w5 _ 0 _ _ (.slice (some ⟨q,0,none⟩) n' cq) Z5.out;have s2:=heap_setCell_same _ _ 1 _ _ (.slice A2 (r.evs.length+1) c2) s1;have s3:=heap_setCell_same _ _ 2 _ _ (.bool false) s2
   have hzz:w.heap.size<=w.heap.size+2:=by omega
   have hbz:=((hg.below.trans (B5.out.mono hg.size)).mono (Nat.le_refl _));refine bodyPost_ret (res_with rfl ((CeH s3 0).trans rfl) ((CeH s3 1).trans rfl) ((CeH s3 2).trans rfl)) rfl ⟨_,rfl, ?_,((hbz.setCell (p:=⟨w.heap.size+2,0,none⟩) hzz _).setCell (p:=⟨w.heap.size+2,1,none⟩) hzz _).setCell (p:=⟨w.heap.size+2,2,none⟩) hzz _⟩
   have hR:withR r step e=⟨C.set step (v+1),r.evs++[e],false⟩:=by
    show RRun.mk _ _ _=_
    rw[HC.out,HV.out]
   rw[hR]
   have hn:(C.set step (v+1)).length=n':=by rw[List.length_set];exact HM.out.len
   have hcv:cntV (C.set step (v+1))=(cntV C).set step (.int .i64 ((v:Int)+1)):=by
    unfold cntV;rw[List.map_set];rfl
   have hev:cellsOf encE (r.evs++[e])=cellsOf encE r.evs++encE e:=cellsOf_snoc _ _;refine⟨_,_,rfl, ?_, ?_⟩
   ·show World.ownsRow _ _ _ _ _ (C.set step (v+1)).length (cntV (C.set step (v+1)))
    rw[hn,hcv];exact Joins.ownsRow_le (own_set (own_set (own_set O5.out Z5.out (by decide) _ _) s1 (by decide) _ _) s2 (by decide) _ _) hg.size
   ·show World.ownsRow _ _ _ _ _ (r.evs++[e]).length (cellsOf encE (r.evs++[e]))
    rw[hev,List.length_append];exact Joins.ownsRow_le (own_set (own_set (own_set E5.out Z5.out (by decide) _ _) s1 (by decide) _ _) s2 (by decide) _ _) hg.size
end Go.Proofs.YtcojnojdgigmdaaGreatDoor.WR
/- The library's functions that a run's text calls: strings.Join, strconv.FormatInt: their contracts, laid (XWShLib, less one). -/
namespace Go.Proofs
open Go.Shelf
def Tryz.lays156_ren : Go.Shelf.Ren:=⟨fun|156=>54 |165=>89 |166=>85 |169=>87 |240=>104 |241=>109 |276=>120 |277=>126 |n=>n, fun|31=>37 |72=>173 |76=>176 |70=>170 |37=>171 |75=>175 |127=>210 |164=>226 |80=>178 |n=>n, fun|n=>n⟩
theorem Tryz.lays156:Go.Proofs.Lays.n156 Tryz.prog Tryz.lays156_ren:={
 mixed:=by kernel_rfl
 f156:=func54.trans (congrArg some (by kernel_rfl))
 f165:=func89.trans (congrArg some (by kernel_rfl))
 f166:=func85.trans (congrArg some (by kernel_rfl))
 f169:=func87.trans (congrArg some (by kernel_rfl))
 f240:=func104.trans (congrArg some (by kernel_rfl))
 f241:=func109.trans (congrArg some (by kernel_rfl))
 f276:=func120.trans (congrArg some (by kernel_rfl))
 f277:=func126.trans (congrArg some (by kernel_rfl))
 t0:=underlying0
 a0:=isAgg0
 z0:=sizeOf0
 v0:=zeroValue0
 t3:=underlying3
 a3:=isAgg3
 z3:=sizeOf3
 v3:=zeroValue3
 t4:=underlying4
 a4:=isAgg4
 z4:=sizeOf4
 v4:=zeroValue4
 t9:=underlying9
 a9:=isAgg9
 z9:=sizeOf9
 v9:=zeroValue9
 t20:=underlying20
 a20:=isAgg20
 z20:=sizeOf20
 v20:=zeroValue20
 t31:=underlying37
 a31:=isAgg37
 z31:=sizeOf37
 v31:=zeroValue37
 t37:=underlying171
 a37:=isAgg171
 z37:=sizeOf171
 v37:=zeroValue171
 t70:=underlying170
 a70:=isAgg170
 z70:=sizeOf170
 v70:=zeroValue170
 t72:=underlying173
 a72:=isAgg173
 z72:=sizeOf173
 v72:=zeroValue173
 t75:=underlying175
 a75:=isAgg175
 z75:=sizeOf175
 v75:=zeroValue175
 t76:=underlying176
 a76:=isAgg176
 z76:=sizeOf176
 v76:=zeroValue176
 t127:=underlying210
 a127:=isAgg210
 z127:=sizeOf210
 v127:=zeroValue210
 t164:=underlying226
 a164:=isAgg226
 z164:=sizeOf226
 v164:=zeroValue226 }
theorem Tryz.extra156:Builder.Extra Tryz.prog Tryz.lays156_ren := {
 sizeBuilder:=by kernel_rfl
 liesBuilder:=by kernel_rfl
 t5:=Tryz.underlying5
 a5:=Tryz.isAgg5
 z5:=Tryz.sizeOf5
 v5:=Tryz.zeroValue5
 infoByte:=by kernel_rfl
 cellsByte:=by kernel_rfl
 sizeByte:=by kernel_rfl
 neB5:=by decide }
def Tryz.lays173_ren : Go.Shelf.Ren:=⟨fun|173=>53 |246=>88 |283=>105 |284=>106 |285=>107 |286=>108 |129=>122 |317=>121 |318=>123 |319=>124 |320=>125 |337=>132 |338=>133 |n=>n, fun|171=>212 |53=>206 |37=>171 |173=>215 |212=>230 |51=>231 |213=>232 |46=>208 |232=>241 |233=>242 |n=>n, fun|17=>0 |18=>2 |19=>3 |n=>n⟩
theorem Tryz.lays173:Go.Proofs.LaysM.n173 Tryz.prog Tryz.lays173_ren:={
 mixed:=by kernel_rfl
 f129:=func122.trans (congrArg some (by kernel_rfl))
 f173:=func53.trans (congrArg some (by kernel_rfl))
 f246:=func88.trans (congrArg some (by kernel_rfl))
 f283:=func105.trans (congrArg some (by kernel_rfl))
 f284:=func106.trans (congrArg some (by kernel_rfl))
 f285:=func107.trans (congrArg some (by kernel_rfl))
 f286:=func108.trans (congrArg some (by kernel_rfl))
 f317:=func121.trans (congrArg some (by kernel_rfl))
 f318:=func123.trans (congrArg some (by kernel_rfl))
 f319:=func124.trans (congrArg some (by kernel_rfl))
 f320:=func125.trans (congrArg some (by kernel_rfl))
 f337:=func132.trans (congrArg some (by kernel_rfl))
 f338:=func133.trans (congrArg some (by kernel_rfl))
 t0:=underlying0
 a0:=isAgg0
 z0:=sizeOf0
 v0:=zeroValue0
 t2:=underlying2
 a2:=isAgg2
 z2:=sizeOf2
 v2:=zeroValue2
 t3:=underlying3
 a3:=isAgg3
 z3:=sizeOf3
 v3:=zeroValue3
 t4:=underlying4
 a4:=isAgg4
 z4:=sizeOf4
 v4:=zeroValue4
 t5:=underlying5
 a5:=isAgg5
 z5:=sizeOf5
 v5:=zeroValue5
 t9:=underlying9
 a9:=isAgg9
 z9:=sizeOf9
 v9:=zeroValue9
 t20:=underlying20
 a20:=isAgg20
 z20:=sizeOf20
 v20:=zeroValue20
 t37:=underlying171
 a37:=isAgg171
 z37:=sizeOf171
 v37:=zeroValue171
 t46:=underlying208
 a46:=isAgg208
 z46:=sizeOf208
 v46:=zeroValue208
 t51:=underlying231
 a51:=isAgg231
 z51:=sizeOf231
 v51:=zeroValue231
 t53:=underlying206
 a53:=isAgg206
 z53:=sizeOf206
 v53:=zeroValue206
 t171:=underlying212
 a171:=isAgg212
 z171:=sizeOf212
 v171:=zeroValue212
 t173:=underlying215
 a173:=isAgg215
 z173:=sizeOf215
 v173:=zeroValue215
 t212:=underlying230
 a212:=isAgg230
 z212:=sizeOf230
 v212:=zeroValue230
 t213:=underlying232
 a213:=isAgg232
 z213:=sizeOf232
 t232:=underlying241
 a232:=isAgg241
 z232:=sizeOf241
 v232:=zeroValue241
 t233:=underlying242
 a233:=isAgg242
 z233:=sizeOf242
 v233:=zeroValue242
 g17:=by kernel_rfl
 g18:=by kernel_rfl
 g19:=by kernel_rfl
 i0:=by kernel_rfl
 i2:=by kernel_rfl
 i3:=by kernel_rfl
 i4:=by kernel_rfl
 i5:=by kernel_rfl
 i9:=by kernel_rfl
 i20:=by kernel_rfl
 i37:=by kernel_rfl
 i46:=by kernel_rfl
 i51:=by kernel_rfl
 i53:=by kernel_rfl
 i171:=by kernel_rfl
 i173:=by kernel_rfl
 i212:=by kernel_rfl
 i232:=by kernel_rfl
 i233:=by kernel_rfl
 m17:=by kernel_rfl
 m18:=by kernel_rfl
 m19:=by kernel_rfl }
end Go.Proofs
namespace Go.Proofs.YtcojnojdgigmdaaGreatDoor.WS
open Go Go.RowKit Go.Sort Mem
abbrev Tab (w : World) : Prop := Lib.TabIs Tryz.prog w "internal/strconv.uint64pow10" .u64 Lib.pow10Tab
theorem format_any (n:Int) (h0:-9223372036854775808<=n) (h1:n<=9223372036854775807) (w:World) (ht:Tab w) :
  Calls Tryz.prog 53 #[.int .i64 n,.int .i64 10] w fun e w'=>e=.returned (.string ⟨(Lib.itoa n).toArray⟩)/\Grw w w' :=
 (Any.strconv_FormatInt_10 Tryz.lays173 n h0 h1 w ht).mono fun _ _ ⟨h,k,os,hw⟩=>⟨h,k,os,hw⟩
theorem Tab.below {w w':World} {B:Nat} (h:Tab w) (hb:Below B w w') (hB:0 < B):Tab w':=by
 have hg : Tryz.prog.globalNamed "internal/strconv.uint64pow10" = some 0 := by kernel_rfl
 unfold Tab Lib.TabIs World.var? at *
 simp only[hg,Option.bind_some]at h ⊢
 rw[hb.block _ hB];exact h
theorem Tab.grw {w w':World} (h:Tab w) (hg:Grw w w'):Tab w':=Lib.tabBelow_of_tabIs h w' hg.below
theorem join_any (v:Value) (xs:List (List UInt8)) (sep:ByteArray) (w:World) (hv:Sl w w.heap.size 1 v xs.length (xs.map fun x=>.string ⟨x.toArray⟩)) (hn:xs.length<=140737488355328) (hl:(Lib.join xs sep.data.toList).length<=140737488355328) :
  Calls Tryz.prog 54 #[v,.string sep] w fun e w'=>e=.returned (.string ⟨(Lib.join xs sep.data.toList).toArray⟩)/\Below w.heap.size w w':=by
 obtain⟨h1,A,c,rfl,hc,hx⟩:=hv
 match xs,hx with
 | [],_=>exact(Any.strings_Join_none Tryz.lays156 Tryz.extra156 A c sep w).mono fun _ _ ⟨h,hw⟩=>⟨h,hw ▸ Below.refl _ _⟩
 | [x],hx =>
  obtain⟨b,o,rfl,hb,hcell⟩:=hx (by simp)
  refine(Any.strings_Join_one Tryz.lays156 Tryz.extra156 b o c ⟨x.toArray⟩ sep w (hcell 0 _ rfl)).mono fun _ _ ⟨h,hw⟩=>⟨?_,hw ▸ Below.refl _ _⟩
  rw[h,Lib.join_one]
 | x :: y :: t,hx =>
  obtain⟨b,o,rfl,hb,hcell⟩:=hx (by simp)
  have e:((x :: y :: t).map fun x=>(⟨x.toArray⟩:ByteArray)).map (·.data.toList)=x :: y :: t:=by
   rw[List.map_map];exact List.map_id' _
  have h:=Any.strings_Join_many Tryz.lays156 Tryz.extra156 b o c ((x :: y :: t).map fun x=>(⟨x.toArray⟩:ByteArray)) sep w (by
   intro j z hz;refine hcell j _ ?_;rw[List.getElem?_map]at hz ⊢
   cases hq:(x :: y :: t)[j]? with
   | none=>rw[hq]at hz;cases hz
   | some q=>rw[hq]at hz;injection hz with hz;subst hz;rfl) hb (by simp) (by simpa using hn) (by simpa using hc) (by rw[e];exact hl)
  rw[e,List.length_map]at h;exact h
theorem join_len {α:Type} (f:α->List UInt8) (sep:List UInt8) (m:Nat):∀ (l:List α),(∀ x∈l,(f x).length<=m)->(Lib.join (l.map f) sep).length<=l.length * (m+sep.length)
 | [],_=>by simp[Lib.join,List.intercalate]
 | [x],h=>by
  have:=h x (by simp)
  simp[Lib.join,List.intercalate];omega
 | x :: y :: t,h=>by
  have e1:Lib.join ((x :: y :: t).map f) sep=f x++sep++Lib.join ((y :: t).map f) sep:=by simp[Lib.join,List.intercalate]
  have h1:=h x (by simp)
  have h2:=join_len f sep m (y :: t) fun z hz=>h z (List.mem_cons_of_mem _ hz)
  rw[e1]
  simp only[List.length_append,List.length_cons]at h2 ⊢
  rw[Nat.add_mul (t.length+1) 1,Nat.one_mul]
  omega
/-! ### Decimals as the document reckons them -/
abbrev strV (x:List UInt8):Value:=.string ⟨x.toArray⟩
theorem infoStr:(Tryz.prog.info? 9).map (fun i=>(i.zero,i.size,i.bytes))=some (some (.string ⟨#[]⟩),1,16):=by kernel_rfl
structure Sw (W w:World) (v:Value) (l:List (List UInt8)):Prop where
 bel:Below W.heap.size W w
 own:w.ownsRow W.heap.size 9 1 v l.length (l.map strV)
theorem Sw.push {W w w':World} {v v':Value} {l:List (List UInt8)} {x:List UInt8} (h:Sw W w v l) (hgr:w.grownBy w' v.ownBlock) (hown:w'.ownsRow W.heap.size 9 1 v' (l.length+1) (l.map strV++[strV x])):Sw W w' v' (l++[x]) :=
 ⟨below_grown h.bel h.own hgr h.bel.size (Nat.le_refl _),by rw[List.length_append,List.map_append];exact hown⟩
theorem Sw.alloc {W w:World} {v:Value} {l:List (List UInt8)} (h:Sw W w v l) (o:Obj):Sw W (w.alloc o) v l :=
 ⟨h.bel.alloc h.bel.size o,h.own.alloc _⟩
theorem Sw.below {W w w':World} {v:Value} {l:List (List UInt8)} (h:Sw W w v l) (hb:Below w.heap.size w w'):Sw W w' v l :=
 ⟨h.bel.trans (hb.mono h.bel.size),own_below h.own hb⟩
theorem Sw.sl {W w w':World} {v:Value} {l:List (List UInt8)} (h:Sw W w v l) (hb:Below w.heap.size w w'):Sl w' w'.heap.size 1 v l.length (l.map fun x=>.string ⟨x.toArray⟩) :=
 Sl.more (Sl.below (Sl.of_own h.own) hb) hb.size
theorem map_take2 {α:Type} (f:α->List UInt8) (l:List α) (k:Nat):((l.take k).map f).map strV=(l.map (strV ∘ f)).take k:=by rw[List.map_map,List.map_take]
end Go.Proofs.YtcojnojdgigmdaaGreatDoor.WS
/- The walk of run.Text: what a match is told as. -/
namespace Go.Proofs.YtcojnojdgigmdaaGreatDoor.WR
open Go Go.RowKit Go.Sort PL PR Mem WS
def idsOf (l:List Ev):List UInt8:=Lib.join (l.map fun e=>Lib.itoa e.id) [44]
def FitId (l:List Ev):Prop:=∀ y∈l,-9223372036854775808<=y.id/\y.id<=9223372036854775807
theorem idsOf_len {l:List Ev} (h:FitId l) (hn:l.length<=1000000):(idsOf l).length<=22000000:=by
 have:=join_len (fun e:Ev=>Lib.itoa e.id) [44] 21 l fun e he=>Lib.itoa_length_le e.id (h e he).1 (h e he).2
 unfold idsOf;have e1:([44]:List UInt8).length=1:=rfl;rw[e1]at this
 omega
theorem FitId.ofR {r:RRun} (h:FitId r.evs) (i:Nat):FitId (ofR r i):=fun y hy=>h y (ofR_sub y hy)
theorem textR_len {r:RRun} (h:FitId r.evs) (hw:WfR r):(textR r).length<=23000000000000:=by
 have:=join_len (fun i=>idsOf (ofR r i)) [124] 22000000 (List.range r.counts.length) fun i _=>idsOf_len (h.ofR i) (Nat.le_trans (ofR_len r i) hw.few)
 rw[List.length_range]at this;have e1:([124]:List UInt8).length=1:=rfl;rw[e1]at this;have h1:=hw.steps
 show(Lib.join ((List.range r.counts.length).map fun i=>idsOf (PR.ofR r i)) [124]).length<=_
 omega
theorem range_succ_take (n k:Nat) (h:k<n):(List.range n).take (k+1)=(List.range n).take k++[k]:=by
 rw[List.take_succ_eq_append_getElem (by simpa using h)];simp
theorem text_any (v:Value) (r:RRun) (B:Nat) (W:World) (hr:RunAt W B v r) (hBw:B<=W.heap.size) (hw:WfR r) (hf:FitId r.evs) (ht:Tab W) (hg:0 < W.heap.size) :
  Calls Tryz.prog 21 #[v] W fun e w'=>e=.returned (.string ⟨(textR r).toArray⟩)/\Below W.heap.size W w':=by
 obtain⟨i0,hi,hz0,hz1,hz2⟩:=info_parts infoStr;have HR:=Hyd hr;obtain⟨cv,ev,rfl,hc,he⟩:=hr;obtain⟨ca,cc,rfl⟩:=Sl.shape hc;obtain⟨ea,ec,rfl⟩:=Sl.shape he;have HT:=Hyd (fun(w:World) (hb:Below W.heap.size W w)=>ht.below hb hg);have HF:=Hyd hf;have HWF:=Hyd hw;have HTL:=Hyd (textR_len hf hw);have HTX:=Hyd (show textR r=Lib.join ((List.range r.counts.length).map fun i=>idsOf (ofR r i)) [124] from rfl)
 obtain⟨T,hT⟩:∃ T,textR r=T:=⟨_,rfl⟩
 rw[hT]at HTX HTL ⊢;have HX:=Hyd (show(W.alloc (.cells #[.slice ca r.counts.length cc,.slice ea r.evs.length ec,.bool r.blocked] 47)).heap[W.heap.size]? = _ from heap_new rfl);have HB0:=Hyd (show Below W.heap.size W (W.alloc (.cells #[.slice ca r.counts.length cc,.slice ea r.evs.length ec,.bool r.blocked] 47)) from(Below.refl _ _).alloc (Nat.le_refl _) _)
 obtain⟨wa,hwa⟩:∃ wa,wa=W.alloc (.cells #[.slice ca r.counts.length cc,.slice ea r.evs.length ec,.bool r.blocked] 47):=⟨_,rfl⟩
 have hza:W.heap.size<wa.heap.size:=by rw[hwa];simp
 rw[<-hwa]at HX HB0;have HWA:=Hyd hwa;have hst:=hw.steps;clear hwa hT hc he hf ht hw
 go_enter Tryz.func21,Tryz.ntmps21
 go_wp2_with fail;rw[<-HWA.out]
 go_loopw [3,11] (fun v u wr=>∃ (k:Nat) (vo:Value),k<=r.counts.length/\u=.int .i64 k/\vo=v/\Sw wa wr v (((List.range r.counts.length).take k).map fun i=>idsOf (ofR r i))) (fun _ u _=>r.counts.length-(intOf u).toNat)
 case atStart=>exact⟨0,_,by omega,rfl,rfl,Below.refl _ _,World.ownsRow_nil _ _ _ _⟩
 case round =>
  obtain⟨k,vo,hk,rfl,rfl,hsw⟩:=hrel;have HSW:=Hyd hsw;have hbel:=hsw.bel;have HBW:=Hyd (HB0.out.trans (hbel.mono HB0.out.size))
  have hlk:(((List.range r.counts.length).take k).map fun i=>idsOf (ofR r i)).length=k:=by rw[List.length_map,List.length_take,List.length_range];omega
  obtain⟨oa,oc,rfl⟩:∃ a c,vo=.slice a k c:=by
   have h:=(Sl.of_own hsw.own).shape
   rwa [hlk]at h
  have hsz:=hbel.size;have HLK:=Hyd hlk;clear hsw hlk
  by_cases hlt:k<r.counts.length
  ·have hlt':(k:Int)<(r.counts.length:Int):=by omega
   have hk0:(0:Int)<=(k:Int):=by omega
   have hxr:=(hbel.block _ hza).trans HX.out;have y0:wr.cell? ⟨W.heap.size,0,none⟩=some (.slice ca r.counts.length cc):=(CeH hxr 0).trans rfl;have y1:wr.cell? ⟨W.heap.size,1,none⟩=some (.slice ea r.evs.length ec):=(CeH hxr 1).trans rfl;have y2:wr.cell? ⟨W.heap.size,2,none⟩=some (.bool r.blocked):=(CeH hxr 2).trans rfl
   have HRW:RunAt wr B (.agg #[.slice ca r.counts.length cc,.slice ea r.evs.length ec,.bool r.blocked]) r:=by
    obtain⟨cv',ev',e1,h1,h2⟩:=HR.out;exact⟨cv',ev',e1,h1.keep fun p hp=>HBW.out.cell (Nat.lt_of_lt_of_le hp hBw),h2.keep fun p hp=>HBW.out.cell (Nat.lt_of_lt_of_le hp hBw)⟩
   have HOF:=Hyd (of_any _ r k B wr HRW (by omega) HWF.out (by omega));have HOFL:=Hyd (idsOf_len (HF.out.ofR k) (Nat.le_trans (ofR_len r k) HWF.out.few));have hol:=Nat.le_trans (ofR_len r k) HWF.out.few;have HFK:=Hyd (HF.out.ofR k);have HID:=Hyd (show idsOf (ofR r k)=Lib.join ((ofR r k).map fun e=>Lib.itoa e.id) [44] from rfl);have HRK:Hid (((List.range r.counts.length).take (k+1)).map (fun i=>idsOf (ofR r i))=(((List.range r.counts.length).take k).map fun i=>idsOf (ofR r i))++[idsOf (ofR r k)]):=Hyd (by rw[range_succ_take _ _ hlt,List.map_append];rfl)
   obtain⟨es,hes⟩:∃ es,ofR r k=es:=⟨_,rfl⟩
   rw[hes]at HOF HOFL HFK HID HRK hol;clear hes hbel hxr HRW;go_wp2_with fail;refine HOF.out.mono ?_;rintro e w1 ⟨ov,rfl,hg1,hev⟩;obtain⟨ova,ovc,rfl⟩:=Sl.shape hev;have HEV:=Hyd hev;have HSW1:=Hyd (HSW.out.below hg1.below);have HB1:=Hyd (HBW.out.trans (hg1.below.mono HBW.out.size));have hw1s:=hg1.below.size;clear hg1 hev HOF y0 y1 y2;go_wp2_with fail
   go_loopw [5,18] (fun v u wq=>∃ (j:Nat) (vo:Value),j<=es.length/\u=.int .i64 j/\vo=v/\Sw w1 wq v ((es.take j).map fun e=>Lib.itoa e.id)) (fun _ u _=>es.length-(intOf u).toNat)
   case atStart=>exact⟨0,_,by omega,rfl,rfl,Below.refl _ _,World.ownsRow_nil _ _ _ _⟩
   case round =>
    obtain⟨j,vo,hj,rfl,rfl,hsw⟩:=hrel;have HSW2:=Hyd hsw;have hbel:=hsw.bel;have HBW2:=Hyd (HB1.out.trans (hbel.mono HB1.out.size))
    have hlj:((es.take j).map fun e=>Lib.itoa e.id).length=j:=by rw[List.length_map,List.length_take];omega
    obtain⟨o2a,o2c,rfl⟩:∃ a c,vo=.slice a j c:=by
     have h:=(Sl.of_own hsw.own).shape
     rwa [hlj]at h
    have hsz2:=hbel.size;have HLJ:=Hyd hlj;clear hsw hlj
    by_cases hltj:j<es.length
    ·have hltj':(j:Int)<(es.length:Int):=by omega
     have hj0:(0:Int)<=(j:Int):=by omega
     obtain⟨b,o,c,hcv,hb,x0,x1,x2,x3⟩:=HEV.out.at_ hltj
     obtain⟨rfl,rfl⟩:ova=some ⟨b,o,none⟩/\ovc=c:=by simpa using hcv
     have HTK:=Hyd (List.take_succ_eq_append_getElem (l:=es) (i:=j) hltj);have hfit:=HFK.out es[j] (List.getElem_mem hltj);have hln:=Lib.itoa_length_le es[j].id hfit.1 hfit.2
     obtain⟨x,hx⟩:∃ x,es[j]=x:=⟨_,rfl⟩
     rw[hx]at x0 x1 x2 x3 HTK hfit hln;have hbl:=HBW2.out
     have hb1:b<w1.heap.size:=by omega
     have y0:=(hbel.cell (p:=⟨b,o+j * 4,none⟩) hb1).trans x0;have y1:=(hbel.cell (p:=⟨b,o+j * 4+1,none⟩) hb1).trans x1;have y2:=(hbel.cell (p:=⟨b,o+j * 4+2,none⟩) hb1).trans x2;have y3:=(hbel.cell (p:=⟨b,o+j * 4+3,none⟩) hb1).trans x3;have HA:=Hyd (HSW2.out.alloc (.cells #[.int .i64 x.id,.int .i64 x.time,.int .u8 x.kind,.int .i64 x.val] 44));have HSS:=Hyd (format_any x.id hfit.1 hfit.2 (wr.alloc (.cells #[.int .i64 x.id,.int .i64 x.time,.int .u8 x.kind,.int .i64 x.val] 44)) (HT.out _ (hbl.alloc hbl.size _)));clear x0 x1 x2 x3 hcv hx hbel hbl hfit;go_wp2_with fail;refine HSS.out.mono ?_;rintro e w2 ⟨rfl,hg2⟩;have H2W:=Hyd (HA.out.below hg2.below);have hs2:=H2W.out.bel.size;have hown:=H2W.out.own.alloc (.cells #[.string ⟨(Lib.itoa x.id).toArray⟩] 9)
     rw[HLJ.out]at hown;have HOW:=Hyd hown;clear hg2 hown y0 y1 y2 y3 HSS HA
     go_wp2_with (at_builtin;refine wpList_append_lies _ rfl (.tmp 22) (.tmp 26) 37 rfl w1.heap.size 9 i0 _ 1 16 Tryz.underlying37 hi hz0 hz1 hz2 rfl (by decide) _ _ _ rfl HOW.out ⟨w2.heap.size,0,none⟩ 1 1 [strV (Lib.itoa x.id)] rfl rfl ?c1 ?c2 (by decide) ?c3 ?c4 ?c5 _ rfl ?_)
     case c1 =>
      intro j u hu;exact new_cell w2 #[strV (Lib.itoa x.id)] 9 j u (by simpa using hu)
     case c2=>intro u hu;simp only[List.mem_cons,List.not_mem_nil,or_false]at hu;subst hu;rfl
     case c3=>unfold maxLen;omega
     case c4=>omega
     case c5=>simp;omega
     intro g cap w3 hown3 hgr3 _ _
     have HN:=Hyd (show Sw w1 w3 _ ((es.take (j+1)).map fun e=>Lib.itoa e.id) by
      rw[HTK.out,List.map_append]
      exact Sw.push (H2W.out.alloc _) hgr3 (by rw[HLJ.out,map_take2];exact hown3))
     clear hown3 hgr3 H2W HOW HSW2;go_wp2_with fail;go_roundw
     case rel=>exact⟨j+1,_,by omega,by go_num,rfl,HN.out⟩
     case measure=>simp[intOf];omega
    ·obtain rfl:j=es.length:=by omega
     have HSW2:=Hyd (show Sw w1 wr (.slice o2a es.length o2c) (es.map fun e=>Lib.itoa e.id) by have h:=HSW2.out;rwa [List.take_length]at h);have HS2:=HSW2.out.sl (Below.refl _ _);rw[List.length_map]at HS2;have hjl:=HOFL.out;rw[HID.out]at hjl;have HC1:=join_any (.slice o2a es.length o2c) (es.map fun e=>Lib.itoa e.id) ⟨#[44]⟩ wr (by rw[List.length_map];exact HS2) (by rw[List.length_map];omega) (by show(Lib.join (es.map fun e=>Lib.itoa e.id) [44]).length<=_;omega);have e1:Lib.join (es.map fun e=>Lib.itoa e.id) (⟨#[44]⟩:ByteArray).data.toList=idsOf es:=rfl;rw[e1]at HC1
     obtain⟨ja,hja⟩:∃ ja,idsOf es=ja:=⟨_,rfl⟩
     rw[hja]at HC1 HRK;have HC:=Hyd HC1;have HB2:=Hyd hbel;clear HC1 HS2 e1 hja hjl HID HOFL hbel;go_wp2_with fail;refine HC.out.mono ?_;rintro e w5 ⟨rfl,hb5⟩;have H5W:=Hyd ((HSW1.out.below HB2.out).below hb5);have hs5:=H5W.out.bel.size;have hown:=H5W.out.own.alloc (.cells #[.string ⟨ja.toArray⟩] 9);rw[HLK.out]at hown;have HOW:=Hyd hown;clear hb5 hown HC
     go_wp2_with (at_builtin;refine wpList_append_lies _ rfl (.tmp 29) (.tmp 32) 37 rfl wa.heap.size 9 i0 _ 1 16 Tryz.underlying37 hi hz0 hz1 hz2 rfl (by decide) _ _ _ rfl HOW.out ⟨w5.heap.size,0,none⟩ 1 1 [strV ja] rfl rfl ?d1 ?d2 (by decide) ?d3 ?d4 ?d5 _ rfl ?_)
     case d1 =>
      intro j u hu;exact new_cell w5 #[strV ja] 9 j u (by simpa using hu)
     case d2=>intro u hu;simp only[List.mem_cons,List.not_mem_nil,or_false]at hu;subst hu;rfl
     case d3=>unfold maxLen;omega
     case d4=>omega
     case d5=>simp;omega
     intro g cap w6 hown6 hgr6 _ _
     have HN:=Hyd (show Sw wa w6 _ (((List.range r.counts.length).take (k+1)).map fun i=>idsOf (ofR r i)) by
      rw[HRK.out]
      exact Sw.push (H5W.out.alloc _) hgr6 (by rw[HLK.out,List.map_map,List.take_range,Nat.min_eq_left (show k<=r.counts.length by omega)];exact hown6))
     clear hown6 hgr6 H5W HOW HSW HSW1 HSW2;go_wp2_with fail;go_roundw
     case rel=>exact⟨k+1,_,by omega,by go_num,rfl,HN.out⟩
     case measure=>simp[intOf];omega
  ·obtain rfl:k=r.counts.length:=by omega
   have HSW:=Hyd (show Sw wa wr (.slice oa r.counts.length oc) ((List.range r.counts.length).map fun i=>idsOf (ofR r i)) by have h:=HSW.out;rwa [List.take_of_length_le (by rw[List.length_range];exact Nat.le_refl _)]at h);have HS1:=HSW.out.sl (Below.refl _ _);rw[List.length_map,List.length_range]at HS1;have htl:=HTL.out
   have hmp:((List.range r.counts.length).map fun i=>idsOf (ofR r i)).length=r.counts.length:=by rw[List.length_map,List.length_range]
   have htx:T=Lib.join ((List.range r.counts.length).map fun i=>idsOf (ofR r i)) (⟨#[124]⟩:ByteArray).data.toList:=HTX.out;have HC1:=join_any (.slice oa r.counts.length oc) ((List.range r.counts.length).map fun i=>idsOf (ofR r i)) ⟨#[124]⟩ wr (by rw[hmp];exact HS1) (by rw[hmp];omega) (by rw[<-htx];omega);rw[<-htx]at HC1;have HC:=Hyd HC1;clear HC1 HS1 htx hmp hbel;go_wp2_with fail;refine HC.out.mono ?_;rintro e w5 ⟨rfl,hb5⟩;have HB5:=Hyd (HBW.out.trans (hb5.mono HBW.out.size));clear hb5;go_wp2_with fail;go_ret;exact⟨rfl,HB5.out⟩
end Go.Proofs.YtcojnojdgigmdaaGreatDoor.WR
/- The walk of (*run.Result).add: what a grown run comes to. -/
namespace Go.Proofs.YtcojnojdgigmdaaGreatDoor.WR
open Go Go.RowKit Go.Sort PL PR Mem WS
structure AddAt (Bw X:Nat) (k bl:Bool) (c0 e0 gv dv:Value) (n:Nat) (gc:List Value) (ds:List (List UInt8)) (w:World):Prop where
 blk:w.heap[X]? = some (.cells #[.bool k,c0,e0,.bool bl,gv,dv] 49 (0,0))
 own1:w.ownsRow Bw 47 3 gv n gc
 own2:w.ownsRow Bw 9 1 dv ds.length (ds.map strV)
structure BelX (Bw X:Nat) (w w':World):Prop where
 os:w'.os=w.os
 tape:w'.tape=w.tape
 output:w'.output=w.output
 size:w.heap.size<=w'.heap.size
 blk:∀ b,b<Bw->b≠X->w'.heap[b]? = w.heap[b]?
 ki:Reg.Keeps 3 w w'
 ke:Reg.Keeps 44 w w'
theorem BelX.refl (Bw X:Nat) (w:World):BelX Bw X w w:=⟨rfl,rfl,rfl,Nat.le_refl _,fun _ _ _=>rfl,Reg.Keeps.refl _ _,Reg.Keeps.refl _ _⟩
theorem BelX.trans {Bw X:Nat} {a b c:World} (h:BelX Bw X a b) (h':BelX Bw X b c):BelX Bw X a c :=
 ⟨h'.os.trans h.os,h'.tape.trans h.tape,h'.output.trans h.output,Nat.le_trans h.size h'.size,fun k hk hx=>(h'.blk k hk hx).trans (h.blk k hk hx),h.ki.trans h'.ki,h.ke.trans h'.ke⟩
theorem BelX.alloc {Bw X:Nat} {a b:World} (h:BelX Bw X a b) (hb:Bw<=a.heap.size) (o:Obj):BelX Bw X a (b.alloc o) :=
 h.trans ⟨rfl,rfl,rfl,by simp,fun k hk _=>Below.heap_alloc b o k (Nat.lt_of_lt_of_le hk (Nat.le_trans hb h.size)),Reg.Keeps.alloc _ _ _,Reg.Keeps.alloc _ _ _⟩
theorem Keeps.set {e t:TypeId} {w:World} {g i:Nat} {u:Value} {cs:Array Value} (h:w.heap[g]? = some (.cells cs t (0,0))) (hne:e≠t):Reg.Keeps e w (w.setCell ⟨g,i,none⟩ u):=by
 refine⟨fun _ _ _ _ _ ho=>own_set ho h hne i u,fun k c hk=>?_⟩;rw[heap_setCell_other]
 ·exact hk
 ·rintro rfl;rw[h]at hk
  injection hk with hk
  injection hk with _ ht
  exact hne ht.symm
theorem BelX.set {Bw X:Nat} {w:World} {i:Nat} {u:Value} {cs:Array Value} (h:w.heap[X]? = some (.cells cs 49 (0,0))):BelX Bw X w (w.setCell ⟨X,i,none⟩ u) :=
 ⟨rfl,rfl,rfl,by simp,fun k _ hx=>heap_setCell_other w ⟨X,i,none⟩ k u hx,Keeps.set h (by decide),Keeps.set h (by decide)⟩
theorem Tab.of_eq {w w':World} (h:Tab w) (he:w'.heap[0]? = w.heap[0]?):Tab w':=by
 have hg : Tryz.prog.globalNamed "internal/strconv.uint64pow10" = some 0 := by kernel_rfl
 unfold Tab Lib.TabIs World.var? at *
 simp only[hg,Option.bind_some]at h ⊢
 rw[he];exact h
theorem infoRun:(Tryz.prog.info? 47).map (fun i=>(i.zero,i.size,i.bytes))=some (some (.agg #[.slice none 0 0,.slice none 0 0,.bool false]),3,56):=by kernel_rfl
theorem fld_res3 (w:World) (g:Nat):(Instr.fieldAt 49 (.pointer (some ⟨g,0,none⟩)) 3).run Tryz.prog w=.ok (.pointer (some ⟨g,5,none⟩)) w:=by go_simp
theorem fld_res2 (w:World) (g:Nat):(Instr.fieldAt 49 (.pointer (some ⟨g,0,none⟩)) 2).run Tryz.prog w=.ok (.pointer (some ⟨g,4,none⟩)) w:=by go_simp
theorem load_strs {w:World} {g j:Nat} {u:Value} (h:w.cell? ⟨g,j,none⟩=some u):(Instr.loadAt 37 (.pointer (some ⟨g,j,none⟩))).run Tryz.prog w=.ok u w:=by go_simp
theorem load_runs {w:World} {g j:Nat} {u:Value} (h:w.cell? ⟨g,j,none⟩=some u):(Instr.loadAt 41 (.pointer (some ⟨g,j,none⟩))).run Tryz.prog w=.ok u w:=by go_simp
theorem load_run {w:World} {g:Nat} {c0 c1:Value} {b:Bool} (h:w.heap[g]? = some (.cells #[c0,c1,.bool b] 47 (0,0))) :
  (Instr.loadAt 47 (.pointer (some ⟨g,0,none⟩))).run Tryz.prog w=.ok (.agg #[c0,c1,.bool b]) w:=by
 have e0:w.cell? ⟨g,0,none⟩=some c0:=(CeH h 0).trans rfl;have e1:w.cell? ⟨g,1,none⟩=some c1:=(CeH h 1).trans rfl;have e2:w.cell? ⟨g,2,none⟩=some (.bool b):=(CeH h 2).trans rfl
 go_simp
theorem build_str (w:World) (x:ByteArray):(Instr.buildSlice 37 1 #[(0,.string x)]).run Tryz.prog w=.ok (.slice (some ⟨w.heap.size,0,none⟩) 1 1) (w.alloc (.cells #[.string x] 9)):=by
 go_simp
theorem build_run (w:World) (a1 a2:Option Addr) (n1 n2 k1 k2:Nat) (b:Bool):(Instr.buildSlice 41 1 #[(0,.agg #[.slice a1 n1 k1,.slice a2 n2 k2,.bool b])]).run Tryz.prog w=.ok (.slice (some ⟨w.heap.size,0,none⟩) 1 1) (w.alloc (.cells #[.slice a1 n1 k1,.slice a2 n2 k2,.bool b] 47)):=by
 go_simp
theorem run_nil {P:Program} {a:Act} {w:World} {x:Operand} {ad:Addr} {d:Option Tmp} {ty:TypeId} {pos:String} {af:Array Edge} {g:Option (Nat×Bool)} (h:a.eval x=.pointer (some ad)) :
  (execOp a.eval { dst:=d,op:=.nilCheck x,type:=ty,pos:=pos,after:=af,guard:=g }).run P w=.ok (.value (.pointer (some ad))) w:=by
 simp only[execOp,h]
 rfl
theorem add_any (p:RPlan) (vs cv ev:Value) (r:RRun) (B Bw b2 X:Nat) (k bl:Bool) (c0 e0 gv dv:Value) (n:Nat) (gc:List Value) (ds:List (List UInt8)) (W:World) (hp:OkP p) (hpl:PlnAt W B vs p.steps) (hB:B<=Bw) (hBw:Bw<=W.heap.size) (hX:X<W.heap.size) (hBX:B<=X)
  (ho1:W.ownsRow b2 3 1 cv r.counts.length (cntV r.counts)) (ho2:W.ownsRow b2 44 4 ev r.evs.length (cellsOf encE r.evs)) (hw:WfR r) (hf:FitId r.evs) (hl0:0<r.counts.length) (hl1:r.counts.length<=p.steps.length)
  (ht:Tab W) (hg:0 < Bw) (hgX:0≠X) (ha:AddAt Bw X k bl c0 e0 gv dv n gc ds W) (hn:n<=1000000) (hd:ds.length<=1000000) :
  Calls Tryz.prog 36 #[.pointer (some ⟨X,0,none⟩),.agg #[vs,.int .i64 p.within],.agg #[cv,ev,.bool r.blocked]] W fun e w'=>e=.returned (.tuple #[])/\BelX Bw X W w' /\
   ∃ gv' dv',AddAt Bw X k bl c0 e0 gv' dv' (n+if addGrown p r then 1 else 0) (gc++if addGrown p r then [cv,ev,.bool r.blocked] else []) (ds++if addDone p r then [textR r] else []) w':=by
 obtain⟨q,cq,rfl,_,hqlt⟩:=ho1.form hl0;obtain⟨ea,ec,rfl⟩:=(Sl.of_own ho2).shape;obtain⟨pa,pc,rfl,hpq⟩:=hpl
 obtain⟨L,hL⟩:∃ L,r.counts.length-1=L:=⟨_,rfl⟩
 have hLl:r.counts.length=L+1:=by omega
 have hcn:∃ N:Nat,r.counts.getLast? = some N/\(cntV r.counts)[L]? = some (.int .i64 (N:Int))/\N<=1000000:=by
  refine⟨r.counts.getD L 0, ?_, ?_, ?_⟩
  ·rw[List.getLast?_eq_getElem?,hL,List.getD_eq_getElem?_getD,List.getElem?_eq_getElem (by omega)];rfl
  ·unfold cntV;rw[List.getElem?_map,List.getD_eq_getElem?_getD,List.getElem?_eq_getElem (by omega)];rfl
  ·have:=getD_le_sum r.counts L;have h1:=hw.sum;have h2:=hw.few
   omega
 obtain⟨N,hN1,hN2,hN3⟩:=hcn;obtain⟨b,o,rfl,hb,x0,x1,x2,hj1,hj2⟩:=hpq L (by omega);clear hj1 hj2
 obtain⟨s,hs⟩:∃ s,p.steps[L]'(by omega)=s:=⟨_,rfl⟩
 rw[hs]at x0 x1 x2
 obtain⟨E,hE⟩:∃ E,decide (r.counts.length=p.steps.length)=E:=⟨_,rfl⟩
 have HD:=Hyd (show addDone p r=(E&&decide (s.lo<=(N:Int))) by
  unfold addDone;rw[<-hE]
  by_cases h:r.counts.length=p.steps.length
  ·rw[List.getLast?_eq_getElem? (l:=p.steps),<-h,hL,List.getElem?_eq_getElem (show L<p.steps.length by omega),hs,hN1];simp[h]
  ·simp[h])
 have HGd:=Hyd (show addGrown p r=(!E||decide ((N:Int)<s.hi)) by
  unfold addGrown;rw[<-hE]
  by_cases h:r.counts.length=p.steps.length
  ·rw[List.getLast?_eq_getElem? (l:=p.steps),<-h,hL,List.getElem?_eq_getElem (show L<p.steps.length by omega),hs,hN1];simp[h]
  ·simp[h])
 have HE8:=Hyd (show(((L:Int))==((p.steps.length:Int)-1))=E by
  rw[<-hE]
  by_cases h:r.counts.length=p.steps.length
  ·rw[decide_eq_true h];rw[beq_iff_eq];omega
  ·rw[decide_eq_false h];rw[beq_eq_false_iff_ne];omega)
 obtain⟨D,hD⟩:∃ D,addDone p r=D:=⟨_,rfl⟩
 obtain⟨G,hG⟩:∃ G,addGrown p r=G:=⟨_,rfl⟩
 rw[hD]at HD;rw[hG]at HGd;rw[hD,hG]
 obtain⟨dl,hdl⟩:∃ dl,(ds++if D=true then [textR r] else [])=dl:=⟨_,rfl⟩
 rw[hdl];have HDL:=Hyd hdl;clear hdl
 obtain⟨nl,hnl⟩:∃ nl,(n+if G=true then 1 else 0)=nl:=⟨_,rfl⟩
 rw[hnl];have HNL:=Hyd hnl;clear hnl
 have HGL0:∃ gl,(gc++if G=true then [.slice (some ⟨q,0,none⟩) r.counts.length cq,.slice ea r.evs.length ec,.bool r.blocked] else [])=gl:=⟨_,rfl⟩
 obtain⟨gl,hgl⟩:=HGL0;rw[hgl];have HGL:=Hyd hgl;clear hgl;have HDh:=Hyd hD;have HGh:=Hyd hG;have HEh:=Hyd hE;have HO1:=Hyd ho1;have HO2:=Hyd ho2;have HW:=Hyd hw;have HF:=Hyd hf;have HT:=Hyd ht;have HA:=Hyd ha
 have xN:W.cell? ⟨q,L,none⟩=some (.int .i64 (N:Int)):=by rw[ho1.cellAt L (by omega)];exact hN2
 obtain⟨wa,hwa⟩:∃ wa,wa=(W.alloc (.cells #[.slice (some ⟨b,o,none⟩) p.steps.length pc,.int .i64 p.within] 25)).alloc (.cells #[.slice (some ⟨q,0,none⟩) r.counts.length cq,.slice ea r.evs.length ec,.bool r.blocked] 47):=⟨_,rfl⟩
 have hgr:Grw W wa:=by rw[hwa];exact((Grw.refl _).alloc _).alloc _
 have XP:=Hyd (show wa.heap[W.heap.size]? = some (.cells #[.slice (some ⟨b,o,none⟩) p.steps.length pc,.int .i64 p.within] 25 (0,0)) by rw[hwa];exact heap_alloc (heap_new rfl));have XR:=Hyd (show wa.heap[W.heap.size+1]? = some (.cells #[.slice (some ⟨q,0,none⟩) r.counts.length cq,.slice ea r.evs.length ec,.bool r.blocked] 47 (0,0)) by rw[hwa];exact heap_new (by simp))
 have hbW:b<W.heap.size:=by omega
 have HX2:=Hyd x2;have y1:=hgr.cell hbW x1;have y2:=hgr.cell hbW x2;have yN:=hgr.cell hqlt xN;have HGR:=Hyd hgr;have HWA:=Hyd hwa
 have hza:wa.heap.size=W.heap.size+2:=by rw[hwa];simp
 have HZA:=Hyd hza
 have hL0:(0:Int)<=(L:Int):=by omega
 have hLq:(L:Int)<(r.counts.length:Int):=by omega
 have hLm:(r.counts.length:Int)-1=(L:Int):=by omega
 have hLp:(L:Int)<(p.steps.length:Int):=by omega
 have hqw1:q≠W.heap.size:=by omega
 have hqw2:q≠W.heap.size+1:=by omega
 have HLl:=Hyd hLl
 have hLs:L<=1000000:=by have:=hw.steps;omega
 have hPs:p.steps.length<=1000000:=hp.few;clear hLl hL hD hG hE hs hN1 hN2 ho1 ho2 hw hf ht ha x0 x1 x2 xN hgr hwa hza hpq
 go_enter Tryz.func36,Tryz.ntmps36
 go_upto_region 2 with (fail)
 rw[<-HWA.out];have q0:wa.cell? ⟨W.heap.size+1,0,none⟩=some (.slice (some ⟨q,0,none⟩) r.counts.length cq):=(CeH XR.out 0).trans rfl;have p0:wa.cell? ⟨W.heap.size,0,none⟩=some (.slice (some ⟨b,o,none⟩) p.steps.length pc):=(CeH XP.out 0).trans rfl
 go_upto_region 4 with (fail)
 rw[HE8.out];obtain⟨i0,hi,hz0,hz1,hz2⟩:=info_parts infoStr;obtain⟨j0,hj,hy0,hy1,hy2⟩:=info_parts infoRun
 have A0:=Hyd (show AddAt Bw X k bl c0 e0 gv dv n gc ds wa by
  rw[HWA.out]
  exact⟨heap_alloc (heap_alloc HA.out.blk),(HA.out.own1.alloc _).alloc _,(HA.out.own2.alloc _).alloc _⟩)
 have O1a:=Hyd (show wa.ownsRow b2 3 1 (.slice (some ⟨q,0,none⟩) r.counts.length cq) r.counts.length (cntV r.counts) by rw[HWA.out];exact(HO1.out.alloc _).alloc _);have O2a:=Hyd (show wa.ownsRow b2 44 4 (.slice ea r.evs.length ec) r.evs.length (cellsOf encE r.evs) by rw[HWA.out];exact(HO2.out.alloc _).alloc _);have HBX:=Hyd (show BelX Bw X W wa by rw[HWA.out];exact((BelX.refl Bw X W).alloc hBw _).alloc hBw _)
 have hBwa:Bw<=wa.heap.size:=by have:=HZA.out;omega
 go_cut [8,34] (fun s8 s34 wx=>s8=.bool E/\s34=.bool D/\wx=wa)
 case first =>
  cases hEv:E with
  | false =>
   have HV:=Hyd hEv;clear hEv;go_wp2_with fail;go_meet;exact⟨by rw[HV.out],by rw[HD.out,HV.out];rfl,rfl⟩
  | true =>
   have HV:=Hyd hEv;clear hEv;go_wp2_with fail;go_meet;exact⟨by rw[HV.out],by rw[HD.out,HV.out];rfl,rfl⟩
 case rest =>
  obtain⟨rfl,rfl,rfl⟩:=hcut
  go_upto_if 34 with (fail)
  go_cut [7] (fun s7 wx=>s7=.int .i64 N/\BelX Bw X W wx/\wx.heap[W.heap.size]? = some (.cells #[.slice (some ⟨b,o,none⟩) p.steps.length pc,.int .i64 p.within] 25 (0,0)) /\
   wx.heap[W.heap.size+1]? = some (.cells #[.slice (some ⟨q,0,none⟩) r.counts.length cq,.slice ea r.evs.length ec,.bool r.blocked] 47 (0,0))/\∃ dv',AddAt Bw X k bl c0 e0 gv dv' n gc dl wx)
  case first =>
   cases hDv:D with
   | false =>
    have HV:=Hyd hDv;clear hDv;go_wp2_with fail;go_meet;exact⟨rfl,HBX.out,XP.out,XR.out,dv,by rw[<-HDL.out,HV.out];simpa using A0.out⟩
   | true =>
    have HV:=Hyd hDv;clear hDv;go_wp2_with fail;have hgw:(Reg.trunc Bw wc).heap.size=Bw:=Reg.trunc_size hBwa;have hpk:p.steps.length<=1000000:=hPs;clear y1 y2 yN q0 p0
    refine Reg.stand_order (W:=Reg.trunc Bw wc) (h:=11) (t:=1)
     [⟨0,35,[],99,[],none,fun v _=>v=.pointer (some ⟨X,0,none⟩)⟩,
      ⟨1,36,[],99,[],none,fun v _=>v=.pointer (some ⟨X,0,none⟩)⟩,
      ⟨2,37,[],99,[],none,fun v _=>v=.pointer (some ⟨X,0,none⟩)⟩,
      ⟨3,38,[],99,[],none,fun v _=>v=.pointer (some ⟨X,5,none⟩)⟩,
      ⟨4,39,[],99,[],none,fun v _=>v=dv⟩,
      ⟨5,40,[],99,[],none,fun v _=>v=.agg #[.slice (some ⟨q,0,none⟩) r.counts.length cq,.slice ea r.evs.length ec,.bool r.blocked]⟩,
      ⟨6,41,[],99,[],none,fun v _=>v=strV (textR r)⟩,
      ⟨7,42,[9],8,[],none,fun v w'=>∃ g,v=.slice (some ⟨g,0,none⟩) 1 1/\w'.heap[g]? = some (.cells #[strV (textR r)] 9 (0,0))⟩,
      ⟨8,43,[9],99,[],some 9,fun v w'=>w'.ownsRow Bw 9 1 v (ds.length+1) (ds.map strV++[strV (textR r)])⟩,
      ⟨9,44,[],99,[],none,fun v _=>v=.pointer (some ⟨X,0,none⟩)⟩,
      ⟨10,45,[],99,[],none,fun v _=>v=.pointer (some ⟨X,5,none⟩)⟩]
     [⟨[49],99,fun w=>w.heap[X]? = some (.cells #[.bool k,c0,e0,.bool bl,gv,dv] 49 (0,0))⟩,
      ⟨[47],99,fun w=>w.heap[W.heap.size+1]? = some (.cells #[.slice (some ⟨q,0,none⟩) r.counts.length cq,.slice ea r.evs.length ec,.bool r.blocked] 47 (0,0))⟩,
      ⟨[25],99,fun w=>w.heap[W.heap.size]? = some (.cells #[.slice (some ⟨b,o,none⟩) p.steps.length pc,.int .i64 p.within] 25 (0,0))⟩,
      ⟨[3,44,47],99,fun w=>Reg.Keeps 3 wc w/\Reg.Keeps 44 wc w/\w.ownsRow Bw 47 3 gv n gc⟩,
      ⟨[9],8,fun w=>w.ownsRow Bw 9 1 dv ds.length (ds.map strV)⟩]
     (by kernel_rfl) rfl (by kernel_rfl) (by kernel_rfl) (by kernel_rfl) (show [0,1,2,3,4,5,6,7,8,9,10].Nodup by decide) (show ∀ i,i<11->i∈[0,1,2,3,4,5,6,7,8,9,10] by decide) ?_ (show [35,36,37,38,39,40,41,42,43,44,45].Nodup by decide) (show ∀ s∈[35,36,37,38,39,40,41,42,43,44,45],s<68 by decide) (by kernel_rfl) ?_ ?_ (Reg.trunc_below hBwa) ?_ ?_ ?_
    ·intro f hf
     simp only[List.mem_cons,List.not_mem_nil,or_false]at hf
     rcases hf with rfl|rfl|rfl|rfl|rfl|rfl|rfl|rfl|rfl|rfl|rfl<;>simp
    ·intro f hf v w1 w2 hk hF
     simp only[List.mem_cons,List.not_mem_nil,or_false]at hf
     rcases hf with rfl|rfl|rfl|rfl|rfl|rfl|rfl|rfl|rfl|rfl|rfl
     ·exact hF
     ·exact hF
     ·exact hF
     ·exact hF
     ·exact hF
     ·exact hF
     ·exact hF
     ·obtain⟨g,e1,h⟩:=hF;exact⟨g,e1,(hk 9 (by simp)).2 _ _ h⟩
     ·exact(hk 9 (by simp)).1 _ _ _ _ _ hF
     ·exact hF
     ·exact hF
    ·intro f hf w1 w2 hk hF
     simp only[List.mem_cons,List.not_mem_nil,or_false]at hf
     rcases hf with rfl|rfl|rfl|rfl|rfl
     ·exact(hk 49 (by simp)).2 _ _ hF
     ·exact(hk 47 (by simp)).2 _ _ hF
     ·exact(hk 25 (by simp)).2 _ _ hF
     ·exact⟨hF.1.trans (hk 3 (by simp)),hF.2.1.trans (hk 44 (by simp)),(hk 47 (by simp)).1 _ _ _ _ _ hF.2.2⟩
     ·exact(hk 9 (by simp)).1 _ _ _ _ _ hF
    ·intro f hf
     simp only[List.mem_cons,List.not_mem_nil,or_false]at hf
     rcases hf with rfl|rfl|rfl|rfl|rfl
     ·exact A0.out.blk
     ·exact XR.out
     ·exact XP.out
     ·exact⟨Reg.Keeps.refl _ _,Reg.Keeps.refl _ _,A0.out.own1⟩
     ·exact A0.out.own2
    ·intro f hf a w1 hs hg' hst;have t0:a.eval (.tmp 0)=.pointer (some ⟨X,0,none⟩):=Reg.eval_tmp ((hs.out 0 (show 0∉[35,36,37,38,39,40,41,42,43,44,45] by decide)).trans rfl);have t5:a.eval (.tmp 5)=.pointer (some ⟨W.heap.size+1,0,none⟩):=Reg.eval_tmp ((hs.out 5 (show 5∉[35,36,37,38,39,40,41,42,43,44,45] by decide)).trans rfl);have hxr:w1.heap[X]? = some (.cells #[.bool k,c0,e0,.bool bl,gv,dv] 49 (0,0)):=hst _ (Reg.at_stand 0 rfl) (by simp[Reg.okTil]);have hrb:w1.heap[W.heap.size+1]? = some (.cells #[.slice (some ⟨q,0,none⟩) r.counts.length cq,.slice ea r.evs.length ec,.bool r.blocked] 47 (0,0)):=hst _ (Reg.at_stand 1 rfl) (by simp[Reg.okTil]);obtain⟨hk1,hk2,_⟩:Reg.Keeps 3 wc w1/\Reg.Keeps 44 wc w1/\w1.ownsRow Bw 47 3 gv n gc:=hst _ (Reg.at_stand 3 rfl) (by simp[Reg.okTil])
     simp only[List.mem_cons,List.not_mem_nil,or_false]at hf
     rcases hf with rfl|rfl|rfl|rfl|rfl|rfl|rfl|rfl|rfl|rfl|rfl
     ·exact Reg.step_val rfl rfl rfl (Ord.run_move t0) rfl hs.below (fun e=>Reg.Keeps.refl e _)
     ·exact Reg.step_val rfl rfl rfl (Ord.run_move t0) rfl hs.below (fun e=>Reg.Keeps.refl e _)
     ·obtain⟨v,hv,rfl⟩:∃ v,a.tmps[36]? = some v/\v=.pointer (some ⟨X,0,none⟩):=hg' _ (Reg.at_fact 1 rfl) (by kernel_rfl) (by simp[Reg.okTil])
      exact Reg.step_val rfl rfl rfl (run_nil (Reg.eval_tmp hv)) rfl hs.below (fun e=>Reg.Keeps.refl e _)
     ·obtain⟨v,hv,rfl⟩:∃ v,a.tmps[37]? = some v/\v=.pointer (some ⟨X,0,none⟩):=hg' _ (Reg.at_fact 2 rfl) (by kernel_rfl) (by simp[Reg.okTil])
      exact Reg.step_val rfl rfl rfl (Ord.run_fld (Reg.eval_tmp hv) (fld_res3 w1 _)) rfl hs.below (fun e=>Reg.Keeps.refl e _)
     ·obtain⟨v,hv,rfl⟩:∃ v,a.tmps[38]? = some v/\v=.pointer (some ⟨X,5,none⟩):=hg' _ (Reg.at_fact 3 rfl) (by kernel_rfl) (by simp[Reg.okTil])
      exact Reg.step_val rfl rfl rfl (Reg.run_load (Reg.eval_tmp hv) (load_strs ((CeH hxr 5).trans rfl))) rfl hs.below (fun e=>Reg.Keeps.refl e _)
     ·exact Reg.step_val rfl rfl rfl (Reg.run_load t5 (load_run hrb)) rfl hs.below (fun e=>Reg.Keeps.refl e _)
     ·obtain⟨v,hv,rfl⟩:∃ v,a.tmps[40]? = some v/\v=.agg #[.slice (some ⟨q,0,none⟩) r.counts.length cq,.slice ea r.evs.length ec,.bool r.blocked]:=hg' _ (Reg.at_fact 5 rfl) (by kernel_rfl) (by simp[Reg.okTil])
      have hgb:=hs.below.block 0 (by rw[hgw];exact hg);have hgc:(Reg.trunc Bw wc).heap[0]? = wc.heap[0]?:=((Reg.trunc_below hBwa).block _ (by rw[hgw];exact hg)).symm;have hgd:wc.heap[0]? = W.heap[0]?:=HBX.out.blk _ hg hgX;have htab:Tab w1:=Tab.of_eq HT.out (hgb.trans (hgc.trans hgd))
      have hgs:0 < w1.heap.size:=by
       have:=heap_lt hrb
       omega
      refine Reg.step_call rfl rfl rfl (run_enter1 (Reg.eval_tmp hv) (by go_simp)) hs.below ((text_any _ r w1.heap.size w1 ⟨_,_,rfl,Sl.of_own (hk1.1 _ _ _ _ _ O1a.out),Sl.of_own (hk2.1 _ _ _ _ _ O2a.out)⟩ (Nat.le_refl _) HW.out HF.out htab hgs).mono ?_);rintro e w2 ⟨rfl,hb2⟩;exact⟨_,rfl,rfl,hb2⟩
     ·obtain⟨v,hv,rfl⟩:∃ v,a.tmps[41]? = some v/\v=strV (textR r):=hg' _ (Reg.at_fact 6 rfl) (by kernel_rfl) (by simp[Reg.okTil])
      exact Reg.step_val rfl rfl rfl (Reg.run_build (Reg.eval_tmp hv) (build_str w1 _)) ⟨_,rfl,heap_new rfl⟩ (below_alloc0 hs.below) (fun e=>Reg.Keeps.alloc e _ _)
     ·obtain⟨v1,hv1,rfl⟩:∃ v,a.tmps[39]? = some v/\v=dv:=hg' _ (Reg.at_fact 4 rfl) (by kernel_rfl) (by simp[Reg.okTil])
      obtain⟨v2,hv2,g,rfl,hh⟩:∃ v,a.tmps[42]? = some v/\∃ g,v=.slice (some ⟨g,0,none⟩) 1 1/\w1.heap[g]? = some (.cells #[strV (textR r)] 9 (0,0)):=hg' _ (Reg.at_fact 7 rfl) (by kernel_rfl) (by simp[Reg.okTil])
      have hown:w1.ownsRow Bw 9 1 v1 ds.length (ds.map strV):=hst _ (Reg.at_stand 4 rfl) (by simp[Reg.okTil]);exact Reg.step_append rfl rfl rfl rfl hs.below Tryz.underlying37 hi hz0 hz1 hz2 rfl (by decide) hv1 (by rw[hgw];exact hown) hv2 (news:=[strV (textR r)]) rfl (fun j u hu=>World.news_of_block hh j u (by simpa using hu)) (by intro u hu;simp only[List.mem_cons,List.not_mem_nil,or_false]at hu;subst hu;rfl) (by decide) (by unfold maxLen;omega) (by omega) (fun v' w' h=>by rw[hgw]at h;exact h)
     ·obtain⟨v,hv,rfl⟩:∃ v,a.tmps[35]? = some v/\v=.pointer (some ⟨X,0,none⟩):=hg' _ (Reg.at_fact 0 rfl) (by kernel_rfl) (by simp[Reg.okTil])
      exact Reg.step_val rfl rfl rfl (run_nil (Reg.eval_tmp hv)) rfl hs.below (fun e=>Reg.Keeps.refl e _)
     ·obtain⟨v,hv,rfl⟩:∃ v,a.tmps[44]? = some v/\v=.pointer (some ⟨X,0,none⟩):=hg' _ (Reg.at_fact 9 rfl) (by kernel_rfl) (by simp[Reg.okTil])
      exact Reg.step_val rfl rfl rfl (Ord.run_fld (Reg.eval_tmp hv) (fld_res3 w1 _)) rfl hs.below (fun e=>Reg.Keeps.refl e _)
    ·intro vals w1 hF hst hb1;have o8:w1.ownsRow Bw 9 1 (vals 43) (ds.length+1) (ds.map strV++[strV (textR r)]):=hF _ (Reg.at_fact 8 rfl) (show(11+1:Nat)<=99 by decide);have e45:vals 45=.pointer (some ⟨X,5,none⟩):=hF _ (Reg.at_fact 10 rfl) (show(11+1:Nat)<=99 by decide);have hxr:w1.heap[X]? = some (.cells #[.bool k,c0,e0,.bool bl,gv,dv] 49 (0,0)):=hst _ (Reg.at_stand 0 rfl) (show(11+1:Nat)<=99 by decide);have hrb:w1.heap[W.heap.size+1]? = some (.cells #[.slice (some ⟨q,0,none⟩) r.counts.length cq,.slice ea r.evs.length ec,.bool r.blocked] 47 (0,0)):=hst _ (Reg.at_stand 1 rfl) (show(11+1:Nat)<=99 by decide);have hpb:w1.heap[W.heap.size]? = some (.cells #[.slice (some ⟨b,o,none⟩) p.steps.length pc,.int .i64 p.within] 25 (0,0)):=hst _ (Reg.at_stand 2 rfl) (show(11+1:Nat)<=99 by decide)
     obtain⟨hk1,hk2,hor⟩:Reg.Keeps 3 wc w1/\Reg.Keeps 44 wc w1/\w1.ownsRow Bw 47 3 gv n gc:=hst _ (Reg.at_stand 3 rfl) (show(11+1:Nat)<=99 by decide);have hsz:=heap_lt hrb;have hza2:=HZA.out;have HB1:=Hyd (show BelX Bw X wc w1 from⟨hb1.os,hb1.tape,hb1.output,by omega,fun k hk _=>(hb1.block k (by rw[hgw];exact hk)).trans ((Reg.trunc_below hBwa).block k (by rw[hgw];exact hk)).symm,hk1,hk2⟩);have HO8:=Hyd o8;have HXR:=Hyd hxr;have HRB:=Hyd hrb;have HPB:=Hyd hpb;have HOR:=Hyd hor;have f5:w1.frozen? ⟨X,5,none⟩=false:=frozen_of_row w1 _ 5 _ _ hxr;have c5:w1.cell? ⟨X,5,none⟩=some dv:=(CeH hxr 5).trans rfl
     simp only[List.map_cons,List.map_nil,e45]
     obtain⟨nd,hnd⟩:∃ nd,vals 43=nd:=⟨_,rfl⟩
     rw[hnd]at HO8 ⊢;obtain⟨A8,k8,rfl⟩:=(Sl.of_own HO8.out).shape;generalize vals 35=q35;generalize vals 36=q36;generalize vals 37=q37;generalize vals 38=q38;generalize vals 39=q39;generalize vals 40=q40;generalize vals 41=q41;generalize vals 42=q42;generalize vals 44=q44;clear hF hst o8 e45 hxr hrb hpb hk1 hk2 hor hnd hb1 hsz hza2;(iterate 12 unfold Reg.puts);go_wp2_with fail;go_meet;have hset:=BelX.set (Bw:=Bw) (i:=5) (u:=.slice A8 (ds.length+1) k8) HXR.out;refine⟨rfl,HBX.out.trans (HB1.out.trans hset), ?_, ?_,.slice A8 (ds.length+1) k8, ?_⟩
     ·rw[heap_setCell_other _ _ _ _ (show W.heap.size≠X by omega)];exact HPB.out
     ·rw[heap_setCell_other _ _ _ _ (show W.heap.size+1≠X by omega)];exact HRB.out
     ·rw[<-HDL.out,HV.out]
      exact⟨heap_setCell_same w1 X 5 _ _ (.slice A8 (ds.length+1) k8) HXR.out,own_set HOR.out HXR.out (by decide) _ _,by
       have h:=own_set HO8.out HXR.out (by decide) 5 (.slice A8 (ds.length+1) k8)
       simpa using h⟩
  case rest =>
   clear O1a O2a A0 XP XR HBX HWA HZA y1 y2 yN q0 p0 HGR hBwa;obtain⟨rfl,hbx,hpx,hrx,dv',ha'⟩:=hcut;have HBX:=Hyd hbx;have HPX:=Hyd hpx;have HRX:=Hyd hrx;have HA2:=Hyd ha';have p0:wc.cell? ⟨W.heap.size,0,none⟩=some (.slice (some ⟨b,o,none⟩) p.steps.length pc):=(CeH hpx 0).trans rfl
   have y2:wc.cell? ⟨b,o+L * 5+2,none⟩=some (.int .i64 s.hi):=by
    rw[World.cell?_of_block (hbx.blk b (by omega) (by omega))];exact HX2.out
   have hBwa:Bw<=wc.heap.size:=Nat.le_trans hBw hbx.size;clear hbx hpx hrx ha'
   go_upto_region 6 with (fail)
   go_cut [8,57] (fun s8 s57 wx=>s8=.bool E/\s57=.bool G/\wx=wc)
   case first =>
    cases hEv:E with
    | false =>
     have HV:=Hyd hEv;clear hEv;go_wp2_with fail;go_meet;exact⟨by rw[HV.out],by rw[HGd.out,HV.out];rfl,rfl⟩
    | true =>
     have HV:=Hyd hEv;clear hEv;go_wp2_with fail;go_meet;exact⟨by rw[HV.out],by rw[HGd.out,HV.out];rfl,rfl⟩
   case rest =>
    obtain⟨rfl,rfl,hwc⟩:=hcut;subst hwc
    go_upto_if 57 with (fail)
    cases hGv:G with
    | false =>
     have HV:=Hyd hGv;clear hGv;go_wp2_with fail;go_end0;exact⟨rfl,HBX.out,gv,dv',by rw[<-HNL.out,<-HGL.out,HV.out];simpa using HA2.out⟩
    | true =>
     have HV:=Hyd hGv;clear hGv;go_wp2_with fail;have hgw:(Reg.trunc Bw wc).heap.size=Bw:=Reg.trunc_size hBwa;clear p0 y2
     refine Reg.stand_order (W:=Reg.trunc Bw wc) (h:=10) (t:=1)
      [⟨0,58,[],99,[],none,fun v _=>v=.pointer (some ⟨X,0,none⟩)⟩,
       ⟨1,59,[],99,[],none,fun v _=>v=.pointer (some ⟨X,0,none⟩)⟩,
       ⟨2,60,[],99,[],none,fun v _=>v=.pointer (some ⟨X,0,none⟩)⟩,
       ⟨3,61,[],99,[],none,fun v _=>v=.pointer (some ⟨X,4,none⟩)⟩,
       ⟨4,62,[],99,[],none,fun v _=>v=gv⟩,
       ⟨5,63,[],99,[],none,fun v _=>v=.agg #[.slice (some ⟨q,0,none⟩) r.counts.length cq,.slice ea r.evs.length ec,.bool r.blocked]⟩,
       ⟨6,64,[47],7,[],none,fun v w'=>∃ g,v=.slice (some ⟨g,0,none⟩) 1 1/\w'.heap[g]? = some (.cells #[.slice (some ⟨q,0,none⟩) r.counts.length cq,.slice ea r.evs.length ec,.bool r.blocked] 47 (0,0))⟩,
       ⟨7,65,[47],99,[],some 47,fun v w'=>w'.ownsRow Bw 47 3 v (n+1) (gc++[.slice (some ⟨q,0,none⟩) r.counts.length cq,.slice ea r.evs.length ec,.bool r.blocked])⟩,
       ⟨8,66,[],99,[],none,fun v _=>v=.pointer (some ⟨X,0,none⟩)⟩,
       ⟨9,67,[],99,[],none,fun v _=>v=.pointer (some ⟨X,4,none⟩)⟩]
      [⟨[49],99,fun w=>w.heap[X]? = some (.cells #[.bool k,c0,e0,.bool bl,gv,dv'] 49 (0,0))⟩,
       ⟨[47],7,fun w=>w.heap[W.heap.size+1]? = some (.cells #[.slice (some ⟨q,0,none⟩) r.counts.length cq,.slice ea r.evs.length ec,.bool r.blocked] 47 (0,0))⟩,
       ⟨[25],99,fun w=>w.heap[W.heap.size]? = some (.cells #[.slice (some ⟨b,o,none⟩) p.steps.length pc,.int .i64 p.within] 25 (0,0))⟩,
       ⟨[3,44,9],99,fun w=>Reg.Keeps 3 wc w/\Reg.Keeps 44 wc w/\w.ownsRow Bw 9 1 dv' dl.length (dl.map strV)⟩,
       ⟨[47],7,fun w=>w.ownsRow Bw 47 3 gv n gc⟩]
      (by kernel_rfl) rfl (by kernel_rfl) (by kernel_rfl) (by kernel_rfl) (show [0,1,2,3,4,5,6,7,8,9].Nodup by decide) (show ∀ i,i<10->i∈[0,1,2,3,4,5,6,7,8,9] by decide) ?_ (show [58,59,60,61,62,63,64,65,66,67].Nodup by decide) (show ∀ s∈[58,59,60,61,62,63,64,65,66,67],s<68 by decide) (by kernel_rfl) ?_ ?_ (Reg.trunc_below hBwa) ?_ ?_ ?_
     ·intro f hf
      simp only[List.mem_cons,List.not_mem_nil,or_false]at hf
      rcases hf with rfl|rfl|rfl|rfl|rfl|rfl|rfl|rfl|rfl|rfl<;>simp
     ·intro f hf v w1 w2 hk hF
      simp only[List.mem_cons,List.not_mem_nil,or_false]at hf
      rcases hf with rfl|rfl|rfl|rfl|rfl|rfl|rfl|rfl|rfl|rfl
      ·exact hF
      ·exact hF
      ·exact hF
      ·exact hF
      ·exact hF
      ·exact hF
      ·obtain⟨g,e1,h⟩:=hF;exact⟨g,e1,(hk 47 (by simp)).2 _ _ h⟩
      ·exact(hk 47 (by simp)).1 _ _ _ _ _ hF
      ·exact hF
      ·exact hF
     ·intro f hf w1 w2 hk hF
      simp only[List.mem_cons,List.not_mem_nil,or_false]at hf
      rcases hf with rfl|rfl|rfl|rfl|rfl
      ·exact(hk 49 (by simp)).2 _ _ hF
      ·exact(hk 47 (by simp)).2 _ _ hF
      ·exact(hk 25 (by simp)).2 _ _ hF
      ·exact⟨hF.1.trans (hk 3 (by simp)),hF.2.1.trans (hk 44 (by simp)),(hk 9 (by simp)).1 _ _ _ _ _ hF.2.2⟩
      ·exact(hk 47 (by simp)).1 _ _ _ _ _ hF
     ·intro f hf
      simp only[List.mem_cons,List.not_mem_nil,or_false]at hf
      rcases hf with rfl|rfl|rfl|rfl|rfl
      ·exact HA2.out.blk
      ·exact HRX.out
      ·exact HPX.out
      ·exact⟨Reg.Keeps.refl _ _,Reg.Keeps.refl _ _,HA2.out.own2⟩
      ·exact HA2.out.own1
     ·intro f hf a w1 hs hg' hst;have t0:a.eval (.tmp 0)=.pointer (some ⟨X,0,none⟩):=Reg.eval_tmp ((hs.out 0 (show 0∉[58,59,60,61,62,63,64,65,66,67] by decide)).trans rfl);have t5:a.eval (.tmp 5)=.pointer (some ⟨W.heap.size+1,0,none⟩):=Reg.eval_tmp ((hs.out 5 (show 5∉[58,59,60,61,62,63,64,65,66,67] by decide)).trans rfl);have hxr:w1.heap[X]? = some (.cells #[.bool k,c0,e0,.bool bl,gv,dv'] 49 (0,0)):=hst _ (Reg.at_stand 0 rfl) (by simp[Reg.okTil])
      simp only[List.mem_cons,List.not_mem_nil,or_false]at hf
      rcases hf with rfl|rfl|rfl|rfl|rfl|rfl|rfl|rfl|rfl|rfl
      ·exact Reg.step_val rfl rfl rfl (Ord.run_move t0) rfl hs.below (fun e=>Reg.Keeps.refl e _)
      ·exact Reg.step_val rfl rfl rfl (Ord.run_move t0) rfl hs.below (fun e=>Reg.Keeps.refl e _)
      ·obtain⟨v,hv,rfl⟩:∃ v,a.tmps[59]? = some v/\v=.pointer (some ⟨X,0,none⟩):=hg' _ (Reg.at_fact 1 rfl) (by kernel_rfl) (by simp[Reg.okTil])
       exact Reg.step_val rfl rfl rfl (run_nil (Reg.eval_tmp hv)) rfl hs.below (fun e=>Reg.Keeps.refl e _)
      ·obtain⟨v,hv,rfl⟩:∃ v,a.tmps[60]? = some v/\v=.pointer (some ⟨X,0,none⟩):=hg' _ (Reg.at_fact 2 rfl) (by kernel_rfl) (by simp[Reg.okTil])
       exact Reg.step_val rfl rfl rfl (Ord.run_fld (Reg.eval_tmp hv) (fld_res2 w1 _)) rfl hs.below (fun e=>Reg.Keeps.refl e _)
      ·obtain⟨v,hv,rfl⟩:∃ v,a.tmps[61]? = some v/\v=.pointer (some ⟨X,4,none⟩):=hg' _ (Reg.at_fact 3 rfl) (by kernel_rfl) (by simp[Reg.okTil])
       exact Reg.step_val rfl rfl rfl (Reg.run_load (Reg.eval_tmp hv) (load_runs ((CeH hxr 4).trans rfl))) rfl hs.below (fun e=>Reg.Keeps.refl e _)
      ·have hrb:w1.heap[W.heap.size+1]? = some (.cells #[.slice (some ⟨q,0,none⟩) r.counts.length cq,.slice ea r.evs.length ec,.bool r.blocked] 47 (0,0)):=hst _ (Reg.at_stand 1 rfl) (by kernel_rfl);exact Reg.step_val rfl rfl rfl (Reg.run_load t5 (load_run hrb)) rfl hs.below (fun e=>Reg.Keeps.refl e _)
      ·obtain⟨v,hv,rfl⟩:∃ v,a.tmps[63]? = some v/\v=.agg #[.slice (some ⟨q,0,none⟩) r.counts.length cq,.slice ea r.evs.length ec,.bool r.blocked]:=hg' _ (Reg.at_fact 5 rfl) (by kernel_rfl) (by simp[Reg.okTil])
       exact Reg.step_val rfl rfl rfl (Reg.run_build (Reg.eval_tmp hv) (build_run w1 _ _ _ _ _ _ _)) ⟨_,rfl,heap_new rfl⟩ (below_alloc0 hs.below) (fun e=>Reg.Keeps.alloc e _ _)
      ·obtain⟨v1,hv1,rfl⟩:∃ v,a.tmps[62]? = some v/\v=gv:=hg' _ (Reg.at_fact 4 rfl) (by kernel_rfl) (by simp[Reg.okTil])
       obtain⟨v2,hv2,g,rfl,hh⟩:∃ v,a.tmps[64]? = some v/\∃ g,v=.slice (some ⟨g,0,none⟩) 1 1/\w1.heap[g]? = some (.cells #[.slice (some ⟨q,0,none⟩) r.counts.length cq,.slice ea r.evs.length ec,.bool r.blocked] 47 (0,0)):=hg' _ (Reg.at_fact 6 rfl) (by kernel_rfl) (by simp[Reg.okTil])
       have hown:w1.ownsRow Bw 47 3 v1 n gc:=hst _ (Reg.at_stand 4 rfl) (by simp[Reg.okTil]);exact Reg.step_append rfl rfl rfl rfl hs.below Tryz.underlying41 hj hy0 hy1 hy2 rfl (by decide) hv1 (by rw[hgw];exact hown) hv2 (news:=[.slice (some ⟨q,0,none⟩) r.counts.length cq,.slice ea r.evs.length ec,.bool r.blocked]) rfl (fun j u hu=>World.news_of_block hh j u (by simpa using hu)) (by intro u hu;simp only[List.mem_cons,List.not_mem_nil,or_false]at hu;rcases hu with rfl|rfl|rfl<;>rfl) (by decide) (by unfold maxLen;omega) (by omega) (fun v' w' h=>by rw[hgw]at h;exact h)
      ·obtain⟨v,hv,rfl⟩:∃ v,a.tmps[58]? = some v/\v=.pointer (some ⟨X,0,none⟩):=hg' _ (Reg.at_fact 0 rfl) (by kernel_rfl) (by simp[Reg.okTil])
       exact Reg.step_val rfl rfl rfl (run_nil (Reg.eval_tmp hv)) rfl hs.below (fun e=>Reg.Keeps.refl e _)
      ·obtain⟨v,hv,rfl⟩:∃ v,a.tmps[66]? = some v/\v=.pointer (some ⟨X,0,none⟩):=hg' _ (Reg.at_fact 8 rfl) (by kernel_rfl) (by simp[Reg.okTil])
       exact Reg.step_val rfl rfl rfl (Ord.run_fld (Reg.eval_tmp hv) (fld_res2 w1 _)) rfl hs.below (fun e=>Reg.Keeps.refl e _)
     ·intro vals w1 hF hst hb1;have o8:w1.ownsRow Bw 47 3 (vals 65) (n+1) (gc++[.slice (some ⟨q,0,none⟩) r.counts.length cq,.slice ea r.evs.length ec,.bool r.blocked]):=hF _ (Reg.at_fact 7 rfl) (show(10+1:Nat)<=99 by decide);have e45:vals 67=.pointer (some ⟨X,4,none⟩):=hF _ (Reg.at_fact 9 rfl) (show(10+1:Nat)<=99 by decide);have hxr:w1.heap[X]? = some (.cells #[.bool k,c0,e0,.bool bl,gv,dv'] 49 (0,0)):=hst _ (Reg.at_stand 0 rfl) (show(10+1:Nat)<=99 by decide);have hpb:w1.heap[W.heap.size]? = some (.cells #[.slice (some ⟨b,o,none⟩) p.steps.length pc,.int .i64 p.within] 25 (0,0)):=hst _ (Reg.at_stand 2 rfl) (show(10+1:Nat)<=99 by decide);obtain⟨hk1,hk2,hor⟩:Reg.Keeps 3 wc w1/\Reg.Keeps 44 wc w1/\w1.ownsRow Bw 9 1 dv' dl.length (dl.map strV):=hst _ (Reg.at_stand 3 rfl) (show(10+1:Nat)<=99 by decide)
      have hsz:=heap_lt hpb;have hset:=BelX.set (Bw:=Bw) (i:=4) (u:=vals 65) hxr;have HB1:=Hyd (show BelX Bw X W w1 from⟨hb1.os.trans HBX.out.os,hb1.tape.trans HBX.out.tape,hb1.output.trans HBX.out.output,by omega,fun k hk hx=>((hb1.block k (by rw[hgw];exact hk)).trans ((Reg.trunc_below hBwa).block k (by rw[hgw];exact hk)).symm).trans (HBX.out.blk k hk hx),HBX.out.ki.trans hk1,HBX.out.ke.trans hk2⟩);have HS:=Hyd hset;have HO8:=Hyd o8;have HXR:=Hyd hxr;have HOR:=Hyd hor;have f5:w1.frozen? ⟨X,4,none⟩=false:=frozen_of_row w1 _ 4 _ _ hxr;have c5:w1.cell? ⟨X,4,none⟩=some gv:=(CeH hxr 4).trans rfl
      simp only[List.map_cons,List.map_nil,e45]
      obtain⟨nd,hnd⟩:∃ nd,vals 65=nd:=⟨_,rfl⟩
      rw[hnd]at HO8 HS ⊢;obtain⟨A8,k8,rfl⟩:=(Sl.of_own HO8.out).shape;generalize vals 58=q58;generalize vals 59=q59;generalize vals 60=q60;generalize vals 61=q61;generalize vals 62=q62;generalize vals 63=q63;generalize vals 64=q64;generalize vals 66=q66;clear hF hst o8 e45 hxr hpb hk1 hk2 hor hnd hb1 hsz hset;(iterate 11 unfold Reg.puts);go_wp2_with fail;go_end0;refine⟨rfl,HB1.out.trans HS.out,.slice A8 (n+1) k8,dv', ?_⟩;rw[<-HNL.out,<-HGL.out,HV.out];exact⟨heap_setCell_same w1 X 4 _ _ (.slice A8 (n+1) k8) HXR.out,own_set HO8.out HXR.out (by decide) _ _,own_set HOR.out HXR.out (by decide) _ _⟩
end Go.Proofs.YtcojnojdgigmdaaGreatDoor.WR
/- The walk of run.Start: what begins with an event. -/
namespace Go.Proofs.YtcojnojdgigmdaaGreatDoor.WR
open Go Go.RowKit Go.Sort PL PR Mem WS
def encR (g:Value×Value×RRun):List Value:=[g.1,g.2.1,.bool g.2.2.blocked]
def OwnR (base:Nat) (w:World) (g:Value×Value×RRun):Prop:=w.ownsRow base 3 1 g.1 g.2.2.counts.length (cntV g.2.2.counts)/\w.ownsRow base 44 4 g.2.1 g.2.2.evs.length (cellsOf encE g.2.2.evs)
theorem OwnR.keeps {base:Nat} {w w':World} {g:Value×Value×RRun} (h:OwnR base w g) (h1:Reg.Keeps 3 w w') (h2:Reg.Keeps 44 w w'):OwnR base w' g:=⟨h1.1 _ _ _ _ _ h.1,h2.1 _ _ _ _ _ h.2⟩
theorem OwnR.below {base:Nat} {w w':World} {g:Value×Value×RRun} (h:OwnR base w g) (hb:Below w.heap.size w w'):OwnR base w' g:=⟨own_below h.1 hb,own_below h.2 hb⟩
theorem OwnR.none (base:Nat) (w:World):OwnR base w (.slice none 0 0,.slice none 0 0,noRun):=⟨World.ownsRow_nil _ _ _ _,World.ownsRow_nil _ _ _ _⟩
theorem OwnR.le {base base':Nat} {w:World} {g:Value×Value×RRun} (h:OwnR base w g) (hb:base'<=base):OwnR base' w g:=⟨Joins.ownsRow_le h.1 hb,Joins.ownsRow_le h.2 hb⟩
def ResAt (base:Nat) (w:World) (v:Value) (x:RRes):Prop:=∃ c0 e0 gv dv gs,v=.agg #[.bool x.keep,c0,e0,.bool x.run.blocked,gv,dv]/\OwnR base w (c0,e0,x.run)/\gs.map (·.2.2)=x.grown/\w.ownsRow base 47 3 gv gs.length (cellsOf encR gs)/\(∀ g∈gs,OwnR base w g) /\
 w.ownsRow base 9 1 dv x.done.length (x.done.map strV)
theorem ResAt.none (base:Nat) (w:World):ResAt base w (.agg #[.bool false,.slice none 0 0,.slice none 0 0,.bool false,.slice none 0 0,.slice none 0 0]) noRes :=
 ⟨_,_,_,_,[],rfl,OwnR.none _ _,rfl,World.ownsRow_nil _ _ _ _,fun _ h=>(by cases h),World.ownsRow_nil _ _ _ _⟩
theorem res_start {w:World} {B:Nat} {c0 c1 c2 c3 c4 c5:Value} {tmps:Array Value} (h2:tmps[4]? = some (.pointer (some ⟨B,0,none⟩)))
  (e0:w.cell? ⟨B,0,none⟩=some c0) (e1:w.cell? ⟨B,1,none⟩=some c1) (e2:w.cell? ⟨B,2,none⟩=some c2) (e3:w.cell? ⟨B,3,none⟩=some c3) (e4:w.cell? ⟨B,4,none⟩=some c4) (e5:w.cell? ⟨B,5,none⟩=some c5) :
  (results Tryz.f17 tmps).run Tryz.prog w=.ok (.agg #[c0,c1,c2,c3,c4,c5]) w:=by
 simp[results,Tryz.results17,go_sem,h2,e0,e1,e2,e3,e4,e5]
theorem RunAt.zero (w:World) (B:Nat):RunAt w B (.agg #[.slice none 0 0,.slice none 0 0,.bool false]) noRun:=⟨_,_,rfl,Sl.nil_ _ _ _,Sl.nil_ _ _ _⟩
theorem WfR.none:WfR noRun:=⟨rfl,by decide,by decide⟩
theorem Lit.nil:Lit (.slice none 0 0):=by
 intro ad n c h
 injection h with h
 exact .inl h.symm
theorem load_plan {w:World} {g:Nat} {c0 c1:Value} (h:w.heap[g]? = some (.cells #[c0,c1] 25 (0,0))) :
  (Instr.loadAt 25 (.pointer (some ⟨g,0,none⟩))).run Tryz.prog w=.ok (.agg #[c0,c1]) w:=by
 have e0:w.cell? ⟨g,0,none⟩=some c0:=(CeH h 0).trans rfl;have e1:w.cell? ⟨g,1,none⟩=some c1:=(CeH h 1).trans rfl
 go_simp
theorem set_self {w:World} {g i:Nat} {cs:Array Value} {t:TypeId} {v:Value} (hg:w.heap[g]? = some (.cells cs t (0,0))) (hv:cs[i]? = some v):w.setCell ⟨g,i,none⟩ v=w:=by
 have hh:(w.setCell ⟨g,i,none⟩ v).heap=w.heap:=by
  apply Array.ext_getElem?
  intro k
  by_cases hk:k=g
  ·subst hk;rw[heap_setCell_same w k i cs t v hg,hg]
   have:cs.setIfInBounds i v=cs:=by
    apply Array.ext_getElem?
    intro j;rw[Array.getElem?_setIfInBounds]
    by_cases hij:i=j
    ·subst hij;have hlt:=(Array.getElem?_eq_some_iff.1 hv).1;rw[if_pos rfl,if_pos hlt,hv]
    ·rw[if_neg hij]
   rw[this]
  ·exact heap_setCell_other w ⟨g,i,none⟩ k v hk
 have h2:w.setCell ⟨g,i,none⟩ v={ w with heap:=(w.setCell ⟨g,i,none⟩ v).heap }:=rfl;rw[h2,hh]
theorem resave {w:World} {g:Nat} {a0 a1 a2 a3 a4 a5:Value} {t:TypeId} (h:w.heap[g]? = some (.cells #[a0,a1,a2,a3,a4,a5] t (0,0))) :
  (((((w.setCell ⟨g,0,none⟩ a0).setCell ⟨g,1,none⟩ a1).setCell ⟨g,2,none⟩ a2).setCell ⟨g,3,none⟩ a3).setCell ⟨g,4,none⟩ a4).setCell ⟨g,5,none⟩ a5=w:=by
 rw[set_self (v:=a0) h rfl,set_self (v:=a1) h rfl,set_self (v:=a2) h rfl,set_self (v:=a3) h rfl,set_self (v:=a4) h rfl,set_self (v:=a5) h rfl]
def fit0 (l:List RPos) (e:Ev):Bool:=match l with
 | []=>false
 | s :: _=>fitsS s noRun 0 e
theorem fit0_pos (l:List RPos) (e:Ev) (h:0<l.length):fit0 l e=fitsS (l[0]'h) noRun 0 e:=by
 cases l with
 | nil=>cases h
 | cons s l=>rfl
theorem startR_eq (p:RPlan) (e:Ev):startR p e=if fit0 p.steps e then addR p noRes (withR noRun 0 e) else noRes:=by
 unfold startR fit0
 cases p.steps<;>rfl
theorem sum_set:∀ (l:List Nat) (k:Nat),k<l.length->(l.set k (l.getD k 0+1)).sum=l.sum+1:=by
 intro l
 induction l with
 | nil=>intro k h;cases h
 | cons x l ih =>
  intro k h
  cases k with
  | zero=>simp;omega
  | succ k =>
   have:=ih k (by simpa using h)
   simp only[List.getD_cons_succ,List.set_cons_succ,List.sum_cons]
   omega
theorem WfR.withR {r:RRun} {step:Nat} {e:Ev} (h:WfR r) (hst:step<=r.counts.length) (h1:r.evs.length<1000000) (h2:r.counts.length<1000000):WfR (withR r step e):=by
 refine⟨?_, ?_, ?_⟩
 ·show(List.set _ step _).sum=(r.evs++[e]).length
  rw[sum_set _ _ (by split<;>(try simp)<;>omega)];have:=h.sum
  split<;>(try simp)<;>omega
 ·show(r.evs++[e]).length<=_
  simp;omega
 ·show(List.set _ step _).length<=_
  rw[List.length_set]
  split<;>(try simp)<;>omega
theorem PlnAt.keep {w w':World} {B:Nat} {v:Value} {ps:List RPos} (h:PlnAt w B v ps) (hk:∀ p:Addr,p.block<B->w'.cell? p=w.cell? p):PlnAt w' B v ps:=by
 obtain⟨ad,c,e,hr⟩:=h;refine⟨ad,c,e,fun i hi=>?_⟩;obtain⟨b,o,e1,hb,h0,h1,h2,⟨vt,h3,h4⟩,vb,h5,h6⟩:=hr i hi;refine⟨b,o,e1,hb,(hk ⟨b,_,none⟩ hb).trans h0,(hk ⟨b,_,none⟩ hb).trans h1,(hk ⟨b,_,none⟩ hb).trans h2,⟨vt,(hk ⟨b,_,none⟩ hb).trans h3,Sl.keep h4 hk⟩,vb,(hk ⟨b,_,none⟩ hb).trans h5, ?_⟩;obtain⟨ad,c,e,hr⟩:=h6;refine⟨ad,c,e,fun i hi=>?_⟩;obtain⟨b,o,e1,hb,h1,vt,h2,h3⟩:=hr i hi;exact⟨b,o,e1,hb,(hk ⟨b,_,none⟩ hb).trans h1,vt,(hk ⟨b,_,none⟩ hb).trans h2,Sl.keep h3 hk⟩
theorem PlnAt.more {w:World} {B B':Nat} {v:Value} {ps:List RPos} (h:PlnAt w B v ps) (hB:B<=B'):PlnAt w B' v ps:=by
 obtain⟨ad,c,e,hr⟩:=h;refine⟨ad,c,e,fun i hi=>?_⟩;obtain⟨b,o,e1,hb,h0,h1,h2,⟨vt,h3,h4⟩,vb,h5,h6⟩:=hr i hi;refine⟨b,o,e1,by omega,h0,h1,h2,⟨vt,h3,Sl.more h4 hB⟩,vb,h5, ?_⟩;obtain⟨ad,c,e,hr⟩:=h6;refine⟨ad,c,e,fun i hi=>?_⟩;obtain⟨b,o,e1,hb,h1,vt,h2,h3⟩:=hr i hi;exact⟨b,o,e1,by omega,h1,vt,h2,Sl.more h3 hB⟩
theorem start_any (p:RPlan) (vs:Value) (e:Ev) (B:Nat) (W:World) (hp:OkP p) (hpl:PlnAt W B vs p.steps) (hB:B<=W.heap.size) (he:Sm e.val) (hid:-9223372036854775808<=e.id/\e.id<=9223372036854775807) (ht:Tab W) (hg:0 < W.heap.size) :
  Calls Tryz.prog 17 #[.agg #[vs,.int .i64 p.within],evV e] W fun en w'=>∃ v,en=.returned v/\ResAt W.heap.size w' v (startR p e)/\Below W.heap.size W w':=by
 have HPL:=Hyd hpl;obtain⟨pa,pc,rfl,_⟩:=hpl
 obtain⟨wa,hwa⟩:∃ wa,wa=((W.alloc (.cells #[.slice pa p.steps.length pc,.int .i64 p.within] 25)).alloc (.cells #[.int .i64 e.id,.int .i64 e.time,.int .u8 e.kind,.int .i64 e.val] 44)).alloc (.cells #[.bool false,.slice none 0 0,.slice none 0 0,.bool false,.slice none 0 0,.slice none 0 0] 49):=⟨_,rfl⟩
 have hgr:Grw W wa:=by rw[hwa];exact(((Grw.refl _).alloc _).alloc _).alloc _
 have XP:=Hyd (show wa.heap[W.heap.size]? = some (.cells #[.slice pa p.steps.length pc,.int .i64 p.within] 25 (0,0)) by rw[hwa];exact heap_alloc (heap_alloc (heap_new rfl)));have XE:=Hyd (show wa.heap[W.heap.size+1]? = some (.cells #[.int .i64 e.id,.int .i64 e.time,.int .u8 e.kind,.int .i64 e.val] 44 (0,0)) by rw[hwa];exact heap_alloc (heap_new (by simp)));have XZ:=Hyd (show wa.heap[W.heap.size+2]? = some (.cells #[.bool false,.slice none 0 0,.slice none 0 0,.bool false,.slice none 0 0,.slice none 0 0] 49 (0,0)) by rw[hwa];exact heap_new (by simp))
 have hza:wa.heap.size=W.heap.size+3:=by rw[hwa];simp
 have HZA:=Hyd hza;have HGR:=Hyd hgr;have HWA:=Hyd hwa;have hps:p.steps.length<=1000000:=hp.few;have HT:=Hyd ht;clear hgr hza ht
 go_enter Tryz.func17,Tryz.ntmps17
 go_upto_region 1 with (fail)
 rw[<-hwa];have HWA2:=Hyd hwa;clear hwa;have p0:wa.cell? ⟨W.heap.size,0,none⟩=some (.slice pa p.steps.length pc):=(CeH XP.out 0).trans rfl;have p1:wa.cell? ⟨W.heap.size,1,none⟩=some (.int .i64 p.within):=(CeH XP.out 1).trans rfl;have q0:wa.cell? ⟨W.heap.size+1,0,none⟩=some (.int .i64 e.id):=(CeH XE.out 0).trans rfl;have q1:wa.cell? ⟨W.heap.size+1,1,none⟩=some (.int .i64 e.time):=(CeH XE.out 1).trans rfl;have q2:wa.cell? ⟨W.heap.size+1,2,none⟩=some (.int .u8 e.kind):=(CeH XE.out 2).trans rfl;have q3:wa.cell? ⟨W.heap.size+1,3,none⟩=some (.int .i64 e.val):=(CeH XE.out 3).trans rfl
 obtain⟨F,hF⟩:∃ F:Bool,fit0 p.steps e=F:=⟨_,rfl⟩
 have HFQ:=Hyd hF
 have HST:=Hyd (show startR p e=if F then addR p noRes (withR noRun 0 e) else noRes by
  rw[<-hF];exact startR_eq p e)
 go_cut [14] (fun s14 wx=>s14=.bool F/\Grw wa wx)
 case first =>
  by_cases hn:p.steps.length=0
  ·have h0:p.steps=[]:=List.eq_nil_of_length_eq_zero hn;have HFv:=Hyd (show F=false by rw[<-hF,h0];rfl);clear h0 hF
   have hn0:¬ (0:Int)<(p.steps.length:Int):=by omega
   have HN:=Hyd hn;clear hn;go_wp2_with fail;go_meet;exact⟨by rw[HFv.out],Grw.refl _⟩
  ·have hn0:(0:Int)<(p.steps.length:Int):=by omega
   have hn1:0<p.steps.length:=by omega
   have HFv:=Hyd (show F=fitsS (p.steps[0]'hn1) noRun 0 e by
    rw[<-hF];exact fit0_pos _ _ hn1)
   have HFT:=Hyd (fits_any p (.slice pa p.steps.length pc) (.agg #[.slice none 0 0,.slice none 0 0,.bool false]) noRun 0 B e wa hp (HPL.out.grw hB HGR.out) hn1 (RunAt.zero _ _) (Nat.le_trans hB HGR.out.size) WfR.none he (by intro y hy;cases hy));clear hF;rw[<-HFv.out]at HFT;go_wp2_with fail;refine HFT.out.mono ?_;rintro en w1 ⟨rfl,hg1⟩;have HG1:=Hyd hg1;clear hg1;go_wp2_with fail;go_meet;exact⟨rfl,HG1.out⟩
 case rest =>
  obtain⟨rfl,hgx⟩:=hcut;have HGX:=Hyd hgx
  have hl0:W.heap.size<wa.heap.size:=by have:=HZA.out;omega
  have hl1:W.heap.size+1<wa.heap.size:=by have:=HZA.out;omega
  have hl2:W.heap.size+2<wa.heap.size:=by have:=HZA.out;omega
  have YP:=Hyd ((hgx.below.block _ hl0).trans XP.out);have YE:=Hyd ((hgx.below.block _ hl1).trans XE.out);have YZ:=Hyd ((hgx.below.block _ hl2).trans XZ.out);have hzc:=hgx.size;clear hgx p0 p1 q0 q1 q2 q3 hF
  go_upto_if 14 with (fail)
  cases hFv:F with
  | false =>
   have HV:=Hyd hFv;clear hFv;have z0:wc.cell? ⟨W.heap.size+2,0,none⟩=some (.bool false):=(CeH YZ.out 0).trans rfl;have z1:wc.cell? ⟨W.heap.size+2,1,none⟩=some (.slice none 0 0):=(CeH YZ.out 1).trans rfl;have z2:wc.cell? ⟨W.heap.size+2,2,none⟩=some (.slice none 0 0):=(CeH YZ.out 2).trans rfl;have z3:wc.cell? ⟨W.heap.size+2,3,none⟩=some (.bool false):=(CeH YZ.out 3).trans rfl;have z4:wc.cell? ⟨W.heap.size+2,4,none⟩=some (.slice none 0 0):=(CeH YZ.out 4).trans rfl;have z5:wc.cell? ⟨W.heap.size+2,5,none⟩=some (.slice none 0 0):=(CeH YZ.out 5).trans rfl;have f0:=frozen_of_row wc _ 0 _ _ YZ.out;have f1:=frozen_of_row wc _ 1 _ _ YZ.out;have f2:=frozen_of_row wc _ 2 _ _ YZ.out;have f3:=frozen_of_row wc _ 3 _ _ YZ.out
   have f4:=frozen_of_row wc _ 4 _ _ YZ.out;have f5:=frozen_of_row wc _ 5 _ _ YZ.out;go_wp2_with fail;have e2:W.heap.size+1+1=W.heap.size+2:=rfl;rw[e2,resave YZ.out];refine bodyPost_ret (res_start rfl z0 z1 z2 z3 z4 z5) rfl ⟨_,rfl, ?_,HGR.out.below.trans (HGX.out.below.mono HGR.out.size)⟩;rw[HST.out,HV.out];exact ResAt.none _ _
  | true =>
   have HV:=Hyd hFv;clear hFv;go_wp2_with fail;have hrun:RunAt wc 0 (.agg #[.slice none 0 0,.slice none 0 0,.bool noRun.blocked]) noRun:=RunAt.zero _ _
   refine Reg.stand_order (W:=wc) (h:=4) (t:=1)
    [⟨0,15,[],99,[],none,fun v _=>v=.agg #[.slice pa p.steps.length pc,.int .i64 p.within]⟩,
     ⟨1,16,[],99,[],none,fun v _=>v=.agg #[.slice none 0 0,.slice none 0 0,.bool false]⟩,
     ⟨2,17,[],99,[],none,fun v _=>v=evV e⟩,
     ⟨3,18,[3,44],99,[],none,fun v w'=>RunOwn wc.heap.size w' v (withR noRun 0 e)⟩]
    []
    (by kernel_rfl) rfl (by kernel_rfl) (by kernel_rfl) (by kernel_rfl) (show [0,1,2,3].Nodup by decide) (show ∀ i,i<4->i∈[0,1,2,3] by decide) ?_ (show [15,16,17,18].Nodup by decide) (show ∀ s∈[15,16,17,18],s<21 by decide) (by kernel_rfl) ?_ ?_ (Below.refl _ _) ?_ ?_ ?_
   ·intro f hf
    simp only[List.mem_cons,List.not_mem_nil,or_false]at hf
    rcases hf with rfl|rfl|rfl|rfl<;>simp
   ·intro f hf v w1 w2 hk hF
    simp only[List.mem_cons,List.not_mem_nil,or_false]at hf
    rcases hf with rfl|rfl|rfl|rfl
    ·exact hF
    ·exact hF
    ·exact hF
    ·obtain⟨cv,ev,e1,h1,h2⟩:=hF;exact⟨cv,ev,e1,(hk 3 (by simp)).1 _ _ _ _ _ h1,(hk 44 (by simp)).1 _ _ _ _ _ h2⟩
   ·intro f hf;cases hf
   ·intro f hf;cases hf
   ·intro f hf a w1 hs hg' _;have hxp:w1.heap[W.heap.size]? = _:=(hs.below.block _ (by omega)).trans YP.out;have hxe:w1.heap[W.heap.size+1]? = _:=(hs.below.block _ (by omega)).trans YE.out;have t2:a.eval (.tmp 2)=.pointer (some ⟨W.heap.size,0,none⟩):=Reg.eval_tmp ((hs.out 2 (show 2∉[15,16,17,18] by decide)).trans rfl);have t3:a.eval (.tmp 3)=.pointer (some ⟨W.heap.size+1,0,none⟩):=Reg.eval_tmp ((hs.out 3 (show 3∉[15,16,17,18] by decide)).trans rfl)
    simp only[List.mem_cons,List.not_mem_nil,or_false]at hf
    rcases hf with rfl|rfl|rfl|rfl
    ·exact Reg.step_val rfl rfl rfl (Reg.run_load t2 (load_plan hxp)) rfl hs.below (fun e=>Reg.Keeps.refl e _)
    ·exact Reg.step_val rfl rfl rfl (by go_simp) rfl hs.below (fun e=>Reg.Keeps.refl e _)
    ·exact Reg.step_val rfl rfl rfl (Reg.run_load t3 (load_ev hxe)) rfl hs.below (fun e=>Reg.Keeps.refl e _)
    ·obtain⟨v1,hv1,rfl⟩:∃ v,a.tmps[16]? = some v/\v=.agg #[.slice none 0 0,.slice none 0 0,.bool false]:=hg' _ (Reg.at_fact 1 rfl) (by kernel_rfl) (by simp[Reg.okTil])
     obtain⟨v2,hv2,rfl⟩:∃ v,a.tmps[17]? = some v/\v=evV e:=hg' _ (Reg.at_fact 2 rfl) (by kernel_rfl) (by simp[Reg.okTil])
     have u1:=Reg.eval_tmp hv1;have u2:=Reg.eval_tmp hv2;refine Reg.step_call (f:=37) (args:=#[.agg #[.slice none 0 0,.slice none 0 0,.bool false],.int .i64 0,evV e]) rfl rfl rfl (by go_simp) hs.below ((with_any (.slice none 0 0) (.slice none 0 0) noRun 0 0 e w1 (RunAt.zero _ _) (Nat.zero_le _) Lit.nil Lit.nil WfR.none (Nat.zero_le _)).mono ?_);rintro en w2 ⟨v',rfl,ho,hb⟩;refine⟨v',rfl, ?_,hb⟩;obtain⟨cv,ev,e1,h1,h2⟩:=ho;exact⟨cv,ev,e1,Joins.ownsRow_le h1 hs.below.size,Joins.ownsRow_le h2 hs.below.size⟩
   ·intro vals w1 hF hfx hb1;have e15:vals 15=.agg #[.slice pa p.steps.length pc,.int .i64 p.within]:=hF _ (Reg.at_fact 0 rfl) (show(4+1:Nat)<=99 by decide);obtain⟨cv,ev,e18,ho1,ho2⟩:RunOwn wc.heap.size w1 (vals 18) (withR noRun 0 e):=hF _ (Reg.at_fact 3 rfl) (show(4+1:Nat)<=99 by decide)
    simp only[List.map_cons,List.map_nil,e15,e18]
    have hpos:0<p.steps.length:=by
     rcases Nat.eq_zero_or_pos p.steps.length with h | h
     ·have h0:=List.eq_nil_of_length_eq_zero h;have:=HFQ.out;rw[h0,HV.out]at this
      cases this
     ·exact h
    have ho3:w1.ownsRow wc.heap.size 3 1 cv (withR noRun 0 e).counts.length (cntV (withR noRun 0 e).counts):=ho1;have hzw:=HZA.out;have hxz:w1.heap[W.heap.size+2]? = _:=(hb1.block _ (by omega)).trans YZ.out;have hbw:Below W.heap.size W w1:=(HGR.out.below.trans (HGX.out.below.mono HGR.out.size)).trans (hb1.mono (by omega))
    have HAD:=Hyd (add_any p (.slice pa p.steps.length pc) cv ev (withR noRun 0 e) B W.heap.size wc.heap.size (W.heap.size+2) false false (.slice none 0 0) (.slice none 0 0) (.slice none 0 0) (.slice none 0 0) 0 [] [] w1 hp
     (HPL.out.keep fun q hq=>hbw.cell (Nat.lt_of_lt_of_le hq hB)) hB hbw.size (by have:=hb1.size;omega) (by omega) ho1 ho2 (WfR.none.withR (Nat.zero_le _) (by decide) (by decide)) (by
      intro y hy
      have:y=e:=by simpa [withR,noRun] using hy
      rw[this];exact hid) (show(0:Nat)<1 by decide) hpos (Tab.of_eq HT.out (hbw.block _ hg)) hg (by omega) ⟨hxz,World.ownsRow_nil _ _ _ _,World.ownsRow_nil _ _ _ _⟩ (by decide) (by decide))
    have HO:=Hyd (show OwnR wc.heap.size w1 (cv,ev,withR noRun 0 e) from⟨ho1,ho2⟩);have HBW:=Hyd hbw;generalize vals 16=q16;generalize vals 17=q17;have hblk:(withR noRun 0 e).blocked=false:=rfl;rw[hblk]at HAD ⊢;obtain⟨cA,cK,rfl⟩:=(Sl.of_own ho1).shape;obtain⟨eA,eK,rfl⟩:=(Sl.of_own ho2).shape
    obtain⟨r1,hr1⟩:∃ r1,withR noRun 0 e=r1:=⟨_,rfl⟩
    rw[hr1]at HAD HO HST ⊢;have HB1:=Hyd hb1;have HR1:=Hyd hr1;have HBK:=Hyd (show r1.blocked=false by rw[<-hr1];rfl);clear hF hfx e15 e18 ho1 ho2 ho3 hxz hbw hb1 hr1 hblk hrun hzw;(iterate 5 unfold Reg.puts);go_wp2_with fail;refine HAD.out.mono ?_;rintro en w2 ⟨rfl,hbx,gv',dv',hat⟩;have HBX:=Hyd hbx
    obtain⟨gA,gn,gK,rfl⟩:∃ A n c,gv'=.slice A n c:=by
     obtain⟨A,c,h⟩:=(Sl.of_own hat.own1).shape;exact⟨A,_,c,h⟩
    obtain⟨dA,dn,dK,rfl⟩:∃ A n c,dv'=.slice A n c:=by
     obtain⟨A,c,h⟩:=(Sl.of_own hat.own2).shape;exact⟨A,_,c,h⟩
    have HAT:=Hyd hat;have z0:w2.cell? ⟨W.heap.size+2,0,none⟩=some (.bool false):=(CeH hat.blk 0).trans rfl;have z1:w2.cell? ⟨W.heap.size+2,1,none⟩=some (.slice none 0 0):=(CeH hat.blk 1).trans rfl;have z2:w2.cell? ⟨W.heap.size+2,2,none⟩=some (.slice none 0 0):=(CeH hat.blk 2).trans rfl;have z3:w2.cell? ⟨W.heap.size+2,3,none⟩=some (.bool false):=(CeH hat.blk 3).trans rfl;have z4:=(CeH hat.blk 4).trans rfl;have z5:=(CeH hat.blk 5).trans rfl;have f0:=frozen_of_row w2 _ 0 _ _ hat.blk;have f1:=frozen_of_row w2 _ 1 _ _ hat.blk;have f2:=frozen_of_row w2 _ 2 _ _ hat.blk;have f3:=frozen_of_row w2 _ 3 _ _ hat.blk;have f4:=frozen_of_row w2 _ 4 _ _ hat.blk;have f5:=frozen_of_row w2 _ 5 _ _ hat.blk;clear hbx hat;go_wp2_with fail;have e2:W.heap.size+1+1=W.heap.size+2:=rfl
    rw[e2,resave HAT.out.blk];refine bodyPost_ret (res_start rfl z0 z1 z2 z3 z4 z5) rfl ⟨_,rfl, ?_, ?_⟩
    ·rw[HST.out,HV.out];have hown:=HO.out.keeps HBX.out.ki HBX.out.ke
     have hle:W.heap.size<=wc.heap.size:=by have:=HZA.out;omega
     refine⟨_,_,_,_,if addGrown p r1 then [(.slice cA r1.counts.length cK,.slice eA r1.evs.length eK,r1)] else [],rfl,OwnR.none _ _, ?_, ?_, ?_, ?_⟩
     ·show _=[]++if addGrown p r1 then [r1] else []
      cases addGrown p r1<;>rfl
     ·have h:=HAT.out.own1
      cases hG:addGrown p r1 with
      | false=>rw[hG]at h;exact h
      | true =>
       rw[hG]at h;have hb:=HBK.out
       show World.ownsRow _ _ _ _ _ 1 [_,_,.bool r1.blocked]
       rw[hb];exact h
     ·intro g hgm
      cases hG:addGrown p r1 with
      | false=>rw[hG]at hgm;cases hgm
      | true =>
       rw[hG]at hgm
       simp only[if_true,List.mem_cons,List.not_mem_nil,or_false]at hgm
       rw[hgm];exact hown.le hle
     ·exact HAT.out.own2
    ·have h:=HBW.out;exact⟨HBX.out.os.trans h.os,HBX.out.tape.trans h.tape,HBX.out.output.trans h.output,Nat.le_trans h.size HBX.out.size,fun k hk=>(HBX.out.blk k hk (by omega)).trans (h.block k hk)⟩
end Go.Proofs.YtcojnojdgigmdaaGreatDoor.WR
/- Steps of Advance's last regions: addresses, loads, the two stores into the result. -/
namespace Go.Proofs.YtcojnojdgigmdaaGreatDoor.WR
open Go Go.RowKit Go.Sort PL PR Mem WS
theorem fld_plan0 (w:World) (g:Nat):(Instr.fieldAt 25 (.pointer (some ⟨g,0,none⟩)) 0).run Tryz.prog w=.ok (.pointer (some ⟨g,0,none⟩)) w:=by go_simp
theorem load_poss {w:World} {g j:Nat} {u:Value} (h:w.cell? ⟨g,j,none⟩=some u):(Instr.loadAt 23 (.pointer (some ⟨g,j,none⟩))).run Tryz.prog w=.ok u w:=by go_simp
theorem fld_run2 (w:World) (g:Nat):(Instr.fieldAt 47 (.pointer (some ⟨g,0,none⟩)) 2).run Tryz.prog w=.ok (.pointer (some ⟨g,2,none⟩)) w:=by go_simp
theorem fld_res0 (w:World) (g:Nat):(Instr.fieldAt 49 (.pointer (some ⟨g,0,none⟩)) 0).run Tryz.prog w=.ok (.pointer (some ⟨g,0,none⟩)) w:=by go_simp
theorem fld_res1 (w:World) (g:Nat):(Instr.fieldAt 49 (.pointer (some ⟨g,0,none⟩)) 1).run Tryz.prog w=.ok (.pointer (some ⟨g,1,none⟩)) w:=by go_simp
theorem load_nums {w:World} {g j:Nat} {u:Value} (h:w.cell? ⟨g,j,none⟩=some u):(Instr.loadAt 45 (.pointer (some ⟨g,j,none⟩))).run Tryz.prog w=.ok u w:=by go_simp
theorem load_bool {w:World} {g j:Nat} {u:Bool} (h:w.cell? ⟨g,j,none⟩=some (.bool u)):(Instr.loadAt 4 (.pointer (some ⟨g,j,none⟩))).run Tryz.prog w=.ok (.bool u) w:=by go_simp
theorem run_store_b {a:Act} {w:World} {x y:Operand} {g j:Nat} {b:Bool} {old:Value} {ty:TypeId} {pos:String} {af:Array Edge} (hx:a.eval x=.pointer (some ⟨g,j,none⟩)) (hy:a.eval y=.bool b) (hc:w.cell? ⟨g,j,none⟩=some old) (hf:w.frozen? ⟨g,j,none⟩=false) :
  (execOp a.eval { dst:=none,op:=.store 4 x y,type:=ty,pos:=pos,after:=af,guard:=none }).run Tryz.prog w=.ok .skip (w.setCell ⟨g,j,none⟩ (.bool b)):=by
 simp only[execOp,hx,hy]
 go_simp
theorem run_store_run {a:Act} {w:World} {x y:Operand} {g:Nat} {c0 c1 c2 c3 c4 c5:Value} {a1 a2:Option Addr} {n1 k1 n2 k2:Nat} {b:Bool} {ty:TypeId} {pos:String} {af:Array Edge} (hx:a.eval x=.pointer (some ⟨g,1,none⟩)) (hy:a.eval y=.agg #[.slice a1 n1 k1,.slice a2 n2 k2,.bool b])
  (h:w.heap[g]? = some (.cells #[c0,c1,c2,c3,c4,c5] 49 (0,0))) :
  (execOp a.eval { dst:=none,op:=.store 47 x y,type:=ty,pos:=pos,after:=af,guard:=none }).run Tryz.prog w=.ok .skip (((w.setCell ⟨g,1,none⟩ (.slice a1 n1 k1)).setCell ⟨g,2,none⟩ (.slice a2 n2 k2)).setCell ⟨g,3,none⟩ (.bool b)):=by
 have e1:w.cell? ⟨g,1,none⟩=some c1:=(CeH h 1).trans rfl;have e2:w.cell? ⟨g,2,none⟩=some c2:=(CeH h 2).trans rfl;have e3:w.cell? ⟨g,3,none⟩=some c3:=(CeH h 3).trans rfl;have f1:=frozen_of_row w _ 1 _ _ h;have f2:=frozen_of_row w _ 2 _ _ h;have f3:=frozen_of_row w _ 3 _ _ h
 simp only[execOp,hx,hy]
 go_simp
theorem blk_setc {w:World} {g:Nat} {cs:Array Value} {t:TypeId} (h:w.heap[g]? = some (.cells cs t (0,0))) (i:Nat) (v:Value):(w.setCell ⟨g,i,none⟩ v).heap[g]? = some (.cells (cs.setIfInBounds i v) t (0,0)):=heap_setCell_same w g i cs t v h
theorem run_build3 {a:Act} {w:World} {x y z:Operand} {a1 a2:Option Addr} {n1 k1 n2 k2:Nat} {b:Bool} {d:Option Tmp} {ty:TypeId} {pos:String} {af:Array Edge} (hx:a.eval x=.slice a1 n1 k1) (hy:a.eval y=.slice a2 n2 k2) (hz:a.eval z=.bool b) :
  (execOp a.eval { dst:=d,op:=.build 47 #[(0,x),(1,y),(2,z)],type:=ty,pos:=pos,after:=af,guard:=none }).run Tryz.prog w=.ok (.value (.agg #[.slice a1 n1 k1,.slice a2 n2 k2,.bool b])) w:=by
 simp only[execOp,Sem.run_bind]
 have e:Array.map (fun x=>(x.1,a.eval x.2)) #[(0,x),(1,y),(2,z)]=#[(0,.slice a1 n1 k1),(1,.slice a2 n2 k2),(2,.bool b)]:=by simp[hx,hy,hz]
 rw[e]
 go_simp
theorem BarAt.keep {w w':World} {B:Nat} {v:Value} {bs:List RBar} (h:BarAt w B v bs) (hk:∀ p:Addr,p.block<B->w'.cell? p=w.cell? p):BarAt w' B v bs:=by
 obtain⟨ad,c,e,hr⟩:=h;refine⟨ad,c,e,fun i hi=>?_⟩;obtain⟨b,o,e1,hb,h1,vt,h2,h3⟩:=hr i hi;exact⟨b,o,e1,hb,(hk ⟨b,_,none⟩ hb).trans h1,vt,(hk ⟨b,_,none⟩ hb).trans h2,Sl.keep h3 hk⟩
theorem BarAt.more {w:World} {B B':Nat} {v:Value} {bs:List RBar} (h:BarAt w B v bs) (hB:B<=B'):BarAt w B' v bs:=by
 obtain⟨ad,c,e,hr⟩:=h;refine⟨ad,c,e,fun i hi=>?_⟩;obtain⟨b,o,e1,hb,h1,vt,h2,h3⟩:=hr i hi;exact⟨b,o,e1,by omega,h1,vt,h2,Sl.more h3 hB⟩
end Go.Proofs.YtcojnojdgigmdaaGreatDoor.WR
