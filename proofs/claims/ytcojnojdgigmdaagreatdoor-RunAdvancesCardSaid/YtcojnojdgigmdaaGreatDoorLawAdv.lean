/- The walk of oxbowlaw21.RunAdvances: what begins with an event, and what becomes of each run with an event more, is the document's answer. -/
import Derived.Test.YtcojnojdgigmdaaGreatDoorB01
import Derived.Test.YtcojnojdgigmdaaGreatDoorLawZ
import Derived.Test.YtcojnojdgigmdaaGreatDoorWV21
import Derived.Test.YtcojnojdgigmdaaGreatDoorWSm
import Derived.Test.YtcojnojdgigmdaaGreatDoorWTw
set_option maxHeartbeats 12800000
set_option maxRecDepth 100000
namespace Go.Proofs.YtcojnojdgigmdaaGreatDoor.WAv
open Go Go.RowKit Go.Sort PL PR Mem WS WL WR
def DResO (base:Nat) (w:World) (v:Value) (x:RRes):Prop:=∃ c0 e0 gv dv gs,v=.agg #[.bool x.keep,c0,e0,.bool x.run.blocked,gv,dv]/\DOwnR base w (c0,e0,x.run)/\gs.map (·.2.2)=x.grown/\w.ownsRow base 53 3 gv gs.length (cellsOf encR gs)/\(∀ g∈gs,DOwnR base w g) /\
 w.ownsRow base 9 1 dv x.done.length (x.done.map strV)
theorem DResO.keeps {base:Nat} {w w':World} {v:Value} {x:RRes} (h:DResO base w v x) (h1:Reg.Keeps 3 w w') (h2:Reg.Keeps 59 w w') (h3:Reg.Keeps 53 w w') (h4:Reg.Keeps 9 w w'):DResO base w' v x:=by
 obtain⟨c0,e0,gv,dv,gs,e1,ho,hm,hg,he,hd⟩:=h;exact⟨c0,e0,gv,dv,gs,e1,ho.keeps h1 h2,hm,h3.1 _ _ _ _ _ hg,fun g hgm=>(he g hgm).keeps h1 h2,h4.1 _ _ _ _ _ hd⟩
theorem DResO.at_ {base:Nat} {w:World} {v:Value} {x:RRes} (h:DResO base w v x):DResAt 0 w v x:=by
 obtain⟨c0,e0,gv,dv,gs,e1,ho,hm,hg,he,hd⟩:=h;exact⟨c0,e0,gv,dv,gs,e1,⟨Sl.of_own ho.1,Sl.of_own ho.2,hm,Joins.ownsRow_le hg (Nat.zero_le _),fun g hgm=>(he g hgm).le (Nat.zero_le _),Joins.ownsRow_le hd (Nat.zero_le _)⟩⟩
theorem DResW.own {base b2:Nat} {w:World} {v cv ev:Value} {r:RRun} {x:RRes} (h:DResW base w v cv ev r x) (hr:DOwnR b2 w (cv,ev,r)):DResO 0 w v x:=by
 obtain⟨c0,e0,gv,dv,gs,e1,hd,hc⟩:=h;refine⟨c0,e0,gv,dv,gs,e1, ?_,hd.gm,Joins.ownsRow_le hd.o1 (Nat.zero_le _),fun g hgm=>(hd.el g hgm).le (Nat.zero_le _),Joins.ownsRow_le hd.o2 (Nat.zero_le _)⟩
 rcases hc with ⟨rfl,rfl,hx⟩ | ⟨rfl,rfl,h1,h2⟩
 ·rw[hx];exact⟨World.ownsRow_nil _ _ _ _,World.ownsRow_nil _ _ _ _⟩
 ·refine⟨?_, ?_⟩
  ·show World.ownsRow _ _ _ _ _ x.run.counts.length (cntV x.run.counts)
   rw[h1];exact Joins.ownsRow_le hr.1 (Nat.zero_le _)
  ·show World.ownsRow _ _ _ _ _ x.run.evs.length (cellsOf encE x.run.evs)
   rw[h2];exact Joins.ownsRow_le hr.2 (Nat.zero_le _)
def PEv (e:Ev):Prop:=OkEv e/\e.fits
structure RunG (p:RPlan) (k:Nat) (r:RRun):Prop where
 good:GoodR p PEv k r
 row:Rowed r
theorem RunG.more {p:RPlan} {k k':Nat} {r:RRun} (h:RunG p k r) (hk:k<=k'):RunG p k' r:=⟨h.good.more hk,h.row⟩
theorem RunG.put {p:RPlan} {k:Nat} {r:RRun} (h:RunG p k r) (hp:p.steps.length<=8) (hk:k<=19):PutOk r:=by
 have h1:=h.good.le;have h2:=h.good.few;refine⟨by omega,fun n hn=>?_,by omega,fun y hy=>(h.good.evs y hy).2⟩;obtain⟨i,hi,rfl⟩:=List.mem_iff_getElem.1 hn;have h3:=getD_le_sum r.counts i;rw[List.getD_eq_getElem?_getD,List.getElem?_eq_getElem hi,Option.getD_some,h.good.sum]at h3
 omega
theorem adv_g {p:RPlan} {k:Nat} {r:RRun} {e:Ev} (h:RunG p k r) (he:PEv e):(∀ g∈(advR p r e).grown,RunG p (k+1) g)/\(advR p r e).grown.length<=2/\(advR p r e).done.length<=2/\((advR p r e).keep=true->RunG p (k+1) (advR p r e).run):=by
 have h1:=advR_ok p PEv k r e h.good he;have h2:=rowed_adv (p:=p) h.row e;exact⟨fun g hg=>⟨h1.1.grown g hg,h2.1 g hg⟩,h1.1.few1,h1.1.few2,fun hk=>⟨(h1.2 hk).more (by omega),h2.2 hk⟩⟩
theorem adv_put {p:RPlan} {k:Nat} {r:RRun} {e:Ev} (h:RunG p k r) (he:PEv e) (hp:p.steps.length<=8) (hk:k<=18):PutOk (advR p r e).run/\∀ g∈(advR p r e).grown,PutOk g:=by
 obtain⟨h1,_,_,h2⟩:=adv_g h he;refine⟨?_,fun g hg=>(h1 g hg).put hp (by omega)⟩
 cases hkp:(advR p r e).keep with
 | true=>exact(h2 hkp).put hp (by omega)
 | false =>
  have hn:(advR p r e).run=noRun:=by
   unfold advR at hkp ⊢
   cases hN:r.counts.getLast? with
   | none=>rfl
   | some n =>
    rw[hN]at hkp
    simp only[]at hkp ⊢
    cases hS:p.steps[r.counts.length-1]? with
    | none=>rfl
    | some s =>
     rw[hS]at hkp
     simp only[]at hkp ⊢
     split at hkp
     ·rename_i hu
      rw[if_pos hu];rfl
     ·cases hkp
  rw[hn];exact⟨by decide,fun n h=>(by cases h),by decide,fun y h=>(by cases h)⟩
theorem start_g {p:RPlan} {e:Ev} (he:PEv e):(∀ g∈(startR p e).grown,RunG p 1 g)/\(startR p e).grown.length<=1/\(startR p e).done.length<=1:=by
 have h1:=startR_ok p PEv e he;exact⟨fun g hg=>⟨h1.1 g hg,rowed_start' g hg⟩,h1.2.1,h1.2.2⟩
theorem start_run {p:RPlan} {e:Ev}:(startR p e).run=noRun:=by
 unfold startR
 cases p.steps with
 | nil=>rfl
 | cons s l =>
  simp only[]
  split<;>rfl
structure AvI (W:World) (eb:Nat) (e:Ev) (vs:Value) (ls:List Ev) (vr:Value) (gs:List RG) (vn:Value) (ns:List RG) (wr:World):Prop where
 bel:Below W.heap.size W wr
 ev:wr.heap[eb]? = some (.cells #[.int .i64 e.id,.int .i64 e.time,.int .u8 e.kind,.int .i64 e.val] 44 (0,0))
 sl:wr.ownsRow W.heap.size 44 4 vs ls.length (cellsOf encE ls)
 r:RowR W.heap.size wr vr gs
 n:RowR W.heap.size wr vn ns
 rn:Reg.Apart vr vn
section
variable {W : World} {eb : Nat} {e : Ev} {vs : Value} {ls : List Ev} {vr : Value} {gs : List RG} {vn : Value} {ns : List RG} {wr w' : World}
theorem AvI.below (h:AvI W eb e vs ls vr gs vn ns wr) (hb:Below wr.heap.size wr w'):AvI W eb e vs ls vr gs vn ns w' :=
 ⟨h.bel.trans (hb.mono h.bel.size),(hb.block _ (heap_lt h.ev)).trans h.ev,own_below h.sl hb,h.r.below hb,h.n.below hb,h.rn⟩
theorem AvI.push {v':Value} {xs:List RG} {m:Nat} {zs:List Value} (h:AvI W eb e vs ls vr gs vn ns wr) (hx:∀ g∈xs,OwnR W.heap.size wr g) (hm:xs.length=m) (hz:zs=cellsOf encR xs) (ho:w'.ownsRow W.heap.size 47 3 v' (ns.length+m) (cellsOf encR ns++zs)) (hgr:wr.grownBy w' vn.ownBlock) (hv:v'.ownBlock=vn.ownBlock \/ v'.ownBlock=some wr.heap.size) :
  AvI W eb e vs ls vr gs v' (ns++xs) w':=by
 subst hm hz;have hi:Reg.Keeps 3 wr w':=Reg.Keeps.grown (by decide) h.n.own hgr;have he:Reg.Keeps 44 wr w':=Reg.Keeps.grown (by decide) h.n.own hgr;refine⟨below_grown h.bel h.n.own hgr h.bel.size (Nat.le_refl _),he.2 _ _ h.ev,he.1 _ _ _ _ _ h.sl,⟨Reg.own_apart h.r.own h.rn hgr,fun g hg=>(h.r.els g hg).keeps hi he⟩,⟨?_,fun g hg=>?_⟩,h.rn.grown h.r.own hv⟩
 ·rw[List.length_append,show cellsOf encR (ns++xs)=cellsOf encR ns++cellsOf encR xs by simp[cellsOf]];exact ho
 ·rcases List.mem_append.1 hg with hg | hg
  ·exact(h.n.els g hg).keeps hi he
  ·exact(hx g hg).keeps hi he
end
theorem RowR.cut {H:Nat} {w:World} {a:Option Addr} {c:Nat} {gs:List RG} (h:RowR H w (.slice a gs.length c) gs) (n:Nat) (hn:n<=gs.length):RowR H w (.slice a n c) (gs.take n):=by
 have hl:(gs.take n).length=n:=by rw[List.length_take];omega
 refine⟨?_,fun g hg=>h.els g (List.mem_of_mem_take hg)⟩;rw[hl];obtain⟨h1,h2⟩:=h.own;refine⟨by rw[cellsOf_length encR_len,hl], ?_⟩
 rcases h2 with ⟨e1,h0⟩ | ⟨g,cap,cur,e1,hg,hh,hc,hm,hs,hx⟩
 ·left
  injection e1 with e1 _ e2
  subst e1 e2
  have:n=0:=by omega
  subst this;exact⟨rfl,rfl⟩
 ·right
  injection e1 with e1 _ e2
  subst e1 e2;refine⟨g,_,cur,rfl,hg,hh,by omega,hm,hs, ?_⟩
  have e2:cellsOf encR (gs.take n)=(cellsOf encR gs).take (n * 3):=by
   have e3:cellsOf encR gs=cellsOf encR (gs.take n)++cellsOf encR (gs.drop n):=by
    unfold cellsOf;rw[<-List.flatMap_append,List.take_append_drop]
   rw[e3,List.take_append_of_le_length (l₁:=cellsOf encR (gs.take n)) (by rw[cellsOf_length encR_len,hl];exact Nat.le_refl _),List.take_of_length_le (l:=cellsOf encR (gs.take n)) (by rw[cellsOf_length encR_len,hl];exact Nat.le_refl _)]
  rw[e2,<-hx,List.take_take]
  congr 1
  omega
def AvO (W:World) (p:RPlan) (vs:Value) (ls:List Ev) (vr i:Value) (wr:World):Prop :=
 ∃ k:Nat,k<=ls.length/\i=.int .i64 (k:Nat)/\Below W.heap.size W wr/\wr.ownsRow W.heap.size 44 4 vs ls.length (cellsOf encE ls)/\∃ gs,RowR W.heap.size wr vr gs/\gs.length<=300/\∀ g∈gs,RunG p k g.2.2
def AvR (W:World) (p:RPlan) (k:Nat) (eb:Nat) (e:Ev) (vs:Value) (ls:List Ev) (vr:Value) (gs:List RG) (vn i:Value) (wr:World):Prop :=
 ∃ j:Nat,j<=gs.length/\i=.int .i64 (j:Nat)/\∃ ns,ns.length<=3 * j/\(∀ g∈ns,RunG p (k+1) g.2.2)/\AvI W eb e vs ls vr gs vn ns wr
theorem fits_ok (l:List Ev) (k:Nat) (hk:k<=1000):∀ e∈evsK l k,PEv e:=by
 intro e he;refine⟨evsK_ok l k hk e he, ?_⟩;obtain⟨i,hi,rfl⟩:=List.mem_map.1 he;have hik:=List.mem_range.1 hi;unfold Ev.fits evE;have h1:=nearI_in (l.getD i ⟨0,0,0,0⟩).time 60 (by omega);have h2:=nearI_in (l.getD i ⟨0,0,0,0⟩).val 9 (by omega)
 simp only[]
 omega
theorem plc_pos0 {ss:List GS} {cs:List GC} {wi:Int} (h:OKP ss cs wi):0<(plc ss ss.length).length:=by
 have h1:=(plc_ok h).len;rw[h1]
 show 0<(stepsOf (groups (unitl ss)) (testsAt ss cs)).length
 rw[stepsOf_len]
 rcases Nat.eq_zero_or_pos (groups (unitl ss)).length with h0 | h0
 ·exfalso
  have h2:=groups_flat_len ss;rw[List.length_eq_zero_iff.1 h0]at h2;have:=h.n1
  simp[flat]at h2
  omega
 ·exact h0
theorem RunAt.bel {w w':World} {v:Value} {r:RRun} (h:RunAt w w.heap.size v r) (hb:Below w.heap.size w w'):RunAt w' w'.heap.size v r:=by
 obtain⟨cv,ev,rfl,h1,h2⟩:=h;exact⟨cv,ev,rfl,(Sl.below h1 hb).more hb.size,(Sl.below h2 hb).more hb.size⟩
theorem load_p20 {w:World} {g:Nat} {a:Option Addr} {n c:Nat} {wi:Int} (h:w.heap[g]? = some (.cells #[.slice a n c,.int .i64 wi] 28 (0,0))):(Instr.loadAt 28 (.pointer (some ⟨g,0,none⟩))).run Tryz.prog w=.ok (.agg #[.slice a n c,.int .i64 wi]) w:=by
 have e0:w.cell? ⟨g,0,none⟩=some (.slice a n c):=(CeH h 0).trans rfl;have e1:w.cell? ⟨g,1,none⟩=some (.int .i64 wi):=(CeH h 1).trans rfl
 go_simp
theorem adv_law (s:ByteArray) (v:Value) (l:List Ev) (W:World) (hv:Evs W W.heap.size v l) (hf:∀ x∈l,x.fits) (ht:Tab W) (hg:0 < W.heap.size) :
  Calls Tryz.prog 4 #[.string s,v] W fun e w'=>e=.returned (.bool true)/\Below W.heap.size W w':=by
 obtain⟨A,c,rfl⟩:=Sl.shape hv
 have mixed:Tryz.prog.follows .mixedOrders=true:=by kernel_rfl
 have HP:=Hyd (planned_any s W);have HV:=Hyd hv;have HF:=Hyd hf;have HT:=Hyd ht;clear hv hf ht
 go_enter Tryz.func4,Tryz.ntmps4
 go_wp2_with fail;refine HP.out.mono ?_;rintro e w1 ⟨hb1,pa,qa,n0,pc,qn,qc,wi,wj,ok,rfl,hok⟩
 obtain⟨w2,hw2⟩:∃ w2,w2=(w1.alloc (.cells #[.slice pa n0 pc,.int .i64 wi] 25)).alloc (.cells #[.slice qa qn qc,.int .i64 wj] 28):=⟨_,rfl⟩
 have hb12:Below w1.heap.size w1 w2:=by rw[hw2];exact((Below.refl _ _).alloc (Nat.le_refl _) _).alloc (by simp) _
 have hbW2:Below W.heap.size W w2:=hb1.trans (hb12.mono hb1.size);have HB2:=Hyd (show w2.heap[w1.heap.size]? = some (.cells #[.slice pa n0 pc,.int .i64 wi] 25 (0,0)) by rw[hw2];exact heap_alloc (heap_new rfl));have HD2:=Hyd (show w2.heap[w1.heap.size+1]? = some (.cells #[.slice qa qn qc,.int .i64 wj] 28 (0,0)) by rw[hw2];exact heap_new (by simp))
 have hg2:0 < w2.heap.size:=by have:=hbW2.size;omega
 have HK2:=Hyd (wakes_any w2 (Tab.of_eq HT.out (hbW2.block _ hg)) hg2);have HBW2:=Hyd hbW2;have HB12:=Hyd hb12;have HW2:=Hyd hw2;have HOKK:=Hyd hok;have hz1:=hb1.size
 obtain⟨Q,hQ⟩:∃ Q,w1.heap.size=Q:=⟨_,rfl⟩
 rw[hQ]at HB2 HD2;have HQQ:=Hyd hQ;clear hb1 hb12 hbW2 hw2 hok hQ
 go_upto_region 2 with (fail)
 rw[<-HW2.out,HQQ.out];go_wp2_with fail;refine HK2.out.mono ?_;rintro e w3 ⟨rfl,hb3⟩;have HBW3:=Hyd (HBW2.out.trans (hb3.mono HBW2.out.size));have HB23:=Hyd hb3
 have hg3:0 < w3.heap.size:=by have:=hb3.size;omega
 have HK3:=Hyd (wakes_any w3 (Tab.of_eq HT.out (HBW3.out.block _ hg)) hg3);clear hb3
 cases ok with
 | false =>
  go_wp2_with fail;refine HK3.out.mono ?_;rintro e w4 ⟨rfl,hb4⟩;have HB4:=Hyd (HBW3.out.trans (hb4.mono HBW3.out.size));clear hb4;go_wp2_with fail;go_ret;exact⟨rfl,HB4.out⟩
 | true =>
  obtain⟨ss,cs,hokp,hwj,hn0,hpl,hdo⟩:=HOKK.out rfl;have HPL3:=Hyd (show PlnAt w3 w1.heap.size (.slice pa n0 pc) (planR ss cs wi).steps from PlnAt.keep (PlnAt.keep hpl fun a ha=>HB12.out.cell ha) fun a ha=>HB23.out.cell (Nat.lt_of_lt_of_le ha HB12.out.size))
  have hdo3:DocAt w3 W.heap.size w1.heap.size (.slice qa qn qc) ss (testsAt ss cs):=(hdo.keep fun a _ ha=>HB12.out.cell ha).keep fun a _ ha=>HB23.out.cell (Nat.lt_of_lt_of_le ha HB12.out.size)
  obtain⟨ts,hts⟩:∃ ts,testsAt ss cs=ts:=⟨_,rfl⟩
  rw[hts]at hdo3
  have hqn:qn=ss.length:=by
   obtain⟨ad,c',e1,_⟩:=hdo3
   injection e1
  subst hqn;have hwj2:wi=wj:=hwj.symm;subst hwj2;have HDO3:=Hyd hdo3;have HB3Q:=Hyd ((HB23.out.block _ (heap_lt HB2.out)).trans HB2.out);have HD3Q:=Hyd ((HB23.out.block _ (heap_lt HD2.out)).trans HD2.out);have hz13:w1.heap.size<=w3.heap.size:=Nat.le_trans HB12.out.size HB23.out.size;have HEV:=Hyd (events_any (.slice A l.length c) l w3 ((Sl.below HV.out HBW3.out).more HBW3.out.size) HF.out)
  obtain⟨p,hp⟩:∃ p,planR ss cs wi=p:=⟨_,rfl⟩
  have hpw:wi=p.within:=by rw[<-hp];rfl
  have HOKP:=Hyd (show OkP p by rw[<-hp];exact(planR_ok hokp).1)
  have hp8:p.steps.length<=8:=by rw[<-hp];exact(planR_ok hokp).2
  have HPLO:=Hyd (show PlnOk ss ts p by rw[<-hp,<-hts];exact⟨hokp.n8,plc_ok hokp,(planR_ok hokp).1⟩)
  have hp0:0<p.steps.length:=by
   have h1:=HPLO.out.plc.len;rw[<-h1];have h2:=hokp.n1;exact plc_pos0 hokp
  rw[hp]at hn0 HPL3;subst hn0 hpw;clear hokp hpl hdo hdo3 hp hts HOKK;go_wp2_with fail;refine HEV.out.mono ?_;rintro e w4 ⟨va,vb,rfl,hoa,hob,hb4⟩
  obtain⟨n,hn⟩:∃ n,min l.length 8=n:=⟨_,rfl⟩
  rw[hn]at hoa hob
  have hn8:n<=8:=by omega
  have hnl:n<=l.length:=by omega
  obtain⟨aa,ac,rfl⟩:=(Sl.of_own hoa).shape;obtain⟨ba,bc,rfl⟩:=(Sl.of_own hob).shape
  obtain⟨E,hE⟩:∃ E,evsK l n=E:=⟨_,rfl⟩
  have hEl:E.length=n:=by rw[<-hE,evsK_len]
  have HEO:=Hyd (show ∀ e∈E,PEv e by rw[<-hE];exact fits_ok l n (by omega));rw[hE,<-hEl]at hoa hob;rw[<-hEl]at hn8 ⊢;have HB4:=Hyd (HBW3.out.trans (hb4.mono HBW3.out.size));have HPL4:=Hyd (PlnAt.keep HPL3.out fun a ha=>hb4.cell (Nat.lt_of_lt_of_le ha hz13));have HDO4:=Hyd (HDO3.out.keep fun a _ ha=>hb4.cell (Nat.lt_of_lt_of_le ha hz13));have HB4Q:=Hyd ((hb4.block _ (heap_lt HB3Q.out)).trans HB3Q.out);have HD4Q:=Hyd ((hb4.block _ (heap_lt HD3Q.out)).trans HD3Q.out);have hz14:w1.heap.size<=w4.heap.size:=Nat.le_trans hz13 hb4.size
  have hg4:0 < w4.heap.size:=by have:=hb4.size;omega
  have HT4:=Hyd (show Tab w4 from Tab.of_eq HT.out (HB4.out.block _ hg));have HSO:=Hyd (sort_any (.slice aa E.length ac) E w4 w4.heap.size (Sl.of_own hoa) (Lit.of_own hoa) (by omega));have hq4:Q<w4.heap.size:=heap_lt HB4Q.out;have hd4:Q+1<w4.heap.size:=heap_lt HD4Q.out;clear hb4 hoa hob hE hEl hn hnl HPL3 HDO3 HB3Q HD3Q HB2 HD2;go_wp2_with fail;refine HSO.out.mono ?_;rintro en w5 ⟨v42,ls,rfl,hperm,hsort,hown,hbel⟩;have hln:ls.length=E.length:=hperm.length_eq;rw[<-hln]at hown
  obtain⟨sa,sc,rfl⟩:∃ a c,v42=.slice a ls.length c:=(Sl.of_own hown).shape
  have hlen:ls.length<=8:=by omega
  have HE2:=Hyd (show ∀ e∈ls,PEv e from fun e he=>HEO.out e (hperm.mem_iff.1 he))
  have HS0:=Hyd (show AvO w4 p (.slice sa ls.length sc) ls (.slice none 0 0) (.int .i64 0) w5 from
   ⟨0,Nat.zero_le _,rfl,hbel,hown,[],RowR.empty _ _,by decide,fun g hg=>(by cases hg)⟩)
  clear hperm hsort hown hbel hln;go_wp2_with fail
  go_loopw [10,39] (fun vr i wr=>AvO w4 p (.slice sa ls.length sc) ls vr i wr) (fun _ i _=>ls.length-(intOf i).toNat)
  case atStart=>exact HS0.out
  case round =>
   clear HS0;obtain⟨k,hk,rfl,hb,hsl,gs,hrow,hg3,hgd⟩:=hrel
   by_cases hlt:k<ls.length
   ·have hki:(k:Int)<(ls.length:Int):=by omega
    have hk0:(0:Int)<=(k:Int):=by omega
    obtain⟨sb,sc',hs',c0,c1,c2,c3⟩:=evs_at hsl rfl hlt
    obtain⟨rfl,rfl⟩:sa=some ⟨sb,0,none⟩/\sc=sc':=by simpa using hs'
    have HEK:=Hyd (HE2.out _ (List.getElem_mem hlt))
    obtain⟨e,he⟩:∃ e,ls[k]=e:=⟨_,rfl⟩
    rw[he]at c0 c1 c2 c3 HEK
    obtain⟨wo,rfl⟩:∃ wo:World,wo=wr:=⟨_,rfl⟩
    obtain⟨ra,rc,rfl⟩:=(Sl.of_own hrow.own).shape
    have HIN:=Hyd (show AvR w4 p k wo.heap.size e (.slice (some ⟨sb,0,none⟩) ls.length sc) ls (.slice ra gs.length rc) gs (.slice none 0 0) (.int .i64 0) (wo.alloc (.cells #[.int .i64 e.id,.int .i64 e.time,.int .u8 e.kind,.int .i64 e.val] 44)) from by
     have hb2:Below wo.heap.size wo (wo.alloc (.cells #[.int .i64 e.id,.int .i64 e.time,.int .u8 e.kind,.int .i64 e.val] 44)):=(Below.refl _ _).alloc (Nat.le_refl _) _
     exact⟨0,Nat.zero_le _,rfl,[],Nat.zero_le _,fun g hg=>(by cases hg),hb.trans (hb2.mono hb.size),heap_new rfl,own_below hsl hb2,hrow.below hb2,RowR.empty _ _,Reg.Apart.nil' _⟩)
    have HGDS:=Hyd hgd;have hWo:=hb.size;clear hb hsl hrow hgd hs' he;go_wp2_with fail
    go_loopw [13,45] (fun vn i wr=>AvR w4 p k wo.heap.size e (.slice (some ⟨sb,0,none⟩) ls.length sc) ls (.slice ra gs.length rc) gs vn i wr) (fun _ i _=>gs.length-(intOf i).toNat)
    case atStart=>exact HIN.out
    case round =>
     clear HIN;obtain⟨j,hj,rfl,ns,hnl,hng,hinn⟩:=hrel;obtain⟨na,nc,rfl⟩:=(Sl.of_own hinn.n.own).shape;have hnb:=hinn.bel.size
     by_cases hjl:j<gs.length
     ·have hji:(j:Int)<(gs.length:Int):=by omega
      have hj0:(0:Int)<=(j:Int):=(by omega);obtain⟨rb,rc',hr',_,d0,d1,d2⟩:=hinn.r.at_ hjl
      obtain⟨rfl,rfl⟩:ra=some ⟨rb,0,none⟩/\rc=rc':=by simpa using hr'
      have HOG:=Hyd (hinn.r.els _ (List.getElem_mem hjl));have HGD:=Hyd (HGDS.out _ (List.getElem_mem hjl))
      obtain⟨⟨cv,ev',r⟩,hgj⟩:∃ g,gs[j]=g:=⟨_,rfl⟩
      rw[hgj]at d0 d1 d2 HOG HGD
      simp only at d0 d1 d2 HGD
      obtain⟨hog1,hog2⟩:wr.ownsRow w4.heap.size 3 1 cv r.counts.length (cntV r.counts)/\wr.ownsRow w4.heap.size 44 4 ev' r.evs.length (cellsOf encE r.evs):=HOG.out;obtain⟨ca,cc,rfl⟩:=(Sl.of_own hog1).shape;obtain⟨va,vc,rfl⟩:=(Sl.of_own hog2).shape;clear hog1 hog2
      obtain⟨wo2,rfl⟩:∃ wo:World,wo=wr:=⟨_,rfl⟩
      obtain⟨wb,hwb⟩:∃ wb,wb=wo2.alloc (.cells #[.slice ca r.counts.length cc,.slice va r.evs.length vc,.bool r.blocked] 47):=⟨_,rfl⟩
      have hbb:Below wo2.heap.size wo2 wb:=by rw[hwb];exact(Below.refl _ _).alloc (Nat.le_refl _) _
      have HIB:=Hyd (hinn.below hbb)
      obtain⟨Y,hY⟩:∃ Y,wo2.heap.size=Y:=⟨_,rfl⟩
      have XRB:=Hyd (show wb.heap[Y]? = some (.cells #[.slice ca r.counts.length cc,.slice va r.evs.length vc,.bool r.blocked] 47 (0,0)) by rw[hwb,<-hY];exact heap_new rfl);have HWB:=Hyd hwb;have HYY:=Hyd hY;have HBB:=Hyd hbb;have HNG:=Hyd hng
      have HRS:=Hyd (show WfR r/\FitId r.evs/\SmE r.evs/\(∀ y∈r.evs,Sm y.time)/\r.evs.length<1000000/\r.counts.length<1000000 from
       ⟨⟨HGD.out.good.sum,by have:=HGD.out.good.few;omega,by have:=HGD.out.good.le;omega⟩,fun y hy=>(HGD.out.good.evs y hy).1.2.2,fun y hy=>(HGD.out.good.evs y hy).1.1,fun y hy=>(HGD.out.good.evs y hy).1.2.1,by have:=HGD.out.good.few;omega,by have:=HGD.out.good.le;omega⟩)
      have hszb:=hbb.size
      have HAV:=Hyd (adv_any p (.slice pa p.steps.length pc) (.slice ca r.counts.length cc) (.slice va r.evs.length vc) r e w1.heap.size w4.heap.size wb HOKP.out (HPL4.out.keep fun a ha=>(hinn.bel.trans (hbb.mono hnb)).cell (Nat.lt_of_lt_of_le ha hz14)) (by omega)
       (own_below HOG.out.1 hbb) (own_below HOG.out.2 hbb) HRS.out.1 HRS.out.2.1 HRS.out.2.2.1 HRS.out.2.2.2.1 HGD.out.good.pos HGD.out.good.le HRS.out.2.2.2.2.1 HRS.out.2.2.2.2.2 HEK.out.1.1 HEK.out.1.2.2 (Tab.of_eq HT4.out ((hinn.bel.trans (hbb.mono hnb)).block _ hg4)) (by omega))
      have HRAT:=Hyd (show RunAt wb wb.heap.size (.agg #[.slice ca r.counts.length cc,.slice va r.evs.length vc,.bool r.blocked]) r from⟨_,_,rfl,Sl.of_own (own_below HOG.out.1 hbb),Sl.of_own (own_below HOG.out.2 hbb)⟩);have HPB:=Hyd ((HIB.out.bel.block _ hq4).trans HB4Q.out);have p0:wb.cell? ⟨Q,0,none⟩=some (.slice pa p.steps.length pc):=(CeH HPB.out 0).trans rfl;have p1:wb.cell? ⟨Q,1,none⟩=some (.int .i64 p.within):=(CeH HPB.out 1).trans rfl;have r0:wb.cell? ⟨Y,0,none⟩=some (.slice ca r.counts.length cc):=(CeH XRB.out 0).trans rfl;have r1:wb.cell? ⟨Y,1,none⟩=some (.slice va r.evs.length vc):=(CeH XRB.out 1).trans rfl;have r2:wb.cell? ⟨Y,2,none⟩=some (.bool r.blocked):=(CeH XRB.out 2).trans rfl;have e0:wb.cell? ⟨wo.heap.size,0,none⟩=some (.int .i64 e.id):=(CeH HIB.out.ev 0).trans rfl
      have e1:wb.cell? ⟨wo.heap.size,1,none⟩=some (.int .i64 e.time):=(CeH HIB.out.ev 1).trans rfl;have e2:wb.cell? ⟨wo.heap.size,2,none⟩=some (.int .u8 e.kind):=(CeH HIB.out.ev 2).trans rfl;have e3:wb.cell? ⟨wo.heap.size,3,none⟩=some (.int .i64 e.val):=(CeH HIB.out.ev 3).trans rfl;clear hinn hng hr' hwb hbb hgj hY
      go_upto_region 13 with (fail)
      rw[<-HWB.out,HYY.out];clear d0 d1 d2;go_wp2_with fail;refine HAV.out.mono ?_;rintro en w2 ⟨xv,rfl,hres,hb2⟩;have HADG:=Hyd (adv_g HGD.out HEK.out);have HADP:=Hyd (adv_put HGD.out HEK.out hp8 (by omega))
      obtain⟨x,hx⟩:∃ x,advR p r e=x:=⟨_,rfl⟩
      have HX:=Hyd hx;rw[hx]at hres HADG HADP;obtain⟨c0,e0',gv,dv,xs,rfl,ho0,hxs,hgv,hxo,hdv⟩:=hres;obtain⟨a1,k1,rfl⟩:=(Sl.of_own (show w2.ownsRow wb.heap.size 3 1 c0 x.run.counts.length (cntV x.run.counts) from ho0.1)).shape;obtain⟨a2,k2,rfl⟩:=(Sl.of_own (show w2.ownsRow wb.heap.size 44 4 e0' x.run.evs.length (cellsOf encE x.run.evs) from ho0.2)).shape;obtain⟨a3,k3,rfl⟩:=(Sl.of_own hgv).shape;obtain⟨a4,k4,rfl⟩:=(Sl.of_own hdv).shape
      obtain⟨w3,hw3⟩:∃ w3,w3=w2.alloc (.cells #[.bool x.keep,.slice a1 x.run.counts.length k1,.slice a2 x.run.evs.length k2,.bool x.run.blocked,.slice a3 xs.length k3,.slice a4 x.done.length k4] 49):=⟨_,rfl⟩
      have hb3:Below w2.heap.size w2 w3:=by rw[hw3];exact(Below.refl _ _).alloc (Nat.le_refl _) _
      have HW3:=Hyd hw3
      obtain⟨X,hX⟩:∃ X,w2.heap.size=X:=⟨_,rfl⟩
      have HXA:=Hyd (show XAt X wb.heap.size x (.slice a1 x.run.counts.length k1) (.slice a2 x.run.evs.length k2) (.slice a3 xs.length k3) (.slice a4 x.done.length k4) xs w3 from
       ⟨by rw[hw3,<-hX];exact heap_new rfl,ho0.below hb3,hxs,own_below hgv hb3,fun g hg=>(hxo g hg).below hb3,own_below hdv hb3⟩)
      have HI3:=Hyd ((HIB.out.below hb2).below hb3);have hb23:Below wb.heap.size wb w3:=hb2.trans (hb3.mono hb2.size);have hWb:w4.heap.size<=wb.heap.size:=HIB.out.bel.size;have HXB:=Hyd HXA.out.blk;have HPD:=Hyd ((HI3.out.bel.block _ hd4).trans HD4Q.out);have HRB:=Hyd ((hb23.block _ (heap_lt XRB.out)).trans XRB.out);have HEB:=Hyd HI3.out.ev;have HRA3:=Hyd (RunAt.bel HRAT.out hb23);have HTW:=Hyd (fun w' (hw':Below w3.heap.size w3 w')=>twin_any (.slice ca r.counts.length cc) (.slice va r.evs.length vc) r w' (RunAt.bel HRA3.out hw') HGD.out.good.pos HRS.out.1.steps HRS.out.1.few)
      have HAD:=Hyd (fun w' (hw':Below w3.heap.size w3 w') cv' ev' (ho:DOwnR 0 w' (cv',ev',r))=>show Calls Tryz.prog 15 #[.agg #[.slice qa ss.length qc,.int .i64 p.within],.agg #[cv',ev',.bool r.blocked],.agg #[.int .i64 e.id,.int .i64 e.time,.int .u8 e.kind,.int .i64 e.val]] w' fun en w2=>∃ v,en=.returned v/\DResW w'.heap.size w2 v cv' ev' r x/\Below w'.heap.size w' w2 from HX.out ▸
       adv21 p (.slice qa ss.length qc) cv' ev' r ss ts W.heap.size e w' ((HDO4.out.keep fun a _ ha=>(HI3.out.bel.trans (hw'.mono HI3.out.bel.size)).cell (Nat.lt_of_lt_of_le ha hz14)).more (Nat.le_refl _) (Nat.le_trans hz14 (HI3.out.bel.trans (hw'.mono HI3.out.bel.size)).size)) HPLO.out ho.runAt HRS.out.1 HRS.out.2.1 HGD.out.row HGD.out.good.le ⟨HRS.out.2.2.2.2.1,HRS.out.2.2.2.2.2⟩ (fun y hy=>⟨HRS.out.2.2.1 y hy,HRS.out.2.2.2.1 y hy⟩) ⟨HEK.out.1.1,HEK.out.1.2.1⟩ HEK.out.1.2.2)
      have HSM:=Hyd (fun w' (hw':Below w3.heap.size w3 w') yv (hy:DResO 0 w' yv x)=>same_any x (.agg #[.bool x.keep,.slice a1 x.run.counts.length k1,.slice a2 x.run.evs.length k2,.bool x.run.blocked,.slice a3 xs.length k3,.slice a4 x.done.length k4]) yv w' ⟨_,_,_,_,xs,rfl,((HXA.out.own.below hw').le (Nat.zero_le _)),HXA.out.gs,Joins.ownsRow_le (own_below HXA.out.row hw') (Nat.zero_le _),fun g hg=>((HXA.out.els g hg).below hw').le (Nat.zero_le _),Joins.ownsRow_le (own_below HXA.out.done hw') (Nat.zero_le _)⟩ hy.at_ HADP.out (by have:=HADG.out.2.2.1;omega) (by have:=HADG.out.2.1;omega));have HXX:=Hyd hX
      have hxl:xs.length<=2:=by
       have h1:=congrArg List.length hxs;rw[List.length_map]at h1;have:=HADG.out.2.1
       omega
      clear hx ho0 hxs hgv hxo hdv hw3 hb2 hb3 p0 p1 r0 r1 r2 e0 e1 e2 e3 hX hb23
      go_upto_region 14 with (fail)
      rw[<-HW3.out,HXX.out]
      refine Reg.stand_order (W:=w3) (h:=8) (t:=0)
       [⟨0,53,[],99,[],none,fun v _=>v=.agg #[.bool x.keep,.slice a1 x.run.counts.length k1,.slice a2 x.run.evs.length k2,.bool x.run.blocked,.slice a3 xs.length k3,.slice a4 x.done.length k4]⟩,
        ⟨1,54,[],99,[],none,fun v _=>v=.agg #[.slice qa ss.length qc,.int .i64 p.within]⟩,
        ⟨2,55,[],99,[],none,fun v _=>v=.agg #[.slice ca r.counts.length cc,.slice va r.evs.length vc,.bool r.blocked]⟩,
        ⟨3,56,[3,59],99,[],none,fun v w'=>∃ cv' ev',v=.agg #[cv',ev',.bool r.blocked]/\DOwnR 0 w' (cv',ev',r)⟩,
        ⟨4,57,[],99,[],none,fun v _=>v=.agg #[.int .i64 e.id,.int .i64 e.time,.int .u8 e.kind,.int .i64 e.val]⟩,
        ⟨5,58,[3,59,53,9],99,[],none,fun v w'=>DResO 0 w' v x⟩,
        ⟨6,59,[],99,[],none,fun v _=>v=.bool true⟩,
        ⟨7,60,[],99,[],none,fun v _=>v=.bool false⟩]
       []
       (by kernel_rfl) rfl (by kernel_rfl) (by kernel_rfl) (by kernel_rfl) (show [0,1,2,3,4,5,6,7].Nodup by decide) (show ∀ i,i<8->i∈[0,1,2,3,4,5,6,7] by decide) ?_ (show [53,54,55,56,57,58,59,60].Nodup by decide) (show ∀ s∈[53,54,55,56,57,58,59,60],s<92 by decide) (by kernel_rfl) ?_ ?_ (Below.refl _ _) ?_ ?_ ?_
      ·intro f hf
       simp only[List.mem_cons,List.not_mem_nil,or_false]at hf
       rcases hf with rfl|rfl|rfl|rfl|rfl|rfl|rfl|rfl<;>simp
      ·intro f hf v w1' w2 hk hF
       simp only[List.mem_cons,List.not_mem_nil,or_false]at hf
       rcases hf with rfl|rfl|rfl|rfl|rfl|rfl|rfl|rfl
       ·exact hF
       ·exact hF
       ·exact hF
       ·obtain⟨cv',ev',e1,ho⟩:=hF;exact⟨cv',ev',e1,ho.keeps (hk 3 (by simp)) (hk 59 (by simp))⟩
       ·exact hF
       ·exact hF.keeps (hk 3 (by simp)) (hk 59 (by simp)) (hk 53 (by simp)) (hk 9 (by simp))
       ·exact hF
       ·exact hF
      ·intro f hf;cases hf
      ·intro f hf;cases hf
      ·intro f hf a w1' hs hg' hst;have t16:a.eval (.tmp 16)=.pointer (some ⟨X,0,none⟩):=Reg.eval_tmp ((hs.out 16 (show 16∉[53,54,55,56,57,58,59,60] by decide)).trans rfl);have t6:a.eval (.tmp 6)=.pointer (some ⟨Q+1,0,none⟩):=Reg.eval_tmp ((hs.out 6 (show 6∉[53,54,55,56,57,58,59,60] by decide)).trans rfl);have t15:a.eval (.tmp 15)=.pointer (some ⟨Y,0,none⟩):=Reg.eval_tmp ((hs.out 15 (show 15∉[53,54,55,56,57,58,59,60] by decide)).trans rfl);have t12:a.eval (.tmp 12)=.pointer (some ⟨wo.heap.size,0,none⟩):=Reg.eval_tmp ((hs.out 12 (show 12∉[53,54,55,56,57,58,59,60] by decide)).trans rfl)
       simp only[List.mem_cons,List.not_mem_nil,or_false]at hf
       rcases hf with rfl|rfl|rfl|rfl|rfl|rfl|rfl|rfl
       ·have hx:=(hs.below.block _ (heap_lt HXB.out)).trans HXB.out;exact Reg.step_val rfl rfl rfl (Reg.run_load t16 (load_res hx)) rfl hs.below (fun e=>Reg.Keeps.refl e _)
       ·have hx:=(hs.below.block _ (heap_lt HPD.out)).trans HPD.out;exact Reg.step_val rfl rfl rfl (Reg.run_load t6 (load_p20 hx)) rfl hs.below (fun e=>Reg.Keeps.refl e _)
       ·have hx:=(hs.below.block _ (heap_lt HRB.out)).trans HRB.out;exact Reg.step_val rfl rfl rfl (Reg.run_load t15 (load_run hx)) rfl hs.below (fun e=>Reg.Keeps.refl e _)
       ·obtain⟨v1,hv1,rfl⟩:∃ v,a.tmps[55]? = some v/\v=.agg #[.slice ca r.counts.length cc,.slice va r.evs.length vc,.bool r.blocked]:=hg' _ (Reg.at_fact 2 rfl) (by kernel_rfl) (by first | (simp[Reg.okTil];done) | kernel_rfl)
        have u1:=Reg.eval_tmp hv1;refine Reg.step_call (f:=16) (args:=#[.agg #[.slice ca r.counts.length cc,.slice va r.evs.length vc,.bool r.blocked]]) rfl rfl rfl (by go_simp) hs.below ((HTW.out w1' hs.below).mono ?_);rintro en w2' ⟨cv',ev',rfl,ho,hb⟩;exact⟨_,rfl,⟨cv',ev',rfl,ho.le (Nat.zero_le _)⟩,hb⟩
       ·have hx:=(hs.below.block _ (heap_lt HEB.out)).trans HEB.out;exact Reg.step_val rfl rfl rfl (Reg.run_load t12 (load_ev hx)) rfl hs.below (fun e=>Reg.Keeps.refl e _)
       ·obtain⟨v1,hv1,rfl⟩:∃ v,a.tmps[54]? = some v/\v=.agg #[.slice qa ss.length qc,.int .i64 p.within]:=hg' _ (Reg.at_fact 1 rfl) (by kernel_rfl) (by first | (simp[Reg.okTil];done) | kernel_rfl)
        obtain⟨v2,hv2,cv',ev',rfl,ho⟩:∃ v,a.tmps[56]? = some v/\∃ cv' ev',v=.agg #[cv',ev',.bool r.blocked]/\DOwnR 0 w1' (cv',ev',r):=hg' _ (Reg.at_fact 3 rfl) (by kernel_rfl) (by first | (simp[Reg.okTil];done) | kernel_rfl)
        obtain⟨v3,hv3,rfl⟩:∃ v,a.tmps[57]? = some v/\v=.agg #[.int .i64 e.id,.int .i64 e.time,.int .u8 e.kind,.int .i64 e.val]:=hg' _ (Reg.at_fact 4 rfl) (by kernel_rfl) (by first | (simp[Reg.okTil];done) | kernel_rfl)
        have u1:=Reg.eval_tmp hv1;have u2:=Reg.eval_tmp hv2;have u3:=Reg.eval_tmp hv3;refine Reg.step_call (f:=15) (args:=#[.agg #[.slice qa ss.length qc,.int .i64 p.within],.agg #[cv',ev',.bool r.blocked],.agg #[.int .i64 e.id,.int .i64 e.time,.int .u8 e.kind,.int .i64 e.val]]) rfl rfl rfl (by go_simp) hs.below ((HAD.out w1' hs.below cv' ev' ho).mono ?_);rintro en w2' ⟨v,rfl,hw,hb⟩;exact⟨_,rfl,DResW.own hw (ho.below hb),hb⟩
       ·obtain⟨v1,hv1,rfl⟩:∃ v,a.tmps[53]? = some v/\v=.agg #[.bool x.keep,.slice a1 x.run.counts.length k1,.slice a2 x.run.evs.length k2,.bool x.run.blocked,.slice a3 xs.length k3,.slice a4 x.done.length k4]:=hg' _ (Reg.at_fact 0 rfl) (by kernel_rfl) (by first | (simp[Reg.okTil];done) | kernel_rfl)
        obtain⟨v2,hv2,ho⟩:∃ v,a.tmps[58]? = some v/\DResO 0 w1' v x:=hg' _ (Reg.at_fact 5 rfl) (by kernel_rfl) (by first | (simp[Reg.okTil];done) | kernel_rfl)
        have u1:=Reg.eval_tmp hv1;have u2:=Reg.eval_tmp hv2;refine Reg.step_call (f:=14) (args:=#[.agg #[.bool x.keep,.slice a1 x.run.counts.length k1,.slice a2 x.run.evs.length k2,.bool x.run.blocked,.slice a3 xs.length k3,.slice a4 x.done.length k4],v2]) rfl rfl rfl (by go_simp) hs.below ((HSM.out w1' hs.below v2 ho).mono ?_);rintro en w2' ⟨rfl,hb⟩;exact⟨_,rfl,rfl,hb⟩
       ·obtain⟨v1,hv1,rfl⟩:∃ v,a.tmps[59]? = some v/\v=.bool true:=hg' _ (Reg.at_fact 6 rfl) (by kernel_rfl) (by first | (simp[Reg.okTil];done) | kernel_rfl)
        have u1:=Reg.eval_tmp hv1;exact Reg.step_val rfl rfl rfl (v:=.bool false) (by go_simp) rfl hs.below (fun e=>Reg.Keeps.refl e _)
      ·intro vals w1' hF hfx hb1;have eN:vals 60=.bool false:=hF _ (Reg.at_fact 7 rfl) (show(8+0:Nat)<=99 by decide)
       simp only[List.map_cons,List.map_nil,eN]
       generalize vals 53=q53;generalize vals 54=q54;generalize vals 55=q55;generalize vals 56=q56;generalize vals 57=q57;generalize vals 58=q58;generalize vals 59=q59;have HBS:=Hyd hb1;clear hF hfx eN hb1;(iterate 9 unfold Reg.puts)
       go_simp
       have HI5:=Hyd (HI3.out.below HBS.out);have HX5:=Hyd (HXA.out.below HBS.out)
       obtain⟨wq,rfl⟩:∃ w':World,w'=w1':=⟨_,rfl⟩
       obtain⟨K1,hK1⟩:∃ K,x.keep=K:=⟨_,rfl⟩
       have HK1:=Hyd hK1
       have y0:wq.cell? ⟨X,0,none⟩=some (.bool K1):=by rw[<-hK1];exact(CeH HX5.out.blk 0).trans rfl
       clear hK1 HBS HSM HAD HTW HRA3 HEB HRB HPD HXB HW3 HI3 HXA
       go_upto_if 62 with (fail)
       clear y0
       go_cut [13] (fun s13 wx=>∃ na' nc' ns',s13=.slice na' (List.length (α:=RG) ns') nc'/\ns'.length<=3 * j+1/\(∀ g∈ns',RunG p (k+1) g.2.2)/\AvI w4 wo.heap.size e (.slice (some ⟨sb,0,none⟩) ls.length sc) ls (.slice (some ⟨rb,0,none⟩) gs.length rc) gs s13 ns' wx/\XAt X wb.heap.size x (.slice a1 x.run.counts.length k1) (.slice a2 x.run.evs.length k2) (.slice a3 xs.length k3) (.slice a4 x.done.length k4) xs wx)
       case first =>
        cases hKv:K1 with
        | false =>
         clear hKv;go_wp2_with fail;go_meet;exact⟨na,nc,ns,rfl,by omega,HNG.out,HI5.out,HX5.out⟩
        | true =>
         have HV:=Hyd (HK1.out.trans hKv);clear hKv;obtain⟨i0,hi,hz0,hz1,hz2⟩:=info_parts infoRun;have y1:wq.cell? ⟨X,1,none⟩=some (.slice a1 x.run.counts.length k1):=(CeH HX5.out.blk 1).trans rfl;have y2:wq.cell? ⟨X,2,none⟩=some (.slice a2 x.run.evs.length k2):=(CeH HX5.out.blk 2).trans rfl;have y3:wq.cell? ⟨X,3,none⟩=some (.bool x.run.blocked):=(CeH HX5.out.blk 3).trans rfl;have HO4:=Hyd (Reg.own_new (w:=wq) (b:=0) (e:=47) (sz:=3) (n:=1) (cs:=#[.slice a1 x.run.counts.length k1,.slice a2 x.run.evs.length k2,.bool x.run.blocked]) rfl (Nat.zero_le _) rfl (by unfold maxLen;omega));have HI4:=Hyd (HI5.out.below (w':=wq.alloc (.cells #[.slice a1 x.run.counts.length k1,.slice a2 x.run.evs.length k2,.bool x.run.blocked] 47)) ((Below.refl _ _).alloc (Nat.le_refl _) _))
         have HX4:=Hyd (HX5.out.below (w':=wq.alloc (.cells #[.slice a1 x.run.counts.length k1,.slice a2 x.run.evs.length k2,.bool x.run.blocked] 47)) ((Below.refl _ _).alloc (Nat.le_refl _) _));have HRN:=Hyd HIB.out.n.own
         go_wp2_with (at_builtin;refine Reg.wpList_append_src _ rfl (.tmp 63) (.tmp 66) 41 rfl w4.heap.size 0 47 i0 _ 3 56 Tryz.underlying41 hi hz0 hz1 hz2 rfl (by decide) _ _ ns.length 1 _ _ rfl HI4.out.n.own rfl HO4.out ?d1 ?d2 ?d3 ?d4 ?_)
         case d1=>exact⟨rfl,rfl,rfl⟩
         case d2=>unfold maxLen;omega
         case d3=>omega
         case d4=>have:=HI5.out.bel.size;omega
         intro v' w5' ho5 hg5 hv5;obtain⟨na',nc',rfl⟩:=(Sl.of_own ho5).shape;have HIP:=Hyd (AvI.push (xs:=[(.slice a1 x.run.counts.length k1,.slice a2 x.run.evs.length k2,x.run)]) HI4.out (fun g hg=>by rw[List.mem_singleton.1 hg];exact HX4.out.own.le hWb) rfl rfl ho5 hg5 (by simpa using hv5));have HXP:=Hyd (HX4.out.grown HI4.out.n.own hg5 (HX4.out.apart HRN.out (Nat.le_refl _)));clear ho5 hg5 hv5 hi hz0 hz1 hz2 y1 y2 y3;go_wp2_with fail;go_meet;refine⟨na',nc',ns++[(.slice a1 x.run.counts.length k1,.slice a2 x.run.evs.length k2,x.run)],by rw[List.length_append,List.length_singleton],by rw[List.length_append,List.length_singleton];omega,fun g hg=>?_,HIP.out,HXP.out⟩
         rcases List.mem_append.1 hg with hg | hg
         ·exact HNG.out g hg
         ·rw[List.mem_singleton.1 hg];exact HADG.out.2.2.2 HV.out
       case rest =>
        clear HI5 HX5;obtain⟨na',nc',ns',rfl,hnl',hng',hin6,hx6⟩:=hcut
        obtain⟨w6,rfl⟩:∃ w':World,w'=wc:=⟨_,rfl⟩
        have HIN6:=Hyd hin6;have HX6:=Hyd hx6;have HNG6:=Hyd hng';have HXO:=Hyd (show ∀ y∈cellsOf encR xs,y.oneCell'=true from RowR.one (H:=wb.heap.size) (w:=w6) (v:=.slice a3 xs.length k3) ⟨hx6.row,hx6.els⟩);have y4:w6.cell? ⟨X,4,none⟩=some (.slice a3 xs.length k3):=(CeH hx6.blk 4).trans rfl;obtain⟨i0,hi,hz0,hz1,hz2⟩:=info_parts infoRun;have hs6:=hin6.bel.size;clear hin6 hx6 hng'
        go_wp2_with (at_builtin;refine Reg.wpList_append_src _ rfl (.tmp 68) (.tmp 70) 41 rfl w4.heap.size wb.heap.size 47 i0 _ 3 56 Tryz.underlying41 hi hz0 hz1 hz2 rfl (by decide) _ _ ns'.length xs.length _ _ rfl HIN6.out.n.own rfl HX6.out.row ?d5 ?d6 ?d7 ?d8 ?_)
        case d5=>exact HXO.out
        case d6=>unfold maxLen;omega
        case d7=>omega
        case d8=>omega
        intro v' w7 ho7 hg7 hv7;obtain⟨nb',mc',rfl⟩:=(Sl.of_own ho7).shape;have HIP:=Hyd (AvI.push (xs:=xs) HIN6.out (fun g hg=>(HX6.out.els g hg).le hWb) rfl rfl ho7 hg7 (by simpa using hv7))
        have HREL:=Hyd (show AvR w4 p k wo.heap.size e (.slice (some ⟨sb,0,none⟩) ls.length sc) ls (.slice (some ⟨rb,0,none⟩) gs.length rc) gs (.slice nb' (ns'.length+xs.length) mc') (.int .i64 ((j:Int)+1)) w7 from
         ⟨j+1,by omega,by go_num,ns'++xs,by rw[List.length_append];omega,fun g hg=>by
          rcases List.mem_append.1 hg with hg | hg
          ·exact HNG6.out g hg
          ·exact HADG.out.1 g.2.2 (by rw[<-HX6.out.gs];exact List.mem_map_of_mem hg),HIP.out⟩)
        clear ho7 hg7 hv7 hi hz0 hz1 hz2 y4 HIP;go_wp2_with fail;go_roundw
        case rel=>exact HREL.out
        case measure=>simp[intOf];omega
     ·obtain rfl:j=gs.length:=by omega
      obtain⟨wo2,rfl⟩:∃ wo:World,wo=wr:=⟨_,rfl⟩
      have HINN:=Hyd hinn;have HNG:=Hyd hng;have HST:=Hyd (start_any p (.slice pa p.steps.length pc) e w1.heap.size wo2 HOKP.out (HPL4.out.keep fun a ha=>hinn.bel.cell (Nat.lt_of_lt_of_le ha hz14)) (by omega) HEK.out.1.1 HEK.out.1.2.2 (Tab.of_eq HT4.out (hinn.bel.block _ hg4)) (by omega));have HPB:=Hyd ((hinn.bel.block _ hq4).trans HB4Q.out);have p0:wo2.cell? ⟨Q,0,none⟩=some (.slice pa p.steps.length pc):=(CeH HPB.out 0).trans rfl;have p1:wo2.cell? ⟨Q,1,none⟩=some (.int .i64 p.within):=(CeH HPB.out 1).trans rfl;have e0:wo2.cell? ⟨wo.heap.size,0,none⟩=some (.int .i64 e.id):=(CeH hinn.ev 0).trans rfl;have e1:wo2.cell? ⟨wo.heap.size,1,none⟩=some (.int .i64 e.time):=(CeH hinn.ev 1).trans rfl;have e2:wo2.cell? ⟨wo.heap.size,2,none⟩=some (.int .u8 e.kind):=(CeH hinn.ev 2).trans rfl
      have e3:wo2.cell? ⟨wo.heap.size,3,none⟩=some (.int .i64 e.val):=(CeH hinn.ev 3).trans rfl;clear hinn hng;go_wp2_with fail;refine HST.out.mono ?_;rintro en w2 ⟨xv,rfl,hres,hb2⟩;have HADG:=Hyd (start_g (p:=p) HEK.out);have hxr:=start_run (p:=p) (e:=e)
      obtain⟨x,hx⟩:∃ x,startR p e=x:=⟨_,rfl⟩
      have HX:=Hyd hx;rw[hx]at hres HADG hxr;have HXR:=Hyd hxr;obtain⟨c0,e0',gv,dv,xs,rfl,ho0,hxs,hgv,hxo,hdv⟩:=hres;obtain⟨a1,k1,rfl⟩:=(Sl.of_own (show w2.ownsRow wo2.heap.size 3 1 c0 x.run.counts.length (cntV x.run.counts) from ho0.1)).shape;obtain⟨a2,k2,rfl⟩:=(Sl.of_own (show w2.ownsRow wo2.heap.size 44 4 e0' x.run.evs.length (cellsOf encE x.run.evs) from ho0.2)).shape;obtain⟨a3,k3,rfl⟩:=(Sl.of_own hgv).shape;obtain⟨a4,k4,rfl⟩:=(Sl.of_own hdv).shape
      obtain⟨w3,hw3⟩:∃ w3,w3=w2.alloc (.cells #[.bool x.keep,.slice a1 x.run.counts.length k1,.slice a2 x.run.evs.length k2,.bool x.run.blocked,.slice a3 xs.length k3,.slice a4 x.done.length k4] 49):=⟨_,rfl⟩
      have hb3:Below w2.heap.size w2 w3:=by rw[hw3];exact(Below.refl _ _).alloc (Nat.le_refl _) _
      have HW3:=Hyd hw3
      obtain⟨X,hX⟩:∃ X,w2.heap.size=X:=⟨_,rfl⟩
      have HXA:=Hyd (show XAt X wo2.heap.size x (.slice a1 x.run.counts.length k1) (.slice a2 x.run.evs.length k2) (.slice a3 xs.length k3) (.slice a4 x.done.length k4) xs w3 from
       ⟨by rw[hw3,<-hX];exact heap_new rfl,ho0.below hb3,hxs,own_below hgv hb3,fun g hg=>(hxo g hg).below hb3,own_below hdv hb3⟩)
      have HI3:=Hyd ((HINN.out.below hb2).below hb3);have hWb:w4.heap.size<=wo2.heap.size:=HINN.out.bel.size;have HXB:=Hyd HXA.out.blk;have HPD:=Hyd ((HI3.out.bel.block _ hd4).trans HD4Q.out);have HEB:=Hyd HI3.out.ev
      have HAD:=Hyd (fun w' (hw':Below w3.heap.size w3 w')=>show Calls Tryz.prog 18 #[.agg #[.slice qa ss.length qc,.int .i64 p.within],.agg #[.int .i64 e.id,.int .i64 e.time,.int .u8 e.kind,.int .i64 e.val]] w' fun en w2=>∃ v,en=.returned v/\DResW w'.heap.size w2 v (.slice none 0 0) (.slice none 0 0) noRun x/\Below w'.heap.size w' w2 from HX.out ▸
       start21 p (.slice qa ss.length qc) ss ts W.heap.size e w' ((HDO4.out.keep fun a _ ha=>(HI3.out.bel.trans (hw'.mono HI3.out.bel.size)).cell (Nat.lt_of_lt_of_le ha hz14)).more (Nat.le_refl _) (Nat.le_trans hz14 (HI3.out.bel.trans (hw'.mono HI3.out.bel.size)).size)) HPLO.out hp0 HEK.out.1.1 HEK.out.1.2.2)
      have HSM:=Hyd (fun w' (hw':Below w3.heap.size w3 w') yv (hy:DResO 0 w' yv x)=>same_any x (.agg #[.bool x.keep,.slice a1 x.run.counts.length k1,.slice a2 x.run.evs.length k2,.bool x.run.blocked,.slice a3 xs.length k3,.slice a4 x.done.length k4]) yv w' ⟨_,_,_,_,xs,rfl,((HXA.out.own.below hw').le (Nat.zero_le _)),HXA.out.gs,Joins.ownsRow_le (own_below HXA.out.row hw') (Nat.zero_le _),fun g hg=>((HXA.out.els g hg).below hw').le (Nat.zero_le _),Joins.ownsRow_le (own_below HXA.out.done hw') (Nat.zero_le _)⟩ hy.at_ ⟨by rw[HXR.out];exact⟨by decide,fun n h=>(by cases h),by decide,fun y h=>(by cases h)⟩,fun g hg=>(HADG.out.1 g hg).put hp8 (by omega)⟩ (by have:=HADG.out.2.2;omega) (by have:=HADG.out.2.1;omega));have HXX:=Hyd hX
      have hxl:xs.length<=1:=by
       have h1:=congrArg List.length hxs;rw[List.length_map]at h1;have:=HADG.out.2.1
       omega
      clear hx hxr ho0 hxs hgv hxo hdv hw3 hb2 hb3 p0 p1 e0 e1 e2 e3 hX
      go_upto_region 21 with (fail)
      rw[<-HW3.out,HXX.out]
      refine Reg.stand_order (W:=w3) (h:=6) (t:=0)
       [⟨0,76,[],99,[],none,fun v _=>v=.agg #[.bool x.keep,.slice a1 x.run.counts.length k1,.slice a2 x.run.evs.length k2,.bool x.run.blocked,.slice a3 xs.length k3,.slice a4 x.done.length k4]⟩,
        ⟨1,77,[],99,[],none,fun v _=>v=.agg #[.slice qa ss.length qc,.int .i64 p.within]⟩,
        ⟨2,78,[],99,[],none,fun v _=>v=.agg #[.int .i64 e.id,.int .i64 e.time,.int .u8 e.kind,.int .i64 e.val]⟩,
        ⟨3,79,[3,59,53,9],99,[],none,fun v w'=>DResO 0 w' v x⟩,
        ⟨4,80,[],99,[],none,fun v _=>v=.bool true⟩,
        ⟨5,81,[],99,[],none,fun v _=>v=.bool false⟩]
       []
       (by kernel_rfl) rfl (by kernel_rfl) (by kernel_rfl) (by kernel_rfl) (show [0,1,2,3,4,5].Nodup by decide) (show ∀ i,i<6->i∈[0,1,2,3,4,5] by decide) ?_ (show [76,77,78,79,80,81].Nodup by decide) (show ∀ s∈[76,77,78,79,80,81],s<92 by decide) (by kernel_rfl) ?_ ?_ (Below.refl _ _) ?_ ?_ ?_
      ·intro f hf
       simp only[List.mem_cons,List.not_mem_nil,or_false]at hf
       rcases hf with rfl|rfl|rfl|rfl|rfl|rfl<;>simp
      ·intro f hf v w1' w2 hk hF
       simp only[List.mem_cons,List.not_mem_nil,or_false]at hf
       rcases hf with rfl|rfl|rfl|rfl|rfl|rfl
       ·exact hF
       ·exact hF
       ·exact hF
       ·exact hF.keeps (hk 3 (by simp)) (hk 59 (by simp)) (hk 53 (by simp)) (hk 9 (by simp))
       ·exact hF
       ·exact hF
      ·intro f hf;cases hf
      ·intro f hf;cases hf
      ·intro f hf a w1' hs hg' hst;have t17:a.eval (.tmp 17)=.pointer (some ⟨X,0,none⟩):=Reg.eval_tmp ((hs.out 17 (show 17∉[76,77,78,79,80,81] by decide)).trans rfl);have t6:a.eval (.tmp 6)=.pointer (some ⟨Q+1,0,none⟩):=Reg.eval_tmp ((hs.out 6 (show 6∉[76,77,78,79,80,81] by decide)).trans rfl);have t12:a.eval (.tmp 12)=.pointer (some ⟨wo.heap.size,0,none⟩):=Reg.eval_tmp ((hs.out 12 (show 12∉[76,77,78,79,80,81] by decide)).trans rfl)
       simp only[List.mem_cons,List.not_mem_nil,or_false]at hf
       rcases hf with rfl|rfl|rfl|rfl|rfl|rfl
       ·have hx:=(hs.below.block _ (heap_lt HXB.out)).trans HXB.out;exact Reg.step_val rfl rfl rfl (Reg.run_load t17 (load_res hx)) rfl hs.below (fun e=>Reg.Keeps.refl e _)
       ·have hx:=(hs.below.block _ (heap_lt HPD.out)).trans HPD.out;exact Reg.step_val rfl rfl rfl (Reg.run_load t6 (load_p20 hx)) rfl hs.below (fun e=>Reg.Keeps.refl e _)
       ·have hx:=(hs.below.block _ (heap_lt HEB.out)).trans HEB.out;exact Reg.step_val rfl rfl rfl (Reg.run_load t12 (load_ev hx)) rfl hs.below (fun e=>Reg.Keeps.refl e _)
       ·obtain⟨v1,hv1,rfl⟩:∃ v,a.tmps[77]? = some v/\v=.agg #[.slice qa ss.length qc,.int .i64 p.within]:=hg' _ (Reg.at_fact 1 rfl) (by kernel_rfl) (by first | (simp[Reg.okTil];done) | kernel_rfl)
        obtain⟨v3,hv3,rfl⟩:∃ v,a.tmps[78]? = some v/\v=.agg #[.int .i64 e.id,.int .i64 e.time,.int .u8 e.kind,.int .i64 e.val]:=hg' _ (Reg.at_fact 2 rfl) (by kernel_rfl) (by first | (simp[Reg.okTil];done) | kernel_rfl)
        have u1:=Reg.eval_tmp hv1;have u3:=Reg.eval_tmp hv3;refine Reg.step_call (f:=18) (args:=#[.agg #[.slice qa ss.length qc,.int .i64 p.within],.agg #[.int .i64 e.id,.int .i64 e.time,.int .u8 e.kind,.int .i64 e.val]]) rfl rfl rfl (by go_simp) hs.below ((HAD.out w1' hs.below).mono ?_);rintro en w2' ⟨v,rfl,hw,hb⟩;exact⟨_,rfl,DResW.own (b2:=0) hw ⟨World.ownsRow_nil _ _ _ _,World.ownsRow_nil _ _ _ _⟩,hb⟩
       ·obtain⟨v1,hv1,rfl⟩:∃ v,a.tmps[76]? = some v/\v=.agg #[.bool x.keep,.slice a1 x.run.counts.length k1,.slice a2 x.run.evs.length k2,.bool x.run.blocked,.slice a3 xs.length k3,.slice a4 x.done.length k4]:=hg' _ (Reg.at_fact 0 rfl) (by kernel_rfl) (by first | (simp[Reg.okTil];done) | kernel_rfl)
        obtain⟨v2,hv2,ho⟩:∃ v,a.tmps[79]? = some v/\DResO 0 w1' v x:=hg' _ (Reg.at_fact 3 rfl) (by kernel_rfl) (by first | (simp[Reg.okTil];done) | kernel_rfl)
        have u1:=Reg.eval_tmp hv1;have u2:=Reg.eval_tmp hv2;refine Reg.step_call (f:=14) (args:=#[.agg #[.bool x.keep,.slice a1 x.run.counts.length k1,.slice a2 x.run.evs.length k2,.bool x.run.blocked,.slice a3 xs.length k3,.slice a4 x.done.length k4],v2]) rfl rfl rfl (by go_simp) hs.below ((HSM.out w1' hs.below v2 ho).mono ?_);rintro en w2' ⟨rfl,hb⟩;exact⟨_,rfl,rfl,hb⟩
       ·obtain⟨v1,hv1,rfl⟩:∃ v,a.tmps[80]? = some v/\v=.bool true:=hg' _ (Reg.at_fact 4 rfl) (by kernel_rfl) (by first | (simp[Reg.okTil];done) | kernel_rfl)
        have u1:=Reg.eval_tmp hv1;exact Reg.step_val rfl rfl rfl (v:=.bool false) (by go_simp) rfl hs.below (fun e=>Reg.Keeps.refl e _)
      ·intro vals w1' hF hfx hb1;have eN:vals 81=.bool false:=hF _ (Reg.at_fact 5 rfl) (show(6+0:Nat)<=99 by decide)
       simp only[List.map_cons,List.map_nil,eN]
       generalize vals 76=q76;generalize vals 77=q77;generalize vals 78=q78;generalize vals 79=q79;generalize vals 80=q80;have HBS:=Hyd hb1;clear hF hfx eN hb1;(iterate 7 unfold Reg.puts)
       go_simp
       have HI5:=Hyd (HI3.out.below HBS.out);have HX5:=Hyd (HXA.out.below HBS.out)
       obtain⟨wq,rfl⟩:∃ w':World,w'=w1':=⟨_,rfl⟩
       have y4:wq.cell? ⟨X,4,none⟩=some (.slice a3 xs.length k3):=(CeH HX5.out.blk 4).trans rfl;have HXO:=Hyd (show ∀ y∈cellsOf encR xs,y.oneCell'=true from RowR.one (H:=wo2.heap.size) (w:=wq) (v:=.slice a3 xs.length k3) ⟨HX5.out.row,HX5.out.els⟩);obtain⟨i0,hi,hz0,hz1,hz2⟩:=info_parts infoRun;have hs6:=HI5.out.bel.size;clear HBS HSM HAD HEB HPD HXB HW3 HI3 HXA
       go_wp2_with (at_builtin;refine Reg.wpList_append_src _ rfl (.tmp 82) (.tmp 84) 41 rfl w4.heap.size wo2.heap.size 47 i0 _ 3 56 Tryz.underlying41 hi hz0 hz1 hz2 rfl (by decide) _ _ ns.length xs.length _ _ rfl HI5.out.n.own rfl HX5.out.row ?d9 ?d10 ?d11 ?d12 ?_)
       case d9=>exact HXO.out
       case d10=>unfold maxLen;omega
       case d11=>omega
       case d12=>omega
       intro v' w7 ho7 hg7 hv7;obtain⟨nb',mc',rfl⟩:=(Sl.of_own ho7).shape;have HIP:=Hyd (AvI.push (xs:=xs) HI5.out (fun g hg=>(HX5.out.els g hg).le hWb) rfl rfl ho7 hg7 (by simpa using hv7))
       obtain⟨nl,hnl2⟩:∃ n,ns.length+xs.length=n:=⟨_,rfl⟩
       have hnll:(ns++xs).length=nl:=by rw[List.length_append];exact hnl2
       rw[hnl2];rw[hnl2]at HIP;have HNL:=Hyd hnll;have hnlb:nl<=1000:=(by omega)
       have HGA:=Hyd (show ∀ g∈ns++xs,RunG p (k+1) g.2.2 from fun g hg=>by
        rcases List.mem_append.1 hg with hg | hg
        ·exact HNG.out g hg
        ·exact(HADG.out.1 g.2.2 (by rw[<-HX5.out.gs];exact List.mem_map_of_mem hg)).more (by omega))
       obtain⟨m,hm⟩:∃ m,min nl 300=m:=⟨_,rfl⟩
       have hmin:min (nl:Int) 300=(m:Int):=(by omega);have hml:m<=nl:=(by omega);have hm3:m<=300:=(by omega)
       have hnc:nl<=mc':=by
        obtain⟨_,A,c',e1,h1,_⟩:=Sl.of_own HIP.out.n.own
        injection e1 with _ _ e1
        rw[List.length_append]at h1
        omega
       have HREL:=Hyd (show AvO w4 p (.slice (some ⟨sb,0,none⟩) ls.length sc) ls (.slice nb' m mc') (.int .i64 ((k:Int)+1)) w7 from
        ⟨k+1,by omega,by go_num,HIP.out.bel,HIP.out.sl,(ns++xs).take m,RowR.cut (by rw[hnll];exact HIP.out.n) m (by rw[hnll];exact hml),by rw[List.length_take];omega,fun g hg=>HGA.out g (List.mem_of_mem_take hg)⟩)
       clear ho7 hg7 hv7 hi hz0 hz1 hz2 y4 HIP hnl2 hm hnll;go_wp2_with fail;go_roundw
       case rel=>exact HREL.out
       case measure=>simp[intOf];omega
   ·obtain rfl:k=ls.length:=by omega
    have HBE:=Hyd (HB4.out.trans (hb.mono HB4.out.size));clear hb hsl hrow hgd;go_wp2_with fail;go_ret;exact⟨rfl,HBE.out⟩
end Go.Proofs.YtcojnojdgigmdaaGreatDoor.WAv
