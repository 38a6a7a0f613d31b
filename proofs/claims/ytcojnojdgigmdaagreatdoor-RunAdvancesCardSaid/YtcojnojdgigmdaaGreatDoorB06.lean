/- The plan under way; the document's plan for a reader. -/
import Derived.Test.YtcojnojdgigmdaaGreatDoorB03
import Derived.Test.YtcojnojdgigmdaaGreatDoorB05
import Derived.Test.YtcojnojdgigmdaaGreatDoorB02
import Derived.Test.YtcojnojdgigmdaaGreatDoorB01
/- The plan under way (plan.Make's first loop): what lies in memory, and what an append to the steps, or to the last step's bars, makes of it. No code is walked here. -/
namespace Go.Proofs.YtcojnojdgigmdaaGreatDoor.WL
open Go Go.RowKit PL Mem WP
abbrev nilS:Value:=.slice none 0 0
def posAt (xs:List Value) (q:Nat) (s:GS) (vt vb:Value):Prop :=
 xs[q * 5]? = some (.int .u8 s.k)/\xs[q * 5+1]? = some (.int .i64 s.lo)/\xs[q * 5+2]? = some (.int .i64 s.hi)/\xs[q * 5+3]? = some vt/\xs[q * 5+4]? = some vb
def barAt (xs:List Value) (r:Nat) (s:GS) (vt:Value):Prop:=xs[r * 2]? = some (.int .u8 s.k)/\xs[r * 2+1]? = some vt
theorem posAt.app {xs ys:List Value} {q:Nat} {s:GS} {vt vb:Value} (h:posAt xs q s vt vb):posAt (xs++ys) q s vt vb:=by
 have f:∀ {j:Nat} {u:Value},xs[j]? = some u->(xs++ys)[j]? = some u:=fun {j u} hj=>by
  rw[List.getElem?_append_left (List.getElem?_eq_some_iff.1 hj).1];exact hj
 exact⟨f h.1,f h.2.1,f h.2.2.1,f h.2.2.2.1,f h.2.2.2.2⟩
theorem barAt.app {xs ys:List Value} {q:Nat} {s:GS} {vt:Value} (h:barAt xs q s vt):barAt (xs++ys) q s vt:=by
 have f:∀ {j:Nat} {u:Value},xs[j]? = some u->(xs++ys)[j]? = some u:=fun {j u} hj=>by
  rw[List.getElem?_append_left (List.getElem?_eq_some_iff.1 hj).1];exact hj
 exact⟨f h.1,f h.2⟩
theorem posAt.set {xs:List Value} {q:Nat} {s:GS} {vt vb:Value} (h:posAt xs q s vt vb) (v:Value):posAt (xs.set (q * 5+4) v) q s vt v:=by
 have f:∀ {j:Nat} {u:Value},j≠q * 5+4->xs[j]? = some u->(xs.set (q * 5+4) v)[j]? = some u:=fun {j u} hne hj=>by
  rw[List.getElem?_set_ne (by omega)];exact hj
 exact⟨f (by omega) h.1,f (by omega) h.2.1,f (by omega) h.2.2.1,f (by omega) h.2.2.2.1,by rw[List.getElem?_set_self (List.getElem?_eq_some_iff.1 h.2.2.2.2).1]⟩
theorem posAt.setO {xs:List Value} {q q':Nat} {s:GS} {vt vb:Value} (h:posAt xs q s vt vb) (hne:q≠q') (v:Value):posAt (xs.set (q' * 5+4) v) q s vt vb:=by
 have f:∀ {j:Nat} {u:Value},j≠q' * 5+4->xs[j]? = some u->(xs.set (q' * 5+4) v)[j]? = some u:=fun {j u} hne hj=>by
  rw[List.getElem?_set_ne (by omega)];exact hj
 exact⟨f (by omega) h.1,f (by omega) h.2.1,f (by omega) h.2.2.1,f (by omega) h.2.2.2.1,f (by omega) h.2.2.2.2⟩
theorem heap_setCell_other' (w:World) (a:Addr) (u:Value) (k:Nat) (h:k≠a.block):(w.setCell a u).heap[k]? = w.heap[k]?:=heap_setCell_other w a k u h
structure Mk (W w:World) (R:Nat) (sl cl:Value) (wi:Int) (vs:Value) (gs:List (Grp Unit)) (vb:Nat->Value):Prop where
 bel:Below W.heap.size W w
 pb:w.heap[W.heap.size]? = some (.cells #[sl,cl,.int .i64 wi] 140 (0,0))
 rb:∃ c0 c1,w.heap[W.heap.size+1]? = some (.cells #[c0,c1] 25 (0,0))
 ob:w.heap[R]? = some (.cells #[vs,.int .i64 wi] 25 (0,0))
 lt:W.heap.size+1<R
 row:∃ xs,w.ownsRow W.heap.size 92 5 vs gs.length xs/\∀ q (h:q<gs.length),posAt xs q gs[q].1.1 nilS (vb q)
 bars:∀ q (h:q<gs.length),∃ ys,w.ownsRow W.heap.size 99 2 (vb q) gs[q].2.length ys/\∀ r (h':r<gs[q].2.length),barAt ys r gs[q].2[r].1 nilS
 sep:∀ q q',q<gs.length->q' < gs.length->q≠q' -> (vb q).ownBlock=none \/ (vb q).ownBlock≠(vb q').ownBlock
section
variable {W w w' : World} {R : Nat} {sl cl vs : Value} {wi : Int} {gs : List (Grp Unit)} {vb : Nat -> Value}
theorem Mk.below (h:Mk W w R sl cl wi vs gs vb) (hb:Below w.heap.size w w'):Mk W w' R sl cl wi vs gs vb := {
 bel:=h.bel.trans (hb.mono h.bel.size)
 pb:=(hb.block _ (blk_lt h.pb)).trans h.pb
 rb:=by obtain⟨c0,c1,h1⟩:=h.rb;exact⟨c0,c1,(hb.block _ (blk_lt h1)).trans h1⟩
 ob:=(hb.block _ (blk_lt h.ob)).trans h.ob
 lt:=h.lt
 row:=by obtain⟨xs,h1,h2⟩:=h.row;exact⟨xs,own_below h1 hb,h2⟩
 bars:=fun q hq=>by obtain⟨ys,h1,h2⟩:=h.bars q hq;exact⟨ys,own_below h1 hb,h2⟩
 sep:=h.sep }
theorem Mk.alloc (h:Mk W w R sl cl wi vs gs vb) (o:Obj):Mk W (w.alloc o) R sl cl wi vs gs vb:=h.below ((Below.refl _ _).alloc (Nat.le_refl _) o)
theorem Mk.res (h:Mk W w R sl cl wi vs gs vb) (u v:Value):Mk W ((w.setCell ⟨W.heap.size+1,0,none⟩ u).setCell ⟨W.heap.size+1,1,none⟩ v) R sl cl wi vs gs vb:=by
 obtain⟨c0,c1,hr⟩:=h.rb;have hr1:=blk_set hr 0 u;have hr2:=blk_set hr1 1 v;have hlt:=h.lt
 exact⟨(h.bel.setCell (p:=⟨W.heap.size+1,0,none⟩) (by show W.heap.size<=W.heap.size+1;omega) _).setCell (p:=⟨W.heap.size+1,1,none⟩) (by show W.heap.size<=W.heap.size+1;omega) _,
  blk_other (blk_other h.pb _ 0 u (by omega)) _ 1 v (by omega),⟨u,v,hr2⟩,blk_other (blk_other h.ob _ 0 u (by omega)) _ 1 v (by omega),hlt,
  by obtain⟨xs,h1,h2⟩:=h.row;exact⟨xs,own_set (own_set h1 hr (by decide)) hr1 (by decide),h2⟩,
  fun q hq=>by obtain⟨ys,h1,h2⟩:=h.bars q hq;exact⟨ys,own_set (own_set h1 hr (by decide)) hr1 (by decide),h2⟩,h.sep⟩
theorem Mk.push (h:Mk W w R sl cl wi vs gs vb) (s:GS) {xs:List Value} (hx:∀ q (h:q<gs.length),posAt xs q gs[q].1.1 nilS (vb q)) (hown:w.ownsRow W.heap.size 92 5 vs gs.length xs)
  {g cap:Nat} (hgr:w.grownBy w' vs.ownBlock)
  (hown':w'.ownsRow W.heap.size 92 5 (.slice (some ⟨g,0,none⟩) (gs.length+1) cap) (gs.length+1) (xs++[.int .u8 s.k,.int .i64 s.lo,.int .i64 s.hi,nilS,nilS])) :
  Mk W (w'.setCell ⟨R,0,none⟩ (.slice (some ⟨g,0,none⟩) (gs.length+1) cap)) R sl cl wi (.slice (some ⟨g,0,none⟩) (gs.length+1) cap) (gs++[((s,()),[])]) (fun q=>if q<gs.length then vb q else nilS):=by
 have hR:=heap_kept h.ob hown (by decide) hgr;have hlt:=h.lt
 have hset:∀ {k:Nat} {o:Obj},k≠R->w'.heap[k]? = some o->(w'.setCell ⟨R,0,none⟩ (.slice (some ⟨g,0,none⟩) (gs.length+1) cap)).heap[k]? = some o:=fun {k o} hne ho=>by
  rw[heap_setCell_other' _ _ _ _ hne];exact ho
 constructor
 ·exact(below_grown h.bel hown hgr h.bel.size (Nat.le_refl _)).setCell (p:=⟨R,0,none⟩) (by show W.heap.size<=R;omega) _
 ·exact hset (by omega) (heap_kept h.pb hown (by decide) hgr)
 ·obtain⟨c0,c1,h1⟩:=h.rb;exact⟨c0,c1,hset (by omega) (heap_kept h1 hown (by decide) hgr)⟩
 ·exact blk_set hR 0 _
 ·exact hlt
 ·refine⟨_,by simpa using own_set hown' hR (by decide),fun q hq=>?_⟩
  simp only[List.length_append,List.length_cons,List.length_nil]at hq
  by_cases hl:q<gs.length
  ·rw[List.getElem_append_left hl]
   simp only[hl,if_true]
   exact(hx q hl).app
  ·obtain rfl:q=gs.length:=by omega
   rw[List.getElem_append_right (by omega)]
   simp only[Nat.sub_self,List.getElem_cons_zero,Nat.lt_irrefl,if_false]
   have hxl:=hown.1;refine⟨?_, ?_, ?_, ?_, ?_⟩<;>rw[List.getElem?_append_right (by omega)]<;>simp[hxl]
 ·intro q hq
  simp only[List.length_append,List.length_cons,List.length_nil]at hq
  by_cases hl:q<gs.length
  ·rw[List.getElem_append_left hl]
   simp only[hl,if_true]
   obtain⟨ys,h1,h2⟩:=h.bars q hl;exact⟨ys,own_set (own_kept2 h1 hown (by decide) hgr) hR (by decide),h2⟩
  ·obtain rfl:q=gs.length:=by omega
   rw[List.getElem_append_right (by omega)]
   simp only[Nat.sub_self,List.getElem_cons_zero,Nat.lt_irrefl,if_false]
   exact⟨[],World.ownsRow_nil _ _ _ _,fun r hr=>absurd hr (by simp)⟩
 ·intro q q' hq hq' hne
  simp only[List.length_append,List.length_cons,List.length_nil]at hq hq'
  by_cases hl:q<gs.length
  ·by_cases hl':q' < gs.length
   ·simp only[hl,hl',if_true]
    exact h.sep q q' hl hl' hne
   ·simp only[hl,hl',if_true,if_false]
    cases hv:(vb q).ownBlock with
    | none=>exact .inl rfl
    | some k=>exact .inr (by simp[Value.ownBlock])
  ·simp only[hl,if_false]
   exact .inl rfl
theorem Mk.bar {l:List (Grp Unit)} {gl:Grp Unit} (h:Mk W w R sl cl wi vs (l++[gl]) vb) (s:GS) {ys:List Value} (hy:∀ r (h':r<gl.2.length),barAt ys r gl.2[r].1 nilS) (hown:w.ownsRow W.heap.size 99 2 (vb l.length) gl.2.length ys)
  {g cap gv cv:Nat} (hvs:vs=.slice (some ⟨gv,0,none⟩) (l.length+1) cv) (hgr:w.grownBy w' (vb l.length).ownBlock) (hgg:(vb l.length).ownBlock=some g \/ w.heap.size<=g)
  (hown':w'.ownsRow W.heap.size 99 2 (.slice (some ⟨g,0,none⟩) (gl.2.length+1) cap) (gl.2.length+1) (ys++[.int .u8 s.k,nilS])) :
  Mk W (w'.setCell ⟨gv,l.length * 5+4,none⟩ (.slice (some ⟨g,0,none⟩) (gl.2.length+1) cap)) R sl cl wi vs (l++[(gl.1,gl.2++[(s,())])]) (fun q=>if q=l.length then .slice (some ⟨g,0,none⟩) (gl.2.length+1) cap else vb q):=by
 subst hvs;obtain⟨xs,hrow,hpos⟩:=h.row;have hrow':=own_kept2 hrow hown (by decide) hgr;have hglt:=own_lt hrow gv rfl
 obtain⟨csv,hgv⟩:∃ csv,w'.heap[gv]? = some (.cells csv 92 (0,0)):=by
  rcases hrow'.2 with ⟨h1,_⟩ | ⟨g1,c1,cur,h1,_,h2,_⟩
  ·simp at h1
  ·simp only[Value.slice.injEq,Option.some.injEq,Addr.mk.injEq,and_true]at h1
   obtain⟨rfl,_⟩:=h1;exact⟨cur,h2⟩
 have hset:∀ {k:Nat} {cs:Array Value} {t:TypeId} {f:Nat×Nat},t≠92 -> w'.heap[k]? = some (.cells cs t f)->(w'.setCell ⟨gv,l.length * 5+4,none⟩ (.slice (some ⟨g,0,none⟩) (gl.2.length+1) cap)).heap[k]? = some (.cells cs t f):=fun {k cs t f} hne ho=>by
  rw[heap_setCell_other' _ _ _ _ (fun e=>by
   have e':k=gv:=e
   subst e';rw[ho]at hgv;simp only[Option.some.injEq,Obj.cells.injEq]at hgv;exact hne hgv.2.1)]
  exact ho
 have hlen:∀ {q:Nat},q<(l++[(gl.1,gl.2++[(s,())])]).length->q≠l.length->∃ hl:q<l.length,(l++[(gl.1,gl.2++[(s,())])])[q]'(by simp;omega)=l[q]/\(l++[gl])[q]'(by simp;omega)=l[q]:=fun {q} hq hne=>by
  simp only[List.length_append,List.length_cons,List.length_nil]at hq
  have hl:q<l.length:=by omega
  exact⟨hl,List.getElem_append_left hl,List.getElem_append_left hl⟩
 have hlast:(l++[gl])[l.length]'(by simp)=gl:=by simp
 have hlast':(l++[(gl.1,gl.2++[(s,())])])[l.length]'(by simp)=(gl.1,gl.2++[(s,())]):=by simp
 constructor
 ·exact(below_grown h.bel hown hgr h.bel.size (Nat.le_refl _)).setCell (p:=⟨gv,l.length * 5+4,none⟩) (by exact hglt.1) _
 ·exact hset (by decide) (heap_kept h.pb hown (by decide) hgr)
 ·obtain⟨c0,c1,h1⟩:=h.rb;exact⟨c0,c1,hset (by decide) (heap_kept h1 hown (by decide) hgr)⟩
 ·exact hset (by decide) (heap_kept h.ob hown (by decide) hgr)
 ·exact h.lt
 ·refine⟨xs.set (l.length * 5+4) (.slice (some ⟨g,0,none⟩) (gl.2.length+1) cap), ?_,fun q hq=>?_⟩
  ·have:=(World.ownsRow.stored (by simpa using hrow') (l.length * 5+4) (.slice (some ⟨g,0,none⟩) (gl.2.length+1) cap)).1
   simpa using this
  ·by_cases he:q=l.length
   ·subst he;rw[hlast']
    simp only[if_true]
    have:=hpos l.length (by simp);rw[hlast]at this;exact this.set _
   ·obtain⟨hl,e1,e2⟩:=hlen hq he;rw[e1]
    simp only[he,if_false]
    have:=hpos q (by simp;omega);rw[e2]at this;exact this.setO he _
 ·intro q hq
  by_cases he:q=l.length
  ·subst he
   simp only[if_true]
   refine⟨ys++[.int .u8 s.k,nilS], ?_, ?_⟩
   ·rw[hlast']
    simpa using own_set (u:=.slice (some ⟨g,0,none⟩) (gl.2.length+1) cap) (i:=l.length * 5+4) hown' hgv (by decide)
   ·rw[hlast'];intro r hr
    simp only[List.length_append,List.length_cons,List.length_nil]at hr
    by_cases hl:r<gl.2.length
    ·simp only[List.getElem_append_left hl]
     exact(hy r hl).app
    ·obtain rfl:r=gl.2.length:=by omega
     rw[List.getElem_append_right (by omega)];have hyl:=hown.1;refine⟨?_, ?_⟩<;>rw[List.getElem?_append_right (by omega)]<;>simp[hyl]
  ·obtain⟨hl,e1,e2⟩:=hlen hq he;obtain⟨zs,h1,h2⟩:=h.bars q (by simp;omega);rw[e2]at h1 h2;refine⟨zs, ?_, ?_⟩
   ·rw[e1]
    simp only[he,if_false]
    exact own_set (h1.kept hgr (h.sep q l.length (by simp;omega) (by simp) he)) hgv (by decide)
   ·rw[e1];exact h2
 ·intro q q' hq hq' hne
  have hfresh:∀ {q:Nat},q<(l++[(gl.1,gl.2++[(s,())])]).length->q≠l.length->(vb q).ownBlock=none \/ (vb q).ownBlock≠some g:=fun {q} hq he=>by
   obtain⟨hl,_,e2⟩:=hlen hq he;obtain⟨zs,h1,_⟩:=h.bars q (by simp;omega)
   rcases hgg with hgg | hgg
   ·have:=h.sep q l.length (by simp;omega) (by simp) he;rw[hgg]at this;exact this
   ·refine .inr fun e=>?_
    have:=(own_lt h1 g e).2
    omega
  by_cases he:q=l.length
  ·have he':q'≠l.length:=by omega
   simp only[he,he',if_true,if_false]
   refine .inr ?_
   rcases hfresh hq' he' with h1 | h1
   ·rw[h1];simp[Value.ownBlock]
   ·exact fun e=>h1 e.symm
  ·by_cases he':q'=l.length
   ·simp only[he,he',if_true,if_false]
    exact hfresh hq he
   ·simp only[he,he',if_false]
    simp only[List.length_append,List.length_cons,List.length_nil]at hq hq'
    exact h.sep q q' (by simp;omega) (by simp;omega) hne
end
end Go.Proofs.YtcojnojdgigmdaaGreatDoor.WL
/- For the walk of plan.Make: a pattern at which nothing is wrong; what its operations do. -/
namespace Go.Proofs.YtcojnojdgigmdaaGreatDoor.WL
open Go Go.RowKit Go.Sort PL Mem WP
structure OKP (ss:List GS) (cs:List GC) (wi:Int):Prop where
 n1:1<=ss.length
 n8:ss.length<=8
 c16:cs.length<=16
 w0:0<=wi
 wm:wi<=9007199254740992
 st:∀ j,j<ss.length->stepE ss j=0
 bd:bindsTo ss ss.length<=16
 cd:∀ j,j<cs.length->condE ss cs[j]! = 0
theorem checkP_cases (ss:List GS) (cs:List GC) (wi:Int):(checkP ss cs wi).2≠0 \/ (checkP ss cs wi=(0,0)/\OKP ss cs wi):=by
 by_cases h:ss.length<1 \/ 8<ss.length \/ 16<cs.length
 ·left;rw[checkP_many h];decide
 by_cases h2:wi<0 \/ 9007199254740992<wi
 ·left;rw[checkP_arg h h2];decide
 rcases firstBad_cases (stepE ss) ss.length with ⟨_,hall⟩ | ⟨i,hi,he,hall,_⟩
 ·by_cases h3:16<bindsTo ss ss.length
  ·left;rw[checkP_binds h h2 hall h3];decide
  rcases firstBad_cases (fun i=>condE ss cs[i]!) cs.length with ⟨_,hc⟩ | ⟨i,hi,he,hc,_⟩
  ·exact .inr ⟨checkP_ok h h2 hall h3 hc,⟨by omega,by omega,by omega,by omega,by omega,hall,by omega,hc⟩⟩
  ·left;rw[checkP_cond h h2 hall h3 hi he hc];exact he
 ·left;rw[checkP_step h h2 hi he hall];exact he
theorem infoP:(Tryz.prog.info? 92).map (fun i=>(i.zero,i.size,i.bytes))=some (some (.agg #[.int .u8 0,.int .i64 0,.int .i64 0,nilS,nilS]),5,72):=by kernel_rfl
theorem infoB:(Tryz.prog.info? 99).map (fun i=>(i.zero,i.size,i.bytes))=some (some (.agg #[.int .u8 0,nilS]),2,32):=by kernel_rfl
theorem infoT:(Tryz.prog.info? 161).map (fun i=>(i.zero,i.size,i.bytes))=some (some (.agg #[.int .i64 0,.int .i64 0,.int .i64 0,.bool false]),4,32):=by kernel_rfl
theorem infoO:(Tryz.prog.info? 197).map (fun i=>(i.zero,i.size,i.bytes))=some (some (.agg #[.int .i64 0,.pointer none]),2,16):=by kernel_rfl
theorem groups_len {α:Type} (l:List (GS×α)):(groups l).length<=l.length:=by
 have h:∀ g:List (Grp α),g.length<=(flat g).length:=by
  intro g
  induction g with
  | nil=>simp
  | cons a r ih=>simp only[flat,List.flatMap_cons,List.length_append,List.length_cons]at ih ⊢;omega
 have:=h (groups l);rw[flat_groups]at this;exact this
def unitl (l:List GS):List (GS×Unit):=l.map fun s=>(s,())
theorem unitl_take (ss:List GS) (i:Nat) (h:i<ss.length):unitl (ss.take (i+1))=unitl (ss.take i)++[(ss[i],())]:=by
 unfold unitl;rw[List.take_add_one,List.map_append]
 simp[List.getElem?_eq_getElem h]
theorem res_make {w:World} {B:Nat} {c0 c1 v3 v4:Value} {tmps:Array Value} (h2:tmps[2]? = some (.pointer (some ⟨B,0,none⟩))) (h3:tmps[3]? = some v3) (h4:tmps[4]? = some v4)
  (s0:w.heap[B]? = some (.cells #[c0,c1] 25 (0,0))) :
  (results Tryz.f65 tmps).run Tryz.prog w=.ok (.tuple #[.agg #[c0,c1],v3,v4]) w:=by
 have e0:w.cell? ⟨B,0,none⟩=some c0:=(Lib.cell_of_heap s0 0).trans rfl;have e1:w.cell? ⟨B,1,none⟩=some c1:=(Lib.cell_of_heap s0 1).trans rfl
 simp[results,Tryz.results65,go_sem,h2,h3,h4,e0,e1]
theorem keep_cell' {W w:World} {g j:Nat} {u:Value} (hb:Below W.heap.size W w) (hg:g<W.heap.size) (h:W.cell? ⟨g,j,none⟩=some u):w.cell? ⟨g,j,none⟩=some u :=
 (hb.cell (p:=⟨g,j,none⟩) hg).trans h
theorem run_nil {P:Program} {a:Act} {w:World} {x:Operand} {ad:Addr} {d:Option Tmp} {ty:TypeId} {pos:String} {af:Array Edge} {g:Option (Nat×Bool)} (h:a.eval x=.pointer (some ad)) :
  (execOp a.eval { dst:=d,op:=.nilCheck x,type:=ty,pos:=pos,after:=af,guard:=g }).run P w=.ok (.value (.pointer (some ad))) w:=by
 simp only[execOp,h]
 rfl
theorem run_bar {a:Act} {w:World} {x:Operand} {k:Int} {d:Option Tmp} {ty:TypeId} {pos:String} {af:Array Edge} {g:Option (Nat×Bool)} (h:a.eval x=.int .u8 k) :
  (execOp a.eval { dst:=d,op:=.build 99 #[(0,x)],type:=ty,pos:=pos,after:=af,guard:=g }).run Tryz.prog w=.ok (.value (.agg #[.int .u8 k,nilS])) w:=by
 simp only[execOp,List.map_toArray,List.map_cons,List.map_nil,h]
 go_simp
theorem build_b (w:World) (k:Int):(Instr.buildSlice 90 1 #[(0,.agg #[.int .u8 k,nilS])]).run Tryz.prog w=.ok (.slice (some ⟨w.heap.size,0,none⟩) 1 1) (w.alloc (.cells [Value.int .u8 k,nilS].toArray 99)):=by
 go_simp
theorem fld_pos4 (w:World) (g j:Nat):(Instr.fieldAt 92 (.pointer (some ⟨g,j,none⟩)) 4).run Tryz.prog w=.ok (.pointer (some ⟨g,j+4,none⟩)) w:=by go_simp
theorem load_bars {w:World} {g j:Nat} {u:Value} (h:w.cell? ⟨g,j,none⟩=some u):(Instr.loadAt 90 (.pointer (some ⟨g,j,none⟩))).run Tryz.prog w=.ok u w:=by go_simp
theorem fld_step0 (w:World) (g:Nat):(Instr.fieldAt 192 (.pointer (some ⟨g,0,none⟩)) 0).run Tryz.prog w=.ok (.pointer (some ⟨g,0,none⟩)) w:=by go_simp
theorem load_u8 {w:World} {g j:Nat} {u:Value} (h:w.cell? ⟨g,j,none⟩=some u):(Instr.loadAt 5 (.pointer (some ⟨g,j,none⟩))).run Tryz.prog w=.ok u w:=by go_simp
theorem own_heap {w:World} {b g n cap s:Nat} {e:TypeId} {xs:List Value} (h:w.ownsRow b e s (.slice (some ⟨g,0,none⟩) n cap) n xs):∃ cs,w.heap[g]? = some (.cells cs e (0,0)):=by
 rcases h.2 with ⟨h1,_⟩ | ⟨g1,c1,cur,h1,_,h2,_⟩
 ·simp at h1
 ·simp only[Value.slice.injEq,Option.some.injEq,Addr.mk.injEq,and_true]at h1
  obtain⟨rfl,_⟩:=h1;exact⟨cur,h2⟩
end Go.Proofs.YtcojnojdgigmdaaGreatDoor.WL
/- The plan's tests as they are laid (plan.Make's last loop), and a finished plan as a reader finds it. No code is walked here. -/
namespace Go.Proofs.YtcojnojdgigmdaaGreatDoor.WL
open Go Go.RowKit PL Mem WP
def encT (t:PT):List Value:=[.int .i64 t.op,.int .i64 t.step,.int .i64 t.add,.bool t.turn]
theorem encT_one (e:PT):∀ u∈encT e,u.oneCell'=true:=by
 intro u hu
 simp only[encT,List.mem_cons,List.not_mem_nil,or_false]at hu
 rcases hu with rfl|rfl|rfl|rfl<;>rfl
theorem Sl_keep {w w':World} {B size n:Nat} {v:Value} {xs:List Value} (h:Sl w B size v n xs) (hk:∀ p:Addr,v.ownBlock=some p.block->p.block<B->w'.cell? p=w.cell? p):Sl w' B size v n xs:=by
 obtain⟨h1,A,c,hv,hc,hr⟩:=h;refine⟨h1,A,c,hv,hc,fun hn=>?_⟩;obtain⟨b,o,e,hb,hx⟩:=hr hn;exact⟨b,o,e,hb,fun j u hu=>(hk ⟨b,o+j,none⟩ (by rw[hv,e];rfl) hb).trans (hx j u hu)⟩
def Tests (w:World) (L B:Nat) (v:Value) (l:List PT):Prop:=Sl w B 4 v l.length (cellsOf encT l)/\∀ b,v.ownBlock=some b->L<=b
def BarsAt (w:World) (L B:Nat) (vb:Value) (bs:List (GS×Unit)) (ts:Nat->List PT) (k0:Nat):Prop :=
 ∃ ad c,vb=.slice ad bs.length c/\∀ r (h:r<bs.length),∃ gb,ad=some ⟨gb,0,none⟩/\(L<=gb/\gb<B)/\w.cell? ⟨gb,r * 2,none⟩=some (.int .u8 bs[r].1.k)/\∃ vt,w.cell? ⟨gb,r * 2+1,none⟩=some vt/\Tests w L B vt (ts (k0+r))
def PlanAt (w:World) (L B:Nat) (vs:Value) (gs:List (Grp Unit)) (ts:Nat->List PT):Prop :=
 ∃ ad c,vs=.slice ad gs.length c/\∀ q (h:q<gs.length),∃ gv,ad=some ⟨gv,0,none⟩/\(L<=gv/\gv<B)/\w.cell? ⟨gv,q * 5,none⟩=some (.int .u8 gs[q].1.1.k)/\w.cell? ⟨gv,q * 5+1,none⟩=some (.int .i64 gs[q].1.1.lo)/\w.cell? ⟨gv,q * 5+2,none⟩=some (.int .i64 gs[q].1.1.hi) /\
  (∃ vt,w.cell? ⟨gv,q * 5+3,none⟩=some vt/\Tests w L B vt (ts (startG gs q)))/\∃ vb,w.cell? ⟨gv,q * 5+4,none⟩=some vb/\BarsAt w L B vb gs[q].2 ts (startG gs q+1)
section
variable {w w' : World} {L L' B B' k0 : Nat} {v vb vs : Value} {l : List PT} {bs : List (GS × Unit)} {gs : List (Grp Unit)} {ts : Nat -> List PT}
theorem Tests.of_own {base:Nat} {e:TypeId} (h:w.ownsRow base e 4 v l.length (cellsOf encT l)) (hL:L<=base):Tests w L w.heap.size v l :=
 ⟨Sl.of_own h,fun b hb=>Nat.le_trans hL (own_lt h b hb).1⟩
theorem Tests.keep (h:Tests w L B v l) (hk:∀ p:Addr,L<=p.block->p.block<B->w'.cell? p=w.cell? p):Tests w' L B v l :=
 ⟨Sl_keep h.1 fun p hp hb=>hk p (h.2 _ hp) hb,h.2⟩
theorem Tests.more (h:Tests w L B v l) (hL:L'<=L) (hB:B<=B'):Tests w L' B' v l:=⟨Sl.more h.1 hB,fun b hb=>Nat.le_trans hL (h.2 b hb)⟩
theorem BarsAt.keep (h:BarsAt w L B vb bs ts k0) (hk:∀ p:Addr,L<=p.block->p.block<B->w'.cell? p=w.cell? p):BarsAt w' L B vb bs ts k0:=by
 obtain⟨ad,c,e,hr⟩:=h;refine⟨ad,c,e,fun r hr'=>?_⟩;obtain⟨gb,e1,hb,h1,vt,h2,h3⟩:=hr r hr';exact⟨gb,e1,hb,(hk ⟨gb,r * 2,none⟩ hb.1 hb.2).trans h1,vt,(hk ⟨gb,r * 2+1,none⟩ hb.1 hb.2).trans h2,h3.keep hk⟩
theorem PlanAt.keep (h:PlanAt w L B vs gs ts) (hk:∀ p:Addr,L<=p.block->p.block<B->w'.cell? p=w.cell? p):PlanAt w' L B vs gs ts:=by
 obtain⟨ad,c,e,hq⟩:=h;refine⟨ad,c,e,fun q hq'=>?_⟩;obtain⟨gv,e1,hb,h0,h1,h2,⟨vt,h3,h4⟩,vb,h5,h6⟩:=hq q hq';exact⟨gv,e1,hb,(hk ⟨gv,q * 5,none⟩ hb.1 hb.2).trans h0,(hk ⟨gv,q * 5+1,none⟩ hb.1 hb.2).trans h1,(hk ⟨gv,q * 5+2,none⟩ hb.1 hb.2).trans h2,⟨vt,(hk ⟨gv,q * 5+3,none⟩ hb.1 hb.2).trans h3,h4.keep hk⟩,vb,(hk ⟨gv,q * 5+4,none⟩ hb.1 hb.2).trans h5,h6.keep hk⟩
theorem BarsAt.more (h:BarsAt w L B vb bs ts k0) (hL:L'<=L) (hB:B<=B'):BarsAt w L' B' vb bs ts k0:=by
 obtain⟨ad,c,e,hr⟩:=h;refine⟨ad,c,e,fun r hr'=>?_⟩;obtain⟨gb,e1,hb,h1,vt,h2,h3⟩:=hr r hr';exact⟨gb,e1,by omega,h1,vt,h2,h3.more hL hB⟩
theorem PlanAt.more (h:PlanAt w L B vs gs ts) (hL:L'<=L) (hB:B<=B'):PlanAt w L' B' vs gs ts:=by
 obtain⟨ad,c,e,hq⟩:=h;refine⟨ad,c,e,fun q hq'=>?_⟩;obtain⟨gv,e1,hb,h0,h1,h2,⟨vt,h3,h4⟩,vb,h5,h6⟩:=hq q hq';exact⟨gv,e1,by omega,h0,h1,h2,⟨vt,h3,h4.more hL hB⟩,vb,h5,h6.more hL hB⟩
end
structure Fl (W w0 w:World) (n:Nat) (adr:Nat->Addr) (vt:Nat->Value) (ts:Nat->List PT):Prop where
 bel:Below W.heap.size W w
 size:w0.heap.size<=w.heap.size
 rng:∀ k,k<n->W.heap.size<=(adr k).block/\(adr k).block<w0.heap.size
 inj:∀ k k',k<n->k' < n->adr k=adr k' -> k=k'
 old:∀ p:Addr,p.block<w0.heap.size->(∀ k,k<n->p≠adr k)->w.cell? p=w0.cell? p
 fz:∀ p:Addr,p.block<w0.heap.size->w.frozen? p=w0.frozen? p
 cell:∀ k,k<n->w.cell? (adr k)=some (vt k)
 own:∀ k,k<n->w.ownsRow w0.heap.size 161 4 (vt k) (ts k).length (cellsOf encT (ts k))
 sep:∀ k k',k<n->k' < n->k≠k' -> (vt k).ownBlock=none \/ (vt k).ownBlock≠(vt k').ownBlock
section
variable {W w0 w w' : World} {n : Nat} {adr : Nat -> Addr} {vt : Nat -> Value} {ts : Nat -> List PT}
theorem Fl.below (h:Fl W w0 w n adr vt ts) (hb:Below w.heap.size w w'):Fl W w0 w' n adr vt ts := {
 bel:=h.bel.trans (hb.mono h.bel.size)
 size:=Nat.le_trans h.size hb.size
 rng:=h.rng
 inj:=h.inj
 old:=fun p hp hk=>(hb.cell (p:=p) (Nat.lt_of_lt_of_le hp h.size)).trans (h.old p hp hk)
 fz:=fun p hp=>(World.frozen?_of_block (hb.block p.block (Nat.lt_of_lt_of_le hp h.size))).trans (h.fz p hp)
 cell:=fun k hk=>(hb.cell (p:=adr k) (Nat.lt_of_lt_of_le (h.rng k hk).2 h.size)).trans (h.cell k hk)
 own:=fun k hk=>own_below (h.own k hk) hb
 sep:=h.sep }
theorem Fl.alloc (h:Fl W w0 w n adr vt ts) (o:Obj):Fl W w0 (w.alloc o) n adr vt ts:=h.below ((Below.refl _ _).alloc (Nat.le_refl _) o)
theorem Fl.res (h:Fl W w0 w n adr vt ts) (p:Addr) (u x:Value) (hp:W.heap.size<=p.block/\p.block<w0.heap.size) (hx:w0.cell? p=some x) (hne:∀ k,k<n->p.block≠(adr k).block):Fl W (w0.setCell p u) (w.setCell p u) n adr vt ts := {
 bel:=h.bel.setCell (p:=p) hp.1 u
 size:=by have:=h.size;simp;omega
 rng:=fun k hk=>by have:=h.rng k hk;simp;omega
 inj:=h.inj
 old:=fun q hq hk=>by
  have hq':q.block<w0.heap.size:=by simpa using hq
  by_cases e:p=q
  ·subst e;rw[World.cell?_setCell_same _ _ _ hx,World.cell?_setCell_same _ _ _ ((h.old p hq' hk).trans hx)]
  ·rw[World.cell?_setCell_other _ _ _ _ e,World.cell?_setCell_other _ _ _ _ e];exact h.old q hq' hk
 fz:=fun q hq=>by
  rw[World.frozen?_setCell,World.frozen?_setCell];exact h.fz q (by simpa using hq)
 cell:=fun k hk=>by
  rw[World.cell?_setCell_other _ _ _ _ (fun e=>hne k hk (by rw[e]))];exact h.cell k hk
 own:=fun k hk=>by
  have h1:=h.own k hk;rw[show(w0.setCell p u).heap.size=w0.heap.size by simp];refine ownsRow_setCell_other h1 (fun e=>?_) u;have:=(own_lt h1 _ e).1
  omega
 sep:=h.sep }
theorem Fl.app (h:Fl W w0 w n adr vt ts) (k:Nat) (hk:k<n) (t:PT) {g cap:Nat} (hgr:w.grownBy w' (vt k).ownBlock) (hgg:(vt k).ownBlock=some g \/ w.heap.size<=g)
  (hown:w'.ownsRow w0.heap.size 161 4 (.slice (some ⟨g,0,none⟩) ((ts k).length+1) cap) ((ts k).length+1) (cellsOf encT (ts k)++encT t)) :
  Fl W w0 (w'.setCell (adr k) (.slice (some ⟨g,0,none⟩) ((ts k).length+1) cap)) n adr (fun j=>if j=k then .slice (some ⟨g,0,none⟩) ((ts k).length+1) cap else vt j) (fun j=>if j=k then ts k++[t] else ts j):=by
 have hbw:=h.size
 have hrow:∀ b,b<w0.heap.size->w'.heap[b]? = w.heap[b]?:=fun b hb=>hgr.block b (by omega) fun e=>by
  have:=(own_lt (h.own k hk) b e.symm).1
  omega
 have hne:∀ {j:Nat} {v:Value},v.ownBlock=none \/ (∃ b,v.ownBlock=some b/\w0.heap.size<=b)->j<n->v.ownBlock≠some (adr j).block:=fun {j v} hv hj=>by
  rcases hv with hv | ⟨b,hv,hb⟩
  ·rw[hv];simp
  ·rw[hv];intro e
   injection e with e
   have:=(h.rng j hj).2
   omega
 have hvb:∀ {j:Nat},j<n->(vt j).ownBlock=none \/ (∃ b,(vt j).ownBlock=some b/\w0.heap.size<=b):=fun {j} hj=>by
  cases hv:(vt j).ownBlock with
  | none=>exact .inl rfl
  | some b=>exact .inr ⟨b,rfl,(own_lt (h.own j hj) b hv).1⟩
 have hcell:∀ j,j<n->w'.cell? (adr j)=some (vt j):=fun j hj=>(World.cell?_of_block (hrow _ (h.rng j hj).2)).trans (h.cell j hj)
 have hfresh:∀ {j:Nat},j<n->j≠k->(vt j).ownBlock=none \/ (vt j).ownBlock≠some g:=fun {j} hj hjk=>by
  rcases hgg with hgg | hgg
  ·have:=h.sep j k hj hk hjk;rw[hgg]at this;exact this
  ·refine .inr fun e=>?_
   have:=(own_lt (h.own j hj) g e).2
   omega
 have hbel:Below W.heap.size W w':=⟨hgr.os.trans h.bel.os,hgr.tape.trans h.bel.tape,hgr.output.trans h.bel.output,Nat.le_trans h.bel.size hgr.size,fun b hb=>by
  have hW:W.heap.size<=w.heap.size:=h.bel.size;refine(hgr.block b (by omega) fun e=>?_).trans (h.bel.block b hb);have h1:=(own_lt (h.own k hk) b e.symm).1;have h2:=(h.rng k hk)
  omega⟩
 constructor
 ·exact hbel.setCell (p:=adr k) (h.rng k hk).1 _
 ·show w0.heap.size<=(w'.setCell _ _).heap.size
  have:=hgr.size
  simp;omega
 ·exact h.rng
 ·exact h.inj
 ·intro p hp hpk;rw[World.cell?_setCell_other _ _ _ _ (fun e=>hpk k hk e.symm),World.cell?_of_block (hrow p.block hp)];exact h.old p hp hpk
 ·intro p hp;rw[World.frozen?_setCell,World.frozen?_of_block (hrow p.block hp)];exact h.fz p hp
 ·intro j hj
  by_cases e:j=k
  ·subst e
   simp only[if_true]
   exact World.cell?_setCell_same _ _ _ (hcell j hj)
  ·simp only[e,if_false]
   rw[World.cell?_setCell_other _ _ _ _ (fun e'=>e (h.inj j k hj hk e'.symm))];exact hcell j hj
 ·intro j hj
  by_cases e:j=k
  ·subst e
   simp only[if_true]
   have hgl:=(own_lt hown g rfl).1;rw[show(ts j++[t]).length=(ts j).length+1 by simp,cellsOf_snoc];refine ownsRow_setCell_other hown ?_ _;exact hne (.inr ⟨g,rfl,hgl⟩) hj
  ·simp only[e,if_false]
   refine ownsRow_setCell_other ((h.own j hj).kept hgr (h.sep j k hj hk e)) ?_ _;exact hne (hvb hj) hk
 ·intro j j' hj hj' hjj
  by_cases e:j=k
  ·have e':j'≠k:=by omega
   simp only[e,e',if_true,if_false]
   refine .inr ?_
   rcases hfresh hj' e' with h1 | h1
   ·rw[h1];simp[Value.ownBlock]
   ·exact fun e=>h1 e.symm
  ·by_cases e':j'=k
   ·simp only[e,e',if_true,if_false]
    exact hfresh hj e
   ·simp only[e,e',if_false]
    exact h.sep j j' hj hj' hjj
end
end Go.Proofs.YtcojnojdgigmdaaGreatDoor.WL
/- From the laid steps and bars (Mk) to the lists of tests (Fl), and from these to the finished plan (PlanAt). No code is walked here. -/
namespace Go.Proofs.YtcojnojdgigmdaaGreatDoor.WL
open Go Go.RowKit PL Mem WP
def adrOf (gs:List (Grp Unit)) (gv:Nat) (vb:Nat->Value) (k:Nat):Addr:=match (locate gs k).2 with
 | none=>⟨gv,(locate gs k).1 * 5+3,none⟩
 | some r=>⟨((vb (locate gs k).1).ownBlock).getD 0,r * 2+1,none⟩
theorem adr_head (gs:List (Grp Unit)) (gv:Nat) (vb:Nat->Value) (q:Nat) (h:q<gs.length):adrOf gs gv vb (startG gs q)=⟨gv,q * 5+3,none⟩:=by
 unfold adrOf;rw[locate_head gs q h]
theorem adr_bar (gs:List (Grp Unit)) (gv:Nat) (vb:Nat->Value) (q r:Nat) (h:q<gs.length) (hr:r<gs[q].2.length) {gb n c:Nat} (hv:vb q=.slice (some ⟨gb,0,none⟩) n c):adrOf gs gv vb (startG gs q+1+r)=⟨gb,r * 2+1,none⟩:=by
 unfold adrOf;rw[locate_bar gs q r h hr];simp only[hv,Value.ownBlock,Option.getD_some]
section
variable {W w0 w : World} {R gv cv : Nat} {sl cl : Value} {wi : Int} {gs : List (Grp Unit)} {vb : Nat -> Value}
theorem Mk.cells (h:Mk W w R sl cl wi (.slice (some ⟨gv,0,none⟩) gs.length cv) gs vb) (q:Nat) (hq:q<gs.length):W.heap.size<=gv/\gv<w.heap.size/\(∀ j,w.frozen? ⟨gv,j,none⟩=false) /\
  w.cell? ⟨gv,q * 5,none⟩=some (.int .u8 gs[q].1.1.k)/\w.cell? ⟨gv,q * 5+1,none⟩=some (.int .i64 gs[q].1.1.lo)/\w.cell? ⟨gv,q * 5+2,none⟩=some (.int .i64 gs[q].1.1.hi)/\w.cell? ⟨gv,q * 5+3,none⟩=some nilS/\w.cell? ⟨gv,q * 5+4,none⟩=some (vb q):=by
 obtain⟨xs,h1,h2⟩:=h.row;obtain⟨g,cap,e,hb,hl,hc⟩:=own_cells h1 (by omega)
 obtain⟨rfl,rfl⟩:gv=g/\cv=cap:=by simpa using e
 obtain⟨p0,p1,p2,p3,p4⟩:=h2 q hq;obtain⟨cs,hcs⟩:=own_heap h1;exact⟨hb,hl,fun j=>Lib.frozen_of_heap hcs j,hc _ _ p0,hc _ _ p1,hc _ _ p2,hc _ _ p3,hc _ _ p4⟩
theorem Mk.barc (h:Mk W w R sl cl wi (.slice (some ⟨gv,0,none⟩) gs.length cv) gs vb) (q r:Nat) (hq:q<gs.length) (hr:r<gs[q].2.length):∃ gb cb,vb q=.slice (some ⟨gb,0,none⟩) gs[q].2.length cb/\gb≠gv/\W.heap.size<=gb/\gb<w.heap.size/\(∀ j,w.frozen? ⟨gb,j,none⟩=false) /\
  w.cell? ⟨gb,r * 2,none⟩=some (.int .u8 gs[q].2[r].1.k)/\w.cell? ⟨gb,r * 2+1,none⟩=some nilS:=by
 obtain⟨ys,h1,h2⟩:=h.bars q hq;obtain⟨gb,cb,e,hb,hl,hc⟩:=own_cells h1 (by omega);obtain⟨p0,p1⟩:=h2 r hr;rw[e]at h1;obtain⟨cs,hcs⟩:=own_heap h1;obtain⟨xs,h3,_⟩:=h.row;refine⟨gb,cb,e,fun e'=>?_,hb,hl,fun j=>Lib.frozen_of_heap hcs j,hc _ _ p0,hc _ _ p1⟩
 rcases own_ne h1 h3 (by decide) with h4 | h4
 ·simp[Value.ownBlock]at h4
 ·exact h4 (by rw[e'];rfl)
theorem Mk.slot (h:Mk W w R sl cl wi (.slice (some ⟨gv,0,none⟩) gs.length cv) gs vb) (k:Nat) (hk:k<(flat gs).length) :
  (W.heap.size<=(adrOf gs gv vb k).block/\(adrOf gs gv vb k).block<w.heap.size)/\w.frozen? (adrOf gs gv vb k)=false/\w.cell? (adrOf gs gv vb k)=some nilS:=by
 rcases locate_cases gs k hk with ⟨q,hq,rfl⟩ | ⟨q,hq,r,hr,rfl⟩
 ·rw[adr_head gs gv vb q hq];obtain⟨h1,h2,h3,_,_,_,h4,_⟩:=h.cells q hq;exact⟨⟨h1,h2⟩,h3 _,h4⟩
 ·obtain⟨gb,cb,e,_,h1,h2,h3,_,h4⟩:=h.barc q r hq hr;rw[adr_bar gs gv vb q r hq hr e];exact⟨⟨h1,h2⟩,h3 _,h4⟩
theorem Mk.slotInj (h:Mk W w R sl cl wi (.slice (some ⟨gv,0,none⟩) gs.length cv) gs vb) (k k':Nat) (hk:k<(flat gs).length) (hk':k' < (flat gs).length) (e:adrOf gs gv vb k=adrOf gs gv vb k'):k=k':=by
 rcases locate_cases gs k hk with ⟨q,hq,rfl⟩ | ⟨q,hq,r,hr,rfl⟩
 ·rw[adr_head gs gv vb q hq]at e
  rcases locate_cases gs k' hk' with ⟨q',hq',rfl⟩ | ⟨q',hq',r',hr',rfl⟩
  ·rw[adr_head gs gv vb q' hq']at e
   simp only[Addr.mk.injEq]at e
   have:q=q':=by omega
   rw[this]
  ·obtain⟨gb,cb,e',hne,_⟩:=h.barc q' r' hq' hr';rw[adr_bar gs gv vb q' r' hq' hr' e']at e
   simp only[Addr.mk.injEq]at e
   exact absurd e.1.symm hne
 ·obtain⟨gb,cb,e1,hne,_⟩:=h.barc q r hq hr;rw[adr_bar gs gv vb q r hq hr e1]at e
  rcases locate_cases gs k' hk' with ⟨q',hq',rfl⟩ | ⟨q',hq',r',hr',rfl⟩
  ·rw[adr_head gs gv vb q' hq']at e
   simp only[Addr.mk.injEq]at e
   exact absurd e.1 hne
  ·obtain⟨gb',cb',e2,hne',_⟩:=h.barc q' r' hq' hr';rw[adr_bar gs gv vb q' r' hq' hr' e2]at e
   simp only[Addr.mk.injEq]at e
   obtain⟨e3,e4,_⟩:=e
   by_cases hqq:q=q'
   ·subst hqq;omega
   ·exfalso
    rcases h.sep q q' hq hq' hqq with h5 | h5
    ·rw[e1]at h5;simp[Value.ownBlock]at h5
    ·rw[e1,e2]at h5;exact h5 (by rw[e3];rfl)
theorem Mk.fl (h:Mk W w R sl cl wi (.slice (some ⟨gv,0,none⟩) gs.length cv) gs vb):Fl W w w (flat gs).length (adrOf gs gv vb) (fun _=>nilS) (fun _=>[]) := {
 bel:=h.bel
 size:=Nat.le_refl _
 rng:=fun k hk=>(h.slot k hk).1
 inj:=h.slotInj
 old:=fun _ _ _=>rfl
 fz:=fun _ _=>rfl
 cell:=fun k hk=>(h.slot k hk).2.2
 own:=fun _ _=>World.ownsRow_nil _ _ _ _
 sep:=fun _ _ _ _ _=>.inl rfl }
theorem Mk.noSlot (h:Mk W w R sl cl wi (.slice (some ⟨gv,0,none⟩) gs.length cv) gs vb) (p:Addr) (hp:∀ q,q<gs.length->p≠⟨gv,q * 5+3,none⟩) (hp':∀ q r gb cb,q<gs.length->vb q=.slice (some ⟨gb,0,none⟩) gs[q]!.2.length cb->p≠⟨gb,r * 2+1,none⟩) (k:Nat) (hk:k<(flat gs).length):p≠adrOf gs gv vb k:=by
 rcases locate_cases gs k hk with ⟨q,hq,rfl⟩ | ⟨q,hq,r,hr,rfl⟩
 ·rw[adr_head gs gv vb q hq];exact hp q hq
 ·obtain⟨gb,cb,e,_⟩:=h.barc q r hq hr;rw[adr_bar gs gv vb q r hq hr e];exact hp' q r gb cb hq (by rw[getElem!_pos gs q hq];exact e)
theorem Mk.noBlk (h:Mk W w R sl cl wi (.slice (some ⟨gv,0,none⟩) gs.length cv) gs vb) {g:Nat} {cs:Array Value} {t:TypeId} {f:Nat×Nat} (hg:w.heap[g]? = some (.cells cs t f)) (h1:t≠92) (h2:t≠99) (k:Nat) (hk:k<(flat gs).length):g≠(adrOf gs gv vb k).block:=by
 rcases locate_cases gs k hk with ⟨q,hq,rfl⟩ | ⟨q,hq,r,hr,rfl⟩
 ·rw[adr_head gs gv vb q hq];obtain⟨xs,h3,_⟩:=h.row;obtain⟨cs',hcs⟩:=own_heap h3;intro e;have e':g=gv:=e;subst e';rw[hg]at hcs
  simp only[Option.some.injEq,Obj.cells.injEq]at hcs
  exact h1 hcs.2.1
 ·obtain⟨gb,cb,e,_⟩:=h.barc q r hq hr;rw[adr_bar gs gv vb q r hq hr e];obtain⟨ys,h3,_⟩:=h.bars q hq;rw[e]at h3;obtain⟨cs',hcs⟩:=own_heap h3;intro e;have e':g=gb:=e;subst e';rw[hg]at hcs
  simp only[Option.some.injEq,Obj.cells.injEq]at hcs
  exact h2 hcs.2.1
theorem Fl.plan {vt:Nat->Value} {ts:Nat->List PT} (h:Mk W w0 R sl cl wi (.slice (some ⟨gv,0,none⟩) gs.length cv) gs vb) (hf:Fl W w0 w (flat gs).length (adrOf gs gv vb) vt ts):PlanAt w W.heap.size w.heap.size (.slice (some ⟨gv,0,none⟩) gs.length cv) gs ts:=by
 have hsz:=hf.size
 have tst:∀ k,k<(flat gs).length->Tests w W.heap.size w.heap.size (vt k) (ts k):=fun k hk=>Tests.of_own (hf.own k hk) h.bel.size
 refine⟨_,_,rfl,fun q hq=>⟨gv,rfl, ?_⟩⟩;obtain⟨hl0,hl,_,p0,p1,p2,_,p4⟩:=h.cells q hq
 have ho:∀ {j:Nat} {u:Value},(∀ q',j≠q' * 5+3)->w0.cell? ⟨gv,j,none⟩=some u->w.cell? ⟨gv,j,none⟩=some u:=fun {j u} hj hu=>by
  rw[hf.old ⟨gv,j,none⟩ hl (h.noSlot _ (fun q' _ e=>hj q' (by simp only[Addr.mk.injEq]at e;exact e.2.1)) (fun q' r gb cb hq' e e'=>by
   simp only[Addr.mk.injEq]at e'
   obtain⟨ys,h3,_⟩:=h.bars q' hq';rw[getElem!_pos gs q' hq']at e;rw[e]at h3;obtain⟨xs,h4,_⟩:=h.row
   rcases own_ne h3 h4 (by decide) with h5 | h5
   ·simp[Value.ownBlock]at h5
   ·exact h5 (by rw[e'.1];rfl)))]
  exact hu
 refine⟨⟨hl0,by omega⟩,ho (by omega) p0,ho (by omega) p1,ho (by omega) p2,⟨vt (startG gs q), ?_,tst _ (startG_lt gs q hq)⟩,vb q,ho (by omega) p4, ?_⟩
 ·have:=hf.cell _ (startG_lt gs q hq);rw[adr_head gs gv vb q hq]at this;exact this
 ·obtain⟨ys,h3,_⟩:=h.bars q hq;obtain⟨ad,c,e⟩:=own_slice h3;refine⟨ad,c,e,fun r hr=>?_⟩;obtain⟨gb,cb,e1,hne,hl3,hl2,_,b0,_⟩:=h.barc q r hq hr;rw[e]at e1
  obtain⟨rfl,rfl⟩:ad=some ⟨gb,0,none⟩/\c=cb:=by simpa using e1
  refine⟨gb,rfl,⟨hl3,by omega⟩, ?_,vt (startG gs q+1+r), ?_,tst _ (bar_lt gs q r hq hr)⟩
  ·rw[hf.old ⟨gb,r * 2,none⟩ hl2 (h.noSlot _ (fun q' _ e'=>by simp only[Addr.mk.injEq]at e';exact hne e'.1) (fun q' r' gb' cb' _ _ e'=>by simp only[Addr.mk.injEq]at e';omega))];exact b0
  ·have:=hf.cell _ (bar_lt gs q r hq hr);rw[adr_bar gs gv vb q r hq hr e]at this;exact this
end
end Go.Proofs.YtcojnojdgigmdaaGreatDoor.WL
/- For plan.Make's last loop: a condition at which nothing is wrong; what the loop's operations do. -/
namespace Go.Proofs.YtcojnojdgigmdaaGreatDoor.WL
open Go Go.RowKit PL Mem WP
def PostM (W:World) (ss:List GS) (cs:List GC) (wi:Int) (e:Ending) (w':World):Prop :=
 Below W.heap.size W w'/\(((checkP ss cs wi).2≠0/\e=.returned (.tuple #[.agg #[nilS,.int .i64 0],.int .i64 (checkP ss cs wi).1,.int .i64 (checkP ss cs wi).2])) \/
  (checkP ss cs wi=(0,0)/\OKP ss cs wi/\∃ vs,e=.returned (.tuple #[.agg #[vs,.int .i64 wi],.int .i64 0,.int .i64 0])/\PlanAt w' W.heap.size w'.heap.size vs (groups (unitl ss)) (testsAt ss cs)))
theorem res_make2 {w:World} {B:Nat} {c0 c1 v3 v4:Value} {tmps:Array Value} (h2:tmps[2]? = some (.pointer (some ⟨B,0,none⟩))) (h3:tmps[3]? = some v3) (h4:tmps[4]? = some v4)
  (e0:w.cell? ⟨B,0,none⟩=some c0) (e1:w.cell? ⟨B,1,none⟩=some c1) :
  (results Tryz.f65 tmps).run Tryz.prog w=.ok (.tuple #[.agg #[c0,c1],v3,v4]) w:=by
 simp[results,Tryz.results65,go_sem,h2,h3,h4,e0,e1]
theorem condE_ok {ss:List GS} {d:GC} (h:condE ss d=0):(0<=d.op/\d.op<=5)/\(-9007199254740992<=d.k/\d.k<=9007199254740992)/\(∃ p:Nat,findP ss d.l=p/\p<ss.length) /\
  (d.r≠0->∃ p r:Nat,findP ss d.l=p/\findP ss d.r=r/\p<ss.length/\r<ss.length/\(ss[min p r]!).neg=false):=by
 unfold condE at h
 split at h
 ·omega
 split at h
 ·omega
 split at h
 ·omega
 rename_i h1 h2 h3
 have hl:=findP_lt ss d.l;have hr:=findP_lt ss d.r;refine⟨by omega,by omega,⟨(findP ss d.l).toNat,by omega,by omega⟩,fun hd=>?_⟩;rw[if_neg hd]at h
 have hr0:0<=findP ss d.r:=by
  rcases Int.lt_or_le (findP ss d.r) 0 with h4 | h4
  ·exact absurd (.inr ⟨hd,h4⟩) h3
  ·exact h4
 have hl0:0<=findP ss d.l:=by omega
 refine⟨(findP ss d.l).toNat,(findP ss d.r).toNat,by omega,by omega,by omega,by omega, ?_⟩
 split at h
 ·omega
 ·rename_i h5
  rw[show min (findP ss d.l).toNat (findP ss d.r).toNat=(min (findP ss d.l) (findP ss d.r)).toNat by omega]
  simpa using h5
section
variable {a : Act} {w : World} {d : Option Tmp} {ty : TypeId} {pos : String} {af : Array Edge} {gd : Option (Nat × Bool)}
theorem run_ix {x y:Operand} {g n c k:Nat} (h1:a.eval x=.slice (some ⟨g,0,none⟩) n c) (h2:a.eval y=.int .i64 k) (hl:k<n) :
  (execOp a.eval { dst:=d,op:=.indexAddr 194 x y,type:=ty,pos:=pos,after:=af,guard:=gd }).run Tryz.prog w=.ok (.value (.pointer (some ⟨g,k * 2,none⟩))) w:=by
 have h3:(k:Int)<(n:Int):=by omega
 have h4:(0:Int)<=(k:Int):=by omega
 simp only[execOp,h1,h2]
 go_simp
theorem fld_tests1 (w:World) (g j:Nat):(Instr.fieldAt 197 (.pointer (some ⟨g,j,none⟩)) 1).run Tryz.prog w=.ok (.pointer (some ⟨g,j+1,none⟩)) w:=by go_simp
theorem load_ptr {w:World} {g j:Nat} {u:Value} (h:w.cell? ⟨g,j,none⟩=some u):(Instr.loadAt 195 (.pointer (some ⟨g,j,none⟩))).run Tryz.prog w=.ok u w:=by go_simp
theorem load_tests {w:World} {g j:Nat} {u:Value} (h:w.cell? ⟨g,j,none⟩=some u):(Instr.loadAt 89 (.pointer (some ⟨g,j,none⟩))).run Tryz.prog w=.ok u w:=by go_simp
theorem load_test {w:World} {g:Nat} {t:PT} (h:w.heap[g]? = some (.cells (encT t).toArray 161 (0,0))):(Instr.loadAt 161 (.pointer (some ⟨g,0,none⟩))).run Tryz.prog w=.ok (.agg (encT t).toArray) w:=by
 have e0:w.cell? ⟨g,0,none⟩=some (.int .i64 t.op):=(Lib.cell_of_heap h 0).trans rfl;have e1:w.cell? ⟨g,1,none⟩=some (.int .i64 t.step):=(Lib.cell_of_heap h 1).trans rfl;have e2:w.cell? ⟨g,2,none⟩=some (.int .i64 t.add):=(Lib.cell_of_heap h 2).trans rfl;have e3:w.cell? ⟨g,3,none⟩=some (.bool t.turn):=(Lib.cell_of_heap h 3).trans rfl;unfold encT
 go_simp
theorem build_t (w:World) (t:PT):(Instr.buildSlice 89 1 #[(0,.agg (encT t).toArray)]).run Tryz.prog w=.ok (.slice (some ⟨w.heap.size,0,none⟩) 1 1) (w.alloc (.cells (encT t).toArray 161)):=by
 unfold encT
 go_simp
end
end Go.Proofs.YtcojnojdgigmdaaGreatDoor.WL
/- The document's plan under way (oxbowref20.Make), and as a reader finds it. No code is walked here. -/
namespace Go.Proofs.YtcojnojdgigmdaaGreatDoor.WL
open Go Go.RowKit PL Mem WP
def dposAt (xs:List Value) (q:Nat) (s:GS) (vt:Value):Prop :=
 xs[q * 5]? = some (.int .u8 s.k)/\xs[q * 5+1]? = some (.bool s.neg)/\xs[q * 5+2]? = some (.int .i64 s.lo)/\xs[q * 5+3]? = some (.int .i64 s.hi)/\xs[q * 5+4]? = some vt
theorem dposAt.app {xs ys:List Value} {q:Nat} {s:GS} {vt:Value} (h:dposAt xs q s vt):dposAt (xs++ys) q s vt:=by
 have f:∀ {j:Nat} {u:Value},xs[j]? = some u->(xs++ys)[j]? = some u:=fun {j u} hj=>by
  rw[List.getElem?_append_left (List.getElem?_eq_some_iff.1 hj).1];exact hj
 exact⟨f h.1,f h.2.1,f h.2.2.1,f h.2.2.2.1,f h.2.2.2.2⟩
def DocAt (w:World) (L B:Nat) (qs:Value) (ss:List GS) (ts:Nat->List PT):Prop :=
 ∃ ad c,qs=.slice ad ss.length c/\∀ i (h:i<ss.length),∃ g,ad=some ⟨g,0,none⟩/\(L<=g/\g<B)/\w.cell? ⟨g,i * 5,none⟩=some (.int .u8 ss[i].k)/\w.cell? ⟨g,i * 5+1,none⟩=some (.bool ss[i].neg) /\
  w.cell? ⟨g,i * 5+2,none⟩=some (.int .i64 ss[i].lo)/\w.cell? ⟨g,i * 5+3,none⟩=some (.int .i64 ss[i].hi)/\∃ vt,w.cell? ⟨g,i * 5+4,none⟩=some vt/\Tests w L B vt (ts i)
theorem DocAt.keep {w w':World} {L B:Nat} {qs:Value} {ss:List GS} {ts:Nat->List PT} (h:DocAt w L B qs ss ts) (hk:∀ p:Addr,L<=p.block->p.block<B->w'.cell? p=w.cell? p):DocAt w' L B qs ss ts:=by
 obtain⟨ad,c,e,hq⟩:=h;refine⟨ad,c,e,fun i hi=>?_⟩;obtain⟨g,e1,hb,h0,h1,h2,h3,vt,h4,h5⟩:=hq i hi;exact⟨g,e1,hb,(hk ⟨g,i * 5,none⟩ hb.1 hb.2).trans h0,(hk ⟨g,i * 5+1,none⟩ hb.1 hb.2).trans h1,(hk ⟨g,i * 5+2,none⟩ hb.1 hb.2).trans h2,(hk ⟨g,i * 5+3,none⟩ hb.1 hb.2).trans h3,vt,(hk ⟨g,i * 5+4,none⟩ hb.1 hb.2).trans h4,h5.keep hk⟩
theorem DocAt.more {w:World} {L L' B B':Nat} {qs:Value} {ss:List GS} {ts:Nat->List PT} (h:DocAt w L B qs ss ts) (hL:L'<=L) (hB:B<=B'):DocAt w L' B' qs ss ts:=by
 obtain⟨ad,c,e,hq⟩:=h;refine⟨ad,c,e,fun i hi=>?_⟩;obtain⟨g,e1,hb,h0,h1,h2,h3,vt,h4,h5⟩:=hq i hi;exact⟨g,e1,by omega,h0,h1,h2,h3,vt,h4,h5.more hL hB⟩
structure Dk (W w:World) (O:Nat) (sl cl:Value) (wi:Int) (ss:List GS) (ts:Nat->List PT) (vs:Value) (i:Nat):Prop where
 bel:Below W.heap.size W w
 pb:w.heap[W.heap.size]? = some (.cells #[sl,cl,.int .i64 wi] 70 (0,0))
 rb:w.heap[W.heap.size+1]? = some (.cells #[nilS,.int .i64 0] 28 (0,0))
 ob:w.heap[O]? = some (.cells #[vs,.int .i64 wi] 28 (0,0))
 lt:W.heap.size+1<O
 row:∃ xs,w.ownsRow W.heap.size 107 5 vs i xs/\∀ q,q<i->∃ vt,dposAt xs q ss[q]! vt/\w.ownsRow W.heap.size 147 4 vt (ts q).length (cellsOf encT (ts q))
section
variable {W w w' : World} {O : Nat} {sl cl vs : Value} {wi : Int} {ss : List GS} {ts : Nat -> List PT} {i : Nat}
theorem Dk.below (h:Dk W w O sl cl wi ss ts vs i) (hb:Below w.heap.size w w'):Dk W w' O sl cl wi ss ts vs i := {
 bel:=h.bel.trans (hb.mono h.bel.size)
 pb:=(hb.block _ (blk_lt h.pb)).trans h.pb
 rb:=(hb.block _ (blk_lt h.rb)).trans h.rb
 ob:=(hb.block _ (blk_lt h.ob)).trans h.ob
 lt:=h.lt
 row:=by
  obtain⟨xs,h1,h2⟩:=h.row;refine⟨xs,own_below h1 hb,fun q hq=>?_⟩;obtain⟨vt,h3,h4⟩:=h2 q hq;exact⟨vt,h3,own_below h4 hb⟩ }
theorem Dk.push (h:Dk W w O sl cl wi ss ts vs i) {xs:List Value} (hx:∀ q,q<i->∃ vt,dposAt xs q ss[q]! vt/\w.ownsRow W.heap.size 147 4 vt (ts q).length (cellsOf encT (ts q)))
  (hown:w.ownsRow W.heap.size 107 5 vs i xs) {g cap:Nat} {vt:Value} (hvt:w.ownsRow W.heap.size 147 4 vt (ts i).length (cellsOf encT (ts i)))
  (hgr:w.grownBy w' vs.ownBlock) (hown':w'.ownsRow W.heap.size 107 5 (.slice (some ⟨g,0,none⟩) (i+1) cap) (i+1) (xs++[.int .u8 (ss[i]!).k,.bool (ss[i]!).neg,.int .i64 (ss[i]!).lo,.int .i64 (ss[i]!).hi,vt])) :
  Dk W (w'.setCell ⟨O,0,none⟩ (.slice (some ⟨g,0,none⟩) (i+1) cap)) O sl cl wi ss ts (.slice (some ⟨g,0,none⟩) (i+1) cap) (i+1):=by
 have hO:=heap_kept h.ob hown (by decide) hgr;have hlt:=h.lt
 have hset:∀ {k:Nat} {o:Obj},k≠O->w'.heap[k]? = some o->(w'.setCell ⟨O,0,none⟩ (.slice (some ⟨g,0,none⟩) (i+1) cap)).heap[k]? = some o:=fun {k o} hne ho=>by
  rw[heap_setCell_other' _ _ _ _ hne];exact ho
 refine⟨(below_grown h.bel hown hgr h.bel.size (Nat.le_refl _)).setCell (p:=⟨O,0,none⟩) (by show W.heap.size<=O;omega) _,hset (by omega) (heap_kept h.pb hown (by decide) hgr),hset (by omega) (heap_kept h.rb hown (by decide) hgr),blk_set hO 0 _,hlt,
  ⟨_,own_set hown' hO (by decide),fun q hq=>?_⟩⟩
 by_cases hl:q<i
 ·obtain⟨vt',h3,h4⟩:=hx q hl;exact⟨vt',h3.app,own_set (own_kept2 h4 hown (by decide) hgr) hO (by decide)⟩
 ·obtain rfl:q=i:=by omega
  refine⟨vt, ?_,own_set (own_kept2 hvt hown (by decide) hgr) hO (by decide)⟩;have hxl:=hown.1;refine⟨?_, ?_, ?_, ?_, ?_⟩<;>rw[List.getElem?_append_right (by omega)]<;>simp[hxl]
theorem Dk.res (h:Dk W w O sl cl wi ss ts vs ss.length) (u v:Value):DocAt ((w.setCell ⟨W.heap.size+1,0,none⟩ u).setCell ⟨W.heap.size+1,1,none⟩ v) W.heap.size ((w.setCell ⟨W.heap.size+1,0,none⟩ u).setCell ⟨W.heap.size+1,1,none⟩ v).heap.size vs ss ts:=by
 have hr1:=blk_set h.rb 0 u;obtain⟨xs,h1,h2⟩:=h.row;have h1':=own_set (u:=v) (i:=1) (own_set (u:=u) (i:=0) h1 h.rb (by decide)) hr1 (by decide);obtain⟨ad,c,e⟩:=own_slice h1';refine⟨ad,c,e,fun i hi=>?_⟩;obtain⟨g,cap,e1,hl0,hl,hc⟩:=own_cells h1' (by omega);obtain⟨vt,⟨p0,p1,p2,p3,p4⟩,h4⟩:=h2 i hi;rw[e]at e1
 obtain⟨rfl,rfl⟩:ad=some ⟨g,0,none⟩/\c=cap:=by simpa using e1
 rw[getElem!_pos ss i hi]at p0 p1 p2 p3;exact⟨g,rfl,⟨hl0,hl⟩,hc _ _ p0,hc _ _ p1,hc _ _ p2,hc _ _ p3,vt,hc _ _ p4,Tests.of_own (own_set (own_set h4 h.rb (by decide)) hr1 (by decide)) (Nat.le_refl _)⟩
end
theorem infoP2:(Tryz.prog.info? 107).map (fun i=>(i.zero,i.size,i.bytes))=some (some (.agg #[.int .u8 0,.bool false,.int .i64 0,.int .i64 0,nilS]),5,48):=by kernel_rfl
theorem infoT2:(Tryz.prog.info? 147).map (fun i=>(i.zero,i.size,i.bytes))=some (some (.agg #[.int .i64 0,.int .i64 0,.int .i64 0,.bool false]),4,32):=by kernel_rfl
theorem res_make20 {w:World} {B:Nat} {c0 c1:Value} {tmps:Array Value} (h2:tmps[2]? = some (.pointer (some ⟨B,0,none⟩)))
  (e0:w.cell? ⟨B,0,none⟩=some c0) (e1:w.cell? ⟨B,1,none⟩=some c1) :
  (results Tryz.f26 tmps).run Tryz.prog w=.ok (.agg #[c0,c1]) w:=by
 simp[results,Tryz.results26,go_sem,h2,e0,e1]
end Go.Proofs.YtcojnojdgigmdaaGreatDoor.WL
