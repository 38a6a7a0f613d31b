/- The walks of run.Put, oxbowref21.Put. -/
import Derived.Test.YtcojnojdgigmdaaGreatDoorB01
import Derived.Test.YtcojnojdgigmdaaGreatDoorWE18
import Derived.Test.YtcojnojdgigmdaaGreatDoorPRB
import Derived.Test.YtcojnojdgigmdaaGreatDoorB02
import Derived.Deep.CutBlock
import Derived.Deep.DeepCutAuto
set_option maxHeartbeats 6400000
set_option maxRecDepth 100000
namespace Go.Proofs.YtcojnojdgigmdaaGreatDoor.WB2
open Go Go.RowKit Mem PE
theorem infoI64:(Tryz.prog.info? 2).map (fun i=>(i.zero,i.size,i.bytes))=some (some (.int .i64 0),1,8):=by kernel_rfl
theorem build_i64 (w:World) (x:Int):(Instr.buildSlice 115 1 #[(0,.int .i64 x)]).run Tryz.prog w=.ok (.slice (some ⟨w.heap.size,0,none⟩) 1 1) (w.alloc (.cells #[.int .i64 x] 2)):=by go_simp
theorem fld_run (w:World) (g:Nat):(Instr.fieldAt 47 (.pointer (some ⟨g,0,none⟩)) 1).run Tryz.prog w=.ok (.pointer (some ⟨g,1,none⟩)) w:=by go_simp
theorem load_evs {w:World} {p:Addr} {a:Option Addr} {n c:Nat} (h:w.cell? p=some (.slice a n c)):(Instr.loadAt 32 (.pointer (some p))).run Tryz.prog w=.ok (.slice a n c) w:=by go_simp
theorem below_fold {a w w':World} (h:Below a.heap.size a w) (hw:a.heap.size+1<=w.heap.size) (h2:Below (Reg.trunc (a.heap.size+1) w).heap.size (Reg.trunc (a.heap.size+1) w) w'):Below a.heap.size a w':=by
 have e:(Reg.trunc (a.heap.size+1) w).heap.size=a.heap.size+1:=Reg.trunc_size hw;have h3:=Reg.trunc_below hw;have hs:=h2.size;rw[e]at hs;refine⟨h2.os.trans (h3.os.symm.trans h.os),h2.tape.trans (h3.tape.symm.trans h.tape),h2.output.trans (h3.output.symm.trans h.output),by omega,fun k hk=>?_⟩;exact((h2.block k (by rw[e];omega)).trans ((h3.block k (by rw[e];omega)).symm)).trans (h.block k hk)
section
variable {a : Act} {w : World} {x y : Operand} {d : Option Tmp} {ty : TypeId} {pos : String} {af : Array Edge} {g : Option (Nat × Bool)}
theorem run_sadd {s1 s2:ByteArray} (h1:a.eval x=.string s1) (h2:a.eval y=.string s2) (h:s1.size+s2.size<=9223372036854775807):(execOp a.eval { dst:=d,op:=.binOp .add 9 x y 9,type:=ty,pos:=pos,after:=af,guard:=g }).run Tryz.prog w=.ok (.value (.string (s1++s2))) w:=by
 have h3:=fun w=>run_string_add_sum (P:=Tryz.prog) (w:=w) s1 s2 h
 simp only[execOp,h1,h2]
 go_simp
theorem run_enter1 {P:Program} {vx:Value} {f:FuncId} {ts:Array TypeId} (hx:a.eval x=vx) (h:(callFunc f #[vx]).run P w=.ok (.enter f #[vx]) w):(execOp a.eval { dst:=d,op:=.call { callee:=.value (.func f),args:=#[x],argTypes:=ts },type:=ty,pos:=pos,after:=af,guard:=g }).run P w=.ok (.enter f #[vx]) w:=by
 have he:a.eval (.func f)=.func (.func f) #[] #[]:=rfl
 simp only[execOp,resolve,he,Deferred.ofValue,invoke,Sem.run_bind,Sem.run_pure,Result.andThen_ok,List.map_toArray,List.map_cons,List.map_nil,hx]
 exact h
end
theorem rput_any (cs:List Int) (es:List Ev) (bl:Bool) (cv ev:Value) (W:World) (hc:Ints W W.heap.size cv cs) (he:Evs W W.heap.size ev es) (hcl:cs.length<=10000000) (hel:es.length<=100000000) (hcf:∀ x∈cs,WE.fit64 x) (hef:∀ x∈es,x.fits) :
  Calls Tryz.prog 20 #[.agg #[cv,ev,.bool bl]] W fun e w'=>e=.returned (.string ⟨(putRun cs es bl).toArray⟩)/\Below W.heap.size W w':=by
 have mixed:Tryz.prog.follows .mixedOrders=true:=by kernel_rfl
 obtain⟨ca,cc,rfl⟩:=hc.shape;obtain⟨ea,ec,rfl⟩:=he.shape;have HC:=Hyd hc;have HE:=Hyd he;have HCF:=Hyd hcf;have HEF:=Hyd hef;have HBX0:=Hyd (show(W.alloc (.cells #[.slice ca cs.length cc,.slice ea es.length ec,.bool bl] 47)).heap[W.heap.size]? = some (.cells #[.slice ca cs.length cc,.slice ea es.length ec,.bool bl] 47 (0,0)) from heap_new rfl);have HBX1:=Hyd (heap_alloc (o':=.cells #[.int .i64 cs.length] 2) HBX0.out);have HB1:=Hyd (below_alloc0 (o:=.cells #[.int .i64 cs.length] 2) (below_alloc0 (o:=.cells #[.slice ca cs.length cc,.slice ea es.length ec,.bool bl] 47) (Below.refl W.heap.size W)));have HO1:=Hyd (show((W.alloc (.cells #[.slice ca cs.length cc,.slice ea es.length ec,.bool bl] 47)).alloc (.cells #[.int .i64 cs.length] 2)).ownsRow (W.heap.size+1) 2 1 (.slice (some ⟨W.heap.size+1,0,none⟩) 1 1) (0+1) (.int .i64 cs.length :: (cs.take 0).map (.int .i64)) from Reg.own_new (by simp) (by simp) rfl (by decide))
 clear hc he hcf hef HBX0
 go_enter Tryz.func20,Tryz.ntmps20
 go_wp2_with fail;generalize (W.alloc (.cells #[.slice ca cs.length cc,.slice ea es.length ec,.bool bl] 47)).alloc (.cells #[.int .i64 cs.length] 2)=W1 at *
 go_loopw [3,14] (fun nv i wr=>∃ k:Nat,k<=cs.length/\i=.int .i64 k/\Hid (wr.ownsRow (W.heap.size+1) 2 1 nv (k+1) (.int .i64 cs.length :: (cs.take k).map (.int .i64)))/\Hid (wr.heap[W.heap.size]? = some (.cells #[.slice ca cs.length cc,.slice ea es.length ec,.bool bl] 47 (0,0)))/\Hid (Below W.heap.size W wr)) (fun _ i _=>cs.length-(intOf i).toNat)
 case atStart=>exact⟨0,Nat.zero_le _,rfl,HO1,HBX1,HB1⟩
 case round =>
  clear HO1 HBX1 HB1;obtain⟨k,hk,rfl,HO,HBX,HB⟩:=hrel;obtain⟨na,nc,rfl⟩:=(Sl.of_own HO.out).shape;have hbz:=HB.out.size;have hbl:=heap_lt HBX.out
  by_cases hlt:k<cs.length
  ·obtain⟨b,o,c',hc',hbb,hcell⟩:=HC.out.at_ hlt
   obtain⟨rfl,rfl⟩:ca=some ⟨b,o,none⟩/\cc=c':=by simpa using hc'
   clear hc';have hc1:wr.cell? ⟨b,o+k,none⟩=some (.int .i64 cs[k]):=(HB.out.cell (p:=⟨b,o+k,none⟩) hbb).trans hcell;have HTK:=Hyd (List.take_succ_eq_append_getElem (l:=cs) (i:=k) hlt);generalize cs[k]=x at *;obtain⟨i0,hi,hz0,hz1,hz2⟩:=info_parts infoI64;have HOA:=Hyd (own_below HO.out (show Below wr.heap.size wr (wr.alloc (.cells #[.int .i64 x] 2)) from(Below.refl _ _).alloc (Nat.le_refl _) _));have HXA:=Hyd (heap_alloc (o':=.cells #[.int .i64 x] 2) HBX.out);have HBA:=Hyd (HB.out.alloc HB.out.size (.cells #[.int .i64 x] 2));clear hcell
   go_wp2_with (at_builtin;refine wpList_append_own _ rfl (.tmp 18) (.tmp 20) 115 rfl (W.heap.size+1) 2 i0 _ 1 8 Tryz.underlying115 hi hz0 hz1 hz2 rfl (by decide) _ _ _ rfl HOA.out ⟨wr.heap.size,0,none⟩ 1 1 [.int .i64 x] rfl rfl ?c1 ?c2 ?c3 ?c4 ?c5 ?_)
   case c1=>exact fun j u hu=>new_cell _ _ _ j u hu
   case c2=>intro u hu;rw[List.mem_singleton.1 hu];rfl
   case c3=>unfold maxLen;omega
   case c4=>omega
   case c5=>simp;omega
   intro v' w5 ho5 hg5 _;obtain⟨va',vc',rfl⟩:=(Sl.of_own ho5).shape;have HO5:=Hyd ho5;have HX5:=Hyd (heap_kept HXA.out HOA.out (by decide) hg5);have HB5:=Hyd (below_grown HBA.out HOA.out hg5 (Nat.le_trans HB.out.size (by simp)) (by omega));have HM2:=Hyd (show(.int .i64 cs.length :: (cs.take (k+1)).map (Value.int .i64))=(.int .i64 cs.length :: (cs.take k).map (Value.int .i64))++[.int .i64 x] by rw[HTK.out];simp);clear ho5 hg5 hi hz0 hz1 hz2 hc1;go_wp2_with fail;go_roundw
   case rel=>exact⟨k+1,by omega,by go_num,Hyd (by rw[HM2.out,List.map_take];exact HO5.out),HX5,HB5⟩
   case measure=>simp[intOf];omega
  ·obtain rfl:k=cs.length:=by omega
   have hbx:=HBX.out;obtain⟨x0,x1,x2,_,_,_⟩:wr.cell? ⟨W.heap.size,0,none⟩=some (.slice ca cs.length cc)/\wr.cell? ⟨W.heap.size,1,none⟩=some (.slice ea es.length ec)/\wr.cell? ⟨W.heap.size,2,none⟩=some (.bool bl)/\True/\True/\True:=⟨(CeH hbx 0).trans rfl,(CeH hbx 1).trans rfl,(CeH hbx 2).trans rfl,trivial,trivial,trivial⟩
   obtain⟨nv,hnv⟩:∃ nv,Value.slice na (cs.length+1) nc=nv:=⟨_,rfl⟩
   rw[hnv]at HO ⊢;have HNVV:=Hyd hnv;clear hnv hbx
   obtain⟨bi,hbi⟩:∃ bi:Int,(if bl then 1 else 0)=bi:=⟨_,rfl⟩
   have hbi0:0<=bi/\bi<=1:=by subst hbi;split<;>omega
   have HBI:=Hyd hbi;clear hbi
   go_upto_if 24 with (fail)
   go_cut [6] (fun s6 wx=>s6=.int .i64 bi/\wx=wr)
   case first =>
    cases bl with
    | true =>
     have HBV:=Hyd (show(1:Int)=bi from HBI.out);go_wp2_with fail;go_meet;exact⟨by rw[HBV.out],by trivial⟩
    | false =>
     have HBV:=Hyd (show(0:Int)=bi from HBI.out);go_wp2_with fail;go_meet;exact⟨by rw[HBV.out],by trivial⟩
   case rest =>
    obtain⟨rfl,hwc⟩:=hcut
    obtain⟨wB,hB⟩:∃ w':World,w'=wc:=⟨_,rfl⟩
    rw[hwc];clear hwc hB wB;clear x0 x1 x2;obtain⟨hb0,hb1⟩:=hbi0
    have hBw:W.heap.size+1<=wr.heap.size:=by omega
    have hgw:(Reg.trunc (W.heap.size+1) wr).heap.size=W.heap.size+1:=Reg.trunc_size hBw
    obtain⟨xs,hxs⟩:∃ xs,(Value.int .i64 cs.length :: (cs.take cs.length).map (Value.int .i64))=xs:=⟨_,rfl⟩
    rw[hxs]at HO;have HNO:=HO
    obtain⟨s1,hs1⟩:∃ s1:ByteArray,(⟨(putL ((cs.length:Int) :: cs++[bi])).toArray⟩:ByteArray)=s1:=⟨_,rfl⟩
    obtain⟨s2,hs2⟩:∃ s2:ByteArray,(⟨(putEs es).toArray⟩:ByteArray)=s2:=⟨_,rfl⟩
    have HRES:=Hyd (show s1++s2=⟨(putRun cs es bl).toArray⟩ by
     rw[<-hs1,<-hs2,ByteArray.mk_append_mk];unfold putRun
     rw[<-HBI.out])
    have HXX:=Hyd (show xs++[Value.int .i64 bi]=((cs.length:Int) :: cs++[bi]).map (Value.int .i64) by rw[<-hxs,List.take_length];simp)
    have hllen:((cs.length:Int) :: cs++[bi]).length=cs.length+1+1:=by simp
    have HPA:=Hyd (fun(w1:World) (v1:Value) (ho:w1.ownsRow (W.heap.size+1) 2 1 v1 (cs.length+1+1) (xs++[.int .i64 bi]))=>(show Calls Tryz.prog 50 #[v1] w1 (fun e w2=>e=.returned (.string s1)/\Below w1.heap.size w1 w2) by
     rw[<-hs1];refine WE.putAll_any v1 ((cs.length:Int) :: cs++[bi]) w1 ?_ (by rw[hllen];omega) ?_
     ·unfold Ints;rw[hllen,<-HXX.out];exact Sl.of_own ho
     ·intro x hx
      rcases List.mem_append.1 hx with hx | hx
      ·rcases List.mem_cons.1 hx with rfl | hx
       ·unfold WE.fit64;omega
       ·exact HCF.out x hx
      ·rw[List.mem_singleton.1 hx];unfold WE.fit64;omega))
    have HPE:=Hyd (fun(w1:World) (hb:Below (Reg.trunc (W.heap.size+1) wr).heap.size (Reg.trunc (W.heap.size+1) wr) w1)=>(show Calls Tryz.prog 51 #[.slice ea es.length ec] w1 (fun e w2=>e=.returned (.string s2)/\Below w1.heap.size w1 w2) by
     rw[<-hs2];have hbb:=below_fold HB.out hBw hb
     exact WE.put_any _ es w1 ((Sl.below HE.out hbb).more hbb.size) (by omega) HEF.out))
    have HFB:=Hyd (fun(w1:World) (hb:Below (Reg.trunc (W.heap.size+1) wr).heap.size (Reg.trunc (W.heap.size+1) wr) w1)=>below_fold HB.out hBw hb)
    have hssz:s1.size+s2.size<=9223372036854775807:=by
     have h1:=putL_len ((cs.length:Int) :: cs++[bi]);have h2:=putEs_len es;rw[hllen]at h1
     have e1:s1.size=(putL ((cs.length:Int) :: cs++[bi])).length:=by rw[<-hs1];simp[ByteArray.size]
     have e2:s2.size=(putEs es).length:=by rw[<-hs2];simp[ByteArray.size]
     omega
    obtain⟨i0,hi,hz0,hz1,hz2⟩:=info_parts infoI64;have HNVX:=HNVV;clear hs1 hs2 hxs hllen;go_wp2_with fail
    refine Reg.stand_order (W:=(Reg.trunc (W.heap.size+1) wr)) (h:=9) (t:=1)
     [⟨0,25,[],99,[],none,fun v _=>v=nv⟩,
      ⟨1,26,[],99,[],none,fun v _=>v=.int .i64 bi⟩,
      ⟨2,27,[2],3,[],none,fun v w'=>∃ g,v=.slice (some ⟨g,0,none⟩) 1 1/\w'.heap[g]? = some (.cells #[.int .i64 bi] 2 (0,0))⟩,
      ⟨3,28,[2],99,[],some 2,fun v w'=>w'.ownsRow (W.heap.size+1) 2 1 v ((cs.length+1)+1) (xs++[.int .i64 bi])⟩,
      ⟨4,29,[],99,[],none,fun v _=>v=.string s1⟩,
      ⟨5,30,[],99,[],none,fun v _=>v=.pointer (some ⟨W.heap.size,1,none⟩)⟩,
      ⟨6,31,[],99,[],none,fun v _=>v=.slice ea es.length ec⟩,
      ⟨7,32,[],99,[],none,fun v _=>v=.string s2⟩,
      ⟨8,33,[],99,[],none,fun v _=>v=.string (s1++s2)⟩]
     [⟨[2],3,fun w=>w.ownsRow (W.heap.size+1) 2 1 nv (cs.length+1) xs⟩]
     (by kernel_rfl) rfl (by kernel_rfl) (by kernel_rfl) (by kernel_rfl) (show [0,1,2,3,4,5,6,7,8].Nodup by decide) (show ∀ i,i<9->i∈[0,1,2,3,4,5,6,7,8] by decide) ?_ (show [25,26,27,28,29,30,31,32,33].Nodup by decide) (show ∀ s∈[25,26,27,28,29,30,31,32,33],s<34 by decide) (by kernel_rfl) ?_ ?_ (Reg.trunc_below hBw) ?_ ?_ ?_
    ·intro f hf
     simp only[List.mem_cons,List.not_mem_nil,or_false]at hf
     rcases hf with rfl|rfl|rfl|rfl|rfl|rfl|rfl|rfl|rfl<;>simp
    ·intro f hf v w1 w2 hk hF
     simp only[List.mem_cons,List.not_mem_nil,or_false]at hf
     rcases hf with rfl|rfl|rfl|rfl|rfl|rfl|rfl|rfl|rfl
     ·exact hF
     ·exact hF
     ·obtain⟨g,e1,h⟩:=hF;exact⟨g,e1,(hk 2 (by simp)).2 _ _ h⟩
     ·exact(hk 2 (by simp)).1 _ _ _ _ _ hF
     ·exact hF
     ·exact hF
     ·exact hF
     ·exact hF
     ·exact hF
    ·intro f hf w1 w2 hk hG
     simp only[List.mem_cons,List.not_mem_nil,or_false]at hf
     rcases hf with rfl
     ·exact(hk 2 (by simp)).1 _ _ _ _ _ hG
    ·intro f hf
     simp only[List.mem_cons,List.not_mem_nil,or_false]at hf
     rcases hf with rfl
     ·exact HNO.out
    ·intro f hf a w1 hs hg' hst;have t1:a.eval (.tmp 1)=.pointer (some ⟨W.heap.size,0,none⟩):=Reg.eval_tmp ((hs.out 1 (show 1∉[25,26,27,28,29,30,31,32,33] by decide)).trans rfl);have t3:a.eval (.tmp 3)=nv:=Reg.eval_tmp ((hs.out 3 (show 3∉[25,26,27,28,29,30,31,32,33] by decide)).trans rfl);have t6:a.eval (.tmp 6)=.int .i64 bi:=Reg.eval_tmp ((hs.out 6 (show 6∉[25,26,27,28,29,30,31,32,33] by decide)).trans rfl)
     simp only[List.mem_cons,List.not_mem_nil,or_false]at hf
     rcases hf with rfl|rfl|rfl|rfl|rfl|rfl|rfl|rfl|rfl
     ·exact Reg.step_val rfl rfl rfl (Reg.run_move t3) rfl hs.below (fun e=>Reg.Keeps.refl e _)
     ·exact Reg.step_val rfl rfl rfl (Reg.run_move t6) rfl hs.below (fun e=>Reg.Keeps.refl e _)
     ·obtain⟨v1,hv1,rfl⟩:∃ v,a.tmps[26]? = some v/\v=.int .i64 bi:=hg' _ (Reg.at_fact 1 rfl) (by kernel_rfl) (by simp[Reg.okTil])
      exact Reg.step_val rfl rfl rfl (Reg.run_build (Reg.eval_tmp hv1) (build_i64 w1 _)) ⟨_,rfl,heap_new rfl⟩ (below_alloc0 hs.below) (fun e=>Reg.Keeps.alloc e _ _)
     ·obtain⟨v1,hv1,rfl⟩:∃ v,a.tmps[25]? = some v/\v=nv:=hg' _ (Reg.at_fact 0 rfl) (by kernel_rfl) (by simp[Reg.okTil])
      obtain⟨v2,hv2,g,rfl,hh⟩:∃ v,a.tmps[27]? = some v/\∃ g,v=.slice (some ⟨g,0,none⟩) 1 1/\w1.heap[g]? = some (.cells #[.int .i64 bi] 2 (0,0)):=hg' _ (Reg.at_fact 2 rfl) (by kernel_rfl) (by simp[Reg.okTil])
      have hown:w1.ownsRow (W.heap.size+1) 2 1 v1 (cs.length+1) xs:=hst _ (Reg.at_stand 0 rfl) (by simp[Reg.okTil]);exact Reg.step_append rfl rfl rfl rfl hs.below Tryz.underlying115 hi hz0 hz1 hz2 rfl (by decide) hv1 (by rw[hgw];exact hown) hv2 (news:=[.int .i64 bi]) rfl (fun j u hu=>World.news_of_block hh j u (by simpa using hu)) (by intro u hu;simp only[List.mem_cons,List.not_mem_nil,or_false]at hu;subst hu;rfl) (by decide) (by unfold maxLen;omega) (by omega) (fun v' w' h=>by rw[hgw]at h;exact h)
     ·obtain⟨v1,hv1,ho1⟩:∃ v,a.tmps[28]? = some v/\w1.ownsRow (W.heap.size+1) 2 1 v ((cs.length+1)+1) (xs++[.int .i64 bi]):=hg' _ (Reg.at_fact 3 rfl) (by kernel_rfl) (by simp[Reg.okTil])
      refine Reg.step_call rfl rfl rfl (run_enter1 (Reg.eval_tmp hv1) (by go_simp)) hs.below ((HPA.out w1 v1 ho1).mono ?_);rintro e w2 ⟨rfl,hb2⟩;exact⟨_,rfl,rfl,hb2⟩
     ·exact Reg.step_val rfl rfl rfl (Ord.run_fld t1 (fld_run w1 _)) rfl hs.below (fun e=>Reg.Keeps.refl e _)
     ·obtain⟨v1,hv1,rfl⟩:∃ v,a.tmps[30]? = some v/\v=.pointer (some ⟨W.heap.size,1,none⟩):=hg' _ (Reg.at_fact 5 rfl) (by kernel_rfl) (by simp[Reg.okTil])
      have hbx:w1.heap[W.heap.size]? = some (.cells #[.slice ca cs.length cc,.slice ea es.length ec,.bool bl] 47 (0,0)):=(hs.below.block _ (by rw[hgw];omega)).trans ((Reg.trunc_below hBw).block _ (by rw[hgw];omega) |>.symm.trans HBX.out);exact Reg.step_val rfl rfl rfl (Reg.run_load (Reg.eval_tmp hv1) (load_evs ((CeH hbx 1).trans rfl))) rfl hs.below (fun e=>Reg.Keeps.refl e _)
     ·obtain⟨v1,hv1,rfl⟩:∃ v,a.tmps[31]? = some v/\v=.slice ea es.length ec:=hg' _ (Reg.at_fact 6 rfl) (by kernel_rfl) (by simp[Reg.okTil])
      refine Reg.step_call rfl rfl rfl (run_enter1 (Reg.eval_tmp hv1) (by go_simp)) hs.below ((HPE.out w1 hs.below).mono ?_);rintro e w2 ⟨rfl,hb2⟩;exact⟨_,rfl,rfl,hb2⟩
     ·obtain⟨v1,hv1,rfl⟩:∃ v,a.tmps[29]? = some v/\v=.string s1:=hg' _ (Reg.at_fact 4 rfl) (by kernel_rfl) (by simp[Reg.okTil])
      obtain⟨v2,hv2,rfl⟩:∃ v,a.tmps[32]? = some v/\v=.string s2:=hg' _ (Reg.at_fact 7 rfl) (by kernel_rfl) (by simp[Reg.okTil])
      exact Reg.step_val rfl rfl rfl (run_sadd (Reg.eval_tmp hv1) (Reg.eval_tmp hv2) hssz) rfl hs.below (fun e=>Reg.Keeps.refl e _)
    ·intro vals w1 hF hfx hb1;have e33:vals 33=.string (s1++s2):=hF _ (Reg.at_fact 8 rfl) (show(9+1:Nat)<=99 by decide)
     simp only[List.map_cons,List.map_nil,e33]
     generalize vals 25=q25;generalize vals 26=q26;generalize vals 27=q27;generalize vals 28=q28;generalize vals 29=q29;generalize vals 30=q30;generalize vals 31=q31;generalize vals 32=q32;have HB1:=Hyd hb1;clear hF hfx e33 hb1;(iterate 10 unfold Reg.puts);go_wp2_with fail;go_ret;exact⟨by rw[HRES.out];rfl,HFB.out w1 HB1.out⟩
theorem rput21_any (cs:List Int) (es:List Ev) (bl:Bool) (cv ev:Value) (W:World) (hc:Ints W W.heap.size cv cs) (he:Evs W W.heap.size ev es) (hcl:cs.length<=10000000) (hel:es.length<=100000000) (hcf:∀ x∈cs,WE.fit64 x) (hef:∀ x∈es,x.fits) :
  Calls Tryz.prog 42 #[.agg #[cv,ev,.bool bl]] W fun e w'=>e=.returned (.string ⟨(putRun cs es bl).toArray⟩)/\Below W.heap.size W w':=by
 obtain⟨ca,cc,rfl⟩:=hc.shape;obtain⟨ea,ec,rfl⟩:=he.shape;have HC:=Hyd hc;have HE:=Hyd he;have HCF:=Hyd hcf;have HEF:=Hyd hef;have HBX0:=Hyd (show(W.alloc (.cells #[.slice ca cs.length cc,.slice ea es.length ec,.bool bl] 53)).heap[W.heap.size]? = some (.cells #[.slice ca cs.length cc,.slice ea es.length ec,.bool bl] 53 (0,0)) from heap_new rfl);have HB0:=Hyd (below_alloc0 (o:=.cells #[.slice ca cs.length cc,.slice ea es.length ec,.bool bl] 53) (Below.refl W.heap.size W));have HP0:=Hyd (fun w=>WR01.put_any (cs.length:Int) w (by omega) (by omega));clear hc he hcf hef
 go_enter Tryz.func42,Tryz.ntmps42
 go_wp2_with fail;refine(HP0.out _).mono ?_;rintro e w1 ⟨rfl,hb1⟩;have HB1:=Hyd (HB0.out.trans (hb1.mono HB0.out.size));have HBX1:=Hyd ((hb1.block _ (heap_lt HBX0.out)).trans HBX0.out);clear HP0 HBX0 HB0 hb1;go_wp2_with fail
 go_loopw [3,4] (fun s i wr=>∃ k:Nat,k<=cs.length/\i=.int .i64 k/\s=.string ⟨(PV.putB cs.length++putL (cs.take k)).toArray⟩/\Hid (wr.heap[W.heap.size]? = some (.cells #[.slice ca cs.length cc,.slice ea es.length ec,.bool bl] 53 (0,0)))/\Hid (Below W.heap.size W wr)) (fun _ i _=>cs.length-(intOf i).toNat)
 case atStart=>exact⟨0,Nat.zero_le _,rfl,by simp[putL],HBX1,HB1⟩
 case round =>
  clear HB1 HBX1;obtain⟨k,hk,rfl,rfl,HBX,HB⟩:=hrel;have hbx:=HBX.out;have x0:wr.cell? ⟨W.heap.size,0,none⟩=some (.slice ca cs.length cc):=(CeH hbx 0).trans rfl;clear hbx;have hl1:=(PV.putB_len cs.length).2;have hl2:=putL_len (cs.take k);have hl3:(cs.take k).length<=k:=List.length_take_le _ _
  have hl4:(PV.putB cs.length++putL (cs.take k)).length<=1000000000:=by rw[List.length_append];omega
  by_cases hlt:k<cs.length
  ·have hki:(k:Int)<(cs.length:Int):=by omega
   obtain⟨b,o,c',hc',hbb,hcell⟩:=HC.out.at_ hlt
   obtain⟨rfl,rfl⟩:ca=some ⟨b,o,none⟩/\cc=c':=by simpa using hc'
   clear hc';have hc1:wr.cell? ⟨b,o+k,none⟩=some (.int .i64 cs[k]):=(HB.out.cell (p:=⟨b,o+k,none⟩) hbb).trans hcell;have HTK:=Hyd (List.take_succ_eq_append_getElem (l:=cs) (i:=k) hlt);obtain⟨h63a,h63b⟩:=HCF.out cs[k] (List.getElem_mem hlt);generalize cs[k]=x at *;have HPX:=Hyd (fun w=>WR01.put_any x w h63a h63b);have hl5:=(PV.putB_len x).2;have HQ:=Hyd (show PV.putB cs.length++putL (cs.take (k+1))=PV.putB cs.length++putL (cs.take k)++PV.putB x by rw[HTK.out,putL_snoc,List.append_assoc]);clear hcell;go_wp2_with fail;refine(HPX.out _).mono ?_;rintro e w2 ⟨rfl,hb2⟩;have HB2:=Hyd (HB.out.trans (hb2.mono HB.out.size));have HBX2:=Hyd ((hb2.block _ (heap_lt HBX.out)).trans HBX.out);clear hb2 x0 hc1
   obtain⟨q1,hq1⟩:∃ q1,PV.putB cs.length++putL (cs.take k)=q1:=⟨_,rfl⟩
   rw[hq1]at HQ hl4 ⊢;generalize PV.putB x=q2 at *
   have hsz:(⟨q1.toArray⟩:ByteArray).size+(⟨q2.toArray⟩:ByteArray).size<=9223372036854775807:=by simp[ByteArray.size];omega
   have HQ1:=Hyd hq1;clear hq1;go_wp2_with fail;go_roundw
   case rel=>exact⟨k+1,by omega,by go_num,by rw[HQ.out,ByteArray.mk_append_mk],HBX2,HB2⟩
   case measure=>simp[intOf];omega
  ·obtain rfl:k=cs.length:=by omega
   have hki:¬ (cs.length:Int)<(cs.length:Int):=by omega
   obtain⟨bi,hbi⟩:∃ bi:Int,(if bl then 1 else 0)=bi:=⟨_,rfl⟩
   have hbi0:0<=bi/\bi<=1:=by subst hbi;split<;>omega
   have HBI:=Hyd hbi;have hbx:=HBX.out;have x1:wr.cell? ⟨W.heap.size,1,none⟩=some (.slice ea es.length ec):=(CeH hbx 1).trans rfl;have x2:wr.cell? ⟨W.heap.size,2,none⟩=some (.bool bl):=(CeH hbx 2).trans rfl
   obtain⟨q1,hq1⟩:∃ q1,PV.putB cs.length++putL (cs.take cs.length)=q1:=⟨_,rfl⟩
   rw[hq1]at hl4 ⊢;have HQ1:=Hyd hq1;have HN3:=Hyd hl3;clear hbi hbx hq1 hl1 hl2 hl3
   go_upto_if 30 with (fail)
   go_cut [6] (fun s6 wx=>s6=.int .i64 bi/\wx=wr)
   case first =>
    cases bl with
    | true =>
     have HBV:=Hyd (show(1:Int)=bi from HBI.out);go_wp2_with fail;go_meet;exact⟨by rw[HBV.out],by trivial⟩
    | false =>
     have HBV:=Hyd (show(0:Int)=bi from HBI.out);go_wp2_with fail;go_meet;exact⟨by rw[HBV.out],by trivial⟩
   case rest =>
    obtain⟨rfl,hwc⟩:=hcut
    obtain⟨wB,hB⟩:∃ w':World,w'=wc:=⟨_,rfl⟩
    rw[hwc];clear hwc hB wB x0 x2;obtain⟨hb0,hb1⟩:=hbi0;have HPX:=Hyd (fun w=>WR01.put_any bi w (by omega) (by omega));have hl5:=(PV.putB_len bi).2;go_wp2_with fail;refine(HPX.out _).mono ?_;rintro e w2 ⟨rfl,hb2⟩;have HB2:=Hyd (HB.out.trans (hb2.mono HB.out.size));have y1:=(hb2.cell (p:=⟨W.heap.size,1,none⟩) (heap_lt HBX.out)).trans x1;have HPE:=Hyd (WE.rput_any (.slice ea es.length ec) es w2 ((Sl.below HE.out HB2.out).more HB2.out.size) (by omega) HEF.out);have hl6:=putEs_len es;clear hb2 x1;go_wp2_with fail;refine HPE.out.mono ?_;rintro e w3 ⟨rfl,hb3⟩;have HB3:=Hyd (HB2.out.trans (hb3.mono HB2.out.size));have HRES:=Hyd (show putRun cs es bl=q1++PV.putB bi++putEs es by rw[putRun_eq,HBI.out,<-HQ1.out,List.take_length]);clear hb3 y1;generalize PV.putB bi=q2 at *;generalize putEs es=q3 at *
    have hsz:(⟨q1.toArray⟩:ByteArray).size+(⟨q2.toArray⟩:ByteArray).size<=9223372036854775807:=by simp[ByteArray.size];omega
    have hsz2:(⟨(q1++q2).toArray⟩:ByteArray).size+(⟨q3.toArray⟩:ByteArray).size<=9223372036854775807:=by simp[ByteArray.size];omega
    go_wp2_with fail;go_ret;exact⟨by rw[HRES.out];simp[ByteArray.mk_append_mk],HB3.out⟩
end Go.Proofs.YtcojnojdgigmdaaGreatDoor.WB2
