/- The walk of oxbowref21.match: a run's events as places. -/
import Derived.Test.YtcojnojdgigmdaaGreatDoorB01
import Derived.Test.YtcojnojdgigmdaaGreatDoorWW21
set_option maxHeartbeats 3200000
set_option maxRecDepth 100000
namespace Go.Proofs.YtcojnojdgigmdaaGreatDoor.WR
open Go Go.RowKit Go.Sort PL PR Mem
def stT (c:List Nat) (i k:Nat):List Nat:=((List.range i).flatMap fun j=>List.replicate (c.getD j 0) j)++List.replicate k i
theorem stT_next (c:List Nat) (i:Nat):stT c (i+1) 0=stT c i (c.getD i 0):=by
 unfold stT;rw[List.range_succ,List.flatMap_append]
 simp
theorem stT_more (c:List Nat) (i k:Nat):stT c i (k+1)=stT c i k++[i]:=by
 unfold stT;rw[List.replicate_succ',List.append_assoc]
theorem stT_len (c:List Nat):∀ (i k:Nat),i<=c.length->(stT c i k).length=(c.take i).sum+k:=by
 intro i
 induction i with
 | zero=>intro k _;simp[stT]
 | succ i ih =>
  intro k hi;have h0:=ih (c.getD i 0) (by omega)
  have h1:(stT c (i+1) k).length=(stT c (i+1) 0).length+k:=by unfold stT;simp
  rw[h1,stT_next,h0,List.take_succ_eq_append_getElem (by omega),List.sum_append,List.getD_eq_getElem?_getD,List.getElem?_eq_getElem (by omega)]
  simp
def mtOf (st:List Nat):Mt:=(List.range st.length).zip st
def mR (r:RRun):Mt:=mtOf (stT r.counts r.counts.length 0)
def natV (l:List Nat):List Value:=l.map fun n:Nat=>Value.int .i64 (n:Int)
theorem mtOf_len (st:List Nat):(mtOf st).length=st.length:=by simp[mtOf]
theorem mtOf_ats (st:List Nat):atsV (mtOf st)=natV (List.range st.length):=by
 have h:=congrArg (List.map fun n:Nat=>Value.int .i64 (n:Int)) (List.map_fst_zip (l₁:=List.range st.length) (l₂:=st) (by simp));rw[List.map_map]at h;exact h
theorem mtOf_sts (st:List Nat):stsV (mtOf st)=natV st:=by
 have h:=congrArg (List.map fun n:Nat=>Value.int .i64 (n:Int)) (List.map_snd_zip (l₁:=List.range st.length) (l₂:=st) (by simp));rw[List.map_map]at h;exact h
structure MatS (w wr:World) (R O:Nat) (bv:Array Value) (va vs:Value) (xs ys:List Value):Prop where
 bel:Below w.heap.size w wr
 bx:wr.heap[w.heap.size]? = some (.cells bv 53 (0,0))
 br:wr.heap[R]? = some (.cells #[.slice none 0 0,.slice none 0 0] 84 (0,0))
 bo:wr.heap[O]? = some (.cells #[va,vs] 84 (0,0))
 ra:wr.ownsRow w.heap.size 3 1 va xs.length xs
 rs:wr.ownsRow w.heap.size 3 1 vs ys.length ys
 ap:Reg.Apart va vs
section
variable {w wr w' : World} {R O : Nat} {bv : Array Value} {va vs va' : Value} {xs ys xs' : List Value}
theorem MatS.at_ (h1:Below w.heap.size w w') (bx:w'.heap[w.heap.size]? = some (.cells bv 53 (0,0))) (br:w'.heap[R]? = some (.cells #[.slice none 0 0,.slice none 0 0] 84 (0,0)))
  (bo:w'.heap[O]? = some (.cells #[va,vs] 84 (0,0))) (ra:w'.ownsRow w.heap.size 3 1 va' xs'.length xs') (rs:w'.ownsRow w.heap.size 3 1 vs ys.length ys) (ap:Reg.Apart va' vs) (hO:w.heap.size<=O) (hX:w.heap.size≠O) (hR:R≠O) :
  MatS w (w'.setCell ⟨O,0,none⟩ va') R O bv va' vs xs' ys :=
 ⟨h1.setCell (p:=⟨O,0,none⟩) hO _,by rw[heap_setCell_other _ _ _ _ hX];exact bx,by rw[heap_setCell_other _ _ _ _ hR];exact br,(blk_setc bo 0 _).trans rfl,own_set ra bo (by decide) 0 _,own_set rs bo (by decide) 0 _,ap⟩
theorem MatS.st_ (h1:Below w.heap.size w w') (bx:w'.heap[w.heap.size]? = some (.cells bv 53 (0,0))) (br:w'.heap[R]? = some (.cells #[.slice none 0 0,.slice none 0 0] 84 (0,0)))
  (bo:w'.heap[O]? = some (.cells #[va,vs] 84 (0,0))) (ra:w'.ownsRow w.heap.size 3 1 va' xs'.length xs') (rs:w'.ownsRow w.heap.size 3 1 va ys.length ys) (ap:Reg.Apart va' va) (hO:w.heap.size<=O) (hX:w.heap.size≠O) (hR:R≠O) :
  MatS w (w'.setCell ⟨O,1,none⟩ va') R O bv va va' ys xs' :=
 ⟨h1.setCell (p:=⟨O,1,none⟩) hO _,by rw[heap_setCell_other _ _ _ _ hX];exact bx,by rw[heap_setCell_other _ _ _ _ hR];exact br,(blk_setc bo 1 _).trans rfl,own_set rs bo (by decide) 1 _,own_set ra bo (by decide) 1 _,ap.symm⟩
end
theorem res_m21 {w:World} {R:Nat} {c0 c1:Value} {tmps:Array Value} (h6:tmps[2]? = some (.pointer (some ⟨R,0,none⟩))) (e0:w.cell? ⟨R,0,none⟩=some c0) (e1:w.cell? ⟨R,1,none⟩=some c1) :
  (results Tryz.f44 tmps).run Tryz.prog w=.ok (.agg #[c0,c1]) w:=by
 simp[results,Tryz.results44,go_sem,h6,e0,e1]
theorem match21 (c:List Nat) (cv:Value) (ea:Option Addr) (en ec:Nat) (bl:Bool) (w:World) (hc:Sl w w.heap.size 1 cv c.length (cntV c)) (hlen:c.length<=1000000) (hsum:c.sum<=1000000) :
  Calls Tryz.prog 44 #[.agg #[cv,.slice ea en ec,.bool bl]] w fun e w'=>∃ va vs,e=.returned (.agg #[va,vs])/\OwnM w.heap.size w' (va,vs,mtOf (stT c c.length 0))/\Below w.heap.size w w':=by
 obtain⟨ca,cc,rfl⟩:=hc.shape;have HC:=Hyd hc
 obtain⟨bv,hbv⟩:∃ bv:Array Value,bv=#[.slice ca c.length cc,.slice ea en ec,.bool bl]:=⟨_,rfl⟩
 obtain⟨w0,hw0⟩:∃ w0,w0=((w.alloc (.cells #[.slice ca c.length cc,.slice ea en ec,.bool bl] 53)).alloc (.cells #[.slice none 0 0,.slice none 0 0] 84)).alloc (.cells #[.slice none 0 0,.slice none 0 0] 84):=⟨_,rfl⟩
 obtain⟨R,hR⟩:∃ R,w.heap.size+1=R:=⟨_,rfl⟩
 obtain⟨O,hO⟩:∃ O,R+1=O:=⟨_,rfl⟩
 have HST:=Hyd (show MatS w w0 R O bv (.slice none 0 0) (.slice none 0 0) [] [] by
  rw[hw0,hbv]
  refine⟨(((Below.refl _ _).alloc (Nat.le_refl _) _).alloc (by simp) _).alloc (by simp;omega) _,heap_alloc (heap_alloc (heap_new rfl)),heap_alloc (heap_new (by simp;omega)),heap_new (by simp;omega),World.ownsRow_nil _ _ _ _,World.ownsRow_nil _ _ _ _,Reg.Apart.nil _⟩)
 have HW0:=Hyd hw0;have HBV:=Hyd hbv
 have hWR:w.heap.size<=R:=by omega
 have hWO:w.heap.size<=O:=by omega
 have HXO:=Hyd (show w.heap.size≠O by omega);have HRO:=Hyd (show R≠O by omega);have HXR:=Hyd (show w.heap.size≠R by omega);have HRW:=Hyd hR;have HOW:=Hyd hO;clear hc hw0 hR hO hbv
 go_enter Tryz.func44,Tryz.ntmps44
 go_upto_region 2 with (fail)
 rw[HRW.out,HOW.out,<-HW0.out];go_wp2_with fail
 go_loopw [4] (fun u wr=>∃ i va vs,i<=c.length/\u=.int .i64 (i:Nat)/\MatS w wr R O bv va vs (natV (List.range (stT c i 0).length)) (natV (stT c i 0))) (fun u _=>c.length-(intOf u).toNat)
 case atStart=>exact⟨0,_,_,Nat.zero_le _,rfl,HST.out⟩
 case round =>
  obtain⟨i,va,vs,hi,rfl,hst⟩:=hrel;have HS:=Hyd hst
  have y0:wr.cell? ⟨w.heap.size,0,none⟩=some (.slice ca c.length cc):=by
   have h:=CeH hst.bx 0;rw[HBV.out]at h;exact h.trans rfl
  clear hst
  by_cases hlt:i<c.length
  ·have hki:(i:Int)<(c.length:Int):=by omega
   have hk0:(0:Int)<=(i:Int):=by omega
   go_upto_region 5 with (fail)
   clear y0;go_wp2_with fail
   go_loopw [5] (fun u wr=>∃ k va vs,k<=c[i]/\u=.int .i64 (k:Nat)/\MatS w wr R O bv va vs (natV (List.range (stT c i k).length)) (natV (stT c i k))) (fun u _=>c[i] - (intOf u).toNat)
   case atStart=>exact⟨0,_,_,Nat.zero_le _,rfl,HS.out⟩
   case round =>
    clear HS;obtain⟨k,va,vs,hk,rfl,hst⟩:=hrel;have HS0:=Hyd hst
    obtain⟨n,hn⟩:∃ n,(stT c i k).length=n:=⟨_,rfl⟩
    have hns:n<=1000000:=by
     have h1:=stT_len c i k (by omega);have h2:=sum_take_le c (i+1);rw[List.take_succ_eq_append_getElem hlt,List.sum_append]at h2
     simp only[List.sum_cons,List.sum_nil]at h2
     omega
    have hkn:k<=1000000:=by
     have h1:=stT_len c i k (by omega)
     omega
    have y0:wr.cell? ⟨w.heap.size,0,none⟩=some (.slice ca c.length cc):=by
     have h:=CeH hst.bx 0;rw[HBV.out]at h;exact h.trans rfl
    obtain⟨b,o,c2,hv2,hb2,x1⟩:=sl_at HC.out hlt
    obtain⟨rfl,rfl⟩:ca=some ⟨b,o,none⟩/\cc=c2:=by simpa using hv2
    have x2:=(hst.bel.cell (p:=⟨b,o+i,none⟩) hb2).trans x1
    obtain⟨ci,hci⟩:∃ x,c[i]=x:=⟨_,rfl⟩
    rw[hci]at hk x1 x2 ⊢;clear hst x1 hv2
    by_cases hlk:k<ci
    ·have hkc:(k:Int)<(ci:Int):=by omega
     have HTA:=Hyd (show natV (List.range (stT c i (k+1)).length)=natV (List.range n)++[.int .i64 (n:Nat)] by
      rw[stT_more,List.length_append,hn,List.length_singleton,List.range_succ];unfold natV;rw[List.map_append];rfl)
     have HTS:=Hyd (show natV (stT c i (k+1))=natV (stT c i k)++[.int .i64 (i:Nat)] by
      rw[stT_more];unfold natV;rw[List.map_append];rfl)
     have hall:(natV (List.range n)).length=n:=by simp[natV]
     have hsll:(natV (stT c i k)).length=n:=by simp[natV,hn]
     rw[hn]at HS0
     obtain⟨xs,hxs⟩:∃ xs,natV (List.range n)=xs:=⟨_,rfl⟩
     obtain⟨ys,hys⟩:∃ ys,natV (stT c i k)=ys:=⟨_,rfl⟩
     rw[hxs]at HS0 HTA hall;rw[hys]at HS0 HTS hsll;obtain⟨A0,k0,hva0⟩:=(Sl.of_own HS0.out.ra).shape;rw[hall]at hva0;subst hva0;have HS:=HS0;clear hxs hys hn HS0
     go_upto_region 8 with (fail)
     clear y0 x2;have bo:=HS.out.bo;have o0:wr.cell? ⟨O,0,none⟩=some (.slice A0 n k0):=(CeH bo 0).trans rfl;have o1:wr.cell? ⟨O,1,none⟩=some vs:=(CeH bo 1).trans rfl;obtain⟨i0,hii,hz0,hz1,hz2⟩:=info_parts infoInt;have HNA:=Hyd (Reg.own_new (w:=wr) (b:=0) (e:=3) (sz:=1) (n:=1) (cs:=#[.int .i64 (n:Nat)]) rfl (Nat.zero_le _) rfl (by decide));have HNB:=Hyd (show Below wr.heap.size wr (wr.alloc (.cells #[.int .i64 (n:Nat)] 3)) from(Below.refl _ _).alloc (Nat.le_refl _) _);have hra:=HS.out.ra;rw[hall]at hra;have HRA:=Hyd hra;have fo0:=frozen_of_row wr _ 0 _ _ bo;clear hra
     go_wp2_with (at_builtin;refine Reg.wpList_append_src _ rfl (.tmp 24) (.tmp 28) 45 rfl w.heap.size 0 3 i0 _ 1 8 Tryz.underlying45 hii hz0 hz1 hz2 rfl (by decide) _ _ n 1 _ _ rfl (own_below HRA.out HNB.out) rfl HNA.out ?d1 ?d2 ?d3 ?d4 ?_)
     case d1=>first | rfl | (intro u hu;rw[List.mem_singleton.1 (by simpa using hu)];rfl)
     case d2=>unfold maxLen;omega
     case d3=>omega
     case d4=>have:=HS.out.bel.size;omega
     intro va' w5 ho5 hg5 hv5;obtain⟨A1,c1,rfl⟩:=(Sl.of_own ho5).shape;have HK5:=Hyd (Reg.Keeps.grown (show 84≠3 by decide) (own_below HRA.out HNB.out) hg5);have bo5:=HK5.out.2 _ _ (heap_alloc HS.out.bo);have br5:=HK5.out.2 _ _ (heap_alloc HS.out.br);have bx5:=(Reg.Keeps.grown (show 53≠3 by decide) (own_below HRA.out HNB.out) hg5).2 _ _ (heap_alloc HS.out.bx);have rs5:=Reg.own_apart (own_below HS.out.rs HNB.out) HS.out.ap.symm hg5;have ap5:=Reg.Apart.grown (v':=.slice A1 (n+1) c1) HS.out.ap.symm (own_below HS.out.rs HNB.out) (by rcases hv5 with h | h;exact .inl h;exact .inr (by rw[h];simp));have hb5:=below_grown (HS.out.bel.trans (HNB.out.mono HS.out.bel.size)) (own_below HRA.out HNB.out) hg5 (by have:=HS.out.bel.size;simp;omega) (Nat.le_refl _);have HN:=Hyd (MatS.at_ hb5 bx5 br5 bo5 (xs':=xs++[.int .i64 (n:Nat)]) (by rw[List.length_append,hall];exact ho5) rs5 ap5.symm hWO HXO.out HRO.out)
     have zo:w5.cell? ⟨O,0,none⟩=some (.slice A0 n k0):=(CeH bo5 0).trans rfl;have fo:=frozen_of_row w5 _ 0 _ _ bo5
     obtain⟨w6,hw6⟩:∃ w6,w6=w5.setCell ⟨O,0,none⟩ (.slice A1 (n+1) c1):=⟨_,rfl⟩
     rw[<-hw6]at HN;have HW6:=Hyd hw6;clear ho5 hg5 hv5 bo5 br5 bx5 rs5 ap5 hb5 hw6 HRA HNA HNB HK5 o0 o1 fo0 bo
     go_upto_region 9 with (fail)
     rw[<-HW6.out]
     obtain⟨va1,hva1⟩:∃ v,Value.slice A1 (n+1) c1=v:=⟨_,rfl⟩
     rw[hva1]at HN;clear zo fo hva1 HW6 HS;have bo:=HN.out.bo;have o1:w6.cell? ⟨O,1,none⟩=some vs:=(CeH bo 1).trans rfl;have fo1:=frozen_of_row w6 _ 1 _ _ bo;have HNA:=Hyd (Reg.own_new (w:=w6) (b:=0) (e:=3) (sz:=1) (n:=1) (cs:=#[.int .i64 (i:Nat)]) rfl (Nat.zero_le _) rfl (by decide));have HNB:=Hyd (show Below w6.heap.size w6 (w6.alloc (.cells #[.int .i64 (i:Nat)] 3)) from(Below.refl _ _).alloc (Nat.le_refl _) _);have hrs:=HN.out.rs;rw[hsll]at hrs;have HRS:=Hyd hrs;clear hrs
     go_wp2_with (at_builtin;refine Reg.wpList_append_src _ rfl (.tmp 32) (.tmp 34) 45 rfl w.heap.size 0 3 i0 _ 1 8 Tryz.underlying45 hii hz0 hz1 hz2 rfl (by decide) _ _ n 1 _ _ rfl (own_below HRS.out HNB.out) rfl HNA.out ?d1 ?d2 ?d3 ?d4 ?_)
     case d1=>first | rfl | (intro u hu;rw[List.mem_singleton.1 (by simpa using hu)];rfl)
     case d2=>unfold maxLen;omega
     case d3=>omega
     case d4=>have:=HN.out.bel.size;omega
     intro vs' w7 ho7 hg7 hv7;obtain⟨A2,c2,rfl⟩:=(Sl.of_own ho7).shape;have HK7:=Hyd (Reg.Keeps.grown (show 84≠3 by decide) (own_below HRS.out HNB.out) hg7);have bo7:=HK7.out.2 _ _ (heap_alloc HN.out.bo);have br7:=HK7.out.2 _ _ (heap_alloc HN.out.br);have bx7:=(Reg.Keeps.grown (show 53≠3 by decide) (own_below HRS.out HNB.out) hg7).2 _ _ (heap_alloc HN.out.bx);have ra7:=Reg.own_apart (own_below HN.out.ra HNB.out) HN.out.ap hg7;have ap7:=Reg.Apart.grown (v':=.slice A2 (n+1) c2) HN.out.ap (own_below HN.out.ra HNB.out) (by rcases hv7 with h | h;exact .inl h;exact .inr (by rw[h];simp));have hb7:=below_grown (HN.out.bel.trans (HNB.out.mono HN.out.bel.size)) (own_below HRS.out HNB.out) hg7 (by have:=HN.out.bel.size;simp;omega) (Nat.le_refl _);have HM:=Hyd (MatS.st_ hb7 bx7 br7 bo7 (xs':=ys++[.int .i64 (i:Nat)]) (by rw[List.length_append,hsll];exact ho7) ra7 ap7.symm hWO HXO.out HRO.out)
     have zo:w7.cell? ⟨O,1,none⟩=some vs:=(CeH bo7 1).trans rfl;have fo:=frozen_of_row w7 _ 1 _ _ bo7
     obtain⟨w8,hw8⟩:∃ w8,w8=w7.setCell ⟨O,1,none⟩ (.slice A2 (n+1) c2):=⟨_,rfl⟩
     rw[<-hw8]at HM;have HW8:=Hyd hw8;obtain⟨A3,c3,hva⟩:=(Sl.of_own HM.out.ra).shape;rw[List.length_append,hall,List.length_singleton]at hva;subst hva;clear ho7 hg7 hv7 bo7 br7 bx7 ra7 ap7 hb7 hw8 HRS HNA HNB HK7 o1 fo1 bo HN hii hz0 hz1 hz2;go_wp2_with fail;rw[<-HW8.out];clear zo fo HW8;go_roundw
     case rel=>exact⟨k+1,_,_,Nat.succ_le_of_lt hlk,by go_num,by rw[HTA.out,HTS.out];exact HM.out⟩
     case measure=>simp[intOf];omega
    ·obtain rfl:k=ci:=by omega
     go_wp2_with fail;go_roundw
     case rel=>exact⟨i+1,va,vs,by omega,by go_num,by
      rw[stT_next,List.getD_eq_getElem?_getD,List.getElem?_eq_getElem hlt,hci];exact HS0.out⟩
     case measure=>simp[intOf];omega
  ·obtain rfl:i=c.length:=by omega
   obtain⟨n,hn⟩:∃ n,(stT c c.length 0).length=n:=⟨_,rfl⟩
   have hall:(natV (List.range n)).length=n:=by simp[natV]
   have hsll:(natV (stT c c.length 0)).length=n:=by simp[natV,hn]
   rw[hn]at HS;obtain⟨A3,c3,hva⟩:=(Sl.of_own HS.out.ra).shape;rw[hall]at hva;subst hva;obtain⟨A2,c2,hvs⟩:=(Sl.of_own HS.out.rs).shape;rw[hsll]at hvs;subst hvs;have bo:=HS.out.bo;have br:=HS.out.br;have z0:wr.cell? ⟨O,0,none⟩=some (.slice A3 n c3):=(CeH bo 0).trans rfl;have z1:wr.cell? ⟨O,1,none⟩=some (.slice A2 n c2):=(CeH bo 1).trans rfl;have r0:wr.cell? ⟨R,0,none⟩=some (.slice none 0 0):=(CeH br 0).trans rfl;have r1:wr.cell? ⟨R,1,none⟩=some (.slice none 0 0):=(CeH br 1).trans rfl;have f0:=frozen_of_row wr _ 0 _ _ br;have f1:=frozen_of_row wr _ 1 _ _ br;have HR2:=Hyd (show((wr.setCell ⟨R,0,none⟩ (.slice A3 n c3)).setCell ⟨R,1,none⟩ (.slice A2 n c2)).heap[R]? = some (.cells #[.slice A3 n c3,.slice A2 n c2] 84 (0,0)) from(blk_setc (blk_setc br 0 _) 1 _).trans rfl)
   have br':=(blk_setc br 0 (.slice A3 n c3)).trans rfl
   have HRES:=Hyd (show OwnM w.heap.size ((wr.setCell ⟨R,0,none⟩ (.slice A3 n c3)).setCell ⟨R,1,none⟩ (.slice A2 n c2)) (.slice A3 n c3,.slice A2 n c2,mtOf (stT c c.length 0)) from by
    have ra:=HS.out.ra;have rs:=HS.out.rs;rw[hall]at ra;rw[hsll]at rs;refine⟨?_, ?_⟩
    ·show World.ownsRow _ _ _ _ _ (mtOf (stT c c.length 0)).length (atsV (mtOf (stT c c.length 0)))
     rw[mtOf_len,mtOf_ats,hn];exact own_set (own_set ra br (by decide) 0 _) br' (by decide) 1 _
    ·show World.ownsRow _ _ _ _ _ (mtOf (stT c c.length 0)).length (stsV (mtOf (stT c c.length 0)))
     rw[mtOf_len,mtOf_sts,hn]
     exact own_set (own_set rs br (by decide) 0 _) br' (by decide) 1 _)
   have HBF:=Hyd ((HS.out.bel.setCell (p:=⟨R,0,none⟩) hWR (.slice A3 n c3)).setCell (p:=⟨R,1,none⟩) hWR (.slice A2 n c2));clear bo br br';go_wp2_with fail;refine bodyPost_ret (res_m21 rfl ((CeH HR2.out 0).trans rfl) ((CeH HR2.out 1).trans rfl)) rfl ?_;exact⟨_,_,rfl,HRES.out,HBF.out⟩
end Go.Proofs.YtcojnojdgigmdaaGreatDoor.WR
