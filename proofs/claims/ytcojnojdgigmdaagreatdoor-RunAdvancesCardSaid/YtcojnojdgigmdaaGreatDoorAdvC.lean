/- RunAdvances: the document run advances as the run does. The card: its listed variables are tied to the program's text. -/
import Derived.Test.YtcojnojdgigmdaaGreatDoorLawAdv
import Derived.Test.YtcojnojdgigmdaaGreatDoorB13
import Derived.Test.YtcojnojdgigmdaaGreatDoorTie
import Derived.Test.YtcojnojdgigmdaaGreatDoorCards
import Derived.ProofKit
import Derived.OpenShut
import Derived.ChangeMaps
import Derived.LaidMore
import Derived.Lay
import Derived.SevenTiedAt
import Derived.Stop.Joined
set_option maxRecDepth 100000
namespace Go.Proofs.YtcojnojdgigmdaaGreatDoor.runAdvances
open Go.ChangeShapes Go.WideShapes Go.ChangeAt Go.RowKit Mem
open Go.ChangeMaps (open_string shut_string)
theorem own:ownKnob Tryz.prog.godebug=none:=by kernel_rfl
theorem laidOut:laidOutB Tryz.prog=true:=by kernel_rfl
theorem events {H:Type} {enc:TypeId×Value->H} {w:World} {fuel:Nat} {v:Value} {x:DataW H×List MemPlace} (h:DataW.trod enc Tryz.prog w 0 (fun _=>true) true fuel 22 [v]=some x) :
  ∃ l:List Ev,Evs w w.heap.size v l/\(∀ e∈l,e.fits)/\((l=[]/\x.1=.nil) \/ ∃ elems spare,x.1=.slice elems spare/\elems.length=l.length):=by
 refine Op.open_events Tryz.underlying22 Tryz.underlying78 (by kernel_rfl) (by kernel_rfl) rfl ?_ h;intro j f hf
 match j,hf with
 | 0,hf=>injection hf with hf;subst hf;exact⟨_,rfl,Tryz.underlying2,rfl⟩
 | 1,hf=>injection hf with hf;subst hf;exact⟨_,rfl,Tryz.underlying2,rfl⟩
 | 2,hf=>injection hf with hf;subst hf;exact⟨_,rfl,Tryz.underlying5,rfl⟩
 | 3,hf=>injection hf with hf;subst hf;exact⟨_,rfl,Tryz.underlying2,rfl⟩
 | j+4,hf=>simp at hf
theorem lifted (os:Os) (started:os.Started) (H:Type) (enc:TypeId×Value->H) :
  ReturnsInHanded {} Tryz.checked os 4 .any (fun w args=>(Rows.runAdvancesSpec.pre enc Tryz.prog Tryz.f4 Rows.runAdvancesRow.domain false w args/\laidMetH Tryz.prog Rows.runAdvancesRow.laid w)/\sizedMet enc Tryz.prog Tryz.f4 (OpenSpec.ofChange Rows.runAdvancesSpec) false w args)
   (Rows.runAdvancesSpec.post enc Tryz.prog Tryz.f4 false true false false):=by
 refine Door.returns_and_shaped (C:=Tryz.checked) (X:=fun w _=>laidMetH Tryz.prog Rows.runAdvancesRow.laid w) (fun _ _ _ hh h=>h.of_heap hh) own started (by kernel_rfl) Tryz.func4
  (ChangeSpec.witness_shaped (enc:=enc) (C:=Tryz.checked) (os:=os) (X:=fun w _=>laidMetH Tryz.prog Rows.runAdvancesRow.laid w) false (World.laidAll Tryz.prog os Rows.runAdvancesRow.laid) #[.string .empty,.slice none 0 0] 8 (World.laidAll_os _ _ _)
   (World.shaped_of_ZipB (by kernel_rfl) (by kernel_rfl)) (by kernel_rfl) (by kernel_rfl) (by kernel_rfl)
   (by rw[MakeChecks.laidMetH_plain _ _ _ (by kernel_rfl)];exact laidMet_laidAll _ (by kernel_rfl) (by kernel_rfl))) ?_
 intro W base args ds gs before hval0 hW hcnd hsz hL hshape;have htab:WS.Tab W:=WS.tab_of hL;have hpow:=WS.pow_lt htab
 have hval:∀ (j:Nat) t v,Tryz.f4.params[j]? = some t->args[j]? = some v->Value.okWide Tryz.prog W .any base t v:=hval0
 have hW':=hW;obtain⟨p,q,hA0,hV,rfl,hfz,hnd⟩:=hW;have hA:DataW.TrodAll enc Tryz.prog W 0 (fun _=>true) true Tryz.f4.params.toList args.toList ds p:=hA0;rw[Tryz.params4]at hA hval hsz;obtain⟨v0,vs0,d0,ds0,p0,q0,hargs,rfl,rfl,h0,r0⟩:=trodAll_cons hA;obtain⟨v1,vs1,d1,ds1,p1,q1,rfl,rfl,rfl,h1,r1⟩:=trodAll_cons r0;obtain⟨rfl,rfl,rfl⟩:=trodAll_nil r1
 obtain rfl:args=#[v0,v1]:=by cases args;simp_all
 obtain⟨rfl,rfl⟩:=trodVars_none hV;obtain⟨sa1,len1,cap1,rfl⟩:=okWide_slice Tryz.underlying22 (hval 1 22 v1 rfl rfl);have k1:=h1
 have lt1:∀ x∈p1,x.block<W.heap.size:=by obtain⟨m,hm⟩:=k1;exact DataW.trod_lt m _ _ _ hm
 obtain⟨s0,rfl,rfl,rfl,hx0⟩:=open_string Tryz.underlying9 (hval 0 9 v0 rfl rfl) h0;obtain⟨fuel1,hfu1⟩:=h1;obtain⟨l1,hl1,hfit1,_⟩:=events hfu1;clear hA0 hval0
 simp only[List.append_nil]at hW'
 refine(WAv.adv_law s0 _ l1 W hl1 hfit1 htab hpow).mono fun e W' ⟨he,bel⟩=>?_
 subst he;exact⟨_,rfl,_,_,_,[],_,[],hW',trodAll_mk1 (shut_bool Tryz.underlying4 _),(trodAll_cons_mk (shut_string Tryz.underlying9 hx0) (trodAll_cons_mk (Below.trod laidOut (by kernel_rfl) (of_decide_eq_true (by kernel_rfl)) k1 bel lt1) trodAll_mk0)),rfl,bel.frame _,fun h=>by cases h⟩
theorem row:Rows.RunAdvancesSaid :=
 OpenClaim.holds_of_wide 4 Tryz.f4 rfl rfl rfl rfl rfl rfl rfl ⟨rfl,rfl,rfl,rfl,rfl⟩ rfl rfl rfl rfl rfl (by kernel_rfl) Tryz.func4 (by kernel_rfl)
  (of_decide_eq_true (by kernel_rfl)) (by unfold Func.isWrapper;first | (rw[if_pos (by decide +kernel)];kernel_rfl) | (rw[if_neg (by decide +kernel)];exact⟨rfl,rfl⟩))
  (fun os started H enc _=>lifted os started H enc)
theorem proved:Rows.RunAdvancesCardSaid :=
 Claim7.holds_tied_plain_at .later [] _ _ _ _ row (fun _ h=>by cases h) (by kernel_rfl) (fun _ h=>by cases h) runAdvances_row_tie rfl ⟨rfl,rfl⟩ (by kernel_rfl) rfl
  (fun f fn hf hfn=>by
   obtain rfl : f = 4 := Option.some.inj ((show Tryz.prog.funcNamed "oxbow/oxbowlaw21.RunAdvances" = some 4 by kernel_rfl).symm.trans hf) |>.symm; obtain rfl : fn = Tryz.f4 := (Option.some.inj (Tryz.func4.symm.trans hfn)).symm
   exact⟨by kernel_rfl,fun j t ht=>by
    rw[Tryz.params4]at ht
    have hm:t∈[9,22]:=by simpa using Array.mem_of_getElem? ht
    have hall:([9,22].all fun u=>!Tryz.prog.wantsStandIn u)=true:=by kernel_rfl
    exact(show Tryz.prog.wantsStandIn t=false by simpa using List.all_eq_true.1 hall t hm)⟩)
  (by kernel_rfl)
end Go.Proofs.YtcojnojdgigmdaaGreatDoor.runAdvances
