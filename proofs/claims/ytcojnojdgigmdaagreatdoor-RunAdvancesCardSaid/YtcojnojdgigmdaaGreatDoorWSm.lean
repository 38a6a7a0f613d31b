/- The walk of oxbowlaw21.same: a result that is the document's. -/
import Derived.Test.YtcojnojdgigmdaaGreatDoorB01
import Derived.Test.YtcojnojdgigmdaaGreatDoorWS21
import Derived.Test.YtcojnojdgigmdaaGreatDoorB11
import Derived.Test.YtcojnojdgigmdaaGreatDoorWRP
import Derived.Test.YtcojnojdgigmdaaGreatDoorWAll
set_option maxHeartbeats 6400000
set_option maxRecDepth 100000
namespace Go.Proofs.YtcojnojdgigmdaaGreatDoor.WR
open Go Go.RowKit Go.Sort PL PR Mem WL WS
structure PutOk (r:RRun):Prop where
 len:r.counts.length<=1000
 cnt:∀ n∈r.counts,n<=1000000
 few:r.evs.length<=1000
 fit:∀ y∈r.evs,y.fits
def bytR (r:RRun):ByteArray:=⟨(PE.putRun (r.counts.map Int.ofNat) r.evs r.blocked).toArray⟩
theorem cnt_int (l:List Nat):(l.map Int.ofNat).map (Value.int .i64)=cntV l:=by
 unfold cntV;rw[List.map_map];rfl
theorem PutOk.ints {r:RRun} (h:PutOk r):∀ x∈r.counts.map Int.ofNat,WE.fit64 x:=by
 intro x hx;obtain⟨n,hn,rfl⟩:=List.mem_map.1 hx;have:=h.cnt n hn;unfold WE.fit64
 show -9223372036854775808<=((n:Nat):Int)/\((n:Nat):Int)<=9223372036854775807
 omega
theorem putP (r:RRun) (h:PutOk r) (v:Value) (w:World) (hr:RunAt w w.heap.size v r):Calls Tryz.prog 20 #[v] w fun e w'=>e=.returned (.string (bytR r))/\Below w.heap.size w w':=by
 obtain⟨cv,ev,rfl,h1,h2⟩:=hr
 have hi:Ints w w.heap.size cv (r.counts.map Int.ofNat):=by
  unfold Ints;rw[cnt_int,List.length_map];exact h1
 have h8:=h.len;have h19:=h.few;exact WB2.rput_any _ r.evs r.blocked cv ev w hi h2 (by rw[List.length_map];omega) (by omega) h.ints h.fit
theorem putD (r:RRun) (h:PutOk r) (v:Value) (w:World) (hr:RunAt w w.heap.size v r):Calls Tryz.prog 42 #[v] w fun e w'=>e=.returned (.string (bytR r))/\Below w.heap.size w w':=by
 obtain⟨cv,ev,rfl,h1,h2⟩:=hr
 have hi:Ints w w.heap.size cv (r.counts.map Int.ofNat):=by
  unfold Ints;rw[cnt_int,List.length_map];exact h1
 have h8:=h.len;have h19:=h.few;exact WB2.rput21_any _ r.evs r.blocked cv ev w hi h2 (by rw[List.length_map];omega) (by omega) h.ints h.fit
theorem load_rp {w:World} {g j:Nat} {c0 c1:Value} {b:Bool} (e0:w.cell? ⟨g,j,none⟩=some c0) (e1:w.cell? ⟨g,j+1,none⟩=some c1) (e2:w.cell? ⟨g,j+2,none⟩=some (.bool b)):(Instr.loadAt 47 (.pointer (some ⟨g,j,none⟩))).run Tryz.prog w=.ok (.agg #[c0,c1,.bool b]) w:=by go_simp
theorem load_rd {w:World} {g j:Nat} {c0 c1:Value} {b:Bool} (e0:w.cell? ⟨g,j,none⟩=some c0) (e1:w.cell? ⟨g,j+1,none⟩=some c1) (e2:w.cell? ⟨g,j+2,none⟩=some (.bool b)):(Instr.loadAt 53 (.pointer (some ⟨g,j,none⟩))).run Tryz.prog w=.ok (.agg #[c0,c1,.bool b]) w:=by go_simp
theorem load_bl {w:World} {g j:Nat} {b:Bool} (h:w.cell? ⟨g,j,none⟩=some (.bool b)):(Instr.loadAt 4 (.pointer (some ⟨g,j,none⟩))).run Tryz.prog w=.ok (.bool b) w:=by go_simp
theorem load_rps {w:World} {g j:Nat} {u:Value} (h:w.cell? ⟨g,j,none⟩=some u):(Instr.loadAt 41 (.pointer (some ⟨g,j,none⟩))).run Tryz.prog w=.ok u w:=by go_simp
theorem load_rds {w:World} {g j:Nat} {u:Value} (h:w.cell? ⟨g,j,none⟩=some u):(Instr.loadAt 54 (.pointer (some ⟨g,j,none⟩))).run Tryz.prog w=.ok u w:=by go_simp
theorem load_sts {w:World} {g j:Nat} {u:Value} (h:w.cell? ⟨g,j,none⟩=some u):(Instr.loadAt 37 (.pointer (some ⟨g,j,none⟩))).run Tryz.prog w=.ok u w:=by go_simp
section
variable {a : Act} {w : World} {d : Option Tmp} {ty : TypeId} {pos : String} {af : Array Edge} {gd : Option (Nat × Bool)}
theorem ix_rp {x y:Operand} {g n c k:Nat} (h1:a.eval x=.slice (some ⟨g,0,none⟩) n c) (h2:a.eval y=.int .i64 k) (hl:k<n) :
  (execOp a.eval { dst:=d,op:=.indexAddr 41 x y,type:=ty,pos:=pos,after:=af,guard:=gd }).run Tryz.prog w=.ok (.value (.pointer (some ⟨g,k * 3,none⟩))) w:=by
 have h3:(k:Int)<(n:Int):=by omega
 have h4:(0:Int)<=(k:Int):=by omega
 simp only[execOp,h1,h2]
 go_simp
theorem ix_rd {x y:Operand} {g n c k:Nat} (h1:a.eval x=.slice (some ⟨g,0,none⟩) n c) (h2:a.eval y=.int .i64 k) (hl:k<n) :
  (execOp a.eval { dst:=d,op:=.indexAddr 54 x y,type:=ty,pos:=pos,after:=af,guard:=gd }).run Tryz.prog w=.ok (.value (.pointer (some ⟨g,k * 3,none⟩))) w:=by
 have h3:(k:Int)<(n:Int):=by omega
 have h4:(0:Int)<=(k:Int):=by omega
 simp only[execOp,h1,h2]
 go_simp
end
theorem row_at {w:World} {base n:Nat} {e:TypeId} {v:Value} {gs:List (Value×Value×RRun)} (h:w.ownsRow base e 3 v n (cellsOf encR gs)) (hn:gs.length=n) {j:Nat} (hj:j<gs.length) :
  ∃ b c,v=.slice (some ⟨b,0,none⟩) n c/\b<w.heap.size/\w.cell? ⟨b,j * 3,none⟩=some gs[j].1/\w.cell? ⟨b,j * 3+1,none⟩=some gs[j].2.1/\w.cell? ⟨b,j * 3+2,none⟩=some (.bool gs[j].2.2.blocked):=by
 obtain⟨b,c,hv,_,hlt⟩:=h.form (by omega);subst hv
 have hx:∀ i (hi:i<3) u,(encR gs[j])[i]? = some u->w.cell? ⟨b,j * 3+i,none⟩=some u:=fun i hi u hu=>by
  have h1:=h.cells (g:=b) rfl (j * 3+i) u (by rw[cellsOf_get (k:=3) (fun(x:Value×Value×RRun)=>(rfl:(encR x).length=3)) gs j i hi hj];exact hu)
  rwa [lit_add,Nat.zero_add]at h1
 exact⟨b,c,rfl,hlt,hx 0 (by omega) _ rfl,hx 1 (by omega) _ rfl,hx 2 (by omega) _ rfl⟩
theorem same_any (x:RRes) (xv yv:Value) (w:World) (hx:ResAt 0 w xv x) (hy:DResAt 0 w yv x) (hok:PutOk x.run/\∀ g∈x.grown,PutOk g) (hdl:x.done.length<=1000000) (hgl:x.grown.length<=1000000) :
  Calls Tryz.prog 14 #[xv,yv] w fun en w'=>en=.returned (.bool true)/\Below w.heap.size w w':=by
 have mixed:Tryz.prog.follows .mixedOrders=true:=by kernel_rfl
 obtain⟨c0,e0,gv,dv,gx,rfl,ho,hgm,hg1,hge,hd1⟩:=hx;obtain⟨f0,f1,hv,dw,gy,rfl,hdr⟩:=hy;obtain⟨a0,k0,rfl⟩:=(Sl.of_own (show w.ownsRow 0 3 1 c0 x.run.counts.length (cntV x.run.counts) from ho.1)).shape;obtain⟨a1,k1,rfl⟩:=(Sl.of_own (show w.ownsRow 0 44 4 e0 x.run.evs.length (cellsOf encE x.run.evs) from ho.2)).shape;obtain⟨ga,gk,rfl⟩:=(Sl.of_own hg1).shape;obtain⟨da,dk,rfl⟩:=(Sl.of_own hd1).shape;obtain⟨b0,m0,rfl⟩:=Sl.shape hdr.rc;obtain⟨b1,m1,rfl⟩:=Sl.shape hdr.re;obtain⟨ha,hk,rfl⟩:=(Sl.of_own hdr.o1).shape;obtain⟨db,dm,rfl⟩:=(Sl.of_own hdr.o2).shape
 have hxy:gy.length=gx.length:=by
  have h1:=congrArg List.length hgm;have h2:=congrArg List.length hdr.gm;rw[List.length_map]at h1 h2
  omega
 have hgxl:gx.length<=1000000:=by
  have h1:=congrArg List.length hgm;rw[List.length_map]at h1
  omega
 obtain⟨wa,hwa⟩:∃ wa,wa=(w.alloc (.cells #[.bool x.keep,.slice a0 x.run.counts.length k0,.slice a1 x.run.evs.length k1,.bool x.run.blocked,.slice ga gx.length gk,.slice da x.done.length dk] 49)).alloc (.cells #[.bool x.keep,.slice b0 x.run.counts.length m0,.slice b1 x.run.evs.length m1,.bool x.run.blocked,.slice ha gy.length hk,.slice db x.done.length dm] 56):=⟨_,rfl⟩
 have hbA:Below w.heap.size w wa:=by rw[hwa];exact((Below.refl _ _).alloc (Nat.le_refl _) _).alloc (by simp) _
 have HBA:=Hyd hbA;have XX:=Hyd (show wa.heap[w.heap.size]? = some (.cells #[.bool x.keep,.slice a0 x.run.counts.length k0,.slice a1 x.run.evs.length k1,.bool x.run.blocked,.slice ga gx.length gk,.slice da x.done.length dk] 49 (0,0)) by rw[hwa];exact heap_alloc (heap_new rfl));have XY:=Hyd (show wa.heap[w.heap.size+1]? = some (.cells #[.bool x.keep,.slice b0 x.run.counts.length m0,.slice b1 x.run.evs.length m1,.bool x.run.blocked,.slice ha gy.length hk,.slice db x.done.length dm] 56 (0,0)) by rw[hwa];exact heap_new (by simp));have HOX:=Hyd (show OwnR 0 wa (.slice a0 x.run.counts.length k0,.slice a1 x.run.evs.length k1,x.run) from ho.below hbA);have HRC:=Hyd (Sl.keep hdr.rc fun a ha=>hbA.cell ha);have HRE:=Hyd (Sl.keep hdr.re fun a ha=>hbA.cell ha);have HPX:=Hyd (show ∀ w',Below wa.heap.size wa w' -> Calls Tryz.prog 20 #[.agg #[.slice a0 x.run.counts.length k0,.slice a1 x.run.evs.length k1,.bool x.run.blocked]] w' fun e w2=>e=.returned (.string (bytR x.run))/\Below w'.heap.size w' w2 from fun w' hw'=>putP x.run hok.1 _ w' ⟨_,_,rfl,Sl.of_own (own_below HOX.out.1 hw'),Sl.of_own (own_below HOX.out.2 hw')⟩)
 have HPY:=Hyd (show ∀ w',Below wa.heap.size wa w' -> Calls Tryz.prog 42 #[.agg #[.slice b0 x.run.counts.length m0,.slice b1 x.run.evs.length m1,.bool x.run.blocked]] w' fun e w2=>e=.returned (.string (bytR x.run))/\Below w'.heap.size w' w2 from fun w' hw'=>putD x.run hok.1 _ w' ⟨_,_,rfl,(Sl.keep HRC.out fun a ha=>hw'.cell (Nat.lt_of_lt_of_le ha hbA.size)).more (Nat.le_trans hbA.size hw'.size),(Sl.keep HRE.out fun a ha=>hw'.cell (Nat.lt_of_lt_of_le ha hbA.size)).more (Nat.le_trans hbA.size hw'.size)⟩);have HO1:=Hyd (own_below hg1 hbA);have HO2:=Hyd (own_below hdr.o1 hbA);have HD1:=Hyd (own_below hd1 hbA);have HD2:=Hyd (own_below hdr.o2 hbA);have HEX:=Hyd (fun g hg=>(hge g hg).below hbA);have HEY:=Hyd (fun g hg=>(hdr.el g hg).below hbA);have HGX:=Hyd hgm;have HGY:=Hyd hdr.gm;have HOK:=Hyd hok.2
 have HEQ:=Hyd (show ∀ w',Below wa.heap.size wa w' -> Calls Tryz.prog 9 #[.slice da x.done.length dk,.slice db x.done.length dm] w' fun e w2=>e=.returned (.bool true)/\Below w'.heap.size w' w2 from fun w' hw'=>(equal_any _ _ x.done x.done w' (Sl.of_own (own_below HD1.out hw')) (Sl.of_own (own_below HD2.out hw')) (by omega) (by omega)).mono (by
  rintro e w2 ⟨rfl,hg⟩
  exact⟨by rw[decide_eq_true rfl],hg.below⟩))
 have HWA:=Hyd hwa;have HXY:=Hyd hxy
 have hxy1:gy.length<=gx.length:=by omega
 have hxy2:gx.length<=gy.length:=by omega
 clear ho hgm hg1 hge hd1 hdr hwa hbA hok hxy
 go_enter Tryz.func14,Tryz.ntmps14
 go_upto_region 1 with (fail)
 rw[<-HWA.out]
 refine Reg.stand_order (W:=wa) (h:=31) (t:=0)
  [⟨0,6,[],99,[],none,fun v _=>v=.pointer (some ⟨w.heap.size,0,none⟩)⟩,
   ⟨1,7,[],99,[],none,fun v _=>v=.bool x.keep⟩,
   ⟨2,8,[],99,[],none,fun v _=>v=.pointer (some ⟨w.heap.size+1,0,none⟩)⟩,
   ⟨3,9,[],99,[],none,fun v _=>v=.bool x.keep⟩,
   ⟨4,10,[],99,[],none,fun v _=>v=.bool false⟩,
   ⟨5,11,[],99,[],none,fun v _=>v=.bool false⟩,
   ⟨6,12,[],99,[],none,fun v _=>v=.pointer (some ⟨w.heap.size,1,none⟩)⟩,
   ⟨7,13,[],99,[],none,fun v _=>v=.agg #[.slice a0 x.run.counts.length k0,.slice a1 x.run.evs.length k1,.bool x.run.blocked]⟩,
   ⟨8,14,[],99,[],none,fun v _=>v=.string (bytR x.run)⟩,
   ⟨9,15,[],99,[],none,fun v _=>v=.pointer (some ⟨w.heap.size+1,1,none⟩)⟩,
   ⟨10,16,[],99,[],none,fun v _=>v=.agg #[.slice b0 x.run.counts.length m0,.slice b1 x.run.evs.length m1,.bool x.run.blocked]⟩,
   ⟨11,17,[],99,[],none,fun v _=>v=.string (bytR x.run)⟩,
   ⟨12,18,[],99,[],none,fun v _=>v=.bool false⟩,
   ⟨13,19,[],99,[],none,fun v _=>v=.bool false⟩,
   ⟨14,20,[],99,[],none,fun v _=>v=.bool false⟩,
   ⟨15,21,[],99,[],none,fun v _=>v=.pointer (some ⟨w.heap.size,4,none⟩)⟩,
   ⟨16,22,[],99,[],none,fun v _=>v=.slice ga gx.length gk⟩,
   ⟨17,23,[],99,[],none,fun v _=>v=.int .i64 (gx.length:Nat)⟩,
   ⟨18,24,[],99,[],none,fun v _=>v=.pointer (some ⟨w.heap.size+1,4,none⟩)⟩,
   ⟨19,25,[],99,[],none,fun v _=>v=.slice ha gy.length hk⟩,
   ⟨20,26,[],99,[],none,fun v _=>v=.int .i64 (gy.length:Nat)⟩,
   ⟨21,27,[],99,[],none,fun v _=>v=.bool false⟩,
   ⟨22,28,[],99,[],none,fun v _=>v=.bool false⟩,
   ⟨23,29,[],99,[],none,fun v _=>v=.bool false⟩,
   ⟨24,30,[],99,[],none,fun v _=>v=.pointer (some ⟨w.heap.size,5,none⟩)⟩,
   ⟨25,31,[],99,[],none,fun v _=>v=.slice da x.done.length dk⟩,
   ⟨26,32,[],99,[],none,fun v _=>v=.pointer (some ⟨w.heap.size+1,5,none⟩)⟩,
   ⟨27,33,[],99,[],none,fun v _=>v=.slice db x.done.length dm⟩,
   ⟨28,34,[],99,[],none,fun v _=>v=.bool true⟩,
   ⟨29,35,[],99,[],none,fun v _=>v=.bool false⟩,
   ⟨30,36,[],99,[],none,fun v _=>v=.bool false⟩]
  []
  (by kernel_rfl) rfl (by kernel_rfl) (by kernel_rfl) (by kernel_rfl) (show [0,1,2,3,4,5,6,7,8,9,10,11,12,13,14,15,16,17,18,19,20,21,22,23,24,25,26,27,28,29,30].Nodup by decide) (show ∀ i,i<31->i∈[0,1,2,3,4,5,6,7,8,9,10,11,12,13,14,15,16,17,18,19,20,21,22,23,24,25,26,27,28,29,30] by decide) ?_ (show [6,7,8,9,10,11,12,13,14,15,16,17,18,19,20,21,22,23,24,25,26,27,28,29,30,31,32,33,34,35,36].Nodup by decide) (show ∀ s∈[6,7,8,9,10,11,12,13,14,15,16,17,18,19,20,21,22,23,24,25,26,27,28,29,30,31,32,33,34,35,36],s<57 by decide) (by kernel_rfl) ?_ ?_ (Below.refl _ _) ?_ ?_ ?_
 ·intro f hf
  simp only[List.mem_cons,List.not_mem_nil,or_false]at hf
  rcases hf with rfl|rfl|rfl|rfl|rfl|rfl|rfl|rfl|rfl|rfl|rfl|rfl|rfl|rfl|rfl|rfl|rfl|rfl|rfl|rfl|rfl|rfl|rfl|rfl|rfl|rfl|rfl|rfl|rfl|rfl|rfl<;>simp
 ·intro f hf v w1 w2 hk hF
  simp only[List.mem_cons,List.not_mem_nil,or_false]at hf
  rcases hf with rfl|rfl|rfl|rfl|rfl|rfl|rfl|rfl|rfl|rfl|rfl|rfl|rfl|rfl|rfl|rfl|rfl|rfl|rfl|rfl|rfl|rfl|rfl|rfl|rfl|rfl|rfl|rfl|rfl|rfl|rfl
  ·exact hF
  ·exact hF
  ·exact hF
  ·exact hF
  ·exact hF
  ·exact hF
  ·exact hF
  ·exact hF
  ·exact hF
  ·exact hF
  ·exact hF
  ·exact hF
  ·exact hF
  ·exact hF
  ·exact hF
  ·exact hF
  ·exact hF
  ·exact hF
  ·exact hF
  ·exact hF
  ·exact hF
  ·exact hF
  ·exact hF
  ·exact hF
  ·exact hF
  ·exact hF
  ·exact hF
  ·exact hF
  ·exact hF
  ·exact hF
  ·exact hF
 ·intro f hf;cases hf
 ·intro f hf;cases hf
 ·intro f hf a w1 hs hg' hst;have t2:a.eval (.tmp 2)=.pointer (some ⟨w.heap.size,0,none⟩):=Reg.eval_tmp ((hs.out 2 (show 2∉[6,7,8,9,10,11,12,13,14,15,16,17,18,19,20,21,22,23,24,25,26,27,28,29,30,31,32,33,34,35,36] by decide)).trans rfl);have t3:a.eval (.tmp 3)=.pointer (some ⟨w.heap.size+1,0,none⟩):=Reg.eval_tmp ((hs.out 3 (show 3∉[6,7,8,9,10,11,12,13,14,15,16,17,18,19,20,21,22,23,24,25,26,27,28,29,30,31,32,33,34,35,36] by decide)).trans rfl)
  simp only[List.mem_cons,List.not_mem_nil,or_false]at hf
  rcases hf with rfl|rfl|rfl|rfl|rfl|rfl|rfl|rfl|rfl|rfl|rfl|rfl|rfl|rfl|rfl|rfl|rfl|rfl|rfl|rfl|rfl|rfl|rfl|rfl|rfl|rfl|rfl|rfl|rfl|rfl|rfl
  ·exact Reg.step_val rfl rfl rfl (v:=.pointer (some ⟨w.heap.size,0,none⟩)) (w':=w1) (Ord.run_fld t2 (by go_simp)) rfl hs.below (fun e=>Reg.Keeps.refl e _)
  ·obtain⟨v1,hv1,rfl⟩:∃ v,a.tmps[6]? = some v/\v=.pointer (some ⟨w.heap.size,0,none⟩):=hg' _ (Reg.at_fact 0 rfl) (by kernel_rfl) (by first | (simp[Reg.okTil];done) | kernel_rfl)
   have u1:=Reg.eval_tmp hv1;exact Reg.step_val rfl rfl rfl (v:=.bool x.keep) (Reg.run_load u1 (load_bl ((CeH ((hs.below.block _ (heap_lt XX.out)).trans XX.out) 0).trans rfl))) rfl hs.below (fun e=>Reg.Keeps.refl e _)
  ·exact Reg.step_val rfl rfl rfl (v:=.pointer (some ⟨w.heap.size+1,0,none⟩)) (w':=w1) (Ord.run_fld t3 (by go_simp)) rfl hs.below (fun e=>Reg.Keeps.refl e _)
  ·obtain⟨v1,hv1,rfl⟩:∃ v,a.tmps[8]? = some v/\v=.pointer (some ⟨w.heap.size+1,0,none⟩):=hg' _ (Reg.at_fact 2 rfl) (by kernel_rfl) (by first | (simp[Reg.okTil];done) | kernel_rfl)
   have u1:=Reg.eval_tmp hv1;exact Reg.step_val rfl rfl rfl (v:=.bool x.keep) (Reg.run_load u1 (load_bl ((CeH ((hs.below.block _ (heap_lt XY.out)).trans XY.out) 0).trans rfl))) rfl hs.below (fun e=>Reg.Keeps.refl e _)
  ·obtain⟨v1,hv1,rfl⟩:∃ v,a.tmps[7]? = some v/\v=.bool x.keep:=hg' _ (Reg.at_fact 1 rfl) (by kernel_rfl) (by first | (simp[Reg.okTil];done) | kernel_rfl)
   have u1:=Reg.eval_tmp hv1
   obtain⟨v2,hv2,rfl⟩:∃ v,a.tmps[9]? = some v/\v=.bool x.keep:=hg' _ (Reg.at_fact 3 rfl) (by kernel_rfl) (by first | (simp[Reg.okTil];done) | kernel_rfl)
   have u2:=Reg.eval_tmp hv2;exact Reg.step_val rfl rfl rfl (v:=.bool false) (by go_simp) rfl hs.below (fun e=>Reg.Keeps.refl e _)
  ·obtain⟨v1,hv1,rfl⟩:∃ v,a.tmps[10]? = some v/\v=.bool false:=hg' _ (Reg.at_fact 4 rfl) (by kernel_rfl) (by first | (simp[Reg.okTil];done) | kernel_rfl)
   have u1:=Reg.eval_tmp hv1;exact Reg.step_val rfl rfl rfl (v:=.bool false) (Reg.run_move u1) rfl hs.below (fun e=>Reg.Keeps.refl e _)
  ·obtain⟨vg,hvg,rfl⟩:∃ v,a.tmps[11]? = some v/\v=.bool false:=hg' _ (Reg.at_fact 5 rfl) (by kernel_rfl) (by first | (simp[Reg.okTil];done) | kernel_rfl)
   exact Reg.step_val_on rfl rfl rfl rfl hvg rfl (v:=.pointer (some ⟨w.heap.size,1,none⟩)) (w':=w1) (Ord.run_fld t2 (by go_simp)) rfl hs.below (fun e=>Reg.Keeps.refl e _)
  ·obtain⟨vg,hvg,rfl⟩:∃ v,a.tmps[11]? = some v/\v=.bool false:=hg' _ (Reg.at_fact 5 rfl) (by kernel_rfl) (by first | (simp[Reg.okTil];done) | kernel_rfl)
   obtain⟨v1,hv1,rfl⟩:∃ v,a.tmps[12]? = some v/\v=.pointer (some ⟨w.heap.size,1,none⟩):=hg' _ (Reg.at_fact 6 rfl) (by kernel_rfl) (by first | (simp[Reg.okTil];done) | kernel_rfl)
   have u1:=Reg.eval_tmp hv1;exact Reg.step_val_on rfl rfl rfl rfl hvg rfl (v:=.agg #[.slice a0 x.run.counts.length k0,.slice a1 x.run.evs.length k1,.bool x.run.blocked]) (Reg.run_load u1 (load_rp ((CeH ((hs.below.block _ (heap_lt XX.out)).trans XX.out) 1).trans rfl) ((CeH ((hs.below.block _ (heap_lt XX.out)).trans XX.out) 2).trans rfl) ((CeH ((hs.below.block _ (heap_lt XX.out)).trans XX.out) 3).trans rfl))) rfl hs.below (fun e=>Reg.Keeps.refl e _)
  ·obtain⟨vg,hvg,rfl⟩:∃ v,a.tmps[11]? = some v/\v=.bool false:=hg' _ (Reg.at_fact 5 rfl) (by kernel_rfl) (by first | (simp[Reg.okTil];done) | kernel_rfl)
   obtain⟨v1,hv1,rfl⟩:∃ v,a.tmps[13]? = some v/\v=.agg #[.slice a0 x.run.counts.length k0,.slice a1 x.run.evs.length k1,.bool x.run.blocked]:=hg' _ (Reg.at_fact 7 rfl) (by kernel_rfl) (by first | (simp[Reg.okTil];done) | kernel_rfl)
   have u1:=Reg.eval_tmp hv1;refine Reg.step_call_on (f:=20) (args:=#[.agg #[.slice a0 x.run.counts.length k0,.slice a1 x.run.evs.length k1,.bool x.run.blocked]]) rfl rfl rfl rfl hvg rfl (by go_simp) hs.below ((HPX.out w1 hs.below).mono ?_);rintro en w2' ⟨rfl,hb⟩;exact⟨_,rfl,rfl,hb⟩
  ·obtain⟨vg,hvg,rfl⟩:∃ v,a.tmps[11]? = some v/\v=.bool false:=hg' _ (Reg.at_fact 5 rfl) (by kernel_rfl) (by first | (simp[Reg.okTil];done) | kernel_rfl)
   exact Reg.step_val_on rfl rfl rfl rfl hvg rfl (v:=.pointer (some ⟨w.heap.size+1,1,none⟩)) (w':=w1) (Ord.run_fld t3 (by go_simp)) rfl hs.below (fun e=>Reg.Keeps.refl e _)
  ·obtain⟨vg,hvg,rfl⟩:∃ v,a.tmps[11]? = some v/\v=.bool false:=hg' _ (Reg.at_fact 5 rfl) (by kernel_rfl) (by first | (simp[Reg.okTil];done) | kernel_rfl)
   obtain⟨v1,hv1,rfl⟩:∃ v,a.tmps[15]? = some v/\v=.pointer (some ⟨w.heap.size+1,1,none⟩):=hg' _ (Reg.at_fact 9 rfl) (by kernel_rfl) (by first | (simp[Reg.okTil];done) | kernel_rfl)
   have u1:=Reg.eval_tmp hv1;exact Reg.step_val_on rfl rfl rfl rfl hvg rfl (v:=.agg #[.slice b0 x.run.counts.length m0,.slice b1 x.run.evs.length m1,.bool x.run.blocked]) (Reg.run_load u1 (load_rd ((CeH ((hs.below.block _ (heap_lt XY.out)).trans XY.out) 1).trans rfl) ((CeH ((hs.below.block _ (heap_lt XY.out)).trans XY.out) 2).trans rfl) ((CeH ((hs.below.block _ (heap_lt XY.out)).trans XY.out) 3).trans rfl))) rfl hs.below (fun e=>Reg.Keeps.refl e _)
  ·obtain⟨vg,hvg,rfl⟩:∃ v,a.tmps[11]? = some v/\v=.bool false:=hg' _ (Reg.at_fact 5 rfl) (by kernel_rfl) (by first | (simp[Reg.okTil];done) | kernel_rfl)
   obtain⟨v1,hv1,rfl⟩:∃ v,a.tmps[16]? = some v/\v=.agg #[.slice b0 x.run.counts.length m0,.slice b1 x.run.evs.length m1,.bool x.run.blocked]:=hg' _ (Reg.at_fact 10 rfl) (by kernel_rfl) (by first | (simp[Reg.okTil];done) | kernel_rfl)
   have u1:=Reg.eval_tmp hv1;refine Reg.step_call_on (f:=42) (args:=#[.agg #[.slice b0 x.run.counts.length m0,.slice b1 x.run.evs.length m1,.bool x.run.blocked]]) rfl rfl rfl rfl hvg rfl (by go_simp) hs.below ((HPY.out w1 hs.below).mono ?_);rintro en w2' ⟨rfl,hb⟩;exact⟨_,rfl,rfl,hb⟩
  ·obtain⟨vg,hvg,rfl⟩:∃ v,a.tmps[11]? = some v/\v=.bool false:=hg' _ (Reg.at_fact 5 rfl) (by kernel_rfl) (by first | (simp[Reg.okTil];done) | kernel_rfl)
   obtain⟨v1,hv1,rfl⟩:∃ v,a.tmps[14]? = some v/\v=.string (bytR x.run):=hg' _ (Reg.at_fact 8 rfl) (by kernel_rfl) (by first | (simp[Reg.okTil];done) | kernel_rfl)
   have u1:=Reg.eval_tmp hv1
   obtain⟨v2,hv2,rfl⟩:∃ v,a.tmps[17]? = some v/\v=.string (bytR x.run):=hg' _ (Reg.at_fact 11 rfl) (by kernel_rfl) (by first | (simp[Reg.okTil];done) | kernel_rfl)
   have u2:=Reg.eval_tmp hv2;exact Reg.step_val_on rfl rfl rfl rfl hvg rfl (v:=.bool false) (by go_simp) rfl hs.below (fun e=>Reg.Keeps.refl e _)
  ·obtain⟨v1,hv1,rfl⟩:∃ v,a.tmps[11]? = some v/\v=.bool false:=hg' _ (Reg.at_fact 5 rfl) (by kernel_rfl) (by first | (simp[Reg.okTil];done) | kernel_rfl)
   have u1:=Reg.eval_tmp hv1
   obtain⟨v2,hv2,rfl⟩:∃ v,a.tmps[18]? = some v/\v=.bool false:=hg' _ (Reg.at_fact 12 rfl) (by kernel_rfl) (by first | (simp[Reg.okTil];done) | kernel_rfl)
   have u2:=Reg.eval_tmp hv2;exact Reg.step_val rfl rfl rfl (v:=.bool false) (Reg.run_pick u1 (by simpa using u2)) rfl hs.below (fun e=>Reg.Keeps.refl e _)
  ·obtain⟨v1,hv1,rfl⟩:∃ v,a.tmps[19]? = some v/\v=.bool false:=hg' _ (Reg.at_fact 13 rfl) (by kernel_rfl) (by first | (simp[Reg.okTil];done) | kernel_rfl)
   have u1:=Reg.eval_tmp hv1;exact Reg.step_val rfl rfl rfl (v:=.bool false) (Reg.run_move u1) rfl hs.below (fun e=>Reg.Keeps.refl e _)
  ·obtain⟨vg,hvg,rfl⟩:∃ v,a.tmps[20]? = some v/\v=.bool false:=hg' _ (Reg.at_fact 14 rfl) (by kernel_rfl) (by first | (simp[Reg.okTil];done) | kernel_rfl)
   exact Reg.step_val_on rfl rfl rfl rfl hvg rfl (v:=.pointer (some ⟨w.heap.size,4,none⟩)) (w':=w1) (Ord.run_fld t2 (by go_simp)) rfl hs.below (fun e=>Reg.Keeps.refl e _)
  ·obtain⟨vg,hvg,rfl⟩:∃ v,a.tmps[20]? = some v/\v=.bool false:=hg' _ (Reg.at_fact 14 rfl) (by kernel_rfl) (by first | (simp[Reg.okTil];done) | kernel_rfl)
   obtain⟨v1,hv1,rfl⟩:∃ v,a.tmps[21]? = some v/\v=.pointer (some ⟨w.heap.size,4,none⟩):=hg' _ (Reg.at_fact 15 rfl) (by kernel_rfl) (by first | (simp[Reg.okTil];done) | kernel_rfl)
   have u1:=Reg.eval_tmp hv1;exact Reg.step_val_on rfl rfl rfl rfl hvg rfl (v:=.slice ga gx.length gk) (Reg.run_load u1 (load_rps ((CeH ((hs.below.block _ (heap_lt XX.out)).trans XX.out) 4).trans rfl))) rfl hs.below (fun e=>Reg.Keeps.refl e _)
  ·obtain⟨vg,hvg,rfl⟩:∃ v,a.tmps[20]? = some v/\v=.bool false:=hg' _ (Reg.at_fact 14 rfl) (by kernel_rfl) (by first | (simp[Reg.okTil];done) | kernel_rfl)
   obtain⟨v1,hv1,rfl⟩:∃ v,a.tmps[22]? = some v/\v=.slice ga gx.length gk:=hg' _ (Reg.at_fact 16 rfl) (by kernel_rfl) (by first | (simp[Reg.okTil];done) | kernel_rfl)
   have u1:=Reg.eval_tmp hv1;exact Reg.step_val_on rfl rfl rfl rfl hvg rfl (v:=.int .i64 (gx.length:Nat)) (by go_simp) rfl hs.below (fun e=>Reg.Keeps.refl e _)
  ·obtain⟨vg,hvg,rfl⟩:∃ v,a.tmps[20]? = some v/\v=.bool false:=hg' _ (Reg.at_fact 14 rfl) (by kernel_rfl) (by first | (simp[Reg.okTil];done) | kernel_rfl)
   exact Reg.step_val_on rfl rfl rfl rfl hvg rfl (v:=.pointer (some ⟨w.heap.size+1,4,none⟩)) (w':=w1) (Ord.run_fld t3 (by go_simp)) rfl hs.below (fun e=>Reg.Keeps.refl e _)
  ·obtain⟨vg,hvg,rfl⟩:∃ v,a.tmps[20]? = some v/\v=.bool false:=hg' _ (Reg.at_fact 14 rfl) (by kernel_rfl) (by first | (simp[Reg.okTil];done) | kernel_rfl)
   obtain⟨v1,hv1,rfl⟩:∃ v,a.tmps[24]? = some v/\v=.pointer (some ⟨w.heap.size+1,4,none⟩):=hg' _ (Reg.at_fact 18 rfl) (by kernel_rfl) (by first | (simp[Reg.okTil];done) | kernel_rfl)
   have u1:=Reg.eval_tmp hv1;exact Reg.step_val_on rfl rfl rfl rfl hvg rfl (v:=.slice ha gy.length hk) (Reg.run_load u1 (load_rds ((CeH ((hs.below.block _ (heap_lt XY.out)).trans XY.out) 4).trans rfl))) rfl hs.below (fun e=>Reg.Keeps.refl e _)
  ·obtain⟨vg,hvg,rfl⟩:∃ v,a.tmps[20]? = some v/\v=.bool false:=hg' _ (Reg.at_fact 14 rfl) (by kernel_rfl) (by first | (simp[Reg.okTil];done) | kernel_rfl)
   obtain⟨v1,hv1,rfl⟩:∃ v,a.tmps[25]? = some v/\v=.slice ha gy.length hk:=hg' _ (Reg.at_fact 19 rfl) (by kernel_rfl) (by first | (simp[Reg.okTil];done) | kernel_rfl)
   have u1:=Reg.eval_tmp hv1;exact Reg.step_val_on rfl rfl rfl rfl hvg rfl (v:=.int .i64 (gy.length:Nat)) (by go_simp) rfl hs.below (fun e=>Reg.Keeps.refl e _)
  ·obtain⟨vg,hvg,rfl⟩:∃ v,a.tmps[20]? = some v/\v=.bool false:=hg' _ (Reg.at_fact 14 rfl) (by kernel_rfl) (by first | (simp[Reg.okTil];done) | kernel_rfl)
   obtain⟨v1,hv1,rfl⟩:∃ v,a.tmps[23]? = some v/\v=.int .i64 (gx.length:Nat):=hg' _ (Reg.at_fact 17 rfl) (by kernel_rfl) (by first | (simp[Reg.okTil];done) | kernel_rfl)
   have u1:=Reg.eval_tmp hv1
   obtain⟨v2,hv2,rfl⟩:∃ v,a.tmps[26]? = some v/\v=.int .i64 (gy.length:Nat):=hg' _ (Reg.at_fact 20 rfl) (by kernel_rfl) (by first | (simp[Reg.okTil];done) | kernel_rfl)
   have u2:=Reg.eval_tmp hv2
   have hq:((gx.length:Nat):Int)=((gy.length:Nat):Int):=by rw[HXY.out]
   exact Reg.step_val_on rfl rfl rfl rfl hvg rfl (v:=.bool false) (by go_simp) rfl hs.below (fun e=>Reg.Keeps.refl e _)
  ·obtain⟨v1,hv1,rfl⟩:∃ v,a.tmps[20]? = some v/\v=.bool false:=hg' _ (Reg.at_fact 14 rfl) (by kernel_rfl) (by first | (simp[Reg.okTil];done) | kernel_rfl)
   have u1:=Reg.eval_tmp hv1
   obtain⟨v2,hv2,rfl⟩:∃ v,a.tmps[27]? = some v/\v=.bool false:=hg' _ (Reg.at_fact 21 rfl) (by kernel_rfl) (by first | (simp[Reg.okTil];done) | kernel_rfl)
   have u2:=Reg.eval_tmp hv2;exact Reg.step_val rfl rfl rfl (v:=.bool false) (Reg.run_pick u1 (by simpa using u2)) rfl hs.below (fun e=>Reg.Keeps.refl e _)
  ·obtain⟨v1,hv1,rfl⟩:∃ v,a.tmps[28]? = some v/\v=.bool false:=hg' _ (Reg.at_fact 22 rfl) (by kernel_rfl) (by first | (simp[Reg.okTil];done) | kernel_rfl)
   have u1:=Reg.eval_tmp hv1;exact Reg.step_val rfl rfl rfl (v:=.bool false) (Reg.run_move u1) rfl hs.below (fun e=>Reg.Keeps.refl e _)
  ·obtain⟨vg,hvg,rfl⟩:∃ v,a.tmps[29]? = some v/\v=.bool false:=hg' _ (Reg.at_fact 23 rfl) (by kernel_rfl) (by first | (simp[Reg.okTil];done) | kernel_rfl)
   exact Reg.step_val_on rfl rfl rfl rfl hvg rfl (v:=.pointer (some ⟨w.heap.size,5,none⟩)) (w':=w1) (Ord.run_fld t2 (by go_simp)) rfl hs.below (fun e=>Reg.Keeps.refl e _)
  ·obtain⟨vg,hvg,rfl⟩:∃ v,a.tmps[29]? = some v/\v=.bool false:=hg' _ (Reg.at_fact 23 rfl) (by kernel_rfl) (by first | (simp[Reg.okTil];done) | kernel_rfl)
   obtain⟨v1,hv1,rfl⟩:∃ v,a.tmps[30]? = some v/\v=.pointer (some ⟨w.heap.size,5,none⟩):=hg' _ (Reg.at_fact 24 rfl) (by kernel_rfl) (by first | (simp[Reg.okTil];done) | kernel_rfl)
   have u1:=Reg.eval_tmp hv1;exact Reg.step_val_on rfl rfl rfl rfl hvg rfl (v:=.slice da x.done.length dk) (Reg.run_load u1 (load_sts ((CeH ((hs.below.block _ (heap_lt XX.out)).trans XX.out) 5).trans rfl))) rfl hs.below (fun e=>Reg.Keeps.refl e _)
  ·obtain⟨vg,hvg,rfl⟩:∃ v,a.tmps[29]? = some v/\v=.bool false:=hg' _ (Reg.at_fact 23 rfl) (by kernel_rfl) (by first | (simp[Reg.okTil];done) | kernel_rfl)
   exact Reg.step_val_on rfl rfl rfl rfl hvg rfl (v:=.pointer (some ⟨w.heap.size+1,5,none⟩)) (w':=w1) (Ord.run_fld t3 (by go_simp)) rfl hs.below (fun e=>Reg.Keeps.refl e _)
  ·obtain⟨vg,hvg,rfl⟩:∃ v,a.tmps[29]? = some v/\v=.bool false:=hg' _ (Reg.at_fact 23 rfl) (by kernel_rfl) (by first | (simp[Reg.okTil];done) | kernel_rfl)
   obtain⟨v1,hv1,rfl⟩:∃ v,a.tmps[32]? = some v/\v=.pointer (some ⟨w.heap.size+1,5,none⟩):=hg' _ (Reg.at_fact 26 rfl) (by kernel_rfl) (by first | (simp[Reg.okTil];done) | kernel_rfl)
   have u1:=Reg.eval_tmp hv1;exact Reg.step_val_on rfl rfl rfl rfl hvg rfl (v:=.slice db x.done.length dm) (Reg.run_load u1 (load_sts ((CeH ((hs.below.block _ (heap_lt XY.out)).trans XY.out) 5).trans rfl))) rfl hs.below (fun e=>Reg.Keeps.refl e _)
  ·obtain⟨vg,hvg,rfl⟩:∃ v,a.tmps[29]? = some v/\v=.bool false:=hg' _ (Reg.at_fact 23 rfl) (by kernel_rfl) (by first | (simp[Reg.okTil];done) | kernel_rfl)
   obtain⟨v1,hv1,rfl⟩:∃ v,a.tmps[31]? = some v/\v=.slice da x.done.length dk:=hg' _ (Reg.at_fact 25 rfl) (by kernel_rfl) (by first | (simp[Reg.okTil];done) | kernel_rfl)
   have u1:=Reg.eval_tmp hv1
   obtain⟨v2,hv2,rfl⟩:∃ v,a.tmps[33]? = some v/\v=.slice db x.done.length dm:=hg' _ (Reg.at_fact 27 rfl) (by kernel_rfl) (by first | (simp[Reg.okTil];done) | kernel_rfl)
   have u2:=Reg.eval_tmp hv2;refine Reg.step_call_on (f:=9) (args:=#[.slice da x.done.length dk,.slice db x.done.length dm]) rfl rfl rfl rfl hvg rfl (by go_simp) hs.below ((HEQ.out w1 hs.below).mono ?_);rintro en w2' ⟨rfl,hb⟩;exact⟨_,rfl,rfl,hb⟩
  ·obtain⟨vg,hvg,rfl⟩:∃ v,a.tmps[29]? = some v/\v=.bool false:=hg' _ (Reg.at_fact 23 rfl) (by kernel_rfl) (by first | (simp[Reg.okTil];done) | kernel_rfl)
   obtain⟨v1,hv1,rfl⟩:∃ v,a.tmps[34]? = some v/\v=.bool true:=hg' _ (Reg.at_fact 28 rfl) (by kernel_rfl) (by first | (simp[Reg.okTil];done) | kernel_rfl)
   have u1:=Reg.eval_tmp hv1;exact Reg.step_val_on rfl rfl rfl rfl hvg rfl (v:=.bool false) (by go_simp) rfl hs.below (fun e=>Reg.Keeps.refl e _)
  ·obtain⟨v1,hv1,rfl⟩:∃ v,a.tmps[29]? = some v/\v=.bool false:=hg' _ (Reg.at_fact 23 rfl) (by kernel_rfl) (by first | (simp[Reg.okTil];done) | kernel_rfl)
   have u1:=Reg.eval_tmp hv1
   obtain⟨v2,hv2,rfl⟩:∃ v,a.tmps[35]? = some v/\v=.bool false:=hg' _ (Reg.at_fact 29 rfl) (by kernel_rfl) (by first | (simp[Reg.okTil];done) | kernel_rfl)
   have u2:=Reg.eval_tmp hv2;exact Reg.step_val rfl rfl rfl (v:=.bool false) (Reg.run_pick u1 (by simpa using u2)) rfl hs.below (fun e=>Reg.Keeps.refl e _)
 ·intro vals w1 hF hfx hb1;have e36:vals 36=.bool false:=hF _ (Reg.at_fact 30 rfl) (show(31+0:Nat)<=99 by decide)
  simp only[List.map_cons,List.map_nil,e36]
  generalize vals 6=q6;generalize vals 7=q7;generalize vals 8=q8;generalize vals 9=q9;generalize vals 10=q10;generalize vals 11=q11;generalize vals 12=q12;generalize vals 13=q13;generalize vals 14=q14;generalize vals 15=q15;generalize vals 16=q16;generalize vals 17=q17;generalize vals 18=q18;generalize vals 19=q19;generalize vals 20=q20;generalize vals 21=q21;generalize vals 22=q22;generalize vals 23=q23;generalize vals 24=q24;generalize vals 25=q25;generalize vals 26=q26;generalize vals 27=q27;generalize vals 28=q28;generalize vals 29=q29;generalize vals 30=q30;generalize vals 31=q31;generalize vals 32=q32;generalize vals 33=q33;generalize vals 34=q34;generalize vals 35=q35;have HB1:=Hyd hb1;clear hF hfx e36 hb1;(iterate 32 unfold Reg.puts)
  go_simp
  have y0:w1.cell? ⟨w.heap.size,4,none⟩=some (.slice ga gx.length gk):=(CeH ((HB1.out.block _ (heap_lt XX.out)).trans XX.out) 4).trans rfl;go_wp2_with fail;clear y0
  go_loopw [40] (fun u wr=>∃ k:Nat,k<=gx.length/\u=.int .i64 (k:Nat)/\Below wa.heap.size wa wr) (fun u _=>gx.length-(intOf u).toNat)
  case atStart=>exact⟨0,Nat.zero_le _,rfl,HB1.out⟩
  case round =>
   clear HB1;obtain⟨k,hkx,rfl,hb⟩:=hrel;have HB:=Hyd hb
   by_cases hlt:k<gx.length
   ·have hki:(k:Int)<(gx.length:Int):=by omega
    have hk0:(0:Int)<=(k:Int):=by omega
    have hly:k<gy.length:=by omega
    obtain⟨gb,gc',e1,hgb,x0,x1,x2⟩:=row_at HO1.out rfl hlt
    obtain⟨rfl,rfl⟩:ga=some ⟨gb,0,none⟩/\gk=gc':=by simpa using e1
    obtain⟨hb',hc',e2,hhb,y0,y1,y2⟩:=row_at HO2.out rfl hly
    obtain⟨rfl,rfl⟩:ha=some ⟨hb',0,none⟩/\hk=hc':=by simpa using e2
    have hEX:=HEX.out _ (List.getElem_mem hlt);have hEY:=HEY.out _ (List.getElem_mem hly)
    have hrr:gx[k].2.2=gy[k].2.2:=by
     have h1:(gx.map (·.2.2))[k]? = (gy.map (·.2.2))[k]?:=by rw[HGX.out,HGY.out]
     rw[List.getElem?_map,List.getElem?_map,List.getElem?_eq_getElem hlt,List.getElem?_eq_getElem hly]at h1
     simpa using h1
    have hPO:=HOK.out gx[k].2.2 (by rw[<-HGX.out];exact List.mem_map_of_mem (List.getElem_mem hlt))
    obtain⟨rg,hrg⟩:∃ r,gx[k].2.2=r:=⟨_,rfl⟩
    rw[<-hrr]at y2;rw[hrg]at hrr hPO x2 y2
    obtain⟨px,hpx⟩:∃ g,gx[k]=g:=⟨_,rfl⟩
    obtain⟨py,hpy⟩:∃ g,gy[k]=g:=⟨_,rfl⟩
    rw[hpx]at hEX x0 x1 hrg;rw[hpy]at hEY y0 y1 hrr;obtain⟨c1,d1,s1⟩:=px;obtain⟨c2,d2,s2⟩:=py
    simp only at hrg hrr x0 x1 y0 y1
    subst hrg hrr;obtain⟨ca,cc,rfl⟩:=(Sl.of_own (show wa.ownsRow 0 3 1 c1 s1.counts.length (cntV s1.counts) from hEX.1)).shape;obtain⟨ea,ec,rfl⟩:=(Sl.of_own (show wa.ownsRow 0 44 4 d1 s1.evs.length (cellsOf encE s1.evs) from hEX.2)).shape;obtain⟨ca',cc',rfl⟩:=(Sl.of_own (show wa.ownsRow 0 3 1 c2 s1.counts.length (cntV s1.counts) from hEY.1)).shape;obtain⟨ea',ec',rfl⟩:=(Sl.of_own (show wa.ownsRow 0 59 4 d2 s1.evs.length (cellsOf encE s1.evs) from hEY.2)).shape;have HPA:=Hyd (show ∀ w',Below wr.heap.size wr w' -> Calls Tryz.prog 20 #[.agg #[.slice ca s1.counts.length cc,.slice ea s1.evs.length ec,.bool s1.blocked]] w' fun e w2=>e=.returned (.string (bytR s1))/\Below w'.heap.size w' w2 from fun w' hw'=>putP s1 hPO _ w' ⟨_,_,rfl,Sl.of_own (own_below hEX.1 (hb.trans (hw'.mono hb.size))),Sl.of_own (own_below hEX.2 (hb.trans (hw'.mono hb.size)))⟩)
    have HPB:=Hyd (show ∀ w',Below wr.heap.size wr w' -> Calls Tryz.prog 42 #[.agg #[.slice ca' s1.counts.length cc',.slice ea' s1.evs.length ec',.bool s1.blocked]] w' fun e w2=>e=.returned (.string (bytR s1))/\Below w'.heap.size w' w2 from fun w' hw'=>putD s1 hPO _ w' ⟨_,_,rfl,Sl.of_own (own_below hEY.1 (hb.trans (hw'.mono hb.size))),Sl.of_own (own_below hEY.2 (hb.trans (hw'.mono hb.size)))⟩);have HX0:=Hyd ((hb.cell (p:=⟨gb,k * 3,none⟩) hgb).trans x0);have HX1:=Hyd ((hb.cell (p:=⟨gb,k * 3+1,none⟩) hgb).trans x1);have HX2:=Hyd ((hb.cell (p:=⟨gb,k * 3+2,none⟩) hgb).trans x2);have HY0:=Hyd ((hb.cell (p:=⟨hb',k * 3,none⟩) hhb).trans y0);have HY1:=Hyd ((hb.cell (p:=⟨hb',k * 3+1,none⟩) hhb).trans y1);have HY2:=Hyd ((hb.cell (p:=⟨hb',k * 3+2,none⟩) hhb).trans y2)
    have hgb2:gb<wr.heap.size:=Nat.lt_of_lt_of_le hgb hb.size;have hhb2:hb' < wr.heap.size:=Nat.lt_of_lt_of_le hhb hb.size;have HXR:=Hyd ((hb.block _ (heap_lt XX.out)).trans XX.out);have HYR:=Hyd ((hb.block _ (heap_lt XY.out)).trans XY.out);clear e1 e2 x0 x1 x2 y0 y1 y2 hEX hEY hPO hb hpx hpy
    go_upto_region 6 with (fail)
    refine Reg.stand_order (W:=wr) (h:=13) (t:=0)
     [⟨0,43,[],99,[],none,fun v _=>v=.pointer (some ⟨w.heap.size,4,none⟩)⟩,
      ⟨1,44,[],99,[],none,fun v _=>v=.slice (some ⟨gb,0,none⟩) gx.length gk⟩,
      ⟨2,45,[],99,[],none,fun v _=>v=.int .i64 (k:Int)⟩,
      ⟨3,46,[],99,[],none,fun v _=>v=.pointer (some ⟨gb,k * 3,none⟩)⟩,
      ⟨4,47,[],99,[],none,fun v _=>v=.agg #[.slice ca s1.counts.length cc,.slice ea s1.evs.length ec,.bool s1.blocked]⟩,
      ⟨5,48,[],99,[],none,fun v _=>v=.string (bytR s1)⟩,
      ⟨6,49,[],99,[],none,fun v _=>v=.pointer (some ⟨w.heap.size+1,4,none⟩)⟩,
      ⟨7,50,[],99,[],none,fun v _=>v=.slice (some ⟨hb',0,none⟩) gy.length hk⟩,
      ⟨8,51,[],99,[],none,fun v _=>v=.int .i64 (k:Int)⟩,
      ⟨9,52,[],99,[],none,fun v _=>v=.pointer (some ⟨hb',k * 3,none⟩)⟩,
      ⟨10,53,[],99,[],none,fun v _=>v=.agg #[.slice ca' s1.counts.length cc',.slice ea' s1.evs.length ec',.bool s1.blocked]⟩,
      ⟨11,54,[],99,[],none,fun v _=>v=.string (bytR s1)⟩,
      ⟨12,55,[],99,[],none,fun v _=>v=.bool false⟩]
     []
     (by kernel_rfl) rfl (by kernel_rfl) (by kernel_rfl) (by kernel_rfl) (show [0,1,2,3,4,5,6,7,8,9,10,11,12].Nodup by decide) (show ∀ i,i<13->i∈[0,1,2,3,4,5,6,7,8,9,10,11,12] by decide) ?_ (show [43,44,45,46,47,48,49,50,51,52,53,54,55].Nodup by decide) (show ∀ s∈[43,44,45,46,47,48,49,50,51,52,53,54,55],s<57 by decide) (by kernel_rfl) ?_ ?_ (Below.refl _ _) ?_ ?_ ?_
    ·intro f hf
     simp only[List.mem_cons,List.not_mem_nil,or_false]at hf
     rcases hf with rfl|rfl|rfl|rfl|rfl|rfl|rfl|rfl|rfl|rfl|rfl|rfl|rfl<;>simp
    ·intro f hf v w1 w2 hk hF
     simp only[List.mem_cons,List.not_mem_nil,or_false]at hf
     rcases hf with rfl|rfl|rfl|rfl|rfl|rfl|rfl|rfl|rfl|rfl|rfl|rfl|rfl
     ·exact hF
     ·exact hF
     ·exact hF
     ·exact hF
     ·exact hF
     ·exact hF
     ·exact hF
     ·exact hF
     ·exact hF
     ·exact hF
     ·exact hF
     ·exact hF
     ·exact hF
    ·intro f hf;cases hf
    ·intro f hf;cases hf
    ·intro f hf a w1 hs hg' hst;have t2:a.eval (.tmp 2)=.pointer (some ⟨w.heap.size,0,none⟩):=Reg.eval_tmp ((hs.out 2 (show 2∉[43,44,45,46,47,48,49,50,51,52,53,54,55] by decide)).trans rfl);have t3:a.eval (.tmp 3)=.pointer (some ⟨w.heap.size+1,0,none⟩):=Reg.eval_tmp ((hs.out 3 (show 3∉[43,44,45,46,47,48,49,50,51,52,53,54,55] by decide)).trans rfl);have t5:a.eval (.tmp 5)=.int .i64 (k:Int):=Reg.eval_tmp ((hs.out 5 (show 5∉[43,44,45,46,47,48,49,50,51,52,53,54,55] by decide)).trans rfl)
     simp only[List.mem_cons,List.not_mem_nil,or_false]at hf
     rcases hf with rfl|rfl|rfl|rfl|rfl|rfl|rfl|rfl|rfl|rfl|rfl|rfl|rfl
     ·exact Reg.step_val rfl rfl rfl (v:=.pointer (some ⟨w.heap.size,4,none⟩)) (w':=w1) (Ord.run_fld t2 (by go_simp)) rfl hs.below (fun e=>Reg.Keeps.refl e _)
     ·obtain⟨v1,hv1,rfl⟩:∃ v,a.tmps[43]? = some v/\v=.pointer (some ⟨w.heap.size,4,none⟩):=hg' _ (Reg.at_fact 0 rfl) (by kernel_rfl) (by first | (simp[Reg.okTil];done) | kernel_rfl)
      have u1:=Reg.eval_tmp hv1;exact Reg.step_val rfl rfl rfl (v:=.slice (some ⟨gb,0,none⟩) gx.length gk) (Reg.run_load u1 (load_rps ((CeH ((hs.below.block _ (heap_lt HXR.out)).trans HXR.out) 4).trans rfl))) rfl hs.below (fun e=>Reg.Keeps.refl e _)
     ·exact Reg.step_val rfl rfl rfl (Reg.run_move t5) rfl hs.below (fun e=>Reg.Keeps.refl e _)
     ·obtain⟨v1,hv1,rfl⟩:∃ v,a.tmps[44]? = some v/\v=.slice (some ⟨gb,0,none⟩) gx.length gk:=hg' _ (Reg.at_fact 1 rfl) (by kernel_rfl) (by first | (simp[Reg.okTil];done) | kernel_rfl)
      have u1:=Reg.eval_tmp hv1
      obtain⟨v2,hv2,rfl⟩:∃ v,a.tmps[45]? = some v/\v=.int .i64 (k:Int):=hg' _ (Reg.at_fact 2 rfl) (by kernel_rfl) (by first | (simp[Reg.okTil];done) | kernel_rfl)
      have u2:=Reg.eval_tmp hv2;exact Reg.step_val rfl rfl rfl (v:=.pointer (some ⟨gb,k * 3,none⟩)) (ix_rp u1 u2 hlt) rfl hs.below (fun e=>Reg.Keeps.refl e _)
     ·obtain⟨v1,hv1,rfl⟩:∃ v,a.tmps[46]? = some v/\v=.pointer (some ⟨gb,k * 3,none⟩):=hg' _ (Reg.at_fact 3 rfl) (by kernel_rfl) (by first | (simp[Reg.okTil];done) | kernel_rfl)
      have u1:=Reg.eval_tmp hv1;exact Reg.step_val rfl rfl rfl (v:=.agg #[.slice ca s1.counts.length cc,.slice ea s1.evs.length ec,.bool s1.blocked]) (Reg.run_load u1 (load_rp ((hs.below.cell (p:=⟨gb,k * 3,none⟩) hgb2).trans HX0.out) ((hs.below.cell (p:=⟨gb,k * 3+1,none⟩) hgb2).trans HX1.out) ((hs.below.cell (p:=⟨gb,k * 3+2,none⟩) hgb2).trans HX2.out))) rfl hs.below (fun e=>Reg.Keeps.refl e _)
     ·obtain⟨v1,hv1,rfl⟩:∃ v,a.tmps[47]? = some v/\v=.agg #[.slice ca s1.counts.length cc,.slice ea s1.evs.length ec,.bool s1.blocked]:=hg' _ (Reg.at_fact 4 rfl) (by kernel_rfl) (by first | (simp[Reg.okTil];done) | kernel_rfl)
      have u1:=Reg.eval_tmp hv1;refine Reg.step_call (f:=20) (args:=#[.agg #[.slice ca s1.counts.length cc,.slice ea s1.evs.length ec,.bool s1.blocked]]) rfl rfl rfl (by go_simp) hs.below ((HPA.out w1 hs.below).mono ?_);rintro en w2' ⟨rfl,hb⟩;exact⟨_,rfl,rfl,hb⟩
     ·exact Reg.step_val rfl rfl rfl (v:=.pointer (some ⟨w.heap.size+1,4,none⟩)) (w':=w1) (Ord.run_fld t3 (by go_simp)) rfl hs.below (fun e=>Reg.Keeps.refl e _)
     ·obtain⟨v1,hv1,rfl⟩:∃ v,a.tmps[49]? = some v/\v=.pointer (some ⟨w.heap.size+1,4,none⟩):=hg' _ (Reg.at_fact 6 rfl) (by kernel_rfl) (by first | (simp[Reg.okTil];done) | kernel_rfl)
      have u1:=Reg.eval_tmp hv1;exact Reg.step_val rfl rfl rfl (v:=.slice (some ⟨hb',0,none⟩) gy.length hk) (Reg.run_load u1 (load_rds ((CeH ((hs.below.block _ (heap_lt HYR.out)).trans HYR.out) 4).trans rfl))) rfl hs.below (fun e=>Reg.Keeps.refl e _)
     ·exact Reg.step_val rfl rfl rfl (Reg.run_move t5) rfl hs.below (fun e=>Reg.Keeps.refl e _)
     ·obtain⟨v1,hv1,rfl⟩:∃ v,a.tmps[50]? = some v/\v=.slice (some ⟨hb',0,none⟩) gy.length hk:=hg' _ (Reg.at_fact 7 rfl) (by kernel_rfl) (by first | (simp[Reg.okTil];done) | kernel_rfl)
      have u1:=Reg.eval_tmp hv1
      obtain⟨v2,hv2,rfl⟩:∃ v,a.tmps[51]? = some v/\v=.int .i64 (k:Int):=hg' _ (Reg.at_fact 8 rfl) (by kernel_rfl) (by first | (simp[Reg.okTil];done) | kernel_rfl)
      have u2:=Reg.eval_tmp hv2;exact Reg.step_val rfl rfl rfl (v:=.pointer (some ⟨hb',k * 3,none⟩)) (ix_rd u1 u2 hly) rfl hs.below (fun e=>Reg.Keeps.refl e _)
     ·obtain⟨v1,hv1,rfl⟩:∃ v,a.tmps[52]? = some v/\v=.pointer (some ⟨hb',k * 3,none⟩):=hg' _ (Reg.at_fact 9 rfl) (by kernel_rfl) (by first | (simp[Reg.okTil];done) | kernel_rfl)
      have u1:=Reg.eval_tmp hv1;exact Reg.step_val rfl rfl rfl (v:=.agg #[.slice ca' s1.counts.length cc',.slice ea' s1.evs.length ec',.bool s1.blocked]) (Reg.run_load u1 (load_rd ((hs.below.cell (p:=⟨hb',k * 3,none⟩) hhb2).trans HY0.out) ((hs.below.cell (p:=⟨hb',k * 3+1,none⟩) hhb2).trans HY1.out) ((hs.below.cell (p:=⟨hb',k * 3+2,none⟩) hhb2).trans HY2.out))) rfl hs.below (fun e=>Reg.Keeps.refl e _)
     ·obtain⟨v1,hv1,rfl⟩:∃ v,a.tmps[53]? = some v/\v=.agg #[.slice ca' s1.counts.length cc',.slice ea' s1.evs.length ec',.bool s1.blocked]:=hg' _ (Reg.at_fact 10 rfl) (by kernel_rfl) (by first | (simp[Reg.okTil];done) | kernel_rfl)
      have u1:=Reg.eval_tmp hv1;refine Reg.step_call (f:=42) (args:=#[.agg #[.slice ca' s1.counts.length cc',.slice ea' s1.evs.length ec',.bool s1.blocked]]) rfl rfl rfl (by go_simp) hs.below ((HPB.out w1 hs.below).mono ?_);rintro en w2' ⟨rfl,hb⟩;exact⟨_,rfl,rfl,hb⟩
     ·obtain⟨v1,hv1,rfl⟩:∃ v,a.tmps[48]? = some v/\v=.string (bytR s1):=hg' _ (Reg.at_fact 5 rfl) (by kernel_rfl) (by first | (simp[Reg.okTil];done) | kernel_rfl)
      have u1:=Reg.eval_tmp hv1
      obtain⟨v2,hv2,rfl⟩:∃ v,a.tmps[54]? = some v/\v=.string (bytR s1):=hg' _ (Reg.at_fact 11 rfl) (by kernel_rfl) (by first | (simp[Reg.okTil];done) | kernel_rfl)
      have u2:=Reg.eval_tmp hv2;exact Reg.step_val rfl rfl rfl (v:=.bool false) (by go_simp) rfl hs.below (fun e=>Reg.Keeps.refl e _)
    ·intro vals w1 hF hfx hb1;have e55:vals 55=.bool false:=hF _ (Reg.at_fact 12 rfl) (show(13+0:Nat)<=99 by decide)
     simp only[List.map_cons,List.map_nil,e55]
     generalize vals 43=q43;generalize vals 44=q44;generalize vals 45=q45;generalize vals 46=q46;generalize vals 47=q47;generalize vals 48=q48;generalize vals 49=q49;generalize vals 50=q50;generalize vals 51=q51;generalize vals 52=q52;generalize vals 53=q53;generalize vals 54=q54;have HB2:=Hyd (HB.out.trans (hb1.mono HB.out.size));clear hF hfx e55 hb1 HB;(iterate 14 unfold Reg.puts)
     go_simp
     go_wp2_with fail;go_roundw
     case rel=>exact⟨k+1,by omega,by go_num,HB2.out⟩
     case measure=>simp[intOf];omega
   ·obtain rfl:k=gx.length:=by omega
    go_wp2_with fail;go_ret;exact⟨rfl,HBA.out.trans (HB.out.mono HBA.out.size)⟩
end Go.Proofs.YtcojnojdgigmdaaGreatDoor.WR
