/- The walk of oxbowlaw21.RunSteps: going through the events, asking for each all runs, the eldest first, and then Start, gives all matches. -/
import Derived.Test.YtcojnojdgigmdaaGreatDoorB01
import Derived.Test.YtcojnojdgigmdaaGreatDoorLawZ
import Derived.Test.YtcojnojdgigmdaaGreatDoorWRB
import Derived.Test.YtcojnojdgigmdaaGreatDoorWRP
import Derived.Test.YtcojnojdgigmdaaGreatDoorPGo
set_option maxHeartbeats 12800000
set_option maxRecDepth 100000
namespace Go.Proofs.YtcojnojdgigmdaaGreatDoor.WSt
open Go Go.RowKit Go.Sort Go.Proofs.YtcojnojdgigmdaaGreatDoor Go.Proofs.YtcojnojdgigmdaaGreatDoor.PL Go.Proofs.YtcojnojdgigmdaaGreatDoor.PR Go.Proofs.YtcojnojdgigmdaaGreatDoor.Mem Go.Proofs.YtcojnojdgigmdaaGreatDoor.WS Go.Proofs.YtcojnojdgigmdaaGreatDoor.WL Go.Proofs.YtcojnojdgigmdaaGreatDoor.WR

structure Inn (W : World) (X0 : Nat) (pb : Array Value) (eb : Nat) (e : Ev) (vs : Value) (ls : List Ev) (vr : Value) (gs : List RG) (vn vy vo : Value) (ns ys : List RG) (os : List (List UInt8)) (wr : World) : Prop where
 bel : Below W.heap.size W wr
 pl : wr.heap[X0]? = some (.cells pb 25 (0, 0))
 ev : wr.heap[eb]? = some (.cells #[.int .i64 e.id, .int .i64 e.time, .int .u8 e.kind, .int .i64 e.val] 44 (0, 0))
 sl : wr.ownsRow W.heap.size 44 4 vs ls.length (cellsOf encE ls)
 r : RowR W.heap.size wr vr gs
 n : RowR W.heap.size wr vn ns
 y : RowR W.heap.size wr vy ys
 o : wr.ownsRow W.heap.size 9 1 vo os.length (os.map strV)
 rn : Reg.Apart vr vn
 ry : Reg.Apart vr vy
 ny : Reg.Apart vn vy
section
variable {W : World} {X0 : Nat} {pb : Array Value} {eb : Nat} {e : Ev} {vs : Value} {ls : List Ev} {vr : Value} {gs : List RG} {vn vy vo : Value} {ns ys : List RG} {os : List (List UInt8)} {wr w' : World}
theorem Inn.below (h : Inn W X0 pb eb e vs ls vr gs vn vy vo ns ys os wr) (hb : Below wr.heap.size wr w') : Inn W X0 pb eb e vs ls vr gs vn vy vo ns ys os w' :=
 ⟨h.bel.trans (hb.mono h.bel.size), (hb.block _ (heap_lt h.pl)).trans h.pl, (hb.block _ (heap_lt h.ev)).trans h.ev, own_below h.sl hb, h.r.below hb, h.n.below hb, h.y.below hb, own_below h.o hb, h.rn, h.ry, h.ny⟩
theorem Inn.pushN (h : Inn W X0 pb eb e vs ls vr gs vn vy vo ns ys os wr) {v' : Value} {g : RG} (hg : OwnR W.heap.size wr g) (ho : w'.ownsRow W.heap.size 47 3 v' (ns.length + 1) (cellsOf encR ns ++ encR g)) (hgr : wr.grownBy w' vn.ownBlock) (hv : v'.ownBlock = vn.ownBlock \/ v'.ownBlock = some wr.heap.size) :
  Inn W X0 pb eb e vs ls vr gs v' vy vo (ns ++ [g]) ys os w' := by
 have kk := fun (t : TypeId) (ht : t ≠ 47) => Reg.Keeps.grown ht h.n.own hgr
 have ki := kk 3 (by decide); have ke := kk 44 (by decide); refine ⟨below_grown h.bel h.n.own hgr h.bel.size (Nat.le_refl _), (kk 25 (by decide)).2 _ _ h.pl, ke.2 _ _ h.ev, ke.1 _ _ _ _ _ h.sl, ⟨Reg.own_apart h.r.own h.rn hgr, fun x hx => (h.r.els x hx).keeps ki ke⟩, ⟨?_, ?_⟩, ⟨Reg.own_apart h.y.own h.ny.symm hgr, fun x hx => (h.y.els x hx).keeps ki ke⟩, (kk 9 (by decide)).1 _ _ _ _ _ h.o, h.rn.grown h.r.own hv, h.ry, (Reg.Apart.grown h.ny.symm h.y.own hv).symm⟩
 ·rw [List.length_append, List.length_singleton, cellsOf_snoc]; exact ho
 ·intro x hx
  rcases List.mem_append.1 hx with hx | hx
  ·exact (h.n.els x hx).keeps ki ke
  ·rw [List.mem_singleton.1 hx]; exact hg.keeps ki ke
end
def AllS (W : World) (p : RPlan) (X0 : Nat) (pb : Array Value) (vs : Value) (ls : List Ev) (vr vo i : Value) (wr : World) : Prop :=
 ∃ k, k <= ls.length /\ i = .int .i64 (k : Nat) /\ Below W.heap.size W wr /\ wr.heap[X0]? = some (.cells pb 25 (0, 0)) /\ wr.ownsRow W.heap.size 44 4 vs ls.length (cellsOf encE ls) /\
  ∃ gs, gs.map (·.2.2) = (runA p (ls.take k)).1 /\ RowR W.heap.size wr vr gs /\ wr.ownsRow W.heap.size 9 1 vo (runA p (ls.take k)).2.length ((runA p (ls.take k)).2.map strV)
def InnS (W : World) (p : RPlan) (X0 : Nat) (pb : Array Value) (eb : Nat) (e : Ev) (vs : Value) (ls : List Ev) (vr : Value) (gs : List RG) (os0 : List (List UInt8)) (vo vn vy i : Value) (wr : World) : Prop :=
 ∃ j, j <= gs.length /\ i = .int .i64 (j : Nat) /\ ∃ ns ys, ns.map (·.2.2) = (innR p e ((gs.map (·.2.2)).take j)).1 /\ ys.map (·.2.2) = (innR p e ((gs.map (·.2.2)).take j)).2.1 /\
  Inn W X0 pb eb e vs ls vr gs vn vy vo ns ys (os0 ++ (innR p e ((gs.map (·.2.2)).take j)).2.2) wr
def CutN (W : World) (X0 : Nat) (pb : Array Value) (eb : Nat) (e : Ev) (vs : Value) (ls : List Ev) (vr : Value) (gs : List RG) (vy vo : Value) (ys : List RG) (os : List (List UInt8)) (X b : Nat) (x : RRes) (c0 e0 gv dv : Value) (xs : List RG) (old : List RRun) (s9 : Value) (wx : World) : Prop :=
 ∃ ns, ns.map (·.2.2) = old ++ (if x.keep = true then [x.run] else []) /\ Inn W X0 pb eb e vs ls vr gs s9 vy vo ns ys os wx /\ XAt X b x c0 e0 gv dv xs wx
structure Rst (W : World) (X0 : Nat) (pb : Array Value) (eb : Nat) (e : Ev) (vs : Value) (ls : List Ev) (X : Nat) (kp : Bool) (c0 e0 : Value) (bl : Bool) (gv dv : Value) (gs ns ys xs : List RG) (w : World) : Prop where
 pl : w.heap[X0]? = some (.cells pb 25 (0, 0))
 ev : w.heap[eb]? = some (.cells #[.int .i64 e.id, .int .i64 e.time, .int .u8 e.kind, .int .i64 e.val] 44 (0, 0))
 sl : w.ownsRow W.heap.size 44 4 vs ls.length (cellsOf encE ls)
 blk : w.heap[X]? = some (.cells #[.bool kp, c0, e0, .bool bl, gv, dv] 49 (0, 0))
 els : ∀ g, (g ∈ gs \/ g ∈ ns \/ g ∈ ys \/ g ∈ xs) -> OwnR W.heap.size w g
theorem Rst.keeps {W : World} {X0 : Nat} {pb : Array Value} {eb : Nat} {e : Ev} {vs : Value} {ls : List Ev} {X : Nat} {kp : Bool} {c0 e0 : Value} {bl : Bool} {gv dv : Value} {gs ns ys xs : List RG} {w w' : World} (h : Rst W X0 pb eb e vs ls X kp c0 e0 bl gv dv gs ns ys xs w)
  (h1 : Reg.Keeps 49 w w') (h2 : Reg.Keeps 25 w w') (h3 : Reg.Keeps 44 w w') (h4 : Reg.Keeps 3 w w') : Rst W X0 pb eb e vs ls X kp c0 e0 bl gv dv gs ns ys xs w' :=
 ⟨h2.2 _ _ h.pl, h3.2 _ _ h.ev, h3.1 _ _ _ _ _ h.sl, h1.2 _ _ h.blk, fun g hg => (h.els g hg).keeps h4 h3⟩
theorem Rst.inn {W : World} {X0 : Nat} {pb : Array Value} {eb : Nat} {e : Ev} {vs : Value} {ls : List Ev} {X : Nat} {kp : Bool} {c0 e0 : Value} {bl : Bool} {gv dv : Value} {gs ns ys xs : List RG} {w w0 : World} {vr vn vy vo : Value} {os ds : List (List UInt8)} (h : Rst W X0 pb eb e vs ls X kp c0 e0 bl gv dv gs ns ys xs w)
  (hb : Below W.heap.size W w) (hr : w.ownsRow W.heap.size 47 3 vr gs.length (cellsOf encR gs)) (hn : w.ownsRow W.heap.size 47 3 vn ns.length (cellsOf encR ns)) (hy : w.ownsRow W.heap.size 47 3 vy (ys.length + xs.length) (cellsOf encR ys ++ cellsOf encR xs))
  (ho : w.ownsRow W.heap.size 9 1 vo (os.length + ds.length) (os.map strV ++ ds.map strV)) (rn : Reg.Apart vr vn) (ry : Reg.Apart vr vy) (ny : Reg.Apart vn vy) (_ : W.heap.size <= w0.heap.size) : Inn W X0 pb eb e vs ls vr gs vn vy vo ns (ys ++ xs) (os ++ ds) w := by
 refine ⟨hb, h.pl, h.ev, h.sl, ⟨hr, fun g hg => h.els g (.inl hg)⟩, ⟨hn, fun g hg => h.els g (.inr (.inl hg))⟩, ⟨?_, fun g hg => ?_⟩, ?_, rn, ry, ny⟩
 ·rw [List.length_append, show cellsOf encR (ys ++ xs) = cellsOf encR ys ++ cellsOf encR xs by simp [cellsOf]]; exact hy
 ·rcases List.mem_append.1 hg with hg | hg
  ·exact h.els g (.inr (.inr (.inl hg)))
  ·exact h.els g (.inr (.inr (.inr hg)))
 ·rw [List.length_append, List.map_append]; exact ho
structure RunOk (r : RRun) : Prop where
 len : r.counts.length <= 8
 four : ∀ n ∈ r.counts, n <= 4
 sum : r.counts.sum = r.evs.length
 few : r.evs.length <= 19
 good : ∀ y ∈ r.evs, PE.good y
 pos : 0 < r.evs.length
def putS (r : RRun) : ByteArray := ⟨(PE.putRun (r.counts.map Int.ofNat) r.evs r.blocked).toArray⟩
theorem cnt_ints (l : List Nat) : (l.map Int.ofNat).map (Value.int .i64) = cntV l := by
 unfold cntV; rw [List.map_map]; rfl
theorem put_run (r : RRun) (h : RunOk r) (v : Value) (w : World) (hr : RunAt w w.heap.size v r) : Calls Tryz.prog 20 #[v] w fun e w' => e = .returned (.string (putS r)) /\ Below w.heap.size w w' := by
 obtain ⟨cv, ev, rfl, h1, h2⟩ := hr
 have hi : Ints w w.heap.size cv (r.counts.map Int.ofNat) := by
  unfold Ints; rw [cnt_ints, List.length_map]; exact h1
 have h8 := h.len; have h19 := h.few
 refine WB2.rput_any _ r.evs r.blocked cv ev w hi h2 (by rw [List.length_map]; omega) (by omega) ?_ fun x hx => PE.good_fits (h.good x hx)
 intro x hx; obtain ⟨n, hn, rfl⟩ := List.mem_map.1 hx; have := h.four n hn; unfold WE.fit64
 show -9223372036854775808 <= ((n : Nat) : Int) /\ ((n : Nat) : Int) <= 9223372036854775807
 omega
theorem get_run (r : RRun) (h : RunOk r) (w : World) : Calls Tryz.prog 19 #[.string (putS r)] w fun e w' => ∃ b1 k1 b2 k2, e = .returned (.tuple #[.agg #[.slice b1 r.counts.length k1, .slice b2 r.evs.length k2, .bool r.blocked], .int .i64 0]) /\
  RunAt w' w'.heap.size (.agg #[.slice b1 r.counts.length k1, .slice b2 r.evs.length k2, .bool r.blocked]) r /\ Below w.heap.size w w' := by
 have hc : ∀ x ∈ r.counts.map Int.ofNat, 0 <= x /\ x <= 4 := by
  intro x hx; obtain ⟨n, hn, rfl⟩ := List.mem_map.1 hx; have := h.four n hn
  show 0 <= ((n : Nat) : Int) /\ ((n : Nat) : Int) <= 4
  omega
 have hg := PE.getRun_put (r.counts.map Int.ofNat) r.evs r.blocked (by rw [List.length_map]; exact h.len) hc (by rw [sum_cnt, h.sum]) h.good
 have hsz : (putS r).size <= 100000000 := by
  have h1 := PE.putL_len (((r.counts.map Int.ofNat).length : Int) :: r.counts.map Int.ofNat ++ [if r.blocked then 1 else 0]); have h2 := PE.putEs_len r.evs; have h8 := h.len; have h19 := h.few
  have e : (putS r).size = (PE.putRun (r.counts.map Int.ofNat) r.evs r.blocked).length := by simp [putS, ByteArray.size]
  rw [e]; unfold PE.putRun; rw [List.length_append]
  simp only [List.length_append, List.length_cons, List.length_map, List.length_nil] at h1 ⊢
  omega
 refine (WB2.rget_any (putS r) w hsz).mono ?_; have e1 : (putS r).data.toList = PE.putRun (r.counts.map Int.ofNat) r.evs r.blocked := List.toList_toArray; rw [e1, hg]; rintro e w' ⟨cv, ev, rfl, hi, he, hb⟩; obtain ⟨b1, k1, rfl⟩ := hi.shape; obtain ⟨b2, k2, rfl⟩ := he.shape
 have hi' : Sl w' w'.heap.size 1 (.slice b1 r.counts.length k1) r.counts.length (cntV r.counts) := by
  have hi2 : Sl w' w'.heap.size 1 (.slice b1 (r.counts.map Int.ofNat).length k1) (r.counts.map Int.ofNat).length ((r.counts.map Int.ofNat).map (Value.int .i64)) := hi; rw [cnt_ints, List.length_map] at hi2; exact hi2
 refine ⟨b1, k1, b2, k2, ?_, ⟨_, _, rfl, hi', he⟩, hb⟩
 show Ending.returned (.tuple #[.agg #[.slice b1 (r.counts.map Int.ofNat).length k1, .slice b2 r.evs.length k2, .bool r.blocked], .int .i64 0]) = _
 rw [List.length_map]
theorem RunOk.wf {r : RRun} (h : RunOk r) : WfR r /\ FitId r.evs /\ ∀ y ∈ r.evs, Sm y.time := by
 have h8 := h.len; have h19 := h.few; refine ⟨⟨h.sum, by omega, by omega⟩, fun y hy => ?_, fun y hy => ?_⟩
 ·have := PE.good_fits (h.good y hy); unfold Ev.fits at this; omega
 ·have := h.good y hy; unfold PE.good at this; unfold Sm; omega
theorem RunAt.bel {w w' : World} {v : Value} {r : RRun} (h : RunAt w w.heap.size v r) (hb : Below w.heap.size w w') : RunAt w' w'.heap.size v r := by
 obtain ⟨cv, ev, rfl, h1, h2⟩ := h; exact ⟨cv, ev, rfl, (Sl.below h1 hb).more hb.size, (Sl.below h2 hb).more hb.size⟩
def CallTo (f : FuncId) (args : Array Value) (w : World) (v : Value) : Prop := ∀ w', Below w.heap.size w w' -> Calls Tryz.prog f args w' fun e w2 => e = .returned v /\ Below w'.heap.size w' w2
theorem CallTo.on {f : FuncId} {args : Array Value} {w w' : World} {v : Value} (h : CallTo f args w v) (hb : Below w.heap.size w w') : CallTo f args w' v := fun w2 h2 => h w2 (hb.trans (h2.mono hb.size))
theorem put_to {r : RRun} (h : RunOk r) {v : Value} {w : World} (hr : RunAt w w.heap.size v r) : CallTo 20 #[v] w (.string (putS r)) := fun w' hb => put_run r h v w' (RunAt.bel hr hb)
theorem txt_to {r : RRun} (h : RunOk r) {v : Value} {w : World} (hr : RunAt w w.heap.size v r) (ht : Tab w) (hg : 0 < w.heap.size) : CallTo 21 #[v] w (.string ⟨(textR r).toArray⟩) :=
 fun w' hb => text_any v r _ w' (RunAt.bel hr hb) (Nat.le_refl _) h.wf.1 h.wf.2.1 (Tab.of_eq ht (hb.block _ hg)) (Nat.lt_of_lt_of_le hg hb.size)
theorem unt_to {r : RRun} (h : RunOk r) {v : Value} {w : World} (hr : RunAt w w.heap.size v r) (p : RPlan) (ad : Option Addr) (n c : Nat) (hp : Sm p.within) : CallTo 22 #[.agg #[.slice ad n c, .int .i64 p.within], v] w (.int .i64 (untilR p r)) :=
 fun w' hb => (until_any p ad n c v r _ w' (RunAt.bel hr hb) (Nat.le_refl _) hp h.wf.2.2).mono fun _ _ ⟨h1, h2⟩ => ⟨h1, h2.below⟩
theorem fld_plan1 (w : World) (g : Nat) : (Instr.fieldAt 25 (.pointer (some ⟨g, 0, none⟩)) 1).run Tryz.prog w = .ok (.pointer (some ⟨g, 1, none⟩)) w := by go_simp
theorem fld_ev1 (w : World) (g : Nat) : (Instr.fieldAt 44 (.pointer (some ⟨g, 0, none⟩)) 1).run Tryz.prog w = .ok (.pointer (some ⟨g, 1, none⟩)) w := by go_simp
theorem evsK_good (l : List Ev) (k : Nat) (hk : k <= 1000) : ∀ e ∈ evsK l k, PE.good e := by
 intro e he; obtain ⟨i, hi, rfl⟩ := List.mem_map.1 he; have hik := List.mem_range.1 hi; unfold PE.good evE; have h1 := nearI_in (l.getD i ⟨0, 0, 0, 0⟩).time 60 (by omega); have h2 := nearI_in (l.getD i ⟨0, 0, 0, 0⟩).val 9 (by omega)
 simp only []
 omega
theorem steps_law (s : ByteArray) (v : Value) (l : List Ev) (W : World) (hv : Evs W W.heap.size v l) (hf : ∀ x ∈ l, x.fits) (ht : Tab W) (hg : 0 < W.heap.size) :
  Calls Tryz.prog 5 #[.string s, v] W fun e w' => e = .returned (.bool true) /\ Below W.heap.size W w' := by
 obtain ⟨A, c, rfl⟩ := Sl.shape hv
 have mixed : Tryz.prog.follows .mixedOrders = true := by kernel_rfl
 have HP := Hyd (planned_any s W); have HV := Hyd hv; have HF := Hyd hf; have HT := Hyd ht; clear hv hf ht
 go_enter Tryz.func5, Tryz.ntmps5
 go_wp2_with fail; refine HP.out.mono ?_; rintro e w1 ⟨hb1, pa, qa, n0, pc, qn, qc, wi, wj, ok, rfl, hok⟩
 obtain ⟨w2, hw2⟩ : ∃ w2, w2 = (w1.alloc (.cells #[.slice pa n0 pc, .int .i64 wi] 25)).alloc (.cells #[.slice qa qn qc, .int .i64 wj] 28) := ⟨_, rfl⟩
 have hb12 : Below w1.heap.size w1 w2 := by rw [hw2]; exact ((Below.refl _ _).alloc (Nat.le_refl _) _).alloc (by simp) _
 have hbW2 : Below W.heap.size W w2 := hb1.trans (hb12.mono hb1.size); have HB2 := Hyd (show w2.heap[w1.heap.size]? = some (.cells #[.slice pa n0 pc, .int .i64 wi] 25 (0, 0)) by rw [hw2]; exact heap_alloc (heap_new rfl))
 have hg2 : 0 < w2.heap.size := by have := hbW2.size; omega
 have HK2 := Hyd (wakes_any w2 (Tab.of_eq HT.out (hbW2.block _ hg)) hg2); have HBW2 := Hyd hbW2; have HB12 := Hyd hb12; have HW2 := Hyd hw2; have HOKK := Hyd hok
 obtain ⟨Q, hQ⟩ : ∃ Q, w1.heap.size = Q := ⟨_, rfl⟩
 rw [hQ] at HB2; have HQQ := Hyd hQ; clear hb1 hb12 hbW2 hw2 hok hQ
 go_upto_region 2 with (fail)
 rw [<- HW2.out, HQQ.out]; go_wp2_with fail; refine HK2.out.mono ?_; rintro e w3 ⟨rfl, hb3⟩; have HBW3 := Hyd (HBW2.out.trans (hb3.mono HBW2.out.size)); have HB23 := Hyd hb3
 have hg3 : 0 < w3.heap.size := by have := hb3.size; omega
 have HK3 := Hyd (wakes_any w3 (Tab.of_eq HT.out (HBW3.out.block _ hg)) hg3); clear hb3
 cases ok with
 | false =>
  go_wp2_with fail; refine HK3.out.mono ?_; rintro e w4 ⟨rfl, hb4⟩; have HB4 := Hyd (HBW3.out.trans (hb4.mono HBW3.out.size)); clear hb4; go_wp2_with fail; go_ret; exact ⟨rfl, HB4.out⟩
 | true =>
  obtain ⟨ss, cs, hokp, hwj, hn0, hpl, hdo⟩ := HOKK.out rfl; have HOK := Hyd hokp; have HPL3 := Hyd (show PlnAt w3 w1.heap.size (.slice pa n0 pc) (planR ss cs wi).steps from PlnAt.keep (PlnAt.keep hpl fun a ha => HB12.out.cell ha) fun a ha => HB23.out.cell (Nat.lt_of_lt_of_le ha HB12.out.size)); have HB3Q := Hyd ((HB23.out.block _ (heap_lt HB2.out)).trans HB2.out); have hz13 : w1.heap.size <= w3.heap.size := Nat.le_trans HB12.out.size HB23.out.size; have HEV := Hyd (events_any (.slice A l.length c) l w3 ((Sl.below HV.out HBW3.out).more HBW3.out.size) HF.out)
  obtain ⟨p, hp⟩ : ∃ p, planR ss cs wi = p := ⟨_, rfl⟩
  have hpw : wi = p.within := by rw [<- hp]; rfl
  have HOKP := Hyd (show OkP p by rw [<- hp]; exact (planR_ok hokp).1)
  have hp8 : p.steps.length <= 8 := by rw [<- hp]; exact (planR_ok hokp).2
  have HH4 := Hyd (show H4 p by rw [<- hp]; exact planR_h4 hokp); rw [hp] at hn0 HPL3; subst hn0 hpw; clear hokp hpl hdo hwj hp HOKK HOK; go_wp2_with fail; refine HEV.out.mono ?_; rintro e w4 ⟨va, vb, rfl, hoa, hob, hb4⟩
  obtain ⟨n, hn⟩ : ∃ n, min l.length 8 = n := ⟨_, rfl⟩
  rw [hn] at hoa hob
  have hn8 : n <= 8 := by omega
  have hnl : n <= l.length := by omega
  obtain ⟨aa, ac, rfl⟩ := (Sl.of_own hoa).shape; obtain ⟨ba, bc, rfl⟩ := (Sl.of_own hob).shape
  obtain ⟨E, hE⟩ : ∃ E, evsK l n = E := ⟨_, rfl⟩
  have hEl : E.length = n := by rw [<- hE, evsK_len]
  have HEO := Hyd (show ∀ e ∈ E, OkEv e by rw [<- hE]; exact evsK_ok l n (by omega)); have HEG := Hyd (show ∀ e ∈ E, PE.good e by rw [<- hE]; exact evsK_good l n (by omega)); have HED := Hyd (show DistE E by rw [<- hE]; exact evsK_dist l n); rw [hE, <- hEl] at hoa hob; rw [<- hEl] at hn8 ⊢; have HOA := Hyd hoa; have HB4 := Hyd (HBW3.out.trans (hb4.mono HBW3.out.size)); have HPL4 := Hyd (PlnAt.keep HPL3.out fun a ha => hb4.cell (Nat.lt_of_lt_of_le ha hz13)); have HB4Q := Hyd ((hb4.block _ (heap_lt HB3Q.out)).trans HB3Q.out); have hz14 : w1.heap.size <= w4.heap.size := Nat.le_trans hz13 hb4.size
  have hg4 : 0 < w4.heap.size := by have := hb4.size; omega
  have HT4 := Hyd (show Tab w4 from Tab.of_eq HT.out (HB4.out.block _ hg)); have HSO := Hyd (sort_any (.slice aa E.length ac) E w4 w4.heap.size (Sl.of_own hoa) (Lit.of_own hoa) (by omega)); clear hb4 hoa hob hE hEl hn hnl; go_wp2_with fail; refine HSO.out.mono ?_; rintro en w5 ⟨v42, ls, rfl, hperm, hsort, hown, hbel⟩; have hln : ls.length = E.length := hperm.length_eq; rw [<- hln] at hown
  obtain ⟨sa, sc, rfl⟩ : ∃ a c, v42 = .slice a ls.length c := (Sl.of_own hown).shape
  have hlen : ls.length <= 19 := by omega
  have HE2 := Hyd (show ∀ e ∈ ls, OkEv e from fun e he => HEO.out e (hperm.mem_iff.1 he)); have HG2 := Hyd (show ∀ e ∈ ls, PE.good e from fun e he => HEG.out e (hperm.mem_iff.1 he)); have HPERM := Hyd hperm; have HSORT := Hyd hsort
  have HS0 := Hyd (show AllS w4 p Q #[.slice pa p.steps.length pc, .int .i64 p.within] (.slice sa ls.length sc) ls (.slice none 0 0) (.slice none 0 0) (.int .i64 0) w5 from
   ⟨0, Nat.zero_le _, rfl, hbel, (hbel.block _ (heap_lt HB4Q.out)).trans HB4Q.out, hown, [], rfl, RowR.empty _ _, World.ownsRow_nil _ _ _ _⟩)
  clear hperm hsort hown hbel hln; go_wp2_with fail
  go_loopw [10, 11, 44] (fun vr vo i wr => AllS w4 p Q #[.slice pa p.steps.length pc, .int .i64 p.within] (.slice sa ls.length sc) ls vr vo i wr) (fun _ _ i _ => ls.length - (intOf i).toNat)
  case atStart => exact HS0.out
  case round =>
   obtain ⟨k, hk, rfl, hb, hpb, hsl, gs, hgs, hrow, hout⟩ := hrel
   by_cases hlt : k < ls.length
   ·have hki : (k : Int) < (ls.length : Int) := by omega
    have hk0 : (0 : Int) <= (k : Int) := by omega
    obtain ⟨sb, sc', hs', c0, c1, c2, c3⟩ := evs_at hsl rfl hlt
    obtain ⟨rfl, rfl⟩ : sa = some ⟨sb, 0, none⟩ /\ sc = sc' := by simpa using hs'
    have HEK := Hyd (HE2.out _ (List.getElem_mem hlt)); have HTK := Hyd (List.take_succ_eq_append_getElem hlt)
    obtain ⟨e, he⟩ : ∃ e, ls[k] = e := ⟨_, rfl⟩
    rw [he] at c0 c1 c2 c3 HEK HTK
    obtain ⟨wo, rfl⟩ : ∃ wo : World, wo = wr := ⟨_, rfl⟩
    obtain ⟨ra, rc, rfl⟩ := (Sl.of_own hrow.own).shape; obtain ⟨oa, oc, rfl⟩ := (Sl.of_own hout).shape
    have HIN := Hyd (show InnS w4 p Q #[.slice pa p.steps.length pc, .int .i64 p.within] wo.heap.size e (.slice (some ⟨sb, 0, none⟩) ls.length sc) ls (.slice ra gs.length rc) gs (runA p (ls.take k)).2 (.slice oa (runA p (ls.take k)).2.length oc) (.slice none 0 0) (.slice none 0 0) (.int .i64 0) (wo.alloc (.cells #[.int .i64 e.id, .int .i64 e.time, .int .u8 e.kind, .int .i64 e.val] 44)) from
     ⟨0, Nat.zero_le _, rfl, [], [], rfl, rfl, by
      have hb2 : Below wo.heap.size wo (wo.alloc (.cells #[.int .i64 e.id, .int .i64 e.time, .int .u8 e.kind, .int .i64 e.val] 44)) := (Below.refl _ _).alloc (Nat.le_refl _) _; refine ⟨hb.trans (hb2.mono hb.size), heap_alloc hpb, heap_new rfl, own_below hsl hb2, hrow.below hb2, RowR.empty _ _, RowR.empty _ _, ?_, Reg.Apart.nil' _, Reg.Apart.nil' _, Reg.Apart.nil _⟩
      have h2 : (runA p (ls.take k)).2 ++ (innR p e ((gs.map (·.2.2)).take 0)).2.2 = (runA p (ls.take k)).2 := by
       rw [List.take_zero, innR_nil]; simp
      rw [h2]
      exact own_below hout hb2⟩)
    have HGS := Hyd hgs; have HRK := Hyd (runA_ok p OkEv (ls.take k) fun e he => HE2.out e (List.mem_of_mem_take he))
    have hgl : gs.length <= 274877906944 := by
     have h1 := HRK.out.2.1; rw [<- hgs, List.length_map] at h1
     have h2 : (ls.take k).length <= 19 := by rw [List.length_take]; omega
     have h3 : 4 ^ (ls.take k).length <= 4 ^ 19 := Nat.pow_le_pow_right (by omega) h2
     have h4 : 4 ^ 19 = 274877906944 := by decide
     omega
    have hol : (runA p (ls.take k)).2.length <= 274877906944 := by
     have h1 := HRK.out.2.2
     have h2 : (ls.take k).length <= 19 := by rw [List.length_take]; omega
     have h3 : 4 ^ (ls.take k).length <= 4 ^ 19 := Nat.pow_le_pow_right (by omega) h2
     have h4 : 4 ^ 19 = 274877906944 := by decide
     omega
    obtain ⟨os0, hos0⟩ : ∃ os0, (runA p (ls.take k)).2 = os0 := ⟨_, rfl⟩
    rw [hos0] at HIN hol ⊢; have HOS := Hyd hos0; have hWo := hb.size; clear hb hpb hsl hgs hrow hout hs' he hos0; go_wp2_with fail
    go_loopw [11, 14, 15, 50] (fun vo vn vy i wr => InnS w4 p Q #[.slice pa p.steps.length pc, .int .i64 p.within] wo.heap.size e (.slice (some ⟨sb, 0, none⟩) ls.length sc) ls (.slice ra gs.length rc) gs os0 vo vn vy i wr) (fun _ _ _ i _ => gs.length - (intOf i).toNat)
    case atStart => exact HIN.out
    case round =>
     obtain ⟨j, hj, rfl, ns, ys, hns, hys, hinn⟩ := hrel
     obtain ⟨os, hos⟩ : ∃ os, os0 ++ (innR p e ((gs.map (·.2.2)).take j)).2.2 = os := ⟨_, rfl⟩
     rw [hos] at hinn; have HOSJ := Hyd hos; clear hos; obtain ⟨na, nc, rfl⟩ := (Sl.of_own hinn.n.own).shape; obtain ⟨ya, yc, rfl⟩ := (Sl.of_own hinn.y.own).shape; obtain ⟨oa, oc, rfl⟩ := (Sl.of_own hinn.o).shape
     by_cases hjl : j < gs.length
     ·have hji : (j : Int) < (gs.length : Int) := by omega
      have hj0 : (0 : Int) <= (j : Int) := (by omega); obtain ⟨rb, rc', hr', _, d0, d1, d2⟩ := hinn.r.at_ hjl
      obtain ⟨rfl, rfl⟩ : ra = some ⟨rb, 0, none⟩ /\ rc = rc' := by simpa using hr'
      have HOG := Hyd (hinn.r.els _ (List.getElem_mem hjl))
      have HTJ := Hyd (show (gs.map (·.2.2)).take (j + 1) = (gs.map (·.2.2)).take j ++ [gs[j].2.2] by
       rw [List.take_succ_eq_append_getElem (by simpa using hjl), List.getElem_map])
      have HGD := Hyd (show GoodR p OkEv k gs[j].2.2 by
       have h1 := HRK.out.1 gs[j].2.2 (by rw [<- HGS.out]; exact List.mem_map_of_mem (List.getElem_mem hjl))
       exact h1.more (by rw [List.length_take]; omega))
      obtain ⟨⟨cv, ev', r⟩, hgj⟩ : ∃ g, gs[j] = g := ⟨_, rfl⟩
      rw [hgj] at d0 d1 d2 HOG HTJ HGD
      simp only at d0 d1 d2 HTJ HGD
      obtain ⟨hog1, hog2⟩ : wr.ownsRow w4.heap.size 3 1 cv r.counts.length (cntV r.counts) /\ wr.ownsRow w4.heap.size 44 4 ev' r.evs.length (cellsOf encE r.evs) := HOG.out; obtain ⟨ca, cc, rfl⟩ := (Sl.of_own hog1).shape; obtain ⟨va, vc, rfl⟩ := (Sl.of_own hog2).shape; clear hog1 hog2; have HINN := Hyd hinn; have HNS := Hyd hns; have HYS := Hyd hys
      obtain ⟨wo2, rfl⟩ : ∃ wo : World, wo = wr := ⟨_, rfl⟩
      obtain ⟨wb0, hwb⟩ : ∃ wb0, wb0 = wo2.alloc (.cells #[.slice ca r.counts.length cc, .slice va r.evs.length vc, .bool r.blocked] 47) := ⟨_, rfl⟩
      have hbb : Below wo2.heap.size wo2 wb0 := by rw [hwb]; exact (Below.refl _ _).alloc (Nat.le_refl _) _
      have HIB0 := Hyd (hinn.below hbb); have HXR0 := Hyd (show wb0.heap[wo2.heap.size]? = some (.cells #[.slice ca r.counts.length cc, .slice va r.evs.length vc, .bool r.blocked] 47 (0, 0)) by rw [hwb]; exact heap_new rfl); have HWB0 := Hyd hwb; have HBB0 := Hyd hbb; have hnb := hinn.bel.size
      have HRS := Hyd (show WfR r /\ FitId r.evs /\ SmE r.evs /\ (∀ y ∈ r.evs, Sm y.time) /\ r.evs.length < 1000000 /\ r.counts.length < 1000000 from
       ⟨⟨HGD.out.sum, by have := HGD.out.few; omega, by have := HGD.out.le; omega⟩, fun y hy => (HGD.out.evs y hy).2.2, fun y hy => (HGD.out.evs y hy).1, fun y hy => (HGD.out.evs y hy).2.1, by have := HGD.out.few; omega, by have := HGD.out.le; omega⟩)
      have hszb0 := hbb.size; have HRG := Hyd (runA_ok p PE.good (ls.take k) fun e he => HG2.out e (List.mem_of_mem_take he)); have HRGO := Hyd (runA_go HH4.out (ls.take k))
      have hmem : r ∈ (runA p (ls.take k)).1 := by
       rw [<- HGS.out]; have := List.mem_map_of_mem (f := fun g : RG => g.2.2) (List.getElem_mem hjl); rw [hgj] at this; exact this
      have HOKR := Hyd (show RunOk r from ⟨by have := HGD.out.le; omega, (HRGO.out r hmem).1, HGD.out.sum, by have := HGD.out.few; omega, (HRG.out.1 r hmem).evs, (HRGO.out r hmem).2⟩); have hpos := HOKR.out.pos
      have hgcd : gs[j].2.1 = .slice va r.evs.length vc := by rw [hgj]
      obtain ⟨vb, vc', hv', _, ht1, _, _⟩ := evs_at (show wo2.ownsRow w4.heap.size 44 4 (.slice va r.evs.length vc) r.evs.length (cellsOf encE r.evs) from HOG.out.2) rfl (k := 0) hpos
      obtain ⟨rfl, rfl⟩ : va = some ⟨vb, 0, none⟩ /\ vc = vc' := by simpa using hv'
      simp only [Nat.zero_mul, Nat.zero_add] at ht1
      obtain ⟨tm0, htm0⟩ : ∃ t, r.evs[0].time = t := ⟨_, rfl⟩
      rw [htm0] at ht1; have HUH := Hyd (show untilR p r = tm0 + p.within by rw [until_head hpos, htm0])
      have htm : Sm tm0 := by rw [<- htm0]; exact HOKR.out.wf.2.2 _ (List.getElem_mem _)
      have hpw := HOKP.out.win; unfold Sm at htm hpw; have HTM0 := Hyd ((hbb.cell (World.block_lt_of_cell? _ _ ht1)).trans ht1); have HRA := Hyd (show RunAt wb0 wb0.heap.size (.agg #[.slice ca r.counts.length cc, .slice (some ⟨vb, 0, none⟩) r.evs.length vc, .bool r.blocked]) r from ⟨_, _, rfl, Sl.of_own (own_below HOG.out.1 hbb), Sl.of_own (own_below HOG.out.2 hbb)⟩); have HPUT := Hyd (put_to HOKR.out HRA.out); have HTX := Hyd (show Tab wb0 from Tab.of_eq HT4.out (HIB0.out.bel.block _ hg4))
      have hgb0 : 0 < wb0.heap.size := by have := HIB0.out.bel.size; omega
      have HTXT := Hyd (txt_to HOKR.out HRA.out HTX.out hgb0); have HUNT := Hyd (unt_to HOKR.out HRA.out p pa p.steps.length pc HOKP.out.win)
      obtain ⟨Y, hY⟩ : ∃ Y, wo2.heap.size = Y := ⟨_, rfl⟩
      rw [hY] at HXR0; have HY := Hyd hY; have r0 : wb0.cell? ⟨Y, 0, none⟩ = some (.slice ca r.counts.length cc) := (Lib.cell_of_heap HXR0.out 0).trans rfl; have r1 : wb0.cell? ⟨Y, 1, none⟩ = some (.slice (some ⟨vb, 0, none⟩) r.evs.length vc) := (Lib.cell_of_heap HXR0.out 1).trans rfl; have r2 : wb0.cell? ⟨Y, 2, none⟩ = some (.bool r.blocked) := (Lib.cell_of_heap HXR0.out 2).trans rfl; clear hinn hns hys hr' hwb hbb hgj hgcd hv' ht1 htm0 hmem hY
      go_upto_region 14 with (fail)
      rw [<- HWB0.out, HY.out]; clear d0 d1 d2; go_wp2_with fail; refine (HPUT.out wb0 (Below.refl _ _)).mono ?_; rintro en w6 ⟨rfl, hb6⟩; go_wp2_with fail; refine (get_run r HOKR.out w6).mono ?_; rintro en w7 ⟨b1, bk1, b2, bk2, rfl, hrb, hb7⟩
      obtain ⟨w8, hw8⟩ : ∃ w8, w8 = w7.alloc (.cells #[.slice b1 r.counts.length bk1, .slice b2 r.evs.length bk2, .bool r.blocked] 47) := ⟨_, rfl⟩
      have hb8 : Below w7.heap.size w7 w8 := by rw [hw8]; exact (Below.refl _ _).alloc (Nat.le_refl _) _
      have HW8 := Hyd hw8
      obtain ⟨Bx, hBx⟩ : ∃ B, w7.heap.size = B := ⟨_, rfl⟩
      have HBX := Hyd hBx; have HBB8 := Hyd (show w8.heap[Bx]? = some (.cells #[.slice b1 r.counts.length bk1, .slice b2 r.evs.length bk2, .bool r.blocked] 47 (0, 0)) by rw [hw8, <- hBx]; exact heap_new rfl); have HRB8 := Hyd (RunAt.bel hrb hb8); have HB08 := Hyd (hb6.trans ((hb7.trans (hb8.mono hb7.size)).mono hb6.size)); have HRR8 := Hyd ((HB08.out.block _ (heap_lt HXR0.out)).trans HXR0.out); have HPP8 := Hyd ((HB08.out.block _ (heap_lt HIB0.out.pl)).trans HIB0.out.pl); have HTM8 := Hyd ((HB08.out.cell (World.block_lt_of_cell? _ _ HTM0.out)).trans HTM0.out); have HPUT8 := Hyd (HPUT.out.on HB08.out); have HTXT8 := Hyd (HTXT.out.on HB08.out); have HUNT8 := Hyd (HUNT.out.on HB08.out); have HPUTB := Hyd (put_to HOKR.out HRB8.out); have HTXTB := Hyd (txt_to HOKR.out HRB8.out (Tab.of_eq HTX.out (HB08.out.block _ hgb0)) (Nat.lt_of_lt_of_le hgb0 HB08.out.size))
      clear r0 r1 r2 hb6 hb7 hb8 hw8 hBx hrb
      go_upto_region 15 with (fail)
      rw [<- HW8.out, HBX.out]; go_wp2_with fail
      refine Reg.stand_order (W := w8) (h := 36) (t := 0)
       (⟨0, 60, [], 99, [], none, fun v _ => v = .int .i64 0⟩ ::
        ⟨1, 61, [], 99, [], none, fun v _ => v = .bool false⟩ ::
        ⟨2, 62, [], 99, [], none, fun v _ => v = .bool false⟩ ::
        ⟨3, 63, [], 99, [], none, fun v _ => v = .agg #[.slice b1 r.counts.length bk1, .slice b2 r.evs.length bk2, .bool r.blocked]⟩ ::
        ⟨4, 64, [], 99, [], none, fun v _ => v = .string (putS r)⟩ ::
        ⟨5, 65, [], 99, [], none, fun v _ => v = .agg #[.slice ca r.counts.length cc, .slice (some ⟨vb, 0, none⟩) r.evs.length vc, .bool r.blocked]⟩ ::
        ⟨6, 66, [], 99, [], none, fun v _ => v = .string (putS r)⟩ ::
        ⟨7, 67, [], 99, [], none, fun v _ => v = .bool false⟩ ::
        ⟨8, 68, [], 99, [], none, fun v _ => v = .bool false⟩ ::
        ⟨9, 69, [], 99, [], none, fun v _ => v = .bool false⟩ ::
        ⟨10, 70, [], 99, [], none, fun v _ => v = .agg #[.slice b1 r.counts.length bk1, .slice b2 r.evs.length bk2, .bool r.blocked]⟩ ::
        ⟨11, 71, [], 99, [], none, fun v _ => v = .string ⟨(textR r).toArray⟩⟩ ::
        ⟨12, 72, [], 99, [], none, fun v _ => v = .agg #[.slice ca r.counts.length cc, .slice (some ⟨vb, 0, none⟩) r.evs.length vc, .bool r.blocked]⟩ ::
        ⟨13, 73, [], 99, [], none, fun v _ => v = .string ⟨(textR r).toArray⟩⟩ ::
        ⟨14, 74, [], 99, [], none, fun v _ => v = .bool false⟩ ::
        ⟨15, 75, [], 99, [], none, fun v _ => v = .bool false⟩ ::
        ⟨16, 76, [], 99, [], none, fun v _ => v = .bool false⟩ ::
        ⟨17, 77, [], 99, [], none, fun v _ => v = .pointer (some ⟨Y, 1, none⟩)⟩ ::
        ⟨18, 78, [], 99, [], none, fun v _ => v = .slice (some ⟨vb, 0, none⟩) r.evs.length vc⟩ ::
        ⟨19, 79, [], 99, [], none, fun v _ => v = .int .i64 (r.evs.length : Nat)⟩ ::
        ⟨20, 80, [], 99, [], none, fun v _ => v = .bool false⟩ ::
        ⟨21, 81, [], 99, [], none, fun v _ => v = .bool false⟩ ::
        ⟨22, 82, [], 99, [], none, fun v _ => v = .bool false⟩ ::
        ⟨23, 83, [], 99, [], none, fun v _ => v = .agg #[.slice pa p.steps.length pc, .int .i64 p.within]⟩ ::
        ⟨24, 84, [], 99, [], none, fun v _ => v = .agg #[.slice ca r.counts.length cc, .slice (some ⟨vb, 0, none⟩) r.evs.length vc, .bool r.blocked]⟩ ::
        ⟨25, 85, [], 99, [], none, fun v _ => v = .int .i64 (untilR p r)⟩ ::
        ⟨26, 86, [], 99, [], none, fun v _ => v = .pointer (some ⟨Y, 1, none⟩)⟩ ::
        ⟨27, 87, [], 99, [], none, fun v _ => v = .slice (some ⟨vb, 0, none⟩) r.evs.length vc⟩ ::
        ⟨28, 88, [], 99, [], none, fun v _ => v = .pointer (some ⟨vb, 0, none⟩)⟩ ::
        ⟨29, 89, [], 99, [], none, fun v _ => v = .pointer (some ⟨vb, 1, none⟩)⟩ ::
        ⟨30, 90, [], 99, [], none, fun v _ => v = .int .i64 tm0⟩ ::
        ⟨31, 91, [], 99, [], none, fun v _ => v = .pointer (some ⟨Q, 1, none⟩)⟩ ::
        ⟨32, 92, [], 99, [], none, fun v _ => v = .int .i64 p.within⟩ ::
        ⟨33, 93, [], 99, [], none, fun v _ => v = .int .i64 (tm0 + p.within)⟩ ::
        ⟨34, 94, [], 99, [], none, fun v _ => v = .bool false⟩ ::
        ⟨35, 95, [], 99, [], none, fun v _ => v = .bool false⟩ :: [])
       []
       (by kernel_rfl) rfl (by kernel_rfl) (by kernel_rfl) (by kernel_rfl) (show (0 :: 1 :: 2 :: 3 :: 4 :: 5 :: 6 :: 7 :: 8 :: 9 :: 10 :: 11 :: 12 :: 13 :: 14 :: 15 :: 16 :: 17 :: 18 :: 19 :: 20 :: 21 :: 22 :: 23 :: 24 :: 25 :: 26 :: 27 :: 28 :: 29 :: 30 :: 31 :: 32 :: 33 :: 34 :: 35 :: []).Nodup by decide) (show ∀ i, i < 36 -> i ∈ (0 :: 1 :: 2 :: 3 :: 4 :: 5 :: 6 :: 7 :: 8 :: 9 :: 10 :: 11 :: 12 :: 13 :: 14 :: 15 :: 16 :: 17 :: 18 :: 19 :: 20 :: 21 :: 22 :: 23 :: 24 :: 25 :: 26 :: 27 :: 28 :: 29 :: 30 :: 31 :: 32 :: 33 :: 34 :: 35 :: []) by decide) ?_ (show (60 :: 61 :: 62 :: 63 :: 64 :: 65 :: 66 :: 67 :: 68 :: 69 :: 70 :: 71 :: 72 :: 73 :: 74 :: 75 :: 76 :: 77 :: 78 :: 79 :: 80 :: 81 :: 82 :: 83 :: 84 :: 85 :: 86 :: 87 :: 88 :: 89 :: 90 :: 91 :: 92 :: 93 :: 94 :: 95 :: []).Nodup by decide) (show ∀ s ∈ (60 :: 61 :: 62 :: 63 :: 64 :: 65 :: 66 :: 67 :: 68 :: 69 :: 70 :: 71 :: 72 :: 73 :: 74 :: 75 :: 76 :: 77 :: 78 :: 79 :: 80 :: 81 :: 82 :: 83 :: 84 :: 85 :: 86 :: 87 :: 88 :: 89 :: 90 :: 91 :: 92 :: 93 :: 94 :: 95 :: []), s < 187 by decide) (by kernel_rfl) ?_ ?_ (Below.refl _ _) ?_ ?_ ?_
      ·intro f hf
       simp only [List.mem_cons, List.not_mem_nil, or_false] at hf
       rcases hf with rfl | rfl | rfl | rfl | rfl | rfl | rfl | rfl | rfl | rfl | rfl | rfl | rfl | rfl | rfl | rfl | rfl | rfl | rfl | rfl | rfl | rfl | rfl | rfl | rfl | rfl | rfl | rfl | rfl | rfl | rfl | rfl | rfl | rfl | rfl | rfl <;> simp
      ·intro f hf v w1' w2 hk hF
       simp only [List.mem_cons, List.not_mem_nil, or_false] at hf
       rcases hf with rfl | rfl | rfl | rfl | rfl | rfl | rfl | rfl | rfl | rfl | rfl | rfl | rfl | rfl | rfl | rfl | rfl | rfl | rfl | rfl | rfl | rfl | rfl | rfl | rfl | rfl | rfl | rfl | rfl | rfl | rfl | rfl | rfl | rfl | rfl | rfl
       ·exact hF
       ·exact hF
       ·exact hF
       ·exact hF
       ·exact hF
       ·exact hF
       ·exact hF
       ·exact hF
       ·exact hF
       ·exact hF
       ·exact hF
       ·exact hF
       ·exact hF
       ·exact hF
       ·exact hF
       ·exact hF
       ·exact hF
       ·exact hF
       ·exact hF
       ·exact hF
       ·exact hF
       ·exact hF
       ·exact hF
       ·exact hF
       ·exact hF
       ·exact hF
       ·exact hF
       ·exact hF
       ·exact hF
       ·exact hF
       ·exact hF
       ·exact hF
       ·exact hF
       ·exact hF
       ·exact hF
       ·exact hF
      ·intro f hf; cases hf
      ·intro f hf; cases hf
      ·intro f hf a w1' hs hg' hst; have t5 : a.eval (.tmp 5) = .pointer (some ⟨Q, 0, none⟩) := Reg.eval_tmp ((hs.out 5 (show 5 ∉ (60 :: 61 :: 62 :: 63 :: 64 :: 65 :: 66 :: 67 :: 68 :: 69 :: 70 :: 71 :: 72 :: 73 :: 74 :: 75 :: 76 :: 77 :: 78 :: 79 :: 80 :: 81 :: 82 :: 83 :: 84 :: 85 :: 86 :: 87 :: 88 :: 89 :: 90 :: 91 :: 92 :: 93 :: 94 :: 95 :: []) by decide)).trans rfl); have t17 : a.eval (.tmp 17) = .pointer (some ⟨Y, 0, none⟩) := Reg.eval_tmp ((hs.out 17 (show 17 ∉ (60 :: 61 :: 62 :: 63 :: 64 :: 65 :: 66 :: 67 :: 68 :: 69 :: 70 :: 71 :: 72 :: 73 :: 74 :: 75 :: 76 :: 77 :: 78 :: 79 :: 80 :: 81 :: 82 :: 83 :: 84 :: 85 :: 86 :: 87 :: 88 :: 89 :: 90 :: 91 :: 92 :: 93 :: 94 :: 95 :: []) by decide)).trans rfl); have t18 : a.eval (.tmp 18) = .pointer (some ⟨Bx, 0, none⟩) := Reg.eval_tmp ((hs.out 18 (show 18 ∉ (60 :: 61 :: 62 :: 63 :: 64 :: 65 :: 66 :: 67 :: 68 :: 69 :: 70 :: 71 :: 72 :: 73 :: 74 :: 75 :: 76 :: 77 :: 78 :: 79 :: 80 :: 81 :: 82 :: 83 :: 84 :: 85 :: 86 :: 87 :: 88 :: 89 :: 90 :: 91 :: 92 :: 93 :: 94 :: 95 :: []) by decide)).trans rfl)
       have t19 : a.eval (.tmp 19) = .int .i64 0 := Reg.eval_tmp ((hs.out 19 (show 19 ∉ (60 :: 61 :: 62 :: 63 :: 64 :: 65 :: 66 :: 67 :: 68 :: 69 :: 70 :: 71 :: 72 :: 73 :: 74 :: 75 :: 76 :: 77 :: 78 :: 79 :: 80 :: 81 :: 82 :: 83 :: 84 :: 85 :: 86 :: 87 :: 88 :: 89 :: 90 :: 91 :: 92 :: 93 :: 94 :: 95 :: []) by decide)).trans rfl)
       simp only [List.mem_cons, List.not_mem_nil, or_false] at hf
       rcases hf with rfl | rfl | rfl | rfl | rfl | rfl | rfl | rfl | rfl | rfl | rfl | rfl | rfl | rfl | rfl | rfl | rfl | rfl | rfl | rfl | rfl | rfl | rfl | rfl | rfl | rfl | rfl | rfl | rfl | rfl | rfl | rfl | rfl | rfl | rfl | rfl
       ·exact Reg.step_val rfl rfl rfl (Reg.run_move t19) rfl hs.below (fun e => Reg.Keeps.refl e _)
       ·obtain ⟨v1, hv1, rfl⟩ : ∃ v, a.tmps[60]? = some v /\ v = .int .i64 0 := hg' _ (Reg.at_fact 0 rfl) (by kernel_rfl) (by first | (simp [Reg.okTil]; done) | kernel_rfl)
        have u1 := Reg.eval_tmp hv1; exact Reg.step_val rfl rfl rfl (v := .bool false) (by go_simp) rfl hs.below (fun e => Reg.Keeps.refl e _)
       ·obtain ⟨v1, hv1, rfl⟩ : ∃ v, a.tmps[61]? = some v /\ v = .bool false := hg' _ (Reg.at_fact 1 rfl) (by kernel_rfl) (by first | (simp [Reg.okTil]; done) | kernel_rfl)
        have u1 := Reg.eval_tmp hv1; exact Reg.step_val rfl rfl rfl (v := .bool false) (Reg.run_move u1) rfl hs.below (fun e => Reg.Keeps.refl e _)
       ·obtain ⟨vg, hvg, rfl⟩ : ∃ v, a.tmps[62]? = some v /\ v = .bool false := hg' _ (Reg.at_fact 2 rfl) (by kernel_rfl) (by first | (simp [Reg.okTil]; done) | kernel_rfl)
        have hx := (hs.below.block _ (heap_lt HBB8.out)).trans HBB8.out; exact Reg.step_val_on rfl rfl rfl rfl hvg rfl (Reg.run_load t18 (load_run hx)) rfl hs.below (fun e => Reg.Keeps.refl e _)
       ·obtain ⟨vg, hvg, rfl⟩ : ∃ v, a.tmps[62]? = some v /\ v = .bool false := hg' _ (Reg.at_fact 2 rfl) (by kernel_rfl) (by first | (simp [Reg.okTil]; done) | kernel_rfl)
        obtain ⟨v1, hv1, rfl⟩ : ∃ v, a.tmps[63]? = some v /\ v = .agg #[.slice b1 r.counts.length bk1, .slice b2 r.evs.length bk2, .bool r.blocked] := hg' _ (Reg.at_fact 3 rfl) (by kernel_rfl) (by first | (simp [Reg.okTil]; done) | kernel_rfl)
        have u1 := Reg.eval_tmp hv1; refine Reg.step_call_on (f := 20) (args := #[.agg #[.slice b1 r.counts.length bk1, .slice b2 r.evs.length bk2, .bool r.blocked]]) rfl rfl rfl rfl hvg rfl (by go_simp) hs.below ((HPUTB.out w1' hs.below).mono ?_); rintro en w2' ⟨rfl, hb⟩; exact ⟨_, rfl, rfl, hb⟩
       ·obtain ⟨vg, hvg, rfl⟩ : ∃ v, a.tmps[62]? = some v /\ v = .bool false := hg' _ (Reg.at_fact 2 rfl) (by kernel_rfl) (by first | (simp [Reg.okTil]; done) | kernel_rfl)
        have hx := (hs.below.block _ (heap_lt HRR8.out)).trans HRR8.out; exact Reg.step_val_on rfl rfl rfl rfl hvg rfl (Reg.run_load t17 (load_run hx)) rfl hs.below (fun e => Reg.Keeps.refl e _)
       ·obtain ⟨vg, hvg, rfl⟩ : ∃ v, a.tmps[62]? = some v /\ v = .bool false := hg' _ (Reg.at_fact 2 rfl) (by kernel_rfl) (by first | (simp [Reg.okTil]; done) | kernel_rfl)
        obtain ⟨v1, hv1, rfl⟩ : ∃ v, a.tmps[65]? = some v /\ v = .agg #[.slice ca r.counts.length cc, .slice (some ⟨vb, 0, none⟩) r.evs.length vc, .bool r.blocked] := hg' _ (Reg.at_fact 5 rfl) (by kernel_rfl) (by first | (simp [Reg.okTil]; done) | kernel_rfl)
        have u1 := Reg.eval_tmp hv1; refine Reg.step_call_on (f := 20) (args := #[.agg #[.slice ca r.counts.length cc, .slice (some ⟨vb, 0, none⟩) r.evs.length vc, .bool r.blocked]]) rfl rfl rfl rfl hvg rfl (by go_simp) hs.below ((HPUT8.out w1' hs.below).mono ?_); rintro en w2' ⟨rfl, hb⟩; exact ⟨_, rfl, rfl, hb⟩
       ·obtain ⟨vg, hvg, rfl⟩ : ∃ v, a.tmps[62]? = some v /\ v = .bool false := hg' _ (Reg.at_fact 2 rfl) (by kernel_rfl) (by first | (simp [Reg.okTil]; done) | kernel_rfl)
        obtain ⟨v1, hv1, rfl⟩ : ∃ v, a.tmps[64]? = some v /\ v = .string (putS r) := hg' _ (Reg.at_fact 4 rfl) (by kernel_rfl) (by first | (simp [Reg.okTil]; done) | kernel_rfl)
        have u1 := Reg.eval_tmp hv1
        obtain ⟨v2, hv2, rfl⟩ : ∃ v, a.tmps[66]? = some v /\ v = .string (putS r) := hg' _ (Reg.at_fact 6 rfl) (by kernel_rfl) (by first | (simp [Reg.okTil]; done) | kernel_rfl)
        have u2 := Reg.eval_tmp hv2; exact Reg.step_val_on rfl rfl rfl rfl hvg rfl (v := .bool false) (by go_simp) rfl hs.below (fun e => Reg.Keeps.refl e _)
       ·obtain ⟨v1, hv1, rfl⟩ : ∃ v, a.tmps[62]? = some v /\ v = .bool false := hg' _ (Reg.at_fact 2 rfl) (by kernel_rfl) (by first | (simp [Reg.okTil]; done) | kernel_rfl)
        have u1 := Reg.eval_tmp hv1
        obtain ⟨v2, hv2, rfl⟩ : ∃ v, a.tmps[67]? = some v /\ v = .bool false := hg' _ (Reg.at_fact 7 rfl) (by kernel_rfl) (by first | (simp [Reg.okTil]; done) | kernel_rfl)
        have u2 := Reg.eval_tmp hv2; exact Reg.step_val rfl rfl rfl (v := .bool false) (Reg.run_pick u1 (by simpa using u2)) rfl hs.below (fun e => Reg.Keeps.refl e _)
       ·obtain ⟨v1, hv1, rfl⟩ : ∃ v, a.tmps[68]? = some v /\ v = .bool false := hg' _ (Reg.at_fact 8 rfl) (by kernel_rfl) (by first | (simp [Reg.okTil]; done) | kernel_rfl)
        have u1 := Reg.eval_tmp hv1; exact Reg.step_val rfl rfl rfl (v := .bool false) (Reg.run_move u1) rfl hs.below (fun e => Reg.Keeps.refl e _)
       ·obtain ⟨vg, hvg, rfl⟩ : ∃ v, a.tmps[69]? = some v /\ v = .bool false := hg' _ (Reg.at_fact 9 rfl) (by kernel_rfl) (by first | (simp [Reg.okTil]; done) | kernel_rfl)
        have hx := (hs.below.block _ (heap_lt HBB8.out)).trans HBB8.out; exact Reg.step_val_on rfl rfl rfl rfl hvg rfl (Reg.run_load t18 (load_run hx)) rfl hs.below (fun e => Reg.Keeps.refl e _)
       ·obtain ⟨vg, hvg, rfl⟩ : ∃ v, a.tmps[69]? = some v /\ v = .bool false := hg' _ (Reg.at_fact 9 rfl) (by kernel_rfl) (by first | (simp [Reg.okTil]; done) | kernel_rfl)
        obtain ⟨v1, hv1, rfl⟩ : ∃ v, a.tmps[70]? = some v /\ v = .agg #[.slice b1 r.counts.length bk1, .slice b2 r.evs.length bk2, .bool r.blocked] := hg' _ (Reg.at_fact 10 rfl) (by kernel_rfl) (by first | (simp [Reg.okTil]; done) | kernel_rfl)
        have u1 := Reg.eval_tmp hv1; refine Reg.step_call_on (f := 21) (args := #[.agg #[.slice b1 r.counts.length bk1, .slice b2 r.evs.length bk2, .bool r.blocked]]) rfl rfl rfl rfl hvg rfl (by go_simp) hs.below ((HTXTB.out w1' hs.below).mono ?_); rintro en w2' ⟨rfl, hb⟩; exact ⟨_, rfl, rfl, hb⟩
       ·obtain ⟨vg, hvg, rfl⟩ : ∃ v, a.tmps[69]? = some v /\ v = .bool false := hg' _ (Reg.at_fact 9 rfl) (by kernel_rfl) (by first | (simp [Reg.okTil]; done) | kernel_rfl)
        have hx := (hs.below.block _ (heap_lt HRR8.out)).trans HRR8.out; exact Reg.step_val_on rfl rfl rfl rfl hvg rfl (Reg.run_load t17 (load_run hx)) rfl hs.below (fun e => Reg.Keeps.refl e _)
       ·obtain ⟨vg, hvg, rfl⟩ : ∃ v, a.tmps[69]? = some v /\ v = .bool false := hg' _ (Reg.at_fact 9 rfl) (by kernel_rfl) (by first | (simp [Reg.okTil]; done) | kernel_rfl)
        obtain ⟨v1, hv1, rfl⟩ : ∃ v, a.tmps[72]? = some v /\ v = .agg #[.slice ca r.counts.length cc, .slice (some ⟨vb, 0, none⟩) r.evs.length vc, .bool r.blocked] := hg' _ (Reg.at_fact 12 rfl) (by kernel_rfl) (by first | (simp [Reg.okTil]; done) | kernel_rfl)
        have u1 := Reg.eval_tmp hv1; refine Reg.step_call_on (f := 21) (args := #[.agg #[.slice ca r.counts.length cc, .slice (some ⟨vb, 0, none⟩) r.evs.length vc, .bool r.blocked]]) rfl rfl rfl rfl hvg rfl (by go_simp) hs.below ((HTXT8.out w1' hs.below).mono ?_); rintro en w2' ⟨rfl, hb⟩; exact ⟨_, rfl, rfl, hb⟩
       ·obtain ⟨vg, hvg, rfl⟩ : ∃ v, a.tmps[69]? = some v /\ v = .bool false := hg' _ (Reg.at_fact 9 rfl) (by kernel_rfl) (by first | (simp [Reg.okTil]; done) | kernel_rfl)
        obtain ⟨v1, hv1, rfl⟩ : ∃ v, a.tmps[71]? = some v /\ v = .string ⟨(textR r).toArray⟩ := hg' _ (Reg.at_fact 11 rfl) (by kernel_rfl) (by first | (simp [Reg.okTil]; done) | kernel_rfl)
        have u1 := Reg.eval_tmp hv1
        obtain ⟨v2, hv2, rfl⟩ : ∃ v, a.tmps[73]? = some v /\ v = .string ⟨(textR r).toArray⟩ := hg' _ (Reg.at_fact 13 rfl) (by kernel_rfl) (by first | (simp [Reg.okTil]; done) | kernel_rfl)
        have u2 := Reg.eval_tmp hv2; exact Reg.step_val_on rfl rfl rfl rfl hvg rfl (v := .bool false) (by go_simp) rfl hs.below (fun e => Reg.Keeps.refl e _)
       ·obtain ⟨v1, hv1, rfl⟩ : ∃ v, a.tmps[69]? = some v /\ v = .bool false := hg' _ (Reg.at_fact 9 rfl) (by kernel_rfl) (by first | (simp [Reg.okTil]; done) | kernel_rfl)
        have u1 := Reg.eval_tmp hv1
        obtain ⟨v2, hv2, rfl⟩ : ∃ v, a.tmps[74]? = some v /\ v = .bool false := hg' _ (Reg.at_fact 14 rfl) (by kernel_rfl) (by first | (simp [Reg.okTil]; done) | kernel_rfl)
        have u2 := Reg.eval_tmp hv2; exact Reg.step_val rfl rfl rfl (v := .bool false) (Reg.run_pick u1 (by simpa using u2)) rfl hs.below (fun e => Reg.Keeps.refl e _)
       ·obtain ⟨v1, hv1, rfl⟩ : ∃ v, a.tmps[75]? = some v /\ v = .bool false := hg' _ (Reg.at_fact 15 rfl) (by kernel_rfl) (by first | (simp [Reg.okTil]; done) | kernel_rfl)
        have u1 := Reg.eval_tmp hv1; exact Reg.step_val rfl rfl rfl (v := .bool false) (Reg.run_move u1) rfl hs.below (fun e => Reg.Keeps.refl e _)
       ·obtain ⟨vg, hvg, rfl⟩ : ∃ v, a.tmps[76]? = some v /\ v = .bool false := hg' _ (Reg.at_fact 16 rfl) (by kernel_rfl) (by first | (simp [Reg.okTil]; done) | kernel_rfl)
        exact Reg.step_val_on rfl rfl rfl rfl hvg rfl (Ord.run_fld t17 (fld_run1 w1' _)) rfl hs.below (fun e => Reg.Keeps.refl e _)
       ·obtain ⟨vg, hvg, rfl⟩ : ∃ v, a.tmps[76]? = some v /\ v = .bool false := hg' _ (Reg.at_fact 16 rfl) (by kernel_rfl) (by first | (simp [Reg.okTil]; done) | kernel_rfl)
        obtain ⟨v1, hv1, rfl⟩ : ∃ v, a.tmps[77]? = some v /\ v = .pointer (some ⟨Y, 1, none⟩) := hg' _ (Reg.at_fact 17 rfl) (by kernel_rfl) (by first | (simp [Reg.okTil]; done) | kernel_rfl)
        have u1 := Reg.eval_tmp hv1; exact Reg.step_val_on rfl rfl rfl rfl hvg rfl (v := .slice (some ⟨vb, 0, none⟩) r.evs.length vc) (Reg.run_load u1 (load_evs ((Lib.cell_of_heap ((hs.below.block _ (heap_lt HRR8.out)).trans HRR8.out) 1).trans rfl))) rfl hs.below (fun e => Reg.Keeps.refl e _)
       ·obtain ⟨vg, hvg, rfl⟩ : ∃ v, a.tmps[76]? = some v /\ v = .bool false := hg' _ (Reg.at_fact 16 rfl) (by kernel_rfl) (by first | (simp [Reg.okTil]; done) | kernel_rfl)
        obtain ⟨v1, hv1, rfl⟩ : ∃ v, a.tmps[78]? = some v /\ v = .slice (some ⟨vb, 0, none⟩) r.evs.length vc := hg' _ (Reg.at_fact 18 rfl) (by kernel_rfl) (by first | (simp [Reg.okTil]; done) | kernel_rfl)
        have u1 := Reg.eval_tmp hv1; exact Reg.step_val_on rfl rfl rfl rfl hvg rfl (v := .int .i64 (r.evs.length : Nat)) (by go_simp) rfl hs.below (fun e => Reg.Keeps.refl e _)
       ·obtain ⟨vg, hvg, rfl⟩ : ∃ v, a.tmps[76]? = some v /\ v = .bool false := hg' _ (Reg.at_fact 16 rfl) (by kernel_rfl) (by first | (simp [Reg.okTil]; done) | kernel_rfl)
        obtain ⟨v1, hv1, rfl⟩ : ∃ v, a.tmps[79]? = some v /\ v = .int .i64 (r.evs.length : Nat) := hg' _ (Reg.at_fact 19 rfl) (by kernel_rfl) (by first | (simp [Reg.okTil]; done) | kernel_rfl)
        have u1 := Reg.eval_tmp hv1; have hn0 : ((r.evs.length : Nat) : Int) ≠ 0 := (by omega)
        have hn1 : (((r.evs.length : Nat) : Int) == 0) = false := by rw [beq_eq_false_iff_ne]; exact hn0
        have hn2 : decide (((r.evs.length : Nat) : Int) = 0) = false := decide_eq_false hn0; have hn3 : r.evs.length ≠ 0 := (by omega); exact Reg.step_val_on rfl rfl rfl rfl hvg rfl (v := .bool false) (by go_simp) rfl hs.below (fun e => Reg.Keeps.refl e _)
       ·obtain ⟨v1, hv1, rfl⟩ : ∃ v, a.tmps[76]? = some v /\ v = .bool false := hg' _ (Reg.at_fact 16 rfl) (by kernel_rfl) (by first | (simp [Reg.okTil]; done) | kernel_rfl)
        have u1 := Reg.eval_tmp hv1
        obtain ⟨v2, hv2, rfl⟩ : ∃ v, a.tmps[80]? = some v /\ v = .bool false := hg' _ (Reg.at_fact 20 rfl) (by kernel_rfl) (by first | (simp [Reg.okTil]; done) | kernel_rfl)
        have u2 := Reg.eval_tmp hv2; exact Reg.step_val rfl rfl rfl (v := .bool false) (Reg.run_pick u1 (by simpa using u2)) rfl hs.below (fun e => Reg.Keeps.refl e _)
       ·obtain ⟨v1, hv1, rfl⟩ : ∃ v, a.tmps[81]? = some v /\ v = .bool false := hg' _ (Reg.at_fact 21 rfl) (by kernel_rfl) (by first | (simp [Reg.okTil]; done) | kernel_rfl)
        have u1 := Reg.eval_tmp hv1; exact Reg.step_val rfl rfl rfl (v := .bool false) (Reg.run_move u1) rfl hs.below (fun e => Reg.Keeps.refl e _)
       ·obtain ⟨vg, hvg, rfl⟩ : ∃ v, a.tmps[82]? = some v /\ v = .bool false := hg' _ (Reg.at_fact 22 rfl) (by kernel_rfl) (by first | (simp [Reg.okTil]; done) | kernel_rfl)
        have hx := (hs.below.block _ (heap_lt HPP8.out)).trans HPP8.out; exact Reg.step_val_on rfl rfl rfl rfl hvg rfl (Reg.run_load t5 (load_plan hx)) rfl hs.below (fun e => Reg.Keeps.refl e _)
       ·obtain ⟨vg, hvg, rfl⟩ : ∃ v, a.tmps[82]? = some v /\ v = .bool false := hg' _ (Reg.at_fact 22 rfl) (by kernel_rfl) (by first | (simp [Reg.okTil]; done) | kernel_rfl)
        have hx := (hs.below.block _ (heap_lt HRR8.out)).trans HRR8.out; exact Reg.step_val_on rfl rfl rfl rfl hvg rfl (Reg.run_load t17 (load_run hx)) rfl hs.below (fun e => Reg.Keeps.refl e _)
       ·obtain ⟨vg, hvg, rfl⟩ : ∃ v, a.tmps[82]? = some v /\ v = .bool false := hg' _ (Reg.at_fact 22 rfl) (by kernel_rfl) (by first | (simp [Reg.okTil]; done) | kernel_rfl)
        obtain ⟨v1, hv1, rfl⟩ : ∃ v, a.tmps[83]? = some v /\ v = .agg #[.slice pa p.steps.length pc, .int .i64 p.within] := hg' _ (Reg.at_fact 23 rfl) (by kernel_rfl) (by first | (simp [Reg.okTil]; done) | kernel_rfl)
        have u1 := Reg.eval_tmp hv1
        obtain ⟨v2, hv2, rfl⟩ : ∃ v, a.tmps[84]? = some v /\ v = .agg #[.slice ca r.counts.length cc, .slice (some ⟨vb, 0, none⟩) r.evs.length vc, .bool r.blocked] := hg' _ (Reg.at_fact 24 rfl) (by kernel_rfl) (by first | (simp [Reg.okTil]; done) | kernel_rfl)
        have u2 := Reg.eval_tmp hv2; refine Reg.step_call_on (f := 22) (args := #[.agg #[.slice pa p.steps.length pc, .int .i64 p.within], .agg #[.slice ca r.counts.length cc, .slice (some ⟨vb, 0, none⟩) r.evs.length vc, .bool r.blocked]]) rfl rfl rfl rfl hvg rfl (by go_simp) hs.below ((HUNT8.out w1' hs.below).mono ?_); rintro en w2' ⟨rfl, hb⟩; exact ⟨_, rfl, rfl, hb⟩
       ·obtain ⟨vg, hvg, rfl⟩ : ∃ v, a.tmps[82]? = some v /\ v = .bool false := hg' _ (Reg.at_fact 22 rfl) (by kernel_rfl) (by first | (simp [Reg.okTil]; done) | kernel_rfl)
        exact Reg.step_val_on rfl rfl rfl rfl hvg rfl (Ord.run_fld t17 (fld_run1 w1' _)) rfl hs.below (fun e => Reg.Keeps.refl e _)
       ·obtain ⟨vg, hvg, rfl⟩ : ∃ v, a.tmps[82]? = some v /\ v = .bool false := hg' _ (Reg.at_fact 22 rfl) (by kernel_rfl) (by first | (simp [Reg.okTil]; done) | kernel_rfl)
        obtain ⟨v1, hv1, rfl⟩ : ∃ v, a.tmps[86]? = some v /\ v = .pointer (some ⟨Y, 1, none⟩) := hg' _ (Reg.at_fact 26 rfl) (by kernel_rfl) (by first | (simp [Reg.okTil]; done) | kernel_rfl)
        have u1 := Reg.eval_tmp hv1; exact Reg.step_val_on rfl rfl rfl rfl hvg rfl (v := .slice (some ⟨vb, 0, none⟩) r.evs.length vc) (Reg.run_load u1 (load_evs ((Lib.cell_of_heap ((hs.below.block _ (heap_lt HRR8.out)).trans HRR8.out) 1).trans rfl))) rfl hs.below (fun e => Reg.Keeps.refl e _)
       ·obtain ⟨vg, hvg, rfl⟩ : ∃ v, a.tmps[82]? = some v /\ v = .bool false := hg' _ (Reg.at_fact 22 rfl) (by kernel_rfl) (by first | (simp [Reg.okTil]; done) | kernel_rfl)
        obtain ⟨v1, hv1, rfl⟩ : ∃ v, a.tmps[87]? = some v /\ v = .slice (some ⟨vb, 0, none⟩) r.evs.length vc := hg' _ (Reg.at_fact 27 rfl) (by kernel_rfl) (by first | (simp [Reg.okTil]; done) | kernel_rfl)
        have u1 := Reg.eval_tmp hv1; have h0 : (0 : Int) < ((r.evs.length : Nat) : Int) := (by omega); have h00 : (0 : Int) <= 0 := Int.le_refl _; exact Reg.step_val_on rfl rfl rfl rfl hvg rfl (v := .pointer (some ⟨vb, 0, none⟩)) (by go_simp) rfl hs.below (fun e => Reg.Keeps.refl e _)
       ·obtain ⟨vg, hvg, rfl⟩ : ∃ v, a.tmps[82]? = some v /\ v = .bool false := hg' _ (Reg.at_fact 22 rfl) (by kernel_rfl) (by first | (simp [Reg.okTil]; done) | kernel_rfl)
        obtain ⟨v1, hv1, rfl⟩ : ∃ v, a.tmps[88]? = some v /\ v = .pointer (some ⟨vb, 0, none⟩) := hg' _ (Reg.at_fact 28 rfl) (by kernel_rfl) (by first | (simp [Reg.okTil]; done) | kernel_rfl)
        have u1 := Reg.eval_tmp hv1; exact Reg.step_val_on rfl rfl rfl rfl hvg rfl (v := .pointer (some ⟨vb, 1, none⟩)) (by go_simp) rfl hs.below (fun e => Reg.Keeps.refl e _)
       ·obtain ⟨vg, hvg, rfl⟩ : ∃ v, a.tmps[82]? = some v /\ v = .bool false := hg' _ (Reg.at_fact 22 rfl) (by kernel_rfl) (by first | (simp [Reg.okTil]; done) | kernel_rfl)
        obtain ⟨v1, hv1, rfl⟩ : ∃ v, a.tmps[89]? = some v /\ v = .pointer (some ⟨vb, 1, none⟩) := hg' _ (Reg.at_fact 29 rfl) (by kernel_rfl) (by first | (simp [Reg.okTil]; done) | kernel_rfl)
        have u1 := Reg.eval_tmp hv1; exact Reg.step_val_on rfl rfl rfl rfl hvg rfl (v := .int .i64 tm0) (Reg.run_load u1 (load_i64 ((hs.below.cell (World.block_lt_of_cell? _ _ HTM8.out)).trans HTM8.out))) rfl hs.below (fun e => Reg.Keeps.refl e _)
       ·obtain ⟨vg, hvg, rfl⟩ : ∃ v, a.tmps[82]? = some v /\ v = .bool false := hg' _ (Reg.at_fact 22 rfl) (by kernel_rfl) (by first | (simp [Reg.okTil]; done) | kernel_rfl)
        exact Reg.step_val_on rfl rfl rfl rfl hvg rfl (Ord.run_fld t5 (fld_plan1 w1' _)) rfl hs.below (fun e => Reg.Keeps.refl e _)
       ·obtain ⟨vg, hvg, rfl⟩ : ∃ v, a.tmps[82]? = some v /\ v = .bool false := hg' _ (Reg.at_fact 22 rfl) (by kernel_rfl) (by first | (simp [Reg.okTil]; done) | kernel_rfl)
        obtain ⟨v1, hv1, rfl⟩ : ∃ v, a.tmps[91]? = some v /\ v = .pointer (some ⟨Q, 1, none⟩) := hg' _ (Reg.at_fact 31 rfl) (by kernel_rfl) (by first | (simp [Reg.okTil]; done) | kernel_rfl)
        have u1 := Reg.eval_tmp hv1; exact Reg.step_val_on rfl rfl rfl rfl hvg rfl (v := .int .i64 p.within) (Reg.run_load u1 (load_i64 ((Lib.cell_of_heap ((hs.below.block _ (heap_lt HPP8.out)).trans HPP8.out) 1).trans rfl))) rfl hs.below (fun e => Reg.Keeps.refl e _)
       ·obtain ⟨vg, hvg, rfl⟩ : ∃ v, a.tmps[82]? = some v /\ v = .bool false := hg' _ (Reg.at_fact 22 rfl) (by kernel_rfl) (by first | (simp [Reg.okTil]; done) | kernel_rfl)
        obtain ⟨v1, hv1, rfl⟩ : ∃ v, a.tmps[90]? = some v /\ v = .int .i64 tm0 := hg' _ (Reg.at_fact 30 rfl) (by kernel_rfl) (by first | (simp [Reg.okTil]; done) | kernel_rfl)
        have u1 := Reg.eval_tmp hv1
        obtain ⟨v2, hv2, rfl⟩ : ∃ v, a.tmps[92]? = some v /\ v = .int .i64 p.within := hg' _ (Reg.at_fact 32 rfl) (by kernel_rfl) (by first | (simp [Reg.okTil]; done) | kernel_rfl)
        have u2 := Reg.eval_tmp hv2; exact Reg.step_val_on rfl rfl rfl rfl hvg rfl (v := .int .i64 (tm0 + p.within)) (by go_simp; exact IntWalk.i64_in _ (by omega)) rfl hs.below (fun e => Reg.Keeps.refl e _)
       ·obtain ⟨vg, hvg, rfl⟩ : ∃ v, a.tmps[82]? = some v /\ v = .bool false := hg' _ (Reg.at_fact 22 rfl) (by kernel_rfl) (by first | (simp [Reg.okTil]; done) | kernel_rfl)
        obtain ⟨v1, hv1, rfl⟩ : ∃ v, a.tmps[85]? = some v /\ v = .int .i64 (untilR p r) := hg' _ (Reg.at_fact 25 rfl) (by kernel_rfl) (by first | (simp [Reg.okTil]; done) | kernel_rfl)
        have u1 := Reg.eval_tmp hv1
        obtain ⟨v2, hv2, rfl⟩ : ∃ v, a.tmps[93]? = some v /\ v = .int .i64 (tm0 + p.within) := hg' _ (Reg.at_fact 33 rfl) (by kernel_rfl) (by first | (simp [Reg.okTil]; done) | kernel_rfl)
        have u2 := Reg.eval_tmp hv2; exact Reg.step_val_on rfl rfl rfl rfl hvg rfl (v := .bool false) (by go_simp; exact HUH.out) rfl hs.below (fun e => Reg.Keeps.refl e _)
       ·obtain ⟨v1, hv1, rfl⟩ : ∃ v, a.tmps[82]? = some v /\ v = .bool false := hg' _ (Reg.at_fact 22 rfl) (by kernel_rfl) (by first | (simp [Reg.okTil]; done) | kernel_rfl)
        have u1 := Reg.eval_tmp hv1
        obtain ⟨v2, hv2, rfl⟩ : ∃ v, a.tmps[94]? = some v /\ v = .bool false := hg' _ (Reg.at_fact 34 rfl) (by kernel_rfl) (by first | (simp [Reg.okTil]; done) | kernel_rfl)
        have u2 := Reg.eval_tmp hv2; exact Reg.step_val rfl rfl rfl (v := .bool false) (Reg.run_pick u1 (by simpa using u2)) rfl hs.below (fun e => Reg.Keeps.refl e _)
      ·intro vals w1' hF hfx hb1; have e95 : vals 95 = .bool false := hF _ (Reg.at_fact 35 rfl) (show (36 + 0 : Nat) <= 99 by decide)
       simp only [List.map_cons, List.map_nil, e95]
       generalize vals 60 = q60; generalize vals 61 = q61; generalize vals 62 = q62; generalize vals 63 = q63; generalize vals 64 = q64; generalize vals 65 = q65; generalize vals 66 = q66; generalize vals 67 = q67; generalize vals 68 = q68; generalize vals 69 = q69; generalize vals 70 = q70; generalize vals 71 = q71; generalize vals 72 = q72; generalize vals 73 = q73; generalize vals 74 = q74; generalize vals 75 = q75; generalize vals 76 = q76; generalize vals 77 = q77; generalize vals 78 = q78; generalize vals 79 = q79; generalize vals 80 = q80; generalize vals 81 = q81; generalize vals 82 = q82; generalize vals 83 = q83; generalize vals 84 = q84; generalize vals 85 = q85; generalize vals 86 = q86; generalize vals 87 = q87; generalize vals 88 = q88; generalize vals 89 = q89; generalize vals 90 = q90; generalize vals 91 = q91; generalize vals 92 = q92; generalize vals 93 = q93; generalize vals 94 = q94
       have HB9 := Hyd hb1; clear hF hfx e95 hb1; unfold Reg.puts Reg.puts Reg.puts Reg.puts Reg.puts Reg.puts Reg.puts Reg.puts Reg.puts Reg.puts Reg.puts Reg.puts Reg.puts Reg.puts Reg.puts Reg.puts Reg.puts Reg.puts Reg.puts Reg.puts Reg.puts Reg.puts Reg.puts Reg.puts Reg.puts Reg.puts Reg.puts Reg.puts Reg.puts Reg.puts Reg.puts Reg.puts Reg.puts Reg.puts Reg.puts Reg.puts Reg.puts
       obtain ⟨w9, rfl⟩ : ∃ w : World, w = w1' := ⟨_, rfl⟩
       have HB09 := Hyd (HB08.out.trans (HB9.out.mono HB08.out.size)); have HRR9 := Hyd ((HB09.out.block _ (heap_lt HXR0.out)).trans HXR0.out); have r0 : w9.cell? ⟨Y, 0, none⟩ = some (.slice ca r.counts.length cc) := (Lib.cell_of_heap HRR9.out 0).trans rfl; have r1 : w9.cell? ⟨Y, 1, none⟩ = some (.slice (some ⟨vb, 0, none⟩) r.evs.length vc) := (Lib.cell_of_heap HRR9.out 1).trans rfl; have r2 : w9.cell? ⟨Y, 2, none⟩ = some (.bool r.blocked) := (Lib.cell_of_heap HRR9.out 2).trans rfl
       go_simp
       go_wp2_with fail; refine (HPUT.out w9 HB09.out).mono ?_; rintro en wb ⟨rfl, hbw⟩; have HB0B := Hyd (HB09.out.trans (hbw.mono HB09.out.size)); have HIB := Hyd (HIB0.out.below HB0B.out); have HRRB := Hyd ((HB0B.out.block _ (heap_lt HXR0.out)).trans HXR0.out); have hszb := HB0B.out.size
       have HAV := Hyd (adv_any p (.slice pa p.steps.length pc) (.slice ca r.counts.length cc) (.slice (some ⟨vb, 0, none⟩) r.evs.length vc) r e _ w4.heap.size wb HOKP.out (HPL4.out.keep fun a ha => HIB.out.bel.cell (Nat.lt_of_lt_of_le ha hz14)) (Nat.le_trans hz14 HIB.out.bel.size)
        (own_below (own_below HOG.out.1 HBB0.out) HB0B.out) (own_below (own_below HOG.out.2 HBB0.out) HB0B.out) HRS.out.1 HRS.out.2.1 HRS.out.2.2.1 HRS.out.2.2.2.1 HGD.out.pos HGD.out.le HRS.out.2.2.2.2.1 HRS.out.2.2.2.2.2 HEK.out.1 HEK.out.2.2 (Tab.of_eq HT4.out (HIB.out.bel.block _ hg4)) (by have := HIB.out.bel.size; omega))
       clear r0 r1 r2 hbw; have r0 : wb.cell? ⟨Y, 0, none⟩ = some (.slice ca r.counts.length cc) := (Lib.cell_of_heap HRRB.out 0).trans rfl; have r1 : wb.cell? ⟨Y, 1, none⟩ = some (.slice (some ⟨vb, 0, none⟩) r.evs.length vc) := (Lib.cell_of_heap HRRB.out 1).trans rfl; have r2 : wb.cell? ⟨Y, 2, none⟩ = some (.bool r.blocked) := (Lib.cell_of_heap HRRB.out 2).trans rfl; have p0 : wb.cell? ⟨Q, 0, none⟩ = some (.slice pa p.steps.length pc) := (Lib.cell_of_heap HIB.out.pl 0).trans rfl; have p1 : wb.cell? ⟨Q, 1, none⟩ = some (.int .i64 p.within) := (Lib.cell_of_heap HIB.out.pl 1).trans rfl; have e0 : wb.cell? ⟨wo.heap.size, 0, none⟩ = some (.int .i64 e.id) := (Lib.cell_of_heap HIB.out.ev 0).trans rfl; have e1 : wb.cell? ⟨wo.heap.size, 1, none⟩ = some (.int .i64 e.time) := (Lib.cell_of_heap HIB.out.ev 1).trans rfl; have e2 : wb.cell? ⟨wo.heap.size, 2, none⟩ = some (.int .u8 e.kind) := (Lib.cell_of_heap HIB.out.ev 2).trans rfl
       have e3 : wb.cell? ⟨wo.heap.size, 3, none⟩ = some (.int .i64 e.val) := (Lib.cell_of_heap HIB.out.ev 3).trans rfl; go_wp2_with fail; refine HAV.out.mono ?_; rintro en w2a ⟨xv, rfl, hres, hb2⟩; have HXI := Hyd (innR_snoc p e ((gs.map (·.2.2)).take j) r)
       obtain ⟨x, hx⟩ : ∃ x, advR p r e = x := ⟨_, rfl⟩
       have HX := Hyd hx; rw [hx] at hres; obtain ⟨c0, e0', gv, dv, xs, rfl, ho0, hxs, hgv, hxo, hdv⟩ := hres; obtain ⟨a1, k1, rfl⟩ := (Sl.of_own (show w2a.ownsRow wb.heap.size 3 1 c0 x.run.counts.length (cntV x.run.counts) from ho0.1)).shape; obtain ⟨a2, k2, rfl⟩ := (Sl.of_own (show w2a.ownsRow wb.heap.size 44 4 e0' x.run.evs.length (cellsOf encE x.run.evs) from ho0.2)).shape; obtain ⟨a3, k3, rfl⟩ := (Sl.of_own hgv).shape; obtain ⟨a4, k4, rfl⟩ := (Sl.of_own hdv).shape
       obtain ⟨w3a, hw3⟩ : ∃ w3a, w3a = w2a.alloc (.cells #[.bool x.keep, .slice a1 x.run.counts.length k1, .slice a2 x.run.evs.length k2, .bool x.run.blocked, .slice a3 xs.length k3, .slice a4 x.done.length k4] 49) := ⟨_, rfl⟩
       have hb3 : Below w2a.heap.size w2a w3a := by rw [hw3]; exact (Below.refl _ _).alloc (Nat.le_refl _) _
       have HW3 := Hyd hw3
       have HXAa := Hyd (show XAt w2a.heap.size wb.heap.size x (.slice a1 x.run.counts.length k1) (.slice a2 x.run.evs.length k2) (.slice a3 xs.length k3) (.slice a4 x.done.length k4) xs w3a from
        ⟨by rw [hw3]; exact heap_new rfl, ho0.below hb3, hxs, own_below hgv hb3, fun g hg => (hxo g hg).below hb3, own_below hdv hb3⟩)
       have HI3a := Hyd ((HIB.out.below hb2).below hb3); have HRN := Hyd HIB.out.n.own; have HRY := Hyd HIB.out.y.own; have HOK := Hyd (advR_ok p OkEv k r e HGD.out HEK.out); rw [hx] at HOK HXI; have hWb : w4.heap.size <= wb.heap.size := HIB.out.bel.size; have hbw2 := hb2.size; have hbw3 := hb3.size
       have hnsl : ns.length <= gs.length := by
        have h1 := congrArg List.length HNS.out; rw [List.length_map] at h1; have h2 := (innR_ok p OkEv k e HEK.out ((gs.map (·.2.2)).take j) (fun r' hr' => (HRK.out.1 r' (by rw [<- HGS.out]; exact List.mem_of_mem_take hr')).more (by rw [List.length_take]; omega))).2.2; rw [List.length_take, List.length_map] at h2
        omega
       have hysl : ys.length <= 2 * gs.length := by
        have h1 := congrArg List.length HYS.out; rw [List.length_map] at h1; have h2 := (innR_ok p OkEv k e HEK.out ((gs.map (·.2.2)).take j) (fun r' hr' => (HRK.out.1 r' (by rw [<- HGS.out]; exact List.mem_of_mem_take hr')).more (by rw [List.length_take]; omega))).2.2; rw [List.length_take, List.length_map] at h2
        omega
       have hosl : (os0 ++ (innR p e ((gs.map (·.2.2)).take j)).2.2).length <= 3 * 274877906944 := by
        have h2 := (innR_ok p OkEv k e HEK.out ((gs.map (·.2.2)).take j) (fun r' hr' => (HRK.out.1 r' (by rw [<- HGS.out]; exact List.mem_of_mem_take hr')).more (by rw [List.length_take]; omega))).2.2; rw [List.length_take, List.length_map] at h2; rw [List.length_append]
        omega
       rw [HOSJ.out] at hosl
       obtain ⟨K1, hK1⟩ : ∃ K, x.keep = K := ⟨_, rfl⟩
       have HK1 := Hyd hK1; rw [hK1] at HW3 ⊢; clear hK1
       obtain ⟨X, hX⟩ : ∃ X, w2a.heap.size = X := ⟨_, rfl⟩
       rw [hX] at HXAa hbw2 hbw3; have HXX := Hyd hX; have HB2 := Hyd hb2; have HB3a := Hyd hb3; clear hx ho0 hxs hgv hxo hdv hw3 hb2 hb3 p0 p1 r0 r1 r2 e0 e1 e2 e3 hX
       go_upto_region 19 with (fail)
       rw [<- HW3.out, HXX.out]; have HXB := Hyd (show w3a.heap[X]? = some (.cells #[.bool K1, .slice a1 x.run.counts.length k1, .slice a2 x.run.evs.length k2, .bool x.run.blocked, .slice a3 xs.length k3, .slice a4 x.done.length k4] 49 (0, 0)) by rw [<- HK1.out]; exact HXAa.out.blk); have HB03 := Hyd (HB0B.out.trans ((HB2.out.trans (HB3a.out.mono HB2.out.size)).mono HB0B.out.size)); have HRR3 := Hyd ((HB03.out.block _ (heap_lt HXR0.out)).trans HXR0.out); have HPP3 := Hyd HI3a.out.pl; have HEB := Hyd HI3a.out.ev; have HPUT3 := Hyd (HPUT.out.on HB03.out); have HUNT3 := Hyd (HUNT.out.on HB03.out); have HADK := Hyd (adv_keep (p := p) (r := r) (e := e) HGD.out.pos HGD.out.le); rw [HX.out, HK1.out] at HADK; have HKP := Hyd (show K1 = decide (e.time <= untilR p r) from HADK.out.1); have HXL := Hyd (show xs.length = x.grown.length by rw [<- HXAa.out.gs, List.length_map])
       have HKN := Hyd (show K1 = false -> xs.length = 0 /\ x.done.length = 0 from fun h => ⟨by rw [HXL.out, (HADK.out.2 h).1]; rfl, by rw [(HADK.out.2 h).2]; rfl⟩)
       have hxl1 : xs.length <= 2 := by rw [HXL.out]; exact HOK.out.1.few1
       have hxl2 : x.done.length <= 2 := HOK.out.1.few2; go_wp2_with fail
       refine Reg.stand_order (W := w3a) (h := 42) (t := 0)
        (⟨0, 102, [], 99, [], none, fun v _ => v = .agg #[.slice ca r.counts.length cc, .slice (some ⟨vb, 0, none⟩) r.evs.length vc, .bool r.blocked]⟩ ::
         ⟨1, 103, [], 99, [], none, fun v _ => v = .string (putS r)⟩ ::
         ⟨2, 104, [], 99, [], none, fun v _ => v = .string (putS r)⟩ ::
         ⟨3, 105, [], 99, [], none, fun v _ => v = .bool false⟩ ::
         ⟨4, 106, [], 99, [], none, fun v _ => v = .bool false⟩ ::
         ⟨5, 107, [], 99, [], none, fun v _ => v = .pointer (some ⟨X, 0, none⟩)⟩ ::
         ⟨6, 108, [], 99, [], none, fun v _ => v = .bool K1⟩ ::
         ⟨7, 109, [], 99, [], none, fun v _ => v = .pointer (some ⟨wo.heap.size, 1, none⟩)⟩ ::
         ⟨8, 110, [], 99, [], none, fun v _ => v = .int .i64 e.time⟩ ::
         ⟨9, 111, [], 99, [], none, fun v _ => v = .agg #[.slice pa p.steps.length pc, .int .i64 p.within]⟩ ::
         ⟨10, 112, [], 99, [], none, fun v _ => v = .agg #[.slice ca r.counts.length cc, .slice (some ⟨vb, 0, none⟩) r.evs.length vc, .bool r.blocked]⟩ ::
         ⟨11, 113, [], 99, [], none, fun v _ => v = .int .i64 (untilR p r)⟩ ::
         ⟨12, 114, [], 99, [], none, fun v _ => v = .bool K1⟩ ::
         ⟨13, 115, [], 99, [], none, fun v _ => v = .bool false⟩ ::
         ⟨14, 116, [], 99, [], none, fun v _ => v = .bool false⟩ ::
         ⟨15, 117, [], 99, [], none, fun v _ => v = .bool false⟩ ::
         ⟨16, 118, [], 99, [], none, fun v _ => v = .pointer (some ⟨X, 0, none⟩)⟩ ::
         ⟨17, 119, [], 99, [], none, fun v _ => v = .bool K1⟩ ::
         ⟨18, 120, [], 99, [], none, fun v _ => v = .bool (!K1)⟩ ::
         ⟨19, 121, [], 99, [], none, fun v _ => v = .bool (!K1)⟩ ::
         ⟨20, 122, [], 99, [], none, fun v _ => K1 = false -> v = .pointer (some ⟨X, 4, none⟩)⟩ ::
         ⟨21, 123, [], 99, [], none, fun v _ => K1 = false -> v = .slice a3 xs.length k3⟩ ::
         ⟨22, 124, [], 99, [], none, fun v _ => K1 = false -> v = .int .i64 (xs.length : Nat)⟩ ::
         ⟨23, 125, [], 99, [], none, fun v _ => K1 = false -> v = .pointer (some ⟨X, 5, none⟩)⟩ ::
         ⟨24, 126, [], 99, [], none, fun v _ => K1 = false -> v = .slice a4 x.done.length k4⟩ ::
         ⟨25, 127, [], 99, [], none, fun v _ => K1 = false -> v = .int .i64 (x.done.length : Nat)⟩ ::
         ⟨26, 128, [], 99, [], none, fun v _ => K1 = false -> v = .int .i64 0⟩ ::
         ⟨27, 129, [], 99, [], none, fun v _ => K1 = false -> v = .bool false⟩ ::
         ⟨28, 130, [], 99, [], none, fun v _ => v = .bool false⟩ ::
         ⟨29, 131, [], 99, [], none, fun v _ => v = .bool false⟩ ::
         ⟨30, 132, [], 99, [], none, fun v _ => v = .bool false⟩ ::
         ⟨31, 133, [], 99, [], none, fun v _ => v = .pointer (some ⟨X, 4, none⟩)⟩ ::
         ⟨32, 134, [], 99, [], none, fun v _ => v = .slice a3 xs.length k3⟩ ::
         ⟨33, 135, [], 99, [], none, fun v _ => v = .int .i64 (xs.length : Nat)⟩ ::
         ⟨34, 136, [], 99, [], none, fun v _ => v = .bool false⟩ ::
         ⟨35, 137, [], 99, [], none, fun v _ => v = .bool false⟩ ::
         ⟨36, 138, [], 99, [], none, fun v _ => v = .bool false⟩ ::
         ⟨37, 139, [], 99, [], none, fun v _ => v = .pointer (some ⟨X, 5, none⟩)⟩ ::
         ⟨38, 140, [], 99, [], none, fun v _ => v = .slice a4 x.done.length k4⟩ ::
         ⟨39, 141, [], 99, [], none, fun v _ => v = .int .i64 (x.done.length : Nat)⟩ ::
         ⟨40, 142, [], 99, [], none, fun v _ => v = .bool false⟩ ::
         ⟨41, 143, [], 99, [], none, fun v _ => v = .bool false⟩ :: [])
        []
        (by kernel_rfl) rfl (by kernel_rfl) (by kernel_rfl) (by kernel_rfl) (show (0 :: 1 :: 2 :: 3 :: 4 :: 5 :: 6 :: 7 :: 8 :: 9 :: 10 :: 11 :: 12 :: 13 :: 14 :: 15 :: 16 :: 17 :: 18 :: 19 :: 20 :: 21 :: 22 :: 23 :: 24 :: 25 :: 26 :: 27 :: 28 :: 29 :: 30 :: 31 :: 32 :: 33 :: 34 :: 35 :: 36 :: 37 :: 38 :: 39 :: 40 :: 41 :: []).Nodup by decide) (show ∀ i, i < 42 -> i ∈ (0 :: 1 :: 2 :: 3 :: 4 :: 5 :: 6 :: 7 :: 8 :: 9 :: 10 :: 11 :: 12 :: 13 :: 14 :: 15 :: 16 :: 17 :: 18 :: 19 :: 20 :: 21 :: 22 :: 23 :: 24 :: 25 :: 26 :: 27 :: 28 :: 29 :: 30 :: 31 :: 32 :: 33 :: 34 :: 35 :: 36 :: 37 :: 38 :: 39 :: 40 :: 41 :: []) by decide) ?_ (show (102 :: 103 :: 104 :: 105 :: 106 :: 107 :: 108 :: 109 :: 110 :: 111 :: 112 :: 113 :: 114 :: 115 :: 116 :: 117 :: 118 :: 119 :: 120 :: 121 :: 122 :: 123 :: 124 :: 125 :: 126 :: 127 :: 128 :: 129 :: 130 :: 131 :: 132 :: 133 :: 134 :: 135 :: 136 :: 137 :: 138 :: 139 :: 140 :: 141 :: 142 :: 143 :: []).Nodup by decide) (show ∀ s ∈ (102 :: 103 :: 104 :: 105 :: 106 :: 107 :: 108 :: 109 :: 110 :: 111 :: 112 :: 113 :: 114 :: 115 :: 116 :: 117 :: 118 :: 119 :: 120 :: 121 :: 122 :: 123 :: 124 :: 125 :: 126 :: 127 :: 128 :: 129 :: 130 :: 131 :: 132 :: 133 :: 134 :: 135 :: 136 :: 137 :: 138 :: 139 :: 140 :: 141 :: 142 :: 143 :: []), s < 187 by decide) (by kernel_rfl) ?_ ?_ (Below.refl _ _) ?_ ?_ ?_
       ·intro f hf
        simp only [List.mem_cons, List.not_mem_nil, or_false] at hf
        rcases hf with rfl | rfl | rfl | rfl | rfl | rfl | rfl | rfl | rfl | rfl | rfl | rfl | rfl | rfl | rfl | rfl | rfl | rfl | rfl | rfl | rfl | rfl | rfl | rfl | rfl | rfl | rfl | rfl | rfl | rfl | rfl | rfl | rfl | rfl | rfl | rfl | rfl | rfl | rfl | rfl | rfl | rfl <;> simp
       ·intro f hf v w1' w2 hk hF
        simp only [List.mem_cons, List.not_mem_nil, or_false] at hf
        rcases hf with rfl | rfl | rfl | rfl | rfl | rfl | rfl | rfl | rfl | rfl | rfl | rfl | rfl | rfl | rfl | rfl | rfl | rfl | rfl | rfl | rfl | rfl | rfl | rfl | rfl | rfl | rfl | rfl | rfl | rfl | rfl | rfl | rfl | rfl | rfl | rfl | rfl | rfl | rfl | rfl | rfl | rfl
        ·exact hF
        ·exact hF
        ·exact hF
        ·exact hF
        ·exact hF
        ·exact hF
        ·exact hF
        ·exact hF
        ·exact hF
        ·exact hF
        ·exact hF
        ·exact hF
        ·exact hF
        ·exact hF
        ·exact hF
        ·exact hF
        ·exact hF
        ·exact hF
        ·exact hF
        ·exact hF
        ·exact hF
        ·exact hF
        ·exact hF
        ·exact hF
        ·exact hF
        ·exact hF
        ·exact hF
        ·exact hF
        ·exact hF
        ·exact hF
        ·exact hF
        ·exact hF
        ·exact hF
        ·exact hF
        ·exact hF
        ·exact hF
        ·exact hF
        ·exact hF
        ·exact hF
        ·exact hF
        ·exact hF
        ·exact hF
       ·intro f hf; cases hf
       ·intro f hf; cases hf
       ·intro f hf a w1' hs hg' hst; have t5 : a.eval (.tmp 5) = .pointer (some ⟨Q, 0, none⟩) := Reg.eval_tmp ((hs.out 5 (show 5 ∉ (102 :: 103 :: 104 :: 105 :: 106 :: 107 :: 108 :: 109 :: 110 :: 111 :: 112 :: 113 :: 114 :: 115 :: 116 :: 117 :: 118 :: 119 :: 120 :: 121 :: 122 :: 123 :: 124 :: 125 :: 126 :: 127 :: 128 :: 129 :: 130 :: 131 :: 132 :: 133 :: 134 :: 135 :: 136 :: 137 :: 138 :: 139 :: 140 :: 141 :: 142 :: 143 :: []) by decide)).trans rfl); have t13 : a.eval (.tmp 13) = .pointer (some ⟨wo.heap.size, 0, none⟩) := Reg.eval_tmp ((hs.out 13 (show 13 ∉ (102 :: 103 :: 104 :: 105 :: 106 :: 107 :: 108 :: 109 :: 110 :: 111 :: 112 :: 113 :: 114 :: 115 :: 116 :: 117 :: 118 :: 119 :: 120 :: 121 :: 122 :: 123 :: 124 :: 125 :: 126 :: 127 :: 128 :: 129 :: 130 :: 131 :: 132 :: 133 :: 134 :: 135 :: 136 :: 137 :: 138 :: 139 :: 140 :: 141 :: 142 :: 143 :: []) by decide)).trans rfl); have t17 : a.eval (.tmp 17) = .pointer (some ⟨Y, 0, none⟩) := Reg.eval_tmp ((hs.out 17 (show 17 ∉ (102 :: 103 :: 104 :: 105 :: 106 :: 107 :: 108 :: 109 :: 110 :: 111 :: 112 :: 113 :: 114 :: 115 :: 116 :: 117 :: 118 :: 119 :: 120 :: 121 :: 122 :: 123 :: 124 :: 125 :: 126 :: 127 :: 128 :: 129 :: 130 :: 131 :: 132 :: 133 :: 134 :: 135 :: 136 :: 137 :: 138 :: 139 :: 140 :: 141 :: 142 :: 143 :: []) by decide)).trans rfl)
        have t20 : a.eval (.tmp 20) = .string (putS r) := Reg.eval_tmp ((hs.out 20 (show 20 ∉ (102 :: 103 :: 104 :: 105 :: 106 :: 107 :: 108 :: 109 :: 110 :: 111 :: 112 :: 113 :: 114 :: 115 :: 116 :: 117 :: 118 :: 119 :: 120 :: 121 :: 122 :: 123 :: 124 :: 125 :: 126 :: 127 :: 128 :: 129 :: 130 :: 131 :: 132 :: 133 :: 134 :: 135 :: 136 :: 137 :: 138 :: 139 :: 140 :: 141 :: 142 :: 143 :: []) by decide)).trans rfl); have t21 : a.eval (.tmp 21) = .pointer (some ⟨X, 0, none⟩) := Reg.eval_tmp ((hs.out 21 (show 21 ∉ (102 :: 103 :: 104 :: 105 :: 106 :: 107 :: 108 :: 109 :: 110 :: 111 :: 112 :: 113 :: 114 :: 115 :: 116 :: 117 :: 118 :: 119 :: 120 :: 121 :: 122 :: 123 :: 124 :: 125 :: 126 :: 127 :: 128 :: 129 :: 130 :: 131 :: 132 :: 133 :: 134 :: 135 :: 136 :: 137 :: 138 :: 139 :: 140 :: 141 :: 142 :: 143 :: []) by decide)).trans rfl)
        simp only [List.mem_cons, List.not_mem_nil, or_false] at hf
        rcases hf with rfl | rfl | rfl | rfl | rfl | rfl | rfl | rfl | rfl | rfl | rfl | rfl | rfl | rfl | rfl | rfl | rfl | rfl | rfl | rfl | rfl | rfl | rfl | rfl | rfl | rfl | rfl | rfl | rfl | rfl | rfl | rfl | rfl | rfl | rfl | rfl | rfl | rfl | rfl | rfl | rfl | rfl
        ·have hx := (hs.below.block _ (heap_lt HRR3.out)).trans HRR3.out; exact Reg.step_val rfl rfl rfl (Reg.run_load t17 (load_run hx)) rfl hs.below (fun e => Reg.Keeps.refl e _)
        ·obtain ⟨v1, hv1, rfl⟩ : ∃ v, a.tmps[102]? = some v /\ v = .agg #[.slice ca r.counts.length cc, .slice (some ⟨vb, 0, none⟩) r.evs.length vc, .bool r.blocked] := hg' _ (Reg.at_fact 0 rfl) (by kernel_rfl) (by first | (simp [Reg.okTil]; done) | kernel_rfl)
         have u1 := Reg.eval_tmp hv1; refine Reg.step_call (f := 20) (args := #[.agg #[.slice ca r.counts.length cc, .slice (some ⟨vb, 0, none⟩) r.evs.length vc, .bool r.blocked]]) rfl rfl rfl (by go_simp) hs.below ((HPUT3.out w1' hs.below).mono ?_); rintro en w2' ⟨rfl, hb⟩; exact ⟨_, rfl, rfl, hb⟩
        ·exact Reg.step_val rfl rfl rfl (Reg.run_move t20) rfl hs.below (fun e => Reg.Keeps.refl e _)
        ·obtain ⟨v1, hv1, rfl⟩ : ∃ v, a.tmps[103]? = some v /\ v = .string (putS r) := hg' _ (Reg.at_fact 1 rfl) (by kernel_rfl) (by first | (simp [Reg.okTil]; done) | kernel_rfl)
         have u1 := Reg.eval_tmp hv1
         obtain ⟨v2, hv2, rfl⟩ : ∃ v, a.tmps[104]? = some v /\ v = .string (putS r) := hg' _ (Reg.at_fact 2 rfl) (by kernel_rfl) (by first | (simp [Reg.okTil]; done) | kernel_rfl)
         have u2 := Reg.eval_tmp hv2; exact Reg.step_val rfl rfl rfl (v := .bool false) (by go_simp) rfl hs.below (fun e => Reg.Keeps.refl e _)
        ·obtain ⟨v1, hv1, rfl⟩ : ∃ v, a.tmps[105]? = some v /\ v = .bool false := hg' _ (Reg.at_fact 3 rfl) (by kernel_rfl) (by first | (simp [Reg.okTil]; done) | kernel_rfl)
         have u1 := Reg.eval_tmp hv1; exact Reg.step_val rfl rfl rfl (v := .bool false) (Reg.run_move u1) rfl hs.below (fun e => Reg.Keeps.refl e _)
        ·obtain ⟨vg, hvg, rfl⟩ : ∃ v, a.tmps[106]? = some v /\ v = .bool false := hg' _ (Reg.at_fact 4 rfl) (by kernel_rfl) (by first | (simp [Reg.okTil]; done) | kernel_rfl)
         exact Reg.step_val_on rfl rfl rfl rfl hvg rfl (Ord.run_fld t21 (fld_res0 w1' _)) rfl hs.below (fun e => Reg.Keeps.refl e _)
        ·obtain ⟨vg, hvg, rfl⟩ : ∃ v, a.tmps[106]? = some v /\ v = .bool false := hg' _ (Reg.at_fact 4 rfl) (by kernel_rfl) (by first | (simp [Reg.okTil]; done) | kernel_rfl)
         obtain ⟨v1, hv1, rfl⟩ : ∃ v, a.tmps[107]? = some v /\ v = .pointer (some ⟨X, 0, none⟩) := hg' _ (Reg.at_fact 5 rfl) (by kernel_rfl) (by first | (simp [Reg.okTil]; done) | kernel_rfl)
         have u1 := Reg.eval_tmp hv1; exact Reg.step_val_on rfl rfl rfl rfl hvg rfl (v := .bool K1) (Reg.run_load u1 (load_bool ((Lib.cell_of_heap ((hs.below.block _ (heap_lt HXB.out)).trans HXB.out) 0).trans rfl))) rfl hs.below (fun e => Reg.Keeps.refl e _)
        ·obtain ⟨vg, hvg, rfl⟩ : ∃ v, a.tmps[106]? = some v /\ v = .bool false := hg' _ (Reg.at_fact 4 rfl) (by kernel_rfl) (by first | (simp [Reg.okTil]; done) | kernel_rfl)
         exact Reg.step_val_on rfl rfl rfl rfl hvg rfl (Ord.run_fld t13 (fld_ev1 w1' _)) rfl hs.below (fun e => Reg.Keeps.refl e _)
        ·obtain ⟨vg, hvg, rfl⟩ : ∃ v, a.tmps[106]? = some v /\ v = .bool false := hg' _ (Reg.at_fact 4 rfl) (by kernel_rfl) (by first | (simp [Reg.okTil]; done) | kernel_rfl)
         obtain ⟨v1, hv1, rfl⟩ : ∃ v, a.tmps[109]? = some v /\ v = .pointer (some ⟨wo.heap.size, 1, none⟩) := hg' _ (Reg.at_fact 7 rfl) (by kernel_rfl) (by first | (simp [Reg.okTil]; done) | kernel_rfl)
         have u1 := Reg.eval_tmp hv1; exact Reg.step_val_on rfl rfl rfl rfl hvg rfl (v := .int .i64 e.time) (Reg.run_load u1 (load_i64 ((Lib.cell_of_heap ((hs.below.block _ (heap_lt HEB.out)).trans HEB.out) 1).trans rfl))) rfl hs.below (fun e => Reg.Keeps.refl e _)
        ·obtain ⟨vg, hvg, rfl⟩ : ∃ v, a.tmps[106]? = some v /\ v = .bool false := hg' _ (Reg.at_fact 4 rfl) (by kernel_rfl) (by first | (simp [Reg.okTil]; done) | kernel_rfl)
         have hx := (hs.below.block _ (heap_lt HPP3.out)).trans HPP3.out; exact Reg.step_val_on rfl rfl rfl rfl hvg rfl (Reg.run_load t5 (load_plan hx)) rfl hs.below (fun e => Reg.Keeps.refl e _)
        ·obtain ⟨vg, hvg, rfl⟩ : ∃ v, a.tmps[106]? = some v /\ v = .bool false := hg' _ (Reg.at_fact 4 rfl) (by kernel_rfl) (by first | (simp [Reg.okTil]; done) | kernel_rfl)
         have hx := (hs.below.block _ (heap_lt HRR3.out)).trans HRR3.out; exact Reg.step_val_on rfl rfl rfl rfl hvg rfl (Reg.run_load t17 (load_run hx)) rfl hs.below (fun e => Reg.Keeps.refl e _)
        ·obtain ⟨vg, hvg, rfl⟩ : ∃ v, a.tmps[106]? = some v /\ v = .bool false := hg' _ (Reg.at_fact 4 rfl) (by kernel_rfl) (by first | (simp [Reg.okTil]; done) | kernel_rfl)
         obtain ⟨v1, hv1, rfl⟩ : ∃ v, a.tmps[111]? = some v /\ v = .agg #[.slice pa p.steps.length pc, .int .i64 p.within] := hg' _ (Reg.at_fact 9 rfl) (by kernel_rfl) (by first | (simp [Reg.okTil]; done) | kernel_rfl)
         have u1 := Reg.eval_tmp hv1
         obtain ⟨v2, hv2, rfl⟩ : ∃ v, a.tmps[112]? = some v /\ v = .agg #[.slice ca r.counts.length cc, .slice (some ⟨vb, 0, none⟩) r.evs.length vc, .bool r.blocked] := hg' _ (Reg.at_fact 10 rfl) (by kernel_rfl) (by first | (simp [Reg.okTil]; done) | kernel_rfl)
         have u2 := Reg.eval_tmp hv2; refine Reg.step_call_on (f := 22) (args := #[.agg #[.slice pa p.steps.length pc, .int .i64 p.within], .agg #[.slice ca r.counts.length cc, .slice (some ⟨vb, 0, none⟩) r.evs.length vc, .bool r.blocked]]) rfl rfl rfl rfl hvg rfl (by go_simp) hs.below ((HUNT3.out w1' hs.below).mono ?_); rintro en w2' ⟨rfl, hb⟩; exact ⟨_, rfl, rfl, hb⟩
        ·obtain ⟨vg, hvg, rfl⟩ : ∃ v, a.tmps[106]? = some v /\ v = .bool false := hg' _ (Reg.at_fact 4 rfl) (by kernel_rfl) (by first | (simp [Reg.okTil]; done) | kernel_rfl)
         obtain ⟨v1, hv1, rfl⟩ : ∃ v, a.tmps[110]? = some v /\ v = .int .i64 e.time := hg' _ (Reg.at_fact 8 rfl) (by kernel_rfl) (by first | (simp [Reg.okTil]; done) | kernel_rfl)
         have u1 := Reg.eval_tmp hv1
         obtain ⟨v2, hv2, rfl⟩ : ∃ v, a.tmps[113]? = some v /\ v = .int .i64 (untilR p r) := hg' _ (Reg.at_fact 11 rfl) (by kernel_rfl) (by first | (simp [Reg.okTil]; done) | kernel_rfl)
         have u2 := Reg.eval_tmp hv2; exact Reg.step_val_on rfl rfl rfl rfl hvg rfl (v := .bool K1) (by rw [HKP.out]; go_simp) rfl hs.below (fun e => Reg.Keeps.refl e _)
        ·obtain ⟨vg, hvg, rfl⟩ : ∃ v, a.tmps[106]? = some v /\ v = .bool false := hg' _ (Reg.at_fact 4 rfl) (by kernel_rfl) (by first | (simp [Reg.okTil]; done) | kernel_rfl)
         obtain ⟨v1, hv1, rfl⟩ : ∃ v, a.tmps[108]? = some v /\ v = .bool K1 := hg' _ (Reg.at_fact 6 rfl) (by kernel_rfl) (by first | (simp [Reg.okTil]; done) | kernel_rfl)
         have u1 := Reg.eval_tmp hv1
         obtain ⟨v2, hv2, rfl⟩ : ∃ v, a.tmps[114]? = some v /\ v = .bool K1 := hg' _ (Reg.at_fact 12 rfl) (by kernel_rfl) (by first | (simp [Reg.okTil]; done) | kernel_rfl)
         have u2 := Reg.eval_tmp hv2; exact Reg.step_val_on rfl rfl rfl rfl hvg rfl (v := .bool false) (by go_simp) rfl hs.below (fun e => Reg.Keeps.refl e _)
        ·obtain ⟨v1, hv1, rfl⟩ : ∃ v, a.tmps[106]? = some v /\ v = .bool false := hg' _ (Reg.at_fact 4 rfl) (by kernel_rfl) (by first | (simp [Reg.okTil]; done) | kernel_rfl)
         have u1 := Reg.eval_tmp hv1
         obtain ⟨v2, hv2, rfl⟩ : ∃ v, a.tmps[115]? = some v /\ v = .bool false := hg' _ (Reg.at_fact 13 rfl) (by kernel_rfl) (by first | (simp [Reg.okTil]; done) | kernel_rfl)
         have u2 := Reg.eval_tmp hv2; exact Reg.step_val rfl rfl rfl (v := .bool false) (Reg.run_pick u1 (by simpa using u2)) rfl hs.below (fun e => Reg.Keeps.refl e _)
        ·obtain ⟨v1, hv1, rfl⟩ : ∃ v, a.tmps[116]? = some v /\ v = .bool false := hg' _ (Reg.at_fact 14 rfl) (by kernel_rfl) (by first | (simp [Reg.okTil]; done) | kernel_rfl)
         have u1 := Reg.eval_tmp hv1; exact Reg.step_val rfl rfl rfl (v := .bool false) (Reg.run_move u1) rfl hs.below (fun e => Reg.Keeps.refl e _)
        ·obtain ⟨vg, hvg, rfl⟩ : ∃ v, a.tmps[117]? = some v /\ v = .bool false := hg' _ (Reg.at_fact 15 rfl) (by kernel_rfl) (by first | (simp [Reg.okTil]; done) | kernel_rfl)
         exact Reg.step_val_on rfl rfl rfl rfl hvg rfl (Ord.run_fld t21 (fld_res0 w1' _)) rfl hs.below (fun e => Reg.Keeps.refl e _)
        ·obtain ⟨vg, hvg, rfl⟩ : ∃ v, a.tmps[117]? = some v /\ v = .bool false := hg' _ (Reg.at_fact 15 rfl) (by kernel_rfl) (by first | (simp [Reg.okTil]; done) | kernel_rfl)
         obtain ⟨v1, hv1, rfl⟩ : ∃ v, a.tmps[118]? = some v /\ v = .pointer (some ⟨X, 0, none⟩) := hg' _ (Reg.at_fact 16 rfl) (by kernel_rfl) (by first | (simp [Reg.okTil]; done) | kernel_rfl)
         have u1 := Reg.eval_tmp hv1; exact Reg.step_val_on rfl rfl rfl rfl hvg rfl (v := .bool K1) (Reg.run_load u1 (load_bool ((Lib.cell_of_heap ((hs.below.block _ (heap_lt HXB.out)).trans HXB.out) 0).trans rfl))) rfl hs.below (fun e => Reg.Keeps.refl e _)
        ·obtain ⟨vg, hvg, rfl⟩ : ∃ v, a.tmps[117]? = some v /\ v = .bool false := hg' _ (Reg.at_fact 15 rfl) (by kernel_rfl) (by first | (simp [Reg.okTil]; done) | kernel_rfl)
         obtain ⟨v1, hv1, rfl⟩ : ∃ v, a.tmps[119]? = some v /\ v = .bool K1 := hg' _ (Reg.at_fact 17 rfl) (by kernel_rfl) (by first | (simp [Reg.okTil]; done) | kernel_rfl)
         have u1 := Reg.eval_tmp hv1; exact Reg.step_val_on rfl rfl rfl rfl hvg rfl (v := .bool (!K1)) (by go_simp) rfl hs.below (fun e => Reg.Keeps.refl e _)
        ·obtain ⟨vg, hvg, rfl⟩ : ∃ v, a.tmps[117]? = some v /\ v = .bool false := hg' _ (Reg.at_fact 15 rfl) (by kernel_rfl) (by first | (simp [Reg.okTil]; done) | kernel_rfl)
         obtain ⟨v1, hv1, rfl⟩ : ∃ v, a.tmps[120]? = some v /\ v = .bool (!K1) := hg' _ (Reg.at_fact 18 rfl) (by kernel_rfl) (by first | (simp [Reg.okTil]; done) | kernel_rfl)
         have u1 := Reg.eval_tmp hv1; exact Reg.step_val_on rfl rfl rfl rfl hvg rfl (v := .bool (!K1)) (Reg.run_move u1) rfl hs.below (fun e => Reg.Keeps.refl e _)
        ·rcases Bool.eq_false_or_eq_true K1 with hK | hK
         ·obtain ⟨vg, hvg, rfl⟩ : ∃ v, a.tmps[121]? = some v /\ v = .bool (!K1) := hg' _ (Reg.at_fact 19 rfl) (by kernel_rfl) (by first | (simp [Reg.okTil]; done) | kernel_rfl)
          rw [hK] at hvg; exact Reg.step_skip rfl rfl rfl rfl hvg rfl rfl (fun h => by rw [hK] at h; cases h) hs.below
         ·obtain ⟨vg, hvg, rfl⟩ : ∃ v, a.tmps[121]? = some v /\ v = .bool (!K1) := hg' _ (Reg.at_fact 19 rfl) (by kernel_rfl) (by first | (simp [Reg.okTil]; done) | kernel_rfl)
          rw [hK] at hvg; exact Reg.step_val_on (v := .pointer (some ⟨X, 4, none⟩)) rfl rfl rfl rfl hvg rfl (Ord.run_fld t21 (fld_res2 w1' _)) (fun _ => rfl) hs.below (fun e => Reg.Keeps.refl e _)
        ·rcases Bool.eq_false_or_eq_true K1 with hK | hK
         ·obtain ⟨vg, hvg, rfl⟩ : ∃ v, a.tmps[121]? = some v /\ v = .bool (!K1) := hg' _ (Reg.at_fact 19 rfl) (by kernel_rfl) (by first | (simp [Reg.okTil]; done) | kernel_rfl)
          rw [hK] at hvg; exact Reg.step_skip rfl rfl rfl rfl hvg rfl rfl (fun h => by rw [hK] at h; cases h) hs.below
         ·obtain ⟨vg, hvg, rfl⟩ : ∃ v, a.tmps[121]? = some v /\ v = .bool (!K1) := hg' _ (Reg.at_fact 19 rfl) (by kernel_rfl) (by first | (simp [Reg.okTil]; done) | kernel_rfl)
          rw [hK] at hvg
          obtain ⟨v1, hv1, e1⟩ : ∃ v, a.tmps[122]? = some v /\ (K1 = false -> v = .pointer (some ⟨X, 4, none⟩)) := hg' _ (Reg.at_fact 20 rfl) (by kernel_rfl) (by first | (simp [Reg.okTil]; done) | kernel_rfl)
          obtain rfl := e1 hK; have u1 := Reg.eval_tmp hv1; exact Reg.step_val_on (v := .slice a3 xs.length k3) rfl rfl rfl rfl hvg rfl (Reg.run_load u1 (load_runs ((Lib.cell_of_heap ((hs.below.block _ (heap_lt HXB.out)).trans HXB.out) 4).trans rfl))) (fun _ => rfl) hs.below (fun e => Reg.Keeps.refl e _)
        ·rcases Bool.eq_false_or_eq_true K1 with hK | hK
         ·obtain ⟨vg, hvg, rfl⟩ : ∃ v, a.tmps[121]? = some v /\ v = .bool (!K1) := hg' _ (Reg.at_fact 19 rfl) (by kernel_rfl) (by first | (simp [Reg.okTil]; done) | kernel_rfl)
          rw [hK] at hvg; exact Reg.step_skip rfl rfl rfl rfl hvg rfl rfl (fun h => by rw [hK] at h; cases h) hs.below
         ·obtain ⟨vg, hvg, rfl⟩ : ∃ v, a.tmps[121]? = some v /\ v = .bool (!K1) := hg' _ (Reg.at_fact 19 rfl) (by kernel_rfl) (by first | (simp [Reg.okTil]; done) | kernel_rfl)
          rw [hK] at hvg
          obtain ⟨v1, hv1, e1⟩ : ∃ v, a.tmps[123]? = some v /\ (K1 = false -> v = .slice a3 xs.length k3) := hg' _ (Reg.at_fact 21 rfl) (by kernel_rfl) (by first | (simp [Reg.okTil]; done) | kernel_rfl)
          obtain rfl := e1 hK; have u1 := Reg.eval_tmp hv1; exact Reg.step_val_on (v := .int .i64 (xs.length : Nat)) rfl rfl rfl rfl hvg rfl (by go_simp) (fun _ => rfl) hs.below (fun e => Reg.Keeps.refl e _)
        ·rcases Bool.eq_false_or_eq_true K1 with hK | hK
         ·obtain ⟨vg, hvg, rfl⟩ : ∃ v, a.tmps[121]? = some v /\ v = .bool (!K1) := hg' _ (Reg.at_fact 19 rfl) (by kernel_rfl) (by first | (simp [Reg.okTil]; done) | kernel_rfl)
          rw [hK] at hvg; exact Reg.step_skip rfl rfl rfl rfl hvg rfl rfl (fun h => by rw [hK] at h; cases h) hs.below
         ·obtain ⟨vg, hvg, rfl⟩ : ∃ v, a.tmps[121]? = some v /\ v = .bool (!K1) := hg' _ (Reg.at_fact 19 rfl) (by kernel_rfl) (by first | (simp [Reg.okTil]; done) | kernel_rfl)
          rw [hK] at hvg; exact Reg.step_val_on (v := .pointer (some ⟨X, 5, none⟩)) rfl rfl rfl rfl hvg rfl (Ord.run_fld t21 (fld_res3 w1' _)) (fun _ => rfl) hs.below (fun e => Reg.Keeps.refl e _)
        ·rcases Bool.eq_false_or_eq_true K1 with hK | hK
         ·obtain ⟨vg, hvg, rfl⟩ : ∃ v, a.tmps[121]? = some v /\ v = .bool (!K1) := hg' _ (Reg.at_fact 19 rfl) (by kernel_rfl) (by first | (simp [Reg.okTil]; done) | kernel_rfl)
          rw [hK] at hvg; exact Reg.step_skip rfl rfl rfl rfl hvg rfl rfl (fun h => by rw [hK] at h; cases h) hs.below
         ·obtain ⟨vg, hvg, rfl⟩ : ∃ v, a.tmps[121]? = some v /\ v = .bool (!K1) := hg' _ (Reg.at_fact 19 rfl) (by kernel_rfl) (by first | (simp [Reg.okTil]; done) | kernel_rfl)
          rw [hK] at hvg
          obtain ⟨v1, hv1, e1⟩ : ∃ v, a.tmps[125]? = some v /\ (K1 = false -> v = .pointer (some ⟨X, 5, none⟩)) := hg' _ (Reg.at_fact 23 rfl) (by kernel_rfl) (by first | (simp [Reg.okTil]; done) | kernel_rfl)
          obtain rfl := e1 hK; have u1 := Reg.eval_tmp hv1; exact Reg.step_val_on (v := .slice a4 x.done.length k4) rfl rfl rfl rfl hvg rfl (Reg.run_load u1 (load_strs ((Lib.cell_of_heap ((hs.below.block _ (heap_lt HXB.out)).trans HXB.out) 5).trans rfl))) (fun _ => rfl) hs.below (fun e => Reg.Keeps.refl e _)
        ·rcases Bool.eq_false_or_eq_true K1 with hK | hK
         ·obtain ⟨vg, hvg, rfl⟩ : ∃ v, a.tmps[121]? = some v /\ v = .bool (!K1) := hg' _ (Reg.at_fact 19 rfl) (by kernel_rfl) (by first | (simp [Reg.okTil]; done) | kernel_rfl)
          rw [hK] at hvg; exact Reg.step_skip rfl rfl rfl rfl hvg rfl rfl (fun h => by rw [hK] at h; cases h) hs.below
         ·obtain ⟨vg, hvg, rfl⟩ : ∃ v, a.tmps[121]? = some v /\ v = .bool (!K1) := hg' _ (Reg.at_fact 19 rfl) (by kernel_rfl) (by first | (simp [Reg.okTil]; done) | kernel_rfl)
          rw [hK] at hvg
          obtain ⟨v1, hv1, e1⟩ : ∃ v, a.tmps[126]? = some v /\ (K1 = false -> v = .slice a4 x.done.length k4) := hg' _ (Reg.at_fact 24 rfl) (by kernel_rfl) (by first | (simp [Reg.okTil]; done) | kernel_rfl)
          obtain rfl := e1 hK; have u1 := Reg.eval_tmp hv1; exact Reg.step_val_on (v := .int .i64 (x.done.length : Nat)) rfl rfl rfl rfl hvg rfl (by go_simp) (fun _ => rfl) hs.below (fun e => Reg.Keeps.refl e _)
        ·rcases Bool.eq_false_or_eq_true K1 with hK | hK
         ·obtain ⟨vg, hvg, rfl⟩ : ∃ v, a.tmps[121]? = some v /\ v = .bool (!K1) := hg' _ (Reg.at_fact 19 rfl) (by kernel_rfl) (by first | (simp [Reg.okTil]; done) | kernel_rfl)
          rw [hK] at hvg; exact Reg.step_skip rfl rfl rfl rfl hvg rfl rfl (fun h => by rw [hK] at h; cases h) hs.below
         ·obtain ⟨vg, hvg, rfl⟩ : ∃ v, a.tmps[121]? = some v /\ v = .bool (!K1) := hg' _ (Reg.at_fact 19 rfl) (by kernel_rfl) (by first | (simp [Reg.okTil]; done) | kernel_rfl)
          rw [hK] at hvg
          obtain ⟨v1, hv1, e1⟩ : ∃ v, a.tmps[124]? = some v /\ (K1 = false -> v = .int .i64 (xs.length : Nat)) := hg' _ (Reg.at_fact 22 rfl) (by kernel_rfl) (by first | (simp [Reg.okTil]; done) | kernel_rfl)
          obtain rfl := e1 hK; have u1 := Reg.eval_tmp hv1
          obtain ⟨v2, hv2, e2⟩ : ∃ v, a.tmps[127]? = some v /\ (K1 = false -> v = .int .i64 (x.done.length : Nat)) := hg' _ (Reg.at_fact 25 rfl) (by kernel_rfl) (by first | (simp [Reg.okTil]; done) | kernel_rfl)
          obtain rfl := e2 hK; have u2 := Reg.eval_tmp hv2; exact Reg.step_val_on (v := .int .i64 0) rfl rfl rfl rfl hvg rfl (by obtain ⟨z1, z2⟩ := HKN.out hK; rw [z1] at u1; rw [z2] at u2; go_simp; exact IntWalk.i64_in _ (by omega)) (fun _ => rfl) hs.below (fun e => Reg.Keeps.refl e _)
        ·rcases Bool.eq_false_or_eq_true K1 with hK | hK
         ·obtain ⟨vg, hvg, rfl⟩ : ∃ v, a.tmps[121]? = some v /\ v = .bool (!K1) := hg' _ (Reg.at_fact 19 rfl) (by kernel_rfl) (by first | (simp [Reg.okTil]; done) | kernel_rfl)
          rw [hK] at hvg; exact Reg.step_skip rfl rfl rfl rfl hvg rfl rfl (fun h => by rw [hK] at h; cases h) hs.below
         ·obtain ⟨vg, hvg, rfl⟩ : ∃ v, a.tmps[121]? = some v /\ v = .bool (!K1) := hg' _ (Reg.at_fact 19 rfl) (by kernel_rfl) (by first | (simp [Reg.okTil]; done) | kernel_rfl)
          rw [hK] at hvg
          obtain ⟨v1, hv1, e1⟩ : ∃ v, a.tmps[128]? = some v /\ (K1 = false -> v = .int .i64 0) := hg' _ (Reg.at_fact 26 rfl) (by kernel_rfl) (by first | (simp [Reg.okTil]; done) | kernel_rfl)
          obtain rfl := e1 hK; have u1 := Reg.eval_tmp hv1; exact Reg.step_val_on (v := .bool false) rfl rfl rfl rfl hvg rfl (by go_simp) (fun _ => rfl) hs.below (fun e => Reg.Keeps.refl e _)
        ·obtain ⟨vg, hvg, rfl⟩ : ∃ v, a.tmps[117]? = some v /\ v = .bool false := hg' _ (Reg.at_fact 15 rfl) (by kernel_rfl) (by first | (simp [Reg.okTil]; done) | kernel_rfl)
         obtain ⟨v1, hv1, rfl⟩ : ∃ v, a.tmps[121]? = some v /\ v = .bool (!K1) := hg' _ (Reg.at_fact 19 rfl) (by kernel_rfl) (by first | (simp [Reg.okTil]; done) | kernel_rfl)
         have u1 := Reg.eval_tmp hv1
         rcases Bool.eq_false_or_eq_true K1 with hK | hK
         ·exact Reg.step_val_on rfl rfl rfl rfl hvg rfl (v := .bool false) (Reg.run_pick u1 (by rw [hK]; rfl)) rfl hs.below (fun e => Reg.Keeps.refl e _)
         ·obtain ⟨v2, hv2, e2⟩ : ∃ v, a.tmps[129]? = some v /\ (K1 = false -> v = .bool false) := hg' _ (Reg.at_fact 27 rfl) (by kernel_rfl) (by first | (simp [Reg.okTil]; done) | kernel_rfl)
          obtain rfl := e2 hK; have u2 := Reg.eval_tmp hv2; exact Reg.step_val_on rfl rfl rfl rfl hvg rfl (v := .bool false) (Reg.run_pick u1 (by rw [hK]; exact u2)) rfl hs.below (fun e => Reg.Keeps.refl e _)
        ·obtain ⟨v1, hv1, rfl⟩ : ∃ v, a.tmps[117]? = some v /\ v = .bool false := hg' _ (Reg.at_fact 15 rfl) (by kernel_rfl) (by first | (simp [Reg.okTil]; done) | kernel_rfl)
         have u1 := Reg.eval_tmp hv1
         obtain ⟨v2, hv2, rfl⟩ : ∃ v, a.tmps[130]? = some v /\ v = .bool false := hg' _ (Reg.at_fact 28 rfl) (by kernel_rfl) (by first | (simp [Reg.okTil]; done) | kernel_rfl)
         have u2 := Reg.eval_tmp hv2; exact Reg.step_val rfl rfl rfl (v := .bool false) (Reg.run_pick u1 (by simpa using u2)) rfl hs.below (fun e => Reg.Keeps.refl e _)
        ·obtain ⟨v1, hv1, rfl⟩ : ∃ v, a.tmps[131]? = some v /\ v = .bool false := hg' _ (Reg.at_fact 29 rfl) (by kernel_rfl) (by first | (simp [Reg.okTil]; done) | kernel_rfl)
         have u1 := Reg.eval_tmp hv1; exact Reg.step_val rfl rfl rfl (v := .bool false) (Reg.run_move u1) rfl hs.below (fun e => Reg.Keeps.refl e _)
        ·obtain ⟨vg, hvg, rfl⟩ : ∃ v, a.tmps[132]? = some v /\ v = .bool false := hg' _ (Reg.at_fact 30 rfl) (by kernel_rfl) (by first | (simp [Reg.okTil]; done) | kernel_rfl)
         exact Reg.step_val_on rfl rfl rfl rfl hvg rfl (Ord.run_fld t21 (fld_res2 w1' _)) rfl hs.below (fun e => Reg.Keeps.refl e _)
        ·obtain ⟨vg, hvg, rfl⟩ : ∃ v, a.tmps[132]? = some v /\ v = .bool false := hg' _ (Reg.at_fact 30 rfl) (by kernel_rfl) (by first | (simp [Reg.okTil]; done) | kernel_rfl)
         obtain ⟨v1, hv1, rfl⟩ : ∃ v, a.tmps[133]? = some v /\ v = .pointer (some ⟨X, 4, none⟩) := hg' _ (Reg.at_fact 31 rfl) (by kernel_rfl) (by first | (simp [Reg.okTil]; done) | kernel_rfl)
         have u1 := Reg.eval_tmp hv1; exact Reg.step_val_on rfl rfl rfl rfl hvg rfl (v := .slice a3 xs.length k3) (Reg.run_load u1 (load_runs ((Lib.cell_of_heap ((hs.below.block _ (heap_lt HXB.out)).trans HXB.out) 4).trans rfl))) rfl hs.below (fun e => Reg.Keeps.refl e _)
        ·obtain ⟨vg, hvg, rfl⟩ : ∃ v, a.tmps[132]? = some v /\ v = .bool false := hg' _ (Reg.at_fact 30 rfl) (by kernel_rfl) (by first | (simp [Reg.okTil]; done) | kernel_rfl)
         obtain ⟨v1, hv1, rfl⟩ : ∃ v, a.tmps[134]? = some v /\ v = .slice a3 xs.length k3 := hg' _ (Reg.at_fact 32 rfl) (by kernel_rfl) (by first | (simp [Reg.okTil]; done) | kernel_rfl)
         have u1 := Reg.eval_tmp hv1; exact Reg.step_val_on rfl rfl rfl rfl hvg rfl (v := .int .i64 (xs.length : Nat)) (by go_simp) rfl hs.below (fun e => Reg.Keeps.refl e _)
        ·obtain ⟨vg, hvg, rfl⟩ : ∃ v, a.tmps[132]? = some v /\ v = .bool false := hg' _ (Reg.at_fact 30 rfl) (by kernel_rfl) (by first | (simp [Reg.okTil]; done) | kernel_rfl)
         obtain ⟨v1, hv1, rfl⟩ : ∃ v, a.tmps[135]? = some v /\ v = .int .i64 (xs.length : Nat) := hg' _ (Reg.at_fact 33 rfl) (by kernel_rfl) (by first | (simp [Reg.okTil]; done) | kernel_rfl)
         have u1 := Reg.eval_tmp hv1; have hn2 : decide ((2 : Int) < ((xs.length : Nat) : Int)) = false := decide_eq_false (by omega); have hn3 : ¬ (2 : Int) < ((xs.length : Nat) : Int) := (by omega); exact Reg.step_val_on rfl rfl rfl rfl hvg rfl (v := .bool false) (by go_simp) rfl hs.below (fun e => Reg.Keeps.refl e _)
        ·obtain ⟨v1, hv1, rfl⟩ : ∃ v, a.tmps[132]? = some v /\ v = .bool false := hg' _ (Reg.at_fact 30 rfl) (by kernel_rfl) (by first | (simp [Reg.okTil]; done) | kernel_rfl)
         have u1 := Reg.eval_tmp hv1
         obtain ⟨v2, hv2, rfl⟩ : ∃ v, a.tmps[136]? = some v /\ v = .bool false := hg' _ (Reg.at_fact 34 rfl) (by kernel_rfl) (by first | (simp [Reg.okTil]; done) | kernel_rfl)
         have u2 := Reg.eval_tmp hv2; exact Reg.step_val rfl rfl rfl (v := .bool false) (Reg.run_pick u1 (by simpa using u2)) rfl hs.below (fun e => Reg.Keeps.refl e _)
        ·obtain ⟨v1, hv1, rfl⟩ : ∃ v, a.tmps[137]? = some v /\ v = .bool false := hg' _ (Reg.at_fact 35 rfl) (by kernel_rfl) (by first | (simp [Reg.okTil]; done) | kernel_rfl)
         have u1 := Reg.eval_tmp hv1; exact Reg.step_val rfl rfl rfl (v := .bool false) (Reg.run_move u1) rfl hs.below (fun e => Reg.Keeps.refl e _)
        ·obtain ⟨vg, hvg, rfl⟩ : ∃ v, a.tmps[138]? = some v /\ v = .bool false := hg' _ (Reg.at_fact 36 rfl) (by kernel_rfl) (by first | (simp [Reg.okTil]; done) | kernel_rfl)
         exact Reg.step_val_on rfl rfl rfl rfl hvg rfl (Ord.run_fld t21 (fld_res3 w1' _)) rfl hs.below (fun e => Reg.Keeps.refl e _)
        ·obtain ⟨vg, hvg, rfl⟩ : ∃ v, a.tmps[138]? = some v /\ v = .bool false := hg' _ (Reg.at_fact 36 rfl) (by kernel_rfl) (by first | (simp [Reg.okTil]; done) | kernel_rfl)
         obtain ⟨v1, hv1, rfl⟩ : ∃ v, a.tmps[139]? = some v /\ v = .pointer (some ⟨X, 5, none⟩) := hg' _ (Reg.at_fact 37 rfl) (by kernel_rfl) (by first | (simp [Reg.okTil]; done) | kernel_rfl)
         have u1 := Reg.eval_tmp hv1; exact Reg.step_val_on rfl rfl rfl rfl hvg rfl (v := .slice a4 x.done.length k4) (Reg.run_load u1 (load_strs ((Lib.cell_of_heap ((hs.below.block _ (heap_lt HXB.out)).trans HXB.out) 5).trans rfl))) rfl hs.below (fun e => Reg.Keeps.refl e _)
        ·obtain ⟨vg, hvg, rfl⟩ : ∃ v, a.tmps[138]? = some v /\ v = .bool false := hg' _ (Reg.at_fact 36 rfl) (by kernel_rfl) (by first | (simp [Reg.okTil]; done) | kernel_rfl)
         obtain ⟨v1, hv1, rfl⟩ : ∃ v, a.tmps[140]? = some v /\ v = .slice a4 x.done.length k4 := hg' _ (Reg.at_fact 38 rfl) (by kernel_rfl) (by first | (simp [Reg.okTil]; done) | kernel_rfl)
         have u1 := Reg.eval_tmp hv1; exact Reg.step_val_on rfl rfl rfl rfl hvg rfl (v := .int .i64 (x.done.length : Nat)) (by go_simp) rfl hs.below (fun e => Reg.Keeps.refl e _)
        ·obtain ⟨vg, hvg, rfl⟩ : ∃ v, a.tmps[138]? = some v /\ v = .bool false := hg' _ (Reg.at_fact 36 rfl) (by kernel_rfl) (by first | (simp [Reg.okTil]; done) | kernel_rfl)
         obtain ⟨v1, hv1, rfl⟩ : ∃ v, a.tmps[141]? = some v /\ v = .int .i64 (x.done.length : Nat) := hg' _ (Reg.at_fact 39 rfl) (by kernel_rfl) (by first | (simp [Reg.okTil]; done) | kernel_rfl)
         have u1 := Reg.eval_tmp hv1; have hn2 : decide ((2 : Int) < ((x.done.length : Nat) : Int)) = false := decide_eq_false (by omega); have hn3 : ¬ (2 : Int) < ((x.done.length : Nat) : Int) := (by omega); exact Reg.step_val_on rfl rfl rfl rfl hvg rfl (v := .bool false) (by go_simp) rfl hs.below (fun e => Reg.Keeps.refl e _)
        ·obtain ⟨v1, hv1, rfl⟩ : ∃ v, a.tmps[138]? = some v /\ v = .bool false := hg' _ (Reg.at_fact 36 rfl) (by kernel_rfl) (by first | (simp [Reg.okTil]; done) | kernel_rfl)
         have u1 := Reg.eval_tmp hv1
         obtain ⟨v2, hv2, rfl⟩ : ∃ v, a.tmps[142]? = some v /\ v = .bool false := hg' _ (Reg.at_fact 40 rfl) (by kernel_rfl) (by first | (simp [Reg.okTil]; done) | kernel_rfl)
         have u2 := Reg.eval_tmp hv2; exact Reg.step_val rfl rfl rfl (v := .bool false) (Reg.run_pick u1 (by simpa using u2)) rfl hs.below (fun e => Reg.Keeps.refl e _)
       ·intro vals w1' hF hfx hb1; have e143 : vals 143 = .bool false := hF _ (Reg.at_fact 41 rfl) (show (42 + 0 : Nat) <= 99 by decide)
        simp only [List.map_cons, List.map_nil, e143]
        generalize vals 102 = q102; generalize vals 103 = q103; generalize vals 104 = q104; generalize vals 105 = q105; generalize vals 106 = q106; generalize vals 107 = q107; generalize vals 108 = q108; generalize vals 109 = q109; generalize vals 110 = q110; generalize vals 111 = q111; generalize vals 112 = q112; generalize vals 113 = q113; generalize vals 114 = q114; generalize vals 115 = q115; generalize vals 116 = q116; generalize vals 117 = q117; generalize vals 118 = q118; generalize vals 119 = q119; generalize vals 120 = q120; generalize vals 121 = q121; generalize vals 122 = q122; generalize vals 123 = q123; generalize vals 124 = q124; generalize vals 125 = q125; generalize vals 126 = q126; generalize vals 127 = q127; generalize vals 128 = q128; generalize vals 129 = q129; generalize vals 130 = q130; generalize vals 131 = q131; generalize vals 132 = q132; generalize vals 133 = q133
        generalize vals 134 = q134; generalize vals 135 = q135; generalize vals 136 = q136; generalize vals 137 = q137; generalize vals 138 = q138; generalize vals 139 = q139; generalize vals 140 = q140; generalize vals 141 = q141; generalize vals 142 = q142; have HB19 := Hyd hb1; clear hF hfx e143 hb1; unfold Reg.puts Reg.puts Reg.puts Reg.puts Reg.puts Reg.puts Reg.puts Reg.puts Reg.puts Reg.puts Reg.puts Reg.puts Reg.puts Reg.puts Reg.puts Reg.puts Reg.puts Reg.puts Reg.puts Reg.puts Reg.puts Reg.puts Reg.puts Reg.puts Reg.puts Reg.puts Reg.puts Reg.puts Reg.puts Reg.puts Reg.puts Reg.puts Reg.puts Reg.puts Reg.puts Reg.puts Reg.puts Reg.puts Reg.puts Reg.puts Reg.puts Reg.puts Reg.puts
        obtain ⟨w3, rfl⟩ : ∃ w : World, w = w1' := ⟨_, rfl⟩
        have HXA := Hyd (HXAa.out.below HB19.out); have HI3 := Hyd (HI3a.out.below HB19.out); clear hxl1 hxl2
        go_simp
        go_upto_region 21 with (fail)
        have y0 : w3.cell? ⟨X, 0, none⟩ = some (.bool K1) := by rw [<- HK1.out]; exact (Lib.cell_of_heap HXA.out.blk 0).trans rfl
        go_upto_if 145 with (fail)
        clear y0
        go_cut [14] (fun s9 wx => (∃ a n c, s9 = .slice a n c) /\ CutN w4 Q #[.slice pa p.steps.length pc, .int .i64 p.within] wo.heap.size e (.slice (some ⟨sb, 0, none⟩) ls.length sc) ls (.slice (some ⟨rb, 0, none⟩) gs.length rc) gs (.slice ya ys.length yc) (.slice oa os.length oc) ys os X wb.heap.size x (.slice a1 x.run.counts.length k1) (.slice a2 x.run.evs.length k2) (.slice a3 xs.length k3) (.slice a4 x.done.length k4) xs (innR p e ((gs.map (·.2.2)).take j)).1 s9 wx)
        case first =>
         cases hKv : K1 with
         | false =>
          have HV := Hyd (HK1.out.trans hKv); clear hKv; go_wp2_with fail; go_meet; exact ⟨⟨_, _, _, rfl⟩, ns, by rw [HNS.out, HV.out]; simp, HI3.out, HXA.out⟩
         | true =>
          have HV := Hyd (HK1.out.trans hKv); clear hKv; obtain ⟨i0, hi, hz0, hz1, hz2⟩ := info_parts infoRun; have y1 : w3.cell? ⟨X, 1, none⟩ = some (.slice a1 x.run.counts.length k1) := (Lib.cell_of_heap HXA.out.blk 1).trans rfl; have y2 : w3.cell? ⟨X, 2, none⟩ = some (.slice a2 x.run.evs.length k2) := (Lib.cell_of_heap HXA.out.blk 2).trans rfl; have y3 : w3.cell? ⟨X, 3, none⟩ = some (.bool x.run.blocked) := (Lib.cell_of_heap HXA.out.blk 3).trans rfl; have HO4 := Hyd (Reg.own_new (w := w3) (b := 0) (e := 47) (sz := 3) (n := 1) (cs := #[.slice a1 x.run.counts.length k1, .slice a2 x.run.evs.length k2, .bool x.run.blocked]) rfl (Nat.zero_le _) rfl (by unfold maxLen; omega)); have HI4 := Hyd (HI3.out.below (w' := w3.alloc (.cells #[.slice a1 x.run.counts.length k1, .slice a2 x.run.evs.length k2, .bool x.run.blocked] 47)) ((Below.refl _ _).alloc (Nat.le_refl _) _))
          have HX4 := Hyd (HXA.out.below (w' := w3.alloc (.cells #[.slice a1 x.run.counts.length k1, .slice a2 x.run.evs.length k2, .bool x.run.blocked] 47)) ((Below.refl _ _).alloc (Nat.le_refl _) _))
          go_wp2_with (at_builtin; refine Reg.wpList_append_src _ rfl (.tmp 146) (.tmp 149) 41 rfl w4.heap.size 0 47 i0 _ 3 56 Tryz.underlying41 hi hz0 hz1 hz2 rfl (by decide) _ _ ns.length 1 _ _ rfl HI4.out.n.own rfl HO4.out ?d1 ?d2 ?d3 ?d4 ?_)
          case d1 => exact ⟨rfl, rfl, rfl⟩
          case d2 => unfold maxLen; omega
          case d3 => omega
          case d4 => have := HI3.out.bel.size; omega
          intro v' w5 ho5 hg5 hv5; obtain ⟨na', nc', rfl⟩ := (Sl.of_own ho5).shape
          have HCN := Hyd (show CutN w4 Q #[.slice pa p.steps.length pc, .int .i64 p.within] wo.heap.size e (.slice (some ⟨sb, 0, none⟩) ls.length sc) ls (.slice (some ⟨rb, 0, none⟩) gs.length rc) gs (.slice ya ys.length yc) (.slice oa os.length oc) ys os X wb.heap.size x (.slice a1 x.run.counts.length k1) (.slice a2 x.run.evs.length k2) (.slice a3 xs.length k3) (.slice a4 x.done.length k4) xs (innR p e ((gs.map (·.2.2)).take j)).1 (.slice na' (ns.length + 1) nc') w5 from
           ⟨ns ++ [(.slice a1 x.run.counts.length k1, .slice a2 x.run.evs.length k2, x.run)], by rw [List.map_append, HNS.out, if_pos HV.out]; rfl, HI4.out.pushN (g := (.slice a1 x.run.counts.length k1, .slice a2 x.run.evs.length k2, x.run)) (HX4.out.own.le hWb) ho5 hg5 (by simpa using hv5), HX4.out.grown HI4.out.n.own hg5 (HX4.out.apart HRN.out (Nat.le_refl _))⟩)
          clear ho5 hg5 hv5 hi hz0 hz1 hz2 y1 y2 y3; go_wp2_with fail; go_meet; exact ⟨⟨_, _, _, rfl⟩, HCN.out⟩
        case rest =>
         obtain ⟨⟨na', nl, nc', rfl⟩, ns', hns', hin6, hx6⟩ := hcut
         obtain ⟨w6, rfl⟩ : ∃ w' : World, w' = wc := ⟨_, rfl⟩
         have HIN6 := Hyd hin6; have HX6 := Hyd hx6; have HNS6 := Hyd hns'; have HRY' := Hyd hin6.ry; have HNY' := Hyd hin6.ny
         have HRST := Hyd (show Rst w4 Q #[.slice pa p.steps.length pc, .int .i64 p.within] wo.heap.size e (.slice (some ⟨sb, 0, none⟩) ls.length sc) ls X x.keep (.slice a1 x.run.counts.length k1) (.slice a2 x.run.evs.length k2) x.run.blocked (.slice a3 xs.length k3) (.slice a4 x.done.length k4) gs ns' ys xs w6.drew from
          ⟨hin6.pl, hin6.ev, hin6.sl.drew, hx6.blk, fun g hg => by
           have h : OwnR w4.heap.size w6 g := by
            rcases hg with hg | hg | hg | hg
            ·exact hin6.r.els g hg
            ·exact hin6.n.els g hg
            ·exact hin6.y.els g hg
            ·exact (hx6.els g hg).le hWb
           exact ⟨h.1.drew, h.2.drew⟩⟩)
         have HXO := Hyd (show ∀ y ∈ cellsOf encR xs, y.oneCell' = true from RowR.one (H := wb.heap.size) (w := w6) (v := .slice a3 xs.length k3) ⟨hx6.row, hx6.els⟩)
         have hxl : xs.length <= 2 /\ x.done.length <= 2 := by
          have h1 := HOK.out.1.few1; have h2 := congrArg List.length hx6.gs; rw [List.length_map] at h2; exact ⟨by omega, HOK.out.1.few2⟩
         have hxl1 := hxl.1; have hxl2 := hxl.2; obtain ⟨i0, hi, hz0, hz1, hz2⟩ := info_parts infoRun; obtain ⟨i1, hj1, hy0, hy1, hy2⟩ := info_parts infoStr; clear hin6 hx6 hns' hxl; go_wp2_with fail
         refine Reg.inv_order (W := w4) (h := 8) (t := 2)
          [⟨0, 151, [], 99, [], none, fun v _ => v = .slice ya ys.length yc⟩,
           ⟨1, 152, [], 99, [], none, fun v _ => v = .pointer (some ⟨X, 4, none⟩)⟩,
           ⟨2, 153, [], 99, [], none, fun v _ => v = .slice a3 xs.length k3⟩,
           ⟨3, 154, [47], 99, [], some 47, fun v w' => w'.ownsRow w4.heap.size 47 3 v (ys.length + xs.length) (cellsOf encR ys ++ cellsOf encR xs) /\ Reg.Apart (.slice (some ⟨rb, 0, none⟩) gs.length rc) v /\ Reg.Apart (.slice na' nl nc') v⟩,
           ⟨4, 155, [], 99, [], none, fun v _ => v = .slice oa os.length oc⟩,
           ⟨5, 156, [], 99, [], none, fun v _ => v = .pointer (some ⟨X, 5, none⟩)⟩,
           ⟨6, 157, [], 99, [], none, fun v _ => v = .slice a4 x.done.length k4⟩,
           ⟨7, 158, [9], 99, [], some 9, fun v w' => w'.ownsRow w4.heap.size 9 1 v (os.length + x.done.length) (os.map strV ++ x.done.map strV)⟩]
          [⟨[47], 3, fun w' => w'.ownsRow w4.heap.size 47 3 (.slice ya ys.length yc) ys.length (cellsOf encR ys)⟩,
           ⟨[47], 3, fun w' => w'.ownsRow wb.heap.size 47 3 (.slice a3 xs.length k3) xs.length (cellsOf encR xs)⟩,
           ⟨[9], 7, fun w' => w'.ownsRow w4.heap.size 9 1 (.slice oa os.length oc) os.length (os.map strV)⟩,
           ⟨[9], 7, fun w' => w'.ownsRow wb.heap.size 9 1 (.slice a4 x.done.length k4) x.done.length (x.done.map strV)⟩,
           ⟨[49, 25, 44, 3], 99, fun w' => Rst w4 Q #[.slice pa p.steps.length pc, .int .i64 p.within] wo.heap.size e (.slice (some ⟨sb, 0, none⟩) ls.length sc) ls X x.keep (.slice a1 x.run.counts.length k1) (.slice a2 x.run.evs.length k2) x.run.blocked (.slice a3 xs.length k3) (.slice a4 x.done.length k4) gs ns' ys xs w'⟩]
          (fun w' => w'.ownsRow w4.heap.size 47 3 (.slice (some ⟨rb, 0, none⟩) gs.length rc) gs.length (cellsOf encR gs) /\ w'.ownsRow w4.heap.size 47 3 (.slice na' nl nc') ns'.length (cellsOf encR ns'))
          (by kernel_rfl) rfl (by kernel_rfl) (by kernel_rfl) (by kernel_rfl) (show [0, 1, 2, 3, 4, 5, 6, 7].Nodup by decide) (show ∀ i, i < 8 -> i ∈ [0, 1, 2, 3, 4, 5, 6, 7] by decide) ?_ (show [151, 152, 153, 154, 155, 156, 157, 158].Nodup by decide) (show ∀ s ∈ [151, 152, 153, 154, 155, 156, 157, 158], s < 187 by decide) (by kernel_rfl) ?_ ?_ HIN6.out.bel (⟨HIN6.out.r.own.drew, HIN6.out.n.own.drew⟩) ?_ ?_ ?_
         ·intro f hf
          simp only [List.mem_cons, List.not_mem_nil, or_false] at hf
          rcases hf with rfl | rfl | rfl | rfl | rfl | rfl | rfl | rfl <;> simp
         ·intro f hf v w1 w2 hk hF
          simp only [List.mem_cons, List.not_mem_nil, or_false] at hf
          rcases hf with rfl | rfl | rfl | rfl | rfl | rfl | rfl | rfl
          ·exact hF
          ·exact hF
          ·exact hF
          ·exact ⟨(hk 47 (by simp)).1 _ _ _ _ _ hF.1, hF.2⟩
          ·exact hF
          ·exact hF
          ·exact hF
          ·exact (hk 9 (by simp)).1 _ _ _ _ _ hF
         ·intro f hf w1 w2 hk hG
          simp only [List.mem_cons, List.not_mem_nil, or_false] at hf
          rcases hf with rfl | rfl | rfl | rfl | rfl
          ·exact (hk 47 (by simp)).1 _ _ _ _ _ hG
          ·exact (hk 47 (by simp)).1 _ _ _ _ _ hG
          ·exact (hk 9 (by simp)).1 _ _ _ _ _ hG
          ·exact (hk 9 (by simp)).1 _ _ _ _ _ hG
          ·exact hG.keeps (hk 49 (by simp)) (hk 25 (by simp)) (hk 44 (by simp)) (hk 3 (by simp))
         ·intro f hf
          simp only [List.mem_cons, List.not_mem_nil, or_false] at hf
          rcases hf with rfl | rfl | rfl | rfl | rfl
          ·exact HIN6.out.y.own.drew
          ·exact HX6.out.row.drew
          ·exact HIN6.out.o.drew
          ·exact HX6.out.done.drew
          ·exact HRST.out
         ·intro f hf a w1 hs hI hg' hst; have hst4 := hst _ (Reg.at_stand 4 rfl) (by simp [Reg.okTil]); have t10 : a.eval (.tmp 15) = .slice ya ys.length yc := Reg.eval_tmp ((hs.out 15 (show 15 ∉ [151, 152, 153, 154, 155, 156, 157, 158] by decide)).trans rfl); have t6 : a.eval (.tmp 11) = .slice oa os.length oc := Reg.eval_tmp ((hs.out 11 (show 11 ∉ [151, 152, 153, 154, 155, 156, 157, 158] by decide)).trans rfl); have t13 : a.eval (.tmp 21) = .pointer (some ⟨X, 0, none⟩) := Reg.eval_tmp ((hs.out 21 (show 21 ∉ [151, 152, 153, 154, 155, 156, 157, 158] by decide)).trans rfl)
          simp only [List.mem_cons, List.not_mem_nil, or_false] at hf
          rcases hf with rfl | rfl | rfl | rfl | rfl | rfl | rfl | rfl
          ·exact Reg.step_valI rfl rfl rfl (Reg.run_move t10) rfl hs.below hI
          ·exact Reg.step_valI rfl rfl rfl (Ord.run_fld t13 (fld_res2 w1 _)) rfl hs.below hI
          ·obtain ⟨v1, hv1, rfl⟩ : ∃ v, a.tmps[152]? = some v /\ v = .pointer (some ⟨X, 4, none⟩) := hg' _ (Reg.at_fact 1 rfl) (by kernel_rfl) (by simp [Reg.okTil])
           exact Reg.step_valI rfl rfl rfl (Reg.run_load (Reg.eval_tmp hv1) (load_runs ((Lib.cell_of_heap hst4.blk 4).trans rfl))) rfl hs.below hI
          ·obtain ⟨v1, hv1, rfl⟩ : ∃ v, a.tmps[151]? = some v /\ v = .slice ya ys.length yc := hg' _ (Reg.at_fact 0 rfl) (by kernel_rfl) (by simp [Reg.okTil])
           obtain ⟨v2, hv2, rfl⟩ : ∃ v, a.tmps[153]? = some v /\ v = .slice a3 xs.length k3 := hg' _ (Reg.at_fact 2 rfl) (by kernel_rfl) (by simp [Reg.okTil])
           have hs0 := hst _ (Reg.at_stand 0 rfl) (by simp [Reg.okTil]); have hs1 := hst _ (Reg.at_stand 1 rfl) (by simp [Reg.okTil]); refine Reg.step_appI rfl rfl rfl rfl hs.below Tryz.underlying41 hi hz0 hz1 hz2 rfl (by decide) hv1 hs0 hv2 hs1 HXO.out (by unfold maxLen; omega) (by omega) (Nat.le_refl _) hs.below.size (fun v' w' ho hgr hv => ?_); exact ⟨⟨ho, HRY'.out.grown hI.1 hv, HNY'.out.grown hI.2 hv⟩, Reg.own_apart hI.1 HRY'.out hgr, Reg.own_apart hI.2 HNY'.out hgr⟩
          ·exact Reg.step_valI rfl rfl rfl (Reg.run_move t6) rfl hs.below hI
          ·exact Reg.step_valI rfl rfl rfl (Ord.run_fld t13 (fld_res3 w1 _)) rfl hs.below hI
          ·obtain ⟨v1, hv1, rfl⟩ : ∃ v, a.tmps[156]? = some v /\ v = .pointer (some ⟨X, 5, none⟩) := hg' _ (Reg.at_fact 5 rfl) (by kernel_rfl) (by simp [Reg.okTil])
           exact Reg.step_valI rfl rfl rfl (Reg.run_load (Reg.eval_tmp hv1) (load_strs ((Lib.cell_of_heap hst4.blk 5).trans rfl))) rfl hs.below hI
          ·obtain ⟨v1, hv1, rfl⟩ : ∃ v, a.tmps[155]? = some v /\ v = .slice oa os.length oc := hg' _ (Reg.at_fact 4 rfl) (by kernel_rfl) (by simp [Reg.okTil])
           obtain ⟨v2, hv2, rfl⟩ : ∃ v, a.tmps[157]? = some v /\ v = .slice a4 x.done.length k4 := hg' _ (Reg.at_fact 6 rfl) (by kernel_rfl) (by simp [Reg.okTil])
           have hs0 := hst _ (Reg.at_stand 2 rfl) (by simp [Reg.okTil]); have hs1 := hst _ (Reg.at_stand 3 rfl) (by simp [Reg.okTil]); refine Reg.step_appI rfl rfl rfl rfl hs.below Tryz.underlying37 hj1 hy0 hy1 hy2 rfl (by decide) hv1 hs0 hv2 hs1 (strV_one _) (by unfold maxLen; omega) (by omega) (Nat.le_refl _) hs.below.size (fun v' w' ho hgr hv => ?_); have kk := Reg.Keeps.grown (show (47 : TypeId) ≠ 9 by decide) hs0 hgr; exact ⟨ho, kk.1 _ _ _ _ _ hI.1, kk.1 _ _ _ _ _ hI.2⟩
         ·intro vals w1 hF hfx hb1 hI; obtain ⟨h42, ha42, hb42⟩ : (fun v w' => w'.ownsRow w4.heap.size 47 3 v (ys.length + xs.length) (cellsOf encR ys ++ cellsOf encR xs) /\ Reg.Apart (.slice (some ⟨rb, 0, none⟩) gs.length rc) v /\ Reg.Apart (.slice na' nl nc') v) (vals 154) w1 := hF _ (Reg.at_fact 3 rfl) (show (8 + 2 : Nat) <= 99 by decide); have h46 : w1.ownsRow w4.heap.size 9 1 (vals 158) (os.length + x.done.length) (os.map strV ++ x.done.map strV) := hF _ (Reg.at_fact 7 rfl) (show (8 + 2 : Nat) <= 99 by decide); have hst4 := hfx _ (Reg.at_stand 4 rfl) (show (8 + 2 : Nat) <= 99 by decide); have HFIN := Hyd (show Inn w4 Q #[.slice pa p.steps.length pc, .int .i64 p.within] wo.heap.size e (.slice (some ⟨sb, 0, none⟩) ls.length sc) ls (.slice (some ⟨rb, 0, none⟩) gs.length rc) gs (.slice na' nl nc') (vals 154) (vals 158) ns' (ys ++ xs) (os ++ x.done) w1 from hst4.inn hb1 hI.1 hI.2 h42 h46 HIN6.out.rn ha42 hb42 hWb)
          have HREL := Hyd (show InnS w4 p Q #[.slice pa p.steps.length pc, .int .i64 p.within] wo.heap.size e (.slice (some ⟨sb, 0, none⟩) ls.length sc) ls (.slice (some ⟨rb, 0, none⟩) gs.length rc) gs os0 (vals 158) (.slice na' nl nc') (vals 154) (.int .i64 ((j : Int) + 1)) w1 from
           ⟨j + 1, by omega, by go_num, ns', ys ++ xs, by rw [HTJ.out, HXI.out]; exact HNS6.out, by rw [HTJ.out, HXI.out, List.map_append, HYS.out, HX6.out.gs], by
            rw [HTJ.out, HXI.out, <- List.append_assoc, HOSJ.out]; exact HFIN.out⟩)
          simp only [List.map_cons, List.map_nil]
          generalize vals 151 = q39 at HREL ⊢; generalize vals 152 = q40 at HREL ⊢; generalize vals 153 = q41 at HREL ⊢; generalize vals 154 = q42 at HREL ⊢; generalize vals 155 = q43 at HREL ⊢; generalize vals 156 = q44 at HREL ⊢; generalize vals 157 = q45 at HREL ⊢; generalize vals 158 = q46 at HREL ⊢; clear hF hfx h42 ha42 hb42 h46 hst4 hb1 hI HFIN; unfold Reg.puts Reg.puts Reg.puts Reg.puts Reg.puts Reg.puts Reg.puts Reg.puts Reg.puts; go_wp2_with fail; go_roundw
          case rel => exact HREL.out
          case measure => simp [intOf]; omega
     ·obtain rfl : j = gs.length := by omega
      rw [show (gs.map (·.2.2)).take gs.length = gs.map (·.2.2) from List.take_of_length_le (by simp)] at hns hys HOSJ
      obtain ⟨wo2, rfl⟩ : ∃ wo : World, wo = wr := ⟨_, rfl⟩
      have HINN := Hyd hinn; have HNS := Hyd hns; have HYS := Hyd hys; have hWb : w4.heap.size <= wo2.heap.size := hinn.bel.size; have HST := Hyd (start_any p (.slice pa p.steps.length pc) e w1.heap.size wo2 HOKP.out (HPL4.out.keep fun a ha => hinn.bel.cell (Nat.lt_of_lt_of_le ha hz14)) (by omega) HEK.out.1 HEK.out.2.2 (Tab.of_eq HT4.out (hinn.bel.block _ hg4)) (by omega)); have p0 : wo2.cell? ⟨Q, 0, none⟩ = some (.slice pa p.steps.length pc) := (Lib.cell_of_heap HINN.out.pl 0).trans rfl; have p1 : wo2.cell? ⟨Q, 1, none⟩ = some (.int .i64 p.within) := (Lib.cell_of_heap HINN.out.pl 1).trans rfl; have e0 : wo2.cell? ⟨wo.heap.size, 0, none⟩ = some (.int .i64 e.id) := (Lib.cell_of_heap HINN.out.ev 0).trans rfl; have e1 : wo2.cell? ⟨wo.heap.size, 1, none⟩ = some (.int .i64 e.time) := (Lib.cell_of_heap HINN.out.ev 1).trans rfl; have e2 : wo2.cell? ⟨wo.heap.size, 2, none⟩ = some (.int .u8 e.kind) := (Lib.cell_of_heap HINN.out.ev 2).trans rfl
      have e3 : wo2.cell? ⟨wo.heap.size, 3, none⟩ = some (.int .i64 e.val) := (Lib.cell_of_heap HINN.out.ev 3).trans rfl
      have HRUN := Hyd (show runA p (ls.take (k + 1)) = ((innR p e (gs.map (·.2.2))).1 ++ (innR p e (gs.map (·.2.2))).2.1 ++ (startR p e).grown, os ++ (startR p e).done) by
       rw [HTK.out, runA_snoc]; unfold stepA; rw [<- HGS.out, HOS.out, turnR_inn]
       simp only []
       rw [<- List.append_assoc, HOSJ.out])
      have HOK := Hyd (startR_ok p OkEv e HEK.out)
      have hnl : ns.length <= gs.length /\ ys.length <= 2 * gs.length /\ os.length <= 3 * 274877906944 := by
       have h2 := (innR_ok p OkEv k e HEK.out (gs.map (·.2.2)) (fun r' hr' => (HRK.out.1 r' (by rw [<- HGS.out]; exact hr')).more (by rw [List.length_take]; omega))).2.2; have h3 := congrArg List.length hns; have h4 := congrArg List.length hys; have h5 := congrArg List.length HOSJ.out; rw [List.length_append] at h5; rw [List.length_map] at h2 h3 h4
       omega
      have hnsl := hnl.1; have hysl := hnl.2.1; have hosl := hnl.2.2; clear hinn hns hys hnl; go_wp2_with fail; refine HST.out.mono ?_; rintro en w2 ⟨xv, rfl, hres, hb2⟩
      obtain ⟨x, hx⟩ : ∃ x, startR p e = x := ⟨_, rfl⟩
      have HXV := Hyd hx; rw [hx] at hres HRUN HOK; obtain ⟨c0, e0', gv, dv, xs, rfl, ho0, hxs, hgv, hxo, hdv⟩ := hres; obtain ⟨a1, k1, rfl⟩ := (Sl.of_own (show w2.ownsRow wo2.heap.size 3 1 c0 x.run.counts.length (cntV x.run.counts) from ho0.1)).shape; obtain ⟨a2, k2, rfl⟩ := (Sl.of_own (show w2.ownsRow wo2.heap.size 44 4 e0' x.run.evs.length (cellsOf encE x.run.evs) from ho0.2)).shape; obtain ⟨a3, k3, rfl⟩ := (Sl.of_own hgv).shape; obtain ⟨a4, k4, rfl⟩ := (Sl.of_own hdv).shape
      obtain ⟨w3, hw3⟩ : ∃ w3, w3 = w2.alloc (.cells #[.bool x.keep, .slice a1 x.run.counts.length k1, .slice a2 x.run.evs.length k2, .bool x.run.blocked, .slice a3 xs.length k3, .slice a4 x.done.length k4] 49) := ⟨_, rfl⟩
      have hb3 : Below w2.heap.size w2 w3 := by rw [hw3]; exact (Below.refl _ _).alloc (Nat.le_refl _) _
      have HW3 := Hyd hw3
      obtain ⟨X, hX⟩ : ∃ X, w2.heap.size = X := ⟨_, rfl⟩
      have HXA := Hyd (show XAt X wo2.heap.size x (.slice a1 x.run.counts.length k1) (.slice a2 x.run.evs.length k2) (.slice a3 xs.length k3) (.slice a4 x.done.length k4) xs w3 from
       ⟨by rw [hw3, <- hX]; exact heap_new rfl, ho0.below hb3, hxs, own_below hgv hb3, fun g hg => (hxo g hg).below hb3, own_below hdv hb3⟩)
      have HI3 := Hyd ((HINN.out.below hb2).below hb3); have HXX := Hyd hX
      have HRST := Hyd (show Rst w4 Q #[.slice pa p.steps.length pc, .int .i64 p.within] wo.heap.size e (.slice (some ⟨sb, 0, none⟩) ls.length sc) ls X x.keep (.slice a1 x.run.counts.length k1) (.slice a2 x.run.evs.length k2) x.run.blocked (.slice a3 xs.length k3) (.slice a4 x.done.length k4) [] ns ys xs w3.drew from
       ⟨HI3.out.pl, HI3.out.ev, HI3.out.sl.drew, HXA.out.blk, fun g hg => by
        have h : OwnR w4.heap.size w3 g := by
         rcases hg with hg | hg | hg | hg
         ·cases hg
         ·exact HI3.out.n.els g hg
         ·exact HI3.out.y.els g hg
         ·exact (HXA.out.els g hg).le hWb
        exact ⟨h.1.drew, h.2.drew⟩⟩)
      have HXO := Hyd (show ∀ y ∈ cellsOf encR xs, y.oneCell' = true from RowR.one (H := wo2.heap.size) (w := w3) (v := .slice a3 xs.length k3) ⟨HXA.out.row, HXA.out.els⟩); have HYO := Hyd (show ∀ y ∈ cellsOf encR ys, y.oneCell' = true from RowR.one HI3.out.y); have HGN := Hyd (HXA.out.apart HINN.out.n.own (Nat.le_refl _))
      have hxl : xs.length <= 1 /\ x.done.length <= 1 := by
       have h1 := HOK.out.2.1; have h2 := congrArg List.length hxs; rw [List.length_map] at h2; exact ⟨by omega, HOK.out.2.2⟩
      have hxl1 := hxl.1; have hxl2 := hxl.2; obtain ⟨i0, hi, hz0, hz1, hz2⟩ := info_parts infoRun; obtain ⟨i1, hj1, hy0, hy1, hy2⟩ := info_parts infoStr; clear hx ho0 hxs hgv hxo hdv hw3 hb2 hb3 p0 p1 e0 e1 e2 e3 hX hxl
      have q0 : w3.cell? ⟨X, 0, none⟩ = some (.bool false) := by
       have h0 : x.keep = false := by rw [<- HXV.out]; exact start_keep
       have h1 := Lib.cell_of_heap HXA.out.blk 0; rw [h0] at h1; exact h1
      have q4 : w3.cell? ⟨X, 4, none⟩ = some (.slice a3 xs.length k3) := (Lib.cell_of_heap HXA.out.blk 4).trans rfl; have hd1 : decide ((1 : Int) < ((xs.length : Nat) : Int)) = false := decide_eq_false (by omega)
      go_upto_region 26 with (fail)
      rw [<- HW3.out, HXX.out]
      go_upto_region 28 with (fail)
      clear q0 q4 hd1
      refine Reg.inv_order (W := w4) (h := 10) (t := 2)
       [⟨0, 171, [], 99, [], none, fun v _ => v = .slice na ns.length nc⟩,
        ⟨1, 172, [], 99, [], none, fun v _ => v = .slice ya ys.length yc⟩,
        ⟨2, 173, [47], 5, [], some 47, fun v w' => w'.ownsRow w4.heap.size 47 3 v (ns.length + ys.length) (cellsOf encR ns ++ cellsOf encR ys) /\ Reg.Apart (.slice a3 xs.length k3) v⟩,
        ⟨3, 174, [], 99, [], none, fun v _ => v = .pointer (some ⟨X, 4, none⟩)⟩,
        ⟨4, 175, [], 99, [], none, fun v _ => v = .slice a3 xs.length k3⟩,
        ⟨5, 176, [47], 99, [], some 47, fun v w' => w'.ownsRow w4.heap.size 47 3 v (ns.length + ys.length + xs.length) ((cellsOf encR ns ++ cellsOf encR ys) ++ cellsOf encR xs)⟩,
        ⟨6, 177, [], 99, [], none, fun v _ => v = .slice oa os.length oc⟩,
        ⟨7, 178, [], 99, [], none, fun v _ => v = .pointer (some ⟨X, 5, none⟩)⟩,
        ⟨8, 179, [], 99, [], none, fun v _ => v = .slice a4 x.done.length k4⟩,
        ⟨9, 180, [9], 99, [], some 9, fun v w' => w'.ownsRow w4.heap.size 9 1 v (os.length + x.done.length) (os.map strV ++ x.done.map strV)⟩]
       [⟨[47], 2, fun w' => w'.ownsRow w4.heap.size 47 3 (.slice na ns.length nc) ns.length (cellsOf encR ns)⟩,
        ⟨[47], 2, fun w' => w'.ownsRow w4.heap.size 47 3 (.slice ya ys.length yc) ys.length (cellsOf encR ys)⟩,
        ⟨[9], 9, fun w' => w'.ownsRow w4.heap.size 9 1 (.slice oa os.length oc) os.length (os.map strV)⟩,
        ⟨[9], 9, fun w' => w'.ownsRow wo2.heap.size 9 1 (.slice a4 x.done.length k4) x.done.length (x.done.map strV)⟩,
        ⟨[49, 25, 44, 3], 99, fun w' => Rst w4 Q #[.slice pa p.steps.length pc, .int .i64 p.within] wo.heap.size e (.slice (some ⟨sb, 0, none⟩) ls.length sc) ls X x.keep (.slice a1 x.run.counts.length k1) (.slice a2 x.run.evs.length k2) x.run.blocked (.slice a3 xs.length k3) (.slice a4 x.done.length k4) [] ns ys xs w'⟩]
       (fun w' => w'.ownsRow wo2.heap.size 47 3 (.slice a3 xs.length k3) xs.length (cellsOf encR xs))
       (by kernel_rfl) rfl (by kernel_rfl) (by kernel_rfl) (by kernel_rfl) (show [0, 1, 2, 3, 4, 5, 6, 7, 8, 9].Nodup by decide) (show ∀ i, i < 10 -> i ∈ [0, 1, 2, 3, 4, 5, 6, 7, 8, 9] by decide) ?_ (show [171, 172, 173, 174, 175, 176, 177, 178, 179, 180].Nodup by decide) (show ∀ s ∈ [171, 172, 173, 174, 175, 176, 177, 178, 179, 180], s < 187 by decide) (by kernel_rfl) ?_ ?_ HI3.out.bel (HXA.out.row.drew) ?_ ?_ ?_
      ·intro f hf
       simp only [List.mem_cons, List.not_mem_nil, or_false] at hf
       rcases hf with rfl | rfl | rfl | rfl | rfl | rfl | rfl | rfl | rfl | rfl <;> simp
      ·intro f hf v w1 w2 hk hF
       simp only [List.mem_cons, List.not_mem_nil, or_false] at hf
       rcases hf with rfl | rfl | rfl | rfl | rfl | rfl | rfl | rfl | rfl | rfl
       ·exact hF
       ·exact hF
       ·exact ⟨(hk 47 (by simp)).1 _ _ _ _ _ hF.1, hF.2⟩
       ·exact hF
       ·exact hF
       ·exact (hk 47 (by simp)).1 _ _ _ _ _ hF
       ·exact hF
       ·exact hF
       ·exact hF
       ·exact (hk 9 (by simp)).1 _ _ _ _ _ hF
      ·intro f hf w1 w2 hk hG
       simp only [List.mem_cons, List.not_mem_nil, or_false] at hf
       rcases hf with rfl | rfl | rfl | rfl | rfl
       ·exact (hk 47 (by simp)).1 _ _ _ _ _ hG
       ·exact (hk 47 (by simp)).1 _ _ _ _ _ hG
       ·exact (hk 9 (by simp)).1 _ _ _ _ _ hG
       ·exact (hk 9 (by simp)).1 _ _ _ _ _ hG
       ·exact hG.keeps (hk 49 (by simp)) (hk 25 (by simp)) (hk 44 (by simp)) (hk 3 (by simp))
      ·intro f hf
       simp only [List.mem_cons, List.not_mem_nil, or_false] at hf
       rcases hf with rfl | rfl | rfl | rfl | rfl
       ·exact HI3.out.n.own.drew
       ·exact HI3.out.y.own.drew
       ·exact HI3.out.o.drew
       ·exact HXA.out.done.drew
       ·exact HRST.out
      ·intro f hf a w1 hs hI hg' hst; have hst4 := hst _ (Reg.at_stand 4 rfl) (by simp [Reg.okTil]); have t9 : a.eval (.tmp 14) = .slice na ns.length nc := Reg.eval_tmp ((hs.out 14 (show 14 ∉ [171, 172, 173, 174, 175, 176, 177, 178, 179, 180] by decide)).trans rfl); have t10 : a.eval (.tmp 15) = .slice ya ys.length yc := Reg.eval_tmp ((hs.out 15 (show 15 ∉ [171, 172, 173, 174, 175, 176, 177, 178, 179, 180] by decide)).trans rfl); have t6 : a.eval (.tmp 11) = .slice oa os.length oc := Reg.eval_tmp ((hs.out 11 (show 11 ∉ [171, 172, 173, 174, 175, 176, 177, 178, 179, 180] by decide)).trans rfl); have t14 : a.eval (.tmp 22) = .pointer (some ⟨X, 0, none⟩) := Reg.eval_tmp ((hs.out 22 (show 22 ∉ [171, 172, 173, 174, 175, 176, 177, 178, 179, 180] by decide)).trans rfl)
       simp only [List.mem_cons, List.not_mem_nil, or_false] at hf
       rcases hf with rfl | rfl | rfl | rfl | rfl | rfl | rfl | rfl | rfl | rfl
       ·exact Reg.step_valI rfl rfl rfl (Reg.run_move t9) rfl hs.below hI
       ·exact Reg.step_valI rfl rfl rfl (Reg.run_move t10) rfl hs.below hI
       ·obtain ⟨v1, hv1, rfl⟩ : ∃ v, a.tmps[171]? = some v /\ v = .slice na ns.length nc := hg' _ (Reg.at_fact 0 rfl) (by kernel_rfl) (by simp [Reg.okTil])
        obtain ⟨v2, hv2, rfl⟩ : ∃ v, a.tmps[172]? = some v /\ v = .slice ya ys.length yc := hg' _ (Reg.at_fact 1 rfl) (by kernel_rfl) (by simp [Reg.okTil])
        have hs0 := hst _ (Reg.at_stand 0 rfl) (by simp [Reg.okTil]); have hs1 := hst _ (Reg.at_stand 1 rfl) (by simp [Reg.okTil]); refine Reg.step_appI rfl rfl rfl rfl hs.below Tryz.underlying41 hi hz0 hz1 hz2 rfl (by decide) hv1 hs0 hv2 hs1 HYO.out (by unfold maxLen; omega) (by omega) (Nat.le_refl _) hs.below.size (fun v' w' ho hgr hv => ?_); exact ⟨⟨ho, HGN.out.grown hI hv⟩, Reg.own_apart hI HGN.out hgr⟩
       ·exact Reg.step_valI rfl rfl rfl (Ord.run_fld t14 (fld_res2 w1 _)) rfl hs.below hI
       ·obtain ⟨v1, hv1, rfl⟩ : ∃ v, a.tmps[174]? = some v /\ v = .pointer (some ⟨X, 4, none⟩) := hg' _ (Reg.at_fact 3 rfl) (by kernel_rfl) (by simp [Reg.okTil])
        exact Reg.step_valI rfl rfl rfl (Reg.run_load (Reg.eval_tmp hv1) (load_runs ((Lib.cell_of_heap hst4.blk 4).trans rfl))) rfl hs.below hI
       ·obtain ⟨v1, hv1, ho1, ha1⟩ : ∃ v, a.tmps[173]? = some v /\ w1.ownsRow w4.heap.size 47 3 v (ns.length + ys.length) (cellsOf encR ns ++ cellsOf encR ys) /\ Reg.Apart (.slice a3 xs.length k3) v := hg' _ (Reg.at_fact 2 rfl) (by kernel_rfl) (by simp [Reg.okTil])
        obtain ⟨v2, hv2, rfl⟩ : ∃ v, a.tmps[175]? = some v /\ v = .slice a3 xs.length k3 := hg' _ (Reg.at_fact 4 rfl) (by kernel_rfl) (by simp [Reg.okTil])
        refine Reg.step_appI rfl rfl rfl rfl hs.below Tryz.underlying41 hi hz0 hz1 hz2 rfl (by decide) hv1 ho1 hv2 hI HXO.out (by unfold maxLen; omega) (by omega) (Nat.le_refl _) hs.below.size (fun v' w' ho hgr hv => ?_); exact ⟨ho, Reg.own_apart hI ha1 hgr⟩
       ·exact Reg.step_valI rfl rfl rfl (Reg.run_move t6) rfl hs.below hI
       ·exact Reg.step_valI rfl rfl rfl (Ord.run_fld t14 (fld_res3 w1 _)) rfl hs.below hI
       ·obtain ⟨v1, hv1, rfl⟩ : ∃ v, a.tmps[178]? = some v /\ v = .pointer (some ⟨X, 5, none⟩) := hg' _ (Reg.at_fact 7 rfl) (by kernel_rfl) (by simp [Reg.okTil])
        exact Reg.step_valI rfl rfl rfl (Reg.run_load (Reg.eval_tmp hv1) (load_strs ((Lib.cell_of_heap hst4.blk 5).trans rfl))) rfl hs.below hI
       ·obtain ⟨v1, hv1, rfl⟩ : ∃ v, a.tmps[177]? = some v /\ v = .slice oa os.length oc := hg' _ (Reg.at_fact 6 rfl) (by kernel_rfl) (by simp [Reg.okTil])
        obtain ⟨v2, hv2, rfl⟩ : ∃ v, a.tmps[179]? = some v /\ v = .slice a4 x.done.length k4 := hg' _ (Reg.at_fact 8 rfl) (by kernel_rfl) (by simp [Reg.okTil])
        have hs0 := hst _ (Reg.at_stand 2 rfl) (by simp [Reg.okTil]); have hs1 := hst _ (Reg.at_stand 3 rfl) (by simp [Reg.okTil]); refine Reg.step_appI rfl rfl rfl rfl hs.below Tryz.underlying37 hj1 hy0 hy1 hy2 rfl (by decide) hv1 hs0 hv2 hs1 (strV_one _) (by unfold maxLen; omega) (by omega) (Nat.le_refl _) hs.below.size (fun v' w' ho hgr hv => ?_); have kk := Reg.Keeps.grown (show (47 : TypeId) ≠ 9 by decide) hs0 hgr; exact ⟨ho, kk.1 _ _ _ _ _ hI⟩
      ·intro vals w1 hF hfx hb1 hI; have h56 : w1.ownsRow w4.heap.size 47 3 (vals 176) (ns.length + ys.length + xs.length) ((cellsOf encR ns ++ cellsOf encR ys) ++ cellsOf encR xs) := hF _ (Reg.at_fact 5 rfl) (show (10 + 2 : Nat) <= 99 by decide); have h60 : w1.ownsRow w4.heap.size 9 1 (vals 180) (os.length + x.done.length) (os.map strV ++ x.done.map strV) := hF _ (Reg.at_fact 9 rfl) (show (10 + 2 : Nat) <= 99 by decide); have hst4 := hfx _ (Reg.at_stand 4 rfl) (show (10 + 2 : Nat) <= 99 by decide)
       have HREL := Hyd (show AllS w4 p Q #[.slice pa p.steps.length pc, .int .i64 p.within] (.slice (some ⟨sb, 0, none⟩) ls.length sc) ls (vals 176) (vals 180) (.int .i64 ((k : Int) + 1)) w1 from
        ⟨k + 1, by omega, by go_num, hb1, hst4.pl, hst4.sl, ns ++ ys ++ xs, by rw [HRUN.out, List.map_append, List.map_append, HNS.out, HYS.out, HXA.out.gs], ⟨by
         rw [List.length_append, List.length_append, show cellsOf encR (ns ++ ys ++ xs) = (cellsOf encR ns ++ cellsOf encR ys) ++ cellsOf encR xs by simp [cellsOf]]; exact h56, fun g hg => by
         rcases List.mem_append.1 hg with hg | hg
         ·rcases List.mem_append.1 hg with hg | hg
          ·exact hst4.els g (.inr (.inl hg))
          ·exact hst4.els g (.inr (.inr (.inl hg)))
         ·exact hst4.els g (.inr (.inr (.inr hg)))⟩, by
         rw [HRUN.out]; simp only []; rw [List.length_append, List.map_append]; exact h60⟩)
       simp only [List.map_cons, List.map_nil]
       generalize vals 171 = q51 at HREL ⊢; generalize vals 172 = q52 at HREL ⊢; generalize vals 173 = q53 at HREL ⊢; generalize vals 174 = q54 at HREL ⊢; generalize vals 175 = q55 at HREL ⊢; generalize vals 176 = q56 at HREL ⊢; generalize vals 177 = q57 at HREL ⊢; generalize vals 178 = q58 at HREL ⊢; generalize vals 179 = q59 at HREL ⊢; generalize vals 180 = q60 at HREL ⊢; clear hF hfx h56 h60 hst4 hb1 hI; unfold Reg.puts Reg.puts Reg.puts Reg.puts Reg.puts Reg.puts Reg.puts Reg.puts Reg.puts Reg.puts Reg.puts; go_wp2_with fail; go_roundw
       case rel => exact HREL.out
       case measure => simp [intOf]; omega
   ·obtain rfl : k = ls.length := by omega
    rw [List.take_length] at hout; obtain ⟨oa, oc, rfl⟩ := (Sl.of_own hout).shape
    obtain ⟨w6, rfl⟩ : ∃ w : World, w = wr := ⟨_, rfl⟩
    have HO6 := Hyd hout; have HB6 := Hyd hb; have HCA := Hyd (runAll_any p (.slice pa p.steps.length pc) (.slice aa E.length ac) E w1.heap.size w6 HOKP.out (by omega) (HPL4.out.keep fun a ha => hb.cell (Nat.lt_of_lt_of_le ha hz14)) (Nat.le_trans hz14 hb.size) (Sl.of_own (own_below HOA.out hb)) (Lit.of_own (own_below HOA.out hb)) (by omega) HEO.out (Tab.of_eq HT4.out (hb.block _ hg4)) (by have := hb.size; omega)); have p0 : w6.cell? ⟨Q, 0, none⟩ = some (.slice pa p.steps.length pc) := (Lib.cell_of_heap hpb 0).trans rfl; have p1 : w6.cell? ⟨Q, 1, none⟩ = some (.int .i64 p.within) := (Lib.cell_of_heap hpb 1).trans rfl; clear hb hpb hsl hgs hrow hout; go_wp2_with fail; refine HCA.out.mono ?_; rintro en w7 ⟨v2, ls2, rfl, hp2, hs2, ho2, hb7⟩; obtain ⟨oa2, oc2, rfl⟩ := (Sl.of_own ho2).shape; have hls : ls = ls2 := sort_eq HPERM.out hp2 HSORT.out hs2 HED.out; subst hls
    have hrl : (runA p ls).2.length <= 9223372036854775807 := by
     have h1 := (runA_ok p OkEv ls fun e he => HE2.out e he).2.2; have h3 : 4 ^ ls.length <= 4 ^ 19 := Nat.pow_le_pow_right (by omega) hlen
     have h4 : 4 ^ 19 = 274877906944 := by decide
     omega
    have HEQ := Hyd (equal_any _ _ (runA p ls).2 (runA p ls).2 w7 (Sl.of_own (own_below HO6.out hb7)) (Sl.of_own ho2) hrl hrl); have HB7 := Hyd (HB4.out.trans ((HB6.out.trans (hb7.mono HB6.out.size)).mono HB4.out.size)); clear p0 p1 hp2 hs2 ho2 hb7 hrl; go_wp2_with fail; refine HEQ.out.mono ?_; rintro en w8 ⟨rfl, hg8⟩; have HB8 := Hyd (HB7.out.trans (hg8.below.mono HB7.out.size)); clear hg8
    simp only [decide_true]
    go_wp2_with fail; go_ret; exact ⟨rfl, HB8.out⟩
end Go.Proofs.YtcojnojdgigmdaaGreatDoor.WSt
