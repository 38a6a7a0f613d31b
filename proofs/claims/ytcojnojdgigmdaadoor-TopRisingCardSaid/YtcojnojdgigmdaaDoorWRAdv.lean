/- The walk of run.Advance: what becomes of a run with an event more. -/
import Derived.Test.YtcojnojdgigmdaaDoorB10
import Derived.IntWalk
namespace Go.Proofs.YtcojnojdgigmdaaDoor.WR
open Go Go.RowKit Go.Sort Go.Proofs.YtcojnojdgigmdaaDoor Go.Proofs.YtcojnojdgigmdaaDoor.PL Go.Proofs.YtcojnojdgigmdaaDoor.PR Go.Proofs.YtcojnojdgigmdaaDoor.Mem Go.Proofs.YtcojnojdgigmdaaDoor.WS

/-- What Advance's frame holds: its boxes, from block H on. -/
structure Box (H : Nat) (ps cv ev : Value) (wi : Int) (bl : Bool) (e : Ev) (L : Nat) (w : World) : Prop where
  pl : w.heap[H]? = some (.cells #[ps, .int .i64 wi] 25 (0, 0))
  rn : w.heap[H + 1]? = some (.cells #[cv, ev, .bool bl] 56 (0, 0))
  evt : w.heap[H + 2]? = some (.cells #[.int .i64 e.id, .int .i64 e.time, .int .u8 e.kind, .int .i64 e.val] 37 (0, 0))
  att : w.heap[H + 4]? = some (.cells #[.int .i64 L] 3 (0, 0))
theorem heap_grown {w : World} {b : Nat} {o : Obj} (h : w.heap[b]? = some o) (n : Nat) (os : Array Obj) : (grow (w.drewN n) os).heap[b]? = some o :=
  (heap_grow_old (w.drewN n) os (heap_lt h)).trans h
theorem Box.grw {H : Nat} {ps cv ev : Value} {wi : Int} {bl : Bool} {e : Ev} {L : Nat} {w w' : World} (h : Box H ps cv ev wi bl e L w) (hg : Grw w w') : Box H ps cv ev wi bl e L w' :=
  ⟨(hg.below.block _ (heap_lt h.pl)).trans h.pl, (hg.below.block _ (heap_lt h.rn)).trans h.rn, (hg.below.block _ (heap_lt h.evt)).trans h.evt, (hg.below.block _ (heap_lt h.att)).trans h.att⟩
theorem Box.below {H : Nat} {ps cv ev : Value} {wi : Int} {bl : Bool} {e : Ev} {L : Nat} {w w' : World} (h : Box H ps cv ev wi bl e L w) (hg : Below w.heap.size w w') : Box H ps cv ev wi bl e L w' :=
  ⟨(hg.block _ (heap_lt h.pl)).trans h.pl, (hg.block _ (heap_lt h.rn)).trans h.rn, (hg.block _ (heap_lt h.evt)).trans h.evt, (hg.block _ (heap_lt h.att)).trans h.att⟩
/-- What becomes of a run, by the count of its last step, that step's place, and the step. -/
def adv1 (p : RPlan) (r : RRun) (e : Ev) (N L : Nat) (s : RPos) : RRes := if (N : Int) < s.hi ∧ fitsS s r L e = true then addR p noRes (withR r L e) else noRes
def adv2 (p : RPlan) (r : RRun) (e : Ev) (N L : Nat) (s : RPos) : RRes := match p.steps[L + 1]? with
  | none => adv1 p r e N L s
  | some s2 => if s.lo ≤ (N : Int) ∧ r.blocked = false ∧ fitsS s2 r (L + 1) e = true then addR p (adv1 p r e N L s) (withR r (L + 1) e) else adv1 p r e N L s
def adv3 (r : RRun) (e : Ev) (L : Nat) (s : RPos) : Bool := r.blocked || s.bars.any fun b => (e.kind == b.kind) && allT b.tests r L e
theorem advR_eq (p : RPlan) (r : RRun) (e : Ev) (N L : Nat) (s : RPos) (hN : r.counts.getLast? = some N) (hL : r.counts.length - 1 = L) (hs : p.steps[L]? = some s) :
    advR p r e = if untilR p r < e.time then noRes else ⟨true, ⟨r.counts, r.evs, adv3 r e L s⟩, (adv2 p r e N L s).grown, (adv2 p r e N L s).done⟩ := by
  subst hL
  unfold advR
  rw [hN]
  simp only []
  rw [hs]
  rfl

theorem res_adv {w : World} {B : Nat} {c0 c1 c2 c3 c4 c5 : Value} {tmps : Array Value} (h2 : tmps[6]? = some (.pointer (some ⟨B, 0, none⟩)))
    (e0 : w.cell? ⟨B, 0, none⟩ = some c0) (e1 : w.cell? ⟨B, 1, none⟩ = some c1) (e2 : w.cell? ⟨B, 2, none⟩ = some c2) (e3 : w.cell? ⟨B, 3, none⟩ = some c3) (e4 : w.cell? ⟨B, 4, none⟩ = some c4) (e5 : w.cell? ⟨B, 5, none⟩ = some c5) :
    (results Tryd.f29 tmps).run Tryd.prog w = .ok (.agg #[c0, c1, c2, c3, c4, c5]) w := by
  simp [results, Tryd.results29, go_sem, h2, e0, e1, e2, e3, e4, e5]
/-- Advance under way: of the runs and texts, so far, of x. -/
structure AdvS (H Bw : Nat) (x : RRes) (w0 w : World) : Prop where
  bel : BelX Bw (H + 3) w0 w
  res : ∃ gv dv gs, AddAt Bw (H + 3) false false (.slice none 0 0) (.slice none 0 0) gv dv gs.length (cellsOf encR gs) x.done w ∧ gs.map (·.2.2) = x.grown ∧ ∀ g ∈ gs, OwnR H w g
theorem Box.belX {H Bw : Nat} {ps cv ev : Value} {wi : Int} {bl : Bool} {e : Ev} {L : Nat} {w w' : World} (h : Box H ps cv ev wi bl e L w) (hg : BelX Bw (H + 3) w w') (hB : H + 5 ≤ Bw) : Box H ps cv ev wi bl e L w' :=
  ⟨(hg.blk _ (by omega) (by omega)).trans h.pl, (hg.blk _ (by omega) (by omega)).trans h.rn, (hg.blk _ (by omega) (by omega)).trans h.evt, (hg.blk _ (by omega) (by omega)).trans h.att⟩
theorem load_int {w : World} {g j : Nat} {n : Int} (h : w.cell? ⟨g, j, none⟩ = some (.int .i64 n)) : (Instr.loadAt 3 (.pointer (some ⟨g, j, none⟩))).run Tryd.prog w = .ok (.int .i64 n) w := by go_simp
theorem BelX.ofBelow {Bw X : Nat} {w w' : World} (h : Below w.heap.size w w') (hB : Bw ≤ w.heap.size) : BelX Bw X w w' :=
  ⟨h.os, h.tape, h.output, h.size, fun k hk _ => h.block k (Nat.lt_of_lt_of_le hk hB), Reg.Keeps.below _ h, Reg.Keeps.below _ h⟩
theorem AdvS.below {H Bw : Nat} {x : RRes} {w0 w w' : World} (h : AdvS H Bw x w0 w) (hb : Below w.heap.size w w') (hB : H + 5 ≤ Bw ∧ Bw ≤ w0.heap.size) : AdvS H Bw x w0 w' := by
  obtain ⟨gv, dv, gs, ha, h1, h2⟩ := h.res
  exact ⟨h.bel.trans (BelX.ofBelow hb (Nat.le_trans hB.2 h.bel.size)), gv, dv, gs, ⟨(hb.block _ (heap_lt ha.blk)).trans ha.blk, own_below ha.own1 hb, own_below ha.own2 hb⟩, h1, fun g hg => (h2 g hg).below hb⟩
theorem AdvS.begin {H Bw : Nat} {w : World} (h : w.heap[H + 3]? = some (.cells #[.bool false, .slice none 0 0, .slice none 0 0, .bool false, .slice none 0 0, .slice none 0 0] 86 (0, 0))) : AdvS H Bw noRes w w :=
  ⟨BelX.refl _ _ _, .slice none 0 0, .slice none 0 0, [], ⟨h, World.ownsRow_nil _ _ _ _, World.ownsRow_nil _ _ _ _⟩, rfl, fun g hg => by cases hg⟩
theorem AdvS.add {p : RPlan} {H Bw : Nat} {x : RRes} {w0 w : World} {gv dv cv ev : Value} {gs : List (Value × Value × RRun)} {r1 : RRun} (hb : BelX Bw (H + 3) w0 w)
    (hat : AddAt Bw (H + 3) false false (.slice none 0 0) (.slice none 0 0) gv dv (gs.length + if addGrown p r1 then 1 else 0) (cellsOf encR gs ++ if addGrown p r1 then [cv, ev, .bool false] else []) (x.done ++ if addDone p r1 then [textR r1] else []) w) (hbk : r1.blocked = false)
    (hgs : gs.map (·.2.2) = x.grown) (ho : ∀ g ∈ gs, OwnR H w g) (hr : OwnR H w (cv, ev, r1)) : AdvS H Bw (addR p x r1) w0 w := by
  refine ⟨hb, gv, dv, gs ++ (if addGrown p r1 then [(cv, ev, r1)] else []), ?_, ?_, ?_⟩
  · have e1 : (gs ++ (if addGrown p r1 then [(cv, ev, r1)] else [])).length = gs.length + if addGrown p r1 then 1 else 0 := by
      cases addGrown p r1 <;> simp
    have e2 : cellsOf encR (gs ++ (if addGrown p r1 then [(cv, ev, r1)] else [])) = cellsOf encR gs ++ if addGrown p r1 then [cv, ev, .bool false] else [] := by
      cases addGrown p r1
      · simp
      · simp [cellsOf, encR, hbk]
    rw [e1, e2]
    exact hat
  · rw [List.map_append, hgs]
    show _ = x.grown ++ if addGrown p r1 then [r1] else []
    cases addGrown p r1 <;> rfl
  · intro g hg
    rcases List.mem_append.1 hg with h | h
    · exact ho g h
    · cases hG : addGrown p r1 with
      | false => rw [hG] at h; cases h
      | true =>
        rw [hG] at h
        simp only [if_true, List.mem_cons, List.not_mem_nil, or_false] at h
        rw [h]; exact hr
theorem adv1_small (p : RPlan) (r : RRun) (e : Ev) (N L : Nat) (s : RPos) : (adv1 p r e N L s).grown.length ≤ 1 ∧ (adv1 p r e N L s).done.length ≤ 1 := by
  unfold adv1
  split
  · unfold addR noRes
    constructor
    · show (([] : List RRun) ++ _).length ≤ 1
      split <;> simp
    · show (([] : List (List UInt8)) ++ _).length ≤ 1
      split <;> simp
  · exact ⟨by decide, by decide⟩
/-- May the next step take the event? -/
def step2 (p : RPlan) (r : RRun) (e : Ev) (N L : Nat) (s : RPos) : Bool := match p.steps[L + 1]? with
  | none => false
  | some s2 => decide (s.lo ≤ (N : Int)) && (!r.blocked && fitsS s2 r (L + 1) e)
theorem adv2_eq (p : RPlan) (r : RRun) (e : Ev) (N L : Nat) (s : RPos) : adv2 p r e N L s = if step2 p r e N L s = true then addR p (adv1 p r e N L s) (withR r (L + 1) e) else adv1 p r e N L s := by
  unfold adv2 step2
  cases p.steps[L + 1]? with
  | none => rfl
  | some s2 =>
    by_cases h : s.lo ≤ (N : Int) <;> cases r.blocked <;> cases fitsS s2 r (L + 1) e <;> simp [h]
theorem Box.at_ {H : Nat} {ps cv ev : Value} {wi : Int} {bl : Bool} {e : Ev} {L : Nat} {w : World} (h : Box H ps cv ev wi bl e L w) : H < w.heap.size ∧ H + 1 < w.heap.size ∧ H + 2 < w.heap.size ∧ H + 4 < w.heap.size :=
  ⟨heap_lt h.pl, heap_lt h.rn, heap_lt h.evt, heap_lt h.att⟩
set_option maxRecDepth 100000 in
set_option maxHeartbeats 6400000 in
theorem adv_any (p : RPlan) (vs cv ev : Value) (r : RRun) (e : Ev) (B b2 : Nat) (W : World) (hp : OkP p) (hpl : PlnAt W B vs p.steps) (hB : B ≤ W.heap.size)
    (ho1 : W.ownsRow b2 3 1 cv r.counts.length (cntV r.counts)) (ho2 : W.ownsRow b2 37 4 ev r.evs.length (cellsOf encE r.evs)) (hw : WfR r) (hf : FitId r.evs) (hsE : SmE r.evs) (hsT : ∀ y ∈ r.evs, Sm y.time) (hl0 : 0 < r.counts.length) (hl1 : r.counts.length ≤ p.steps.length)
    (hr1 : r.evs.length < 1000000) (hr2 : r.counts.length < 1000000) (he : Sm e.val) (hid : -9223372036854775808 ≤ e.id ∧ e.id ≤ 9223372036854775807) (ht : Tab W) (hg : 0 < W.heap.size) :
    Calls Tryd.prog 29 #[.agg #[vs, .int .i64 p.within], .agg #[cv, ev, .bool r.blocked], evV e] W fun en w' => ∃ v, en = .returned v ∧ ResAt W.heap.size w' v (advR p r e) ∧ Below W.heap.size W w' := by
  have HPL := Lib.hid hpl
  obtain ⟨pa, pc, rfl, hpq⟩ := hpl
  have HLC := Lib.hid (Lit.of_own ho1); have HLE := Lib.hid (Lit.of_own ho2)
  obtain ⟨q, cq, rfl, _, hqlt⟩ := ho1.form hl0
  obtain ⟨ea, ec, rfl⟩ := (Sl.of_own ho2).shape
  have HRA := Lib.hid (show RunAt W W.heap.size (.agg #[.slice (some ⟨q, 0, none⟩) r.counts.length cq, .slice ea r.evs.length ec, .bool r.blocked]) r from ⟨_, _, rfl, Sl.of_own ho1, Sl.of_own ho2⟩)
  obtain ⟨L, hL⟩ : ∃ L, r.counts.length - 1 = L := ⟨_, rfl⟩
  have hLl : r.counts.length = L + 1 := by omega
  have hLp : L < p.steps.length := by omega
  have hcn : ∃ N : Nat, r.counts.getLast? = some N ∧ (cntV r.counts)[L]? = some (.int .i64 (N : Int)) ∧ N ≤ 1000000 := by
    refine ⟨r.counts.getD L 0, ?_, ?_, ?_⟩
    · rw [List.getLast?_eq_getElem?, hL, List.getD_eq_getElem?_getD, List.getElem?_eq_getElem (by omega)]; rfl
    · unfold cntV
      rw [List.getElem?_map, List.getD_eq_getElem?_getD, List.getElem?_eq_getElem (by omega)]; rfl
    · have := getD_le_sum r.counts L
      have h1 := hw.sum
      have h2 := hw.few
      omega
  obtain ⟨N, hN1, hN2, hN3⟩ := hcn
  have hsL : p.steps[L]? = some (p.steps[L]'hLp) := List.getElem?_eq_getElem hLp
  obtain ⟨b, o, hpa, hb, x0, x1, x2, ⟨vt, x3, hvt⟩, vb, x4, hvb⟩ := hpq L hLp
  obtain ⟨s, hs⟩ : ∃ s, p.steps[L]'hLp = s := ⟨_, rfl⟩
  rw [hs] at hsL x0 x1 x2 hvt hvb
  have HADV := Lib.hid (advR_eq p r e N L s hN1 hL hsL)
  have HSL := Lib.hid hsL
  have HSM := Lib.hid (show s ∈ p.steps by rw [← hs]; exact List.getElem_mem hLp)
  have HSG := Lib.hid (show ∀ h : L < p.steps.length, p.steps[L]'h = s from fun _ => hs)
  have xN : W.cell? ⟨q, L, none⟩ = some (.int .i64 (N : Int)) := by rw [ho1.cellAt L (by omega)]; exact hN2
  obtain ⟨wa, hwa⟩ : ∃ wa, wa = ((((W.alloc (.cells #[.slice pa p.steps.length pc, .int .i64 p.within] 25)).alloc (.cells #[.slice (some ⟨q, 0, none⟩) r.counts.length cq, .slice ea r.evs.length ec, .bool r.blocked] 56)).alloc (.cells #[.int .i64 e.id, .int .i64 e.time, .int .u8 e.kind, .int .i64 e.val] 37)).alloc (.cells #[.bool false, .slice none 0 0, .slice none 0 0, .bool false, .slice none 0 0, .slice none 0 0] 86)).alloc (.cells #[.int .i64 L] 3) := ⟨_, rfl⟩
  have hgr : Grw W wa := by rw [hwa]; exact (((((Grw.refl _).alloc _).alloc _).alloc _).alloc _).alloc _
  have HBO := Lib.hid (show Box W.heap.size (.slice pa p.steps.length pc) (.slice (some ⟨q, 0, none⟩) r.counts.length cq) (.slice ea r.evs.length ec) p.within r.blocked e L wa by
    rw [hwa]
    exact ⟨heap_alloc (heap_alloc (heap_alloc (heap_alloc (heap_new rfl)))), heap_alloc (heap_alloc (heap_alloc (heap_new (by simp)))), heap_alloc (heap_alloc (heap_new (by simp))), heap_new (by simp)⟩)
  have XZ := Lib.hid (show wa.heap[W.heap.size + 3]? = some (.cells #[.bool false, .slice none 0 0, .slice none 0 0, .bool false, .slice none 0 0, .slice none 0 0] 86 (0, 0)) by rw [hwa]; exact heap_alloc (heap_new (by simp)))
  have hza : wa.heap.size = W.heap.size + 5 := by rw [hwa]; simp
  have HZA := Lib.hid hza; have HGR := Lib.hid hgr; have HWA := Lib.hid hwa; have HLl := Lib.hid hLl
  have hps : p.steps.length ≤ 1000000 := hp.few
  have HT := Lib.hid ht; have HO1 := Lib.hid ho1; have HO2 := Lib.hid ho2; have HW := Lib.hid hw; have HF := Lib.hid hf; have HSE := Lib.hid hsE; have HST := Lib.hid hsT; have HPQ := Lib.hid hpq
  have yN := hgr.cell hqlt xN
  have hLm : (r.counts.length : Int) - 1 = (L : Int) := by omega
  have hL0 : (0 : Int) ≤ (L : Int) := by omega
  have hLs : L ≤ 1000000 := by omega
  have hLpi : (L : Int) < (p.steps.length : Int) := by omega
  have hLq : (L : Int) < (r.counts.length : Int) := by omega
  have hqw : q < W.heap.size := hqlt
  have hbW : b < W.heap.size := by omega
  have Y0 := Lib.hid (hgr.cell hbW x0); have Y1 := Lib.hid (hgr.cell hbW x1); have Y2 := Lib.hid (hgr.cell hbW x2); have Y3 := Lib.hid (hgr.cell hbW x3); have Y4 := Lib.hid (hgr.cell hbW x4)
  have HVT := Lib.hid hvt; have HVB := Lib.hid hvb
  subst hpa
  clear hgr hza ht ho1 ho2 hw hf hsE hsT hpq hL hN1 hN2 xN hwa hs hsL x0 x1 x2 x3 x4 hvt hvb hLl
  go_enter Tryd.func29, Tryd.ntmps29
  have mixed : Tryd.prog.follows .mixedOrders = true := by kernel_rfl
  go_upto_region 2 with (fail)
  rw [← HWA.out]
  obtain ⟨D, hD⟩ : ∃ D : Bool, decide (untilR p r < e.time) = D := ⟨_, rfl⟩
  have HD := Lib.hid hD
  clear hD
  go_cut [29] (fun s29 wx => s29 = .bool D ∧ Grw wa wx)
  case first =>
    have H1 : W.heap.size < wa.heap.size ∧ W.heap.size + 1 < wa.heap.size ∧ W.heap.size + 2 < wa.heap.size ∧ W.heap.size + 4 < wa.heap.size := by have := HZA.out; omega
    have a0 := Grw.cellG (b := W.heap.size + 4) H1.2.2.2 ((Lib.cell_of_heap HBO.out.att 0).trans rfl)
    have p0 := Grw.cellG (b := W.heap.size) H1.1 ((Lib.cell_of_heap HBO.out.pl 0).trans rfl)
    have p1 := Grw.cellG (b := W.heap.size) H1.1 ((Lib.cell_of_heap HBO.out.pl 1).trans rfl)
    have r0 := Grw.cellG (b := W.heap.size + 1) H1.2.1 ((Lib.cell_of_heap HBO.out.rn 0).trans rfl)
    have r1 := Grw.cellG (b := W.heap.size + 1) H1.2.1 ((Lib.cell_of_heap HBO.out.rn 1).trans rfl)
    have r2 := Grw.cellG (b := W.heap.size + 1) H1.2.1 ((Lib.cell_of_heap HBO.out.rn 2).trans rfl)
    have e1 := Grw.cellG (b := W.heap.size + 2) H1.2.2.1 ((Lib.cell_of_heap HBO.out.evt 1).trans rfl)
    have HU := Lib.hid (fun n os => until_any p (some ⟨b, o, none⟩) p.steps.length pc _ r W.heap.size (grow (wa.drewN n) os) (HRA.out.grw (Nat.le_refl _) (HGR.out.trans ⟨n, os, rfl⟩)) (by have h := (HGR.out.trans ⟨n, os, rfl⟩ : Grw W (grow (wa.drewN n) os)).size; exact h) hp.win HST.out)
    clear H1
    go_wp2_with fail
    go_quiet_grown (first | (go_at_call 55; exact Grw.grown (HU.out _ _)) | exact Grw.grown (HU.out _ _))
    go_wp2_with fail
    go_meet
    exact ⟨by rw [HD.out, decide_eq_false (show ¬ (L : Int) < 0 by omega), decide_eq_false (show ¬ p.steps.length ≤ L by omega)]; rfl, ⟨_, _, rfl⟩⟩
  case rest =>
    obtain ⟨rfl, hgx⟩ := hcut
    have BO := Lib.hid (HBO.out.grw hgx)
    have hl3 : W.heap.size + 3 < wa.heap.size := by have := HZA.out; omega
    have hzc := hgx.size
    have YZ := Lib.hid ((hgx.below.block _ hl3).trans XZ.out)
    have hbc : b < wa.heap.size := by have := HZA.out; omega
    have Z0 := Lib.hid (hgx.cell hbc Y0.out); have Z1 := Lib.hid (hgx.cell hbc Y1.out); have Z2 := Lib.hid (hgx.cell hbc Y2.out); have Z3 := Lib.hid (hgx.cell hbc Y3.out); have Z4 := Lib.hid (hgx.cell hbc Y4.out)
    have hqc : q < wa.heap.size := by have := HZA.out; omega
    have ZN := Lib.hid (hgx.cell hqc yN)
    have HGX := Lib.hid (HGR.out.trans hgx)
    clear hgx yN Y0 Y1 Y2 Y3 Y4 HBO XZ
    go_upto_if 29 with (fail)
    cases hDv : D with
    | true =>
      have HV := Lib.hid hDv
      clear hDv
      have z0 : wc.cell? ⟨W.heap.size + 3, 0, none⟩ = some (.bool false) := (Lib.cell_of_heap YZ.out 0).trans rfl
      have z1 : wc.cell? ⟨W.heap.size + 3, 1, none⟩ = some (.slice none 0 0) := (Lib.cell_of_heap YZ.out 1).trans rfl
      have z2 : wc.cell? ⟨W.heap.size + 3, 2, none⟩ = some (.slice none 0 0) := (Lib.cell_of_heap YZ.out 2).trans rfl
      have z3 : wc.cell? ⟨W.heap.size + 3, 3, none⟩ = some (.bool false) := (Lib.cell_of_heap YZ.out 3).trans rfl
      have z4 : wc.cell? ⟨W.heap.size + 3, 4, none⟩ = some (.slice none 0 0) := (Lib.cell_of_heap YZ.out 4).trans rfl
      have z5 : wc.cell? ⟨W.heap.size + 3, 5, none⟩ = some (.slice none 0 0) := (Lib.cell_of_heap YZ.out 5).trans rfl
      have f0 := frozen_of_row wc _ 0 _ _ YZ.out
      have f1 := frozen_of_row wc _ 1 _ _ YZ.out
      have f2 := frozen_of_row wc _ 2 _ _ YZ.out
      have f3 := frozen_of_row wc _ 3 _ _ YZ.out
      have f4 := frozen_of_row wc _ 4 _ _ YZ.out
      have f5 := frozen_of_row wc _ 5 _ _ YZ.out
      go_wp2_with fail
      have e2 : W.heap.size + 1 + 1 + 1 = W.heap.size + 3 := rfl
      rw [e2, resave YZ.out]
      refine bodyPost_ret (res_adv rfl z0 z1 z2 z3 z4 z5) rfl ⟨_, rfl, ?_, HGX.out.below⟩
      rw [HADV.out, if_pos (by have h := HD.out; rw [HV.out] at h; exact of_decide_eq_true h)]
      exact ResAt.none _ _
    | false =>
      have HV := Lib.hid hDv
      clear hDv
      have HADV2 := Lib.hid (HADV.out.trans (if_neg (by have h := HD.out; rw [HV.out] at h; exact of_decide_eq_false h)))
      obtain ⟨wb, rfl⟩ : ∃ w' : World, w' = wc := ⟨_, rfl⟩
      have a0 : wb.cell? ⟨W.heap.size + 4, 0, none⟩ = some (.int .i64 L) := (Lib.cell_of_heap BO.out.att 0).trans rfl
      have p0 : wb.cell? ⟨W.heap.size, 0, none⟩ = some (.slice (some ⟨b, o, none⟩) p.steps.length pc) := (Lib.cell_of_heap BO.out.pl 0).trans rfl
      have c0 := Z0.out; have c1 := Z1.out; have c2 := Z2.out; have c3 := Z3.out; have c4 := Z4.out
      obtain ⟨ta, tc, rfl⟩ := HVT.out.shape
      obtain ⟨ba, bc, rfl⟩ : ∃ a c, vb = .slice a s.bars.length c := by
        obtain ⟨a, c, h, _⟩ := HVB.out
        exact ⟨a, c, h⟩
      go_upto_region 5 with (fail)
      obtain ⟨wd, hwd⟩ : ∃ wd, wd = wb.alloc (.cells #[.int .u8 s.kind, .int .i64 s.lo, .int .i64 s.hi, .slice ta s.tests.length tc, .slice ba s.bars.length bc] 47) := ⟨_, rfl⟩
      rw [← hwd]
      have hgd : Grw wb wd := by rw [hwd]; exact (Grw.refl _).alloc _
      have BD := Lib.hid (BO.out.grw hgd)
      have PD := Lib.hid (show wd.heap[wb.heap.size]? = some (.cells #[.int .u8 s.kind, .int .i64 s.lo, .int .i64 s.hi, .slice ta s.tests.length tc, .slice ba s.bars.length bc] 47 (0, 0)) by rw [hwd]; exact heap_new rfl)
      have hzd : wd.heap.size = wb.heap.size + 1 := by rw [hwd]; simp
      have HZD := Lib.hid hzd
      have YD := Lib.hid ((hgd.below.block _ (heap_lt YZ.out)).trans YZ.out)
      have hqd : q < wb.heap.size := by omega
      have ND := Lib.hid (hgd.cell hqd ZN.out)
      have HGD := Lib.hid (HGX.out.trans hgd)
      clear hwd hgd hzd a0 p0 c0 c1 c2 c3 c4 Z0 Z1 Z2 Z3 Z4 ZN BO YZ
      obtain ⟨C1, hC1⟩ : ∃ C : Bool, (decide ((N : Int) < s.hi) && fitsS s r L e) = C := ⟨_, rfl⟩
      have HC1 := Lib.hid hC1
      clear hC1
      go_cut [50] (fun s50 wx => s50 = .bool C1 ∧ Grw wd wx)
      case first =>
        have hl1 : W.heap.size + 1 < wd.heap.size := heap_lt BD.out.rn
        have hl0 : W.heap.size < wd.heap.size := by omega
        have hl2 : W.heap.size + 2 < wd.heap.size := heap_lt BD.out.evt
        have hl4 : W.heap.size + 4 < wd.heap.size := heap_lt BD.out.att
        have hlp : wb.heap.size < wd.heap.size := heap_lt PD.out
        have hlq : q < wd.heap.size := by omega
        have a0 := Grw.cellG hl4 ((Lib.cell_of_heap BD.out.att 0).trans rfl)
        have p0 := Grw.cellG hl0 ((Lib.cell_of_heap BD.out.pl 0).trans rfl)
        have p1 := Grw.cellG hl0 ((Lib.cell_of_heap BD.out.pl 1).trans rfl)
        have r0 := Grw.cellG hl1 ((Lib.cell_of_heap BD.out.rn 0).trans rfl)
        have r1 := Grw.cellG hl1 ((Lib.cell_of_heap BD.out.rn 1).trans rfl)
        have r2 := Grw.cellG hl1 ((Lib.cell_of_heap BD.out.rn 2).trans rfl)
        have e0 := Grw.cellG hl2 ((Lib.cell_of_heap BD.out.evt 0).trans rfl)
        have e1 := Grw.cellG hl2 ((Lib.cell_of_heap BD.out.evt 1).trans rfl)
        have e2 := Grw.cellG hl2 ((Lib.cell_of_heap BD.out.evt 2).trans rfl)
        have e3 := Grw.cellG hl2 ((Lib.cell_of_heap BD.out.evt 3).trans rfl)
        have s2 := Grw.cellG hlp ((Lib.cell_of_heap PD.out 2).trans rfl)
        have cN := Grw.cellG hlq ND.out
        have HFT := Lib.hid (fun n os => (HSG.out hLp) ▸ fits_any p (.slice (some ⟨b, o, none⟩) p.steps.length pc) (.agg #[.slice (some ⟨q, 0, none⟩) r.counts.length cq, .slice ea r.evs.length ec, .bool r.blocked]) r L W.heap.size e (grow (wd.drewN n) os) hp
          ((HPL.out.more hB).grw (Nat.le_refl _) (HGD.out.trans ⟨n, os, rfl⟩)) hLp (HRA.out.grw (Nat.le_refl _) (HGD.out.trans ⟨n, os, rfl⟩)) (HGD.out.trans ⟨n, os, rfl⟩ : Grw W (grow (wd.drewN n) os)).size HW.out he HSE.out)
        by_cases hN : (N : Int) < s.hi
        · have hd : decide ((N : Int) < s.hi) = true := decide_eq_true hN
          have HF1 := Lib.hid (show C1 = fitsS s r L e by rw [← HC1.out, hd]; rfl)
          clear hl0 hl1 hl2 hl4 hlp hlq hN
          go_quiet_grown (first | (go_at_call 56; exact Grw.grown (HFT.out _ _)) | exact Grw.grown (HFT.out _ _))
          go_wp2_with fail
          go_meet
          exact ⟨by rw [HF1.out], ⟨_, _, rfl⟩⟩
        · have hd : decide ((N : Int) < s.hi) = false := decide_eq_false hN
          have HF1 := Lib.hid (show C1 = false by rw [← HC1.out, hd]; rfl)
          clear hl0 hl1 hl2 hl4 hlp hlq hN
          go_quiet_grown (fail)
          go_wp2_with fail
          go_meet
          exact ⟨by rw [HF1.out], ⟨_, _, rfl⟩⟩
      case rest =>
        obtain ⟨rfl, hgx⟩ := hcut
        obtain ⟨we, rfl⟩ : ∃ w' : World, w' = wc := ⟨_, rfl⟩
        have BX := Lib.hid (BD.out.grw hgx)
        have PX := Lib.hid ((hgx.below.block _ (heap_lt PD.out)).trans PD.out)
        have HGE := Lib.hid (HGD.out.trans hgx)
        have hqd2 : q < wd.heap.size := by have := HZD.out; omega
        have NX := Lib.hid (hgx.cell hqd2 ND.out)
        have ASX := Lib.hid (AdvS.begin (H := W.heap.size) (Bw := we.heap.size) ((hgx.below.block _ (heap_lt YD.out)).trans YD.out))
        have hwb : W.heap.size + 5 ≤ wb.heap.size := by have := HZA.out; omega
        have hzx := hgx.size
        have hPBe : wb.heap.size < we.heap.size := by have := HZD.out; omega
        have BXB := Lib.hid (show W.heap.size + 5 ≤ we.heap.size ∧ we.heap.size ≤ we.heap.size from ⟨by omega, Nat.le_refl _⟩)
        clear hgx BD PD ND YD
        obtain ⟨PB, hPB⟩ : ∃ PB, wb.heap.size = PB := ⟨_, rfl⟩
        rw [hPB] at PX hPBe hwb ⊢
        go_upto_if 50 with (fail)
        go_cut [8] (fun s8 wx => s8 = .pointer (some ⟨PB, 0, none⟩) ∧ AdvS W.heap.size we.heap.size (adv1 p r e N L s) we wx)
        case first =>
          have HA1 := Lib.hid (show adv1 p r e N L s = if C1 = true then addR p noRes (withR r L e) else noRes by
            rw [← HC1.out]
            unfold adv1
            by_cases h : (N : Int) < s.hi <;> cases fitsS s r L e <;> simp [h])
          cases hCv : C1 with
          | false =>
            have HV := Lib.hid hCv
            clear hCv
            go_wp2_with fail
            go_meet
            exact ⟨rfl, by rw [HA1.out, HV.out]; exact ASX.out⟩
          | true =>
            have HV := Lib.hid hCv
            clear hCv
            have HLL := Lib.hid (show L + 1 = r.counts.length by omega)
            have OROW := Lib.hid (show OwnR b2 we (.slice (some ⟨q, 0, none⟩) r.counts.length cq, .slice ea r.evs.length ec, r) from ⟨own_below HO1.out HGE.out.below, own_below HO2.out HGE.out.below⟩)
            have BWL := Lib.hid (Nat.le_refl we.heap.size)
            have SZX := Lib.hid HGE.out.size
            have PLX := fun (w1 : World) (hb : BelX we.heap.size (W.heap.size + 3) we w1) => HPL.out.keep (w' := w1) fun a ha => (World.cell?_of_block (hb.blk a.block (by omega) (by omega))).trans (HGE.out.below.cell (by omega))
            have TBX := fun (w1 : World) (hb : BelX we.heap.size (W.heap.size + 3) we w1) => (Tab.of_eq HT.out ((hb.blk _ (by omega) (by omega)).trans (HGE.out.below.block _ hg)) : Tab w1)
            have WLN := Lib.hid (show 0 < (withR r L e).counts.length ∧ (withR r L e).counts.length ≤ p.steps.length by
              have h : (withR r L e).counts.length = L + 1 := by
                show (List.set _ L _).length = _
                rw [List.length_set, if_neg (by omega)]; omega
              omega)
            have GSN := fun (gs : List (Value × Value × RRun)) (h : gs.map (·.2.2) = noRes.grown) => (show gs.length ≤ 1000000 by have := congrArg List.length h; rw [List.length_map] at this; rw [this]; decide)
            have DSN : noRes.done.length ≤ 1000000 := by decide
            go_wp2_with fail
            refine Reg.stand_order (W := we) (h := 5) (t := 1)
              [⟨0, 51, [], 99, [], none, fun v _ => v = .agg #[.slice (some ⟨b, o, none⟩) p.steps.length pc, .int .i64 p.within]⟩,
               ⟨1, 52, [], 99, [], none, fun v _ => v = .agg #[.slice (some ⟨q, 0, none⟩) r.counts.length cq, .slice ea r.evs.length ec, .bool r.blocked]⟩,
               ⟨2, 53, [], 99, [], none, fun v _ => v = .int .i64 (L : Int)⟩,
               ⟨3, 54, [], 99, [], none, fun v _ => v = evV e⟩,
               ⟨4, 55, [3, 37], 99, [], none, fun v w' => RunOwn we.heap.size w' v (withR r L e)⟩]
              []
              (by kernel_rfl) rfl (by kernel_rfl) (by kernel_rfl) (by kernel_rfl) (show [0, 1, 2, 3, 4].Nodup by decide) (show ∀ i, i < 5 → i ∈ [0, 1, 2, 3, 4] by decide) ?_ (show [51, 52, 53, 54, 55].Nodup by decide) (show ∀ s ∈ [51, 52, 53, 54, 55], s < 115 by decide) (by kernel_rfl) ?_ ?_ (Below.refl _ _) ?_ ?_ ?_
            · intro f hf
              simp only [List.mem_cons, List.not_mem_nil, or_false] at hf
              rcases hf with rfl | rfl | rfl | rfl | rfl <;> simp
            · intro f hf v w1 w2 hk hF
              simp only [List.mem_cons, List.not_mem_nil, or_false] at hf
              rcases hf with rfl | rfl | rfl | rfl | rfl
              · exact hF
              · exact hF
              · exact hF
              · exact hF
              · obtain ⟨cv, ev, e1, h1, h2⟩ := hF
                exact ⟨cv, ev, e1, (hk 3 (by simp)).1 _ _ _ _ _ h1, (hk 37 (by simp)).1 _ _ _ _ _ h2⟩
            · intro f hf; cases hf
            · intro f hf; cases hf
            · intro f hf a w1 hs hg' _
              have hxp := (hs.below.block _ (heap_lt BX.out.pl)).trans BX.out.pl
              have hxr := (hs.below.block _ (heap_lt BX.out.rn)).trans BX.out.rn
              have hxe := (hs.below.block _ (heap_lt BX.out.evt)).trans BX.out.evt
              have hxa := (hs.below.block _ (heap_lt BX.out.att)).trans BX.out.att
              have t3 : a.eval (.tmp 3) = .pointer (some ⟨W.heap.size, 0, none⟩) := Reg.eval_tmp ((hs.out 3 (show 3 ∉ [51, 52, 53, 54, 55] by decide)).trans rfl)
              have t4 : a.eval (.tmp 4) = .pointer (some ⟨W.heap.size + 1, 0, none⟩) := Reg.eval_tmp ((hs.out 4 (show 4 ∉ [51, 52, 53, 54, 55] by decide)).trans rfl)
              have t5 : a.eval (.tmp 5) = .pointer (some ⟨W.heap.size + 2, 0, none⟩) := Reg.eval_tmp ((hs.out 5 (show 5 ∉ [51, 52, 53, 54, 55] by decide)).trans rfl)
              have t7 : a.eval (.tmp 7) = .pointer (some ⟨W.heap.size + 4, 0, none⟩) := Reg.eval_tmp ((hs.out 7 (show 7 ∉ [51, 52, 53, 54, 55] by decide)).trans rfl)
              simp only [List.mem_cons, List.not_mem_nil, or_false] at hf
              rcases hf with rfl | rfl | rfl | rfl | rfl
              · exact Reg.step_val rfl rfl rfl (Reg.run_load t3 (load_plan hxp)) rfl hs.below (fun e => Reg.Keeps.refl e _)
              · exact Reg.step_val rfl rfl rfl (Reg.run_load t4 (load_run hxr)) rfl hs.below (fun e => Reg.Keeps.refl e _)
              · exact Reg.step_val rfl rfl rfl (Reg.run_load t7 (load_int ((Lib.cell_of_heap hxa 0).trans rfl))) rfl hs.below (fun e => Reg.Keeps.refl e _)
              · exact Reg.step_val rfl rfl rfl (Reg.run_load t5 (load_ev hxe)) rfl hs.below (fun e => Reg.Keeps.refl e _)
              · obtain ⟨v1, hv1, rfl⟩ : ∃ v, a.tmps[52]? = some v ∧ v = .agg #[.slice (some ⟨q, 0, none⟩) r.counts.length cq, .slice ea r.evs.length ec, .bool r.blocked] := hg' _ (Reg.at_fact 1 rfl) (by kernel_rfl) (by simp [Reg.okTil])
                obtain ⟨v2, hv2, rfl⟩ : ∃ v, a.tmps[53]? = some v ∧ v = .int .i64 (L : Int) := hg' _ (Reg.at_fact 2 rfl) (by kernel_rfl) (by simp [Reg.okTil])
                obtain ⟨v3, hv3, rfl⟩ : ∃ v, a.tmps[54]? = some v ∧ v = evV e := hg' _ (Reg.at_fact 3 rfl) (by kernel_rfl) (by simp [Reg.okTil])
                have u1 := Reg.eval_tmp hv1; have u2 := Reg.eval_tmp hv2; have u3 := Reg.eval_tmp hv3
                have hOR := OROW.out.below hs.below
                refine Reg.step_call (f := 58) (args := #[.agg #[.slice (some ⟨q, 0, none⟩) r.counts.length cq, .slice ea r.evs.length ec, .bool r.blocked], .int .i64 (L : Int), evV e]) rfl rfl rfl (by go_simp) hs.below ((with_any _ _ r (L) w1.heap.size e w1 ⟨_, _, rfl, Sl.of_own hOR.1, Sl.of_own hOR.2⟩ (Nat.le_refl _) HLC.out HLE.out HW.out (by have := HLL.out; omega)).mono ?_)
                rintro en w2 ⟨v', rfl, ho, hb⟩
                refine ⟨v', rfl, ?_, hb⟩
                obtain ⟨cv, ev, e1, h1, h2⟩ := ho
                exact ⟨cv, ev, e1, Joins.ownsRow_le h1 hs.below.size, Joins.ownsRow_le h2 hs.below.size⟩
            · intro vals w1 hF hfx hb1
              have e15 : vals 51 = .agg #[.slice (some ⟨b, o, none⟩) p.steps.length pc, .int .i64 p.within] := hF _ (Reg.at_fact 0 rfl) (show (5 + 1 : Nat) ≤ 99 by decide)
              obtain ⟨cv, ev, e18, ho1, ho2⟩ : RunOwn we.heap.size w1 (vals 55) (withR r L e) := hF _ (Reg.at_fact 4 rfl) (show (5 + 1 : Nat) ≤ 99 by decide)
              simp only [List.map_cons, List.map_nil, e15, e18]
              have hAS := ASX.out.below hb1 BXB.out
              obtain ⟨gv, dv, gs, hat, hgs, hog⟩ := hAS.res
              have HAD := Lib.hid (add_any p (.slice (some ⟨b, o, none⟩) p.steps.length pc) cv ev (withR r (L) e) B we.heap.size we.heap.size (W.heap.size + 3) false false (.slice none 0 0) (.slice none 0 0) gv dv gs.length (cellsOf encR gs) (noRes).done w1 hp
                (PLX w1 hAS.bel) (by have := BXB.out; omega) (by have := BWL.out; have := hAS.bel.size; omega) (by have := heap_lt hat.blk; exact this) (by omega) ho1 ho2 (HW.out.withR (by have := HLL.out; omega) hr1 hr2) (by
                  intro y hy
                  rcases List.mem_append.1 (show y ∈ r.evs ++ [e] from hy) with h | h
                  · exact HF.out y h
                  · rw [List.mem_singleton.1 h]; exact hid)
                (WLN.out.1) (WLN.out.2) (TBX w1 hAS.bel) (by have := BXB.out; omega) (by omega) hat (GSN _ hgs) DSN)
              have HO := Lib.hid (show OwnR W.heap.size w1 (cv, ev, withR r (L) e) from ⟨Joins.ownsRow_le ho1 SZX.out, Joins.ownsRow_le ho2 SZX.out⟩)
              generalize vals 52 = q52
              generalize vals 53 = q53
              generalize vals 54 = q54
              have hblk : (withR r (L) e).blocked = false := rfl
              rw [hblk] at HAD ⊢
              obtain ⟨cA, cK, rfl⟩ := (Sl.of_own ho1).shape
              obtain ⟨eA, eK, rfl⟩ := (Sl.of_own ho2).shape
              obtain ⟨r1, hr1⟩ : ∃ r1, withR r (L) e = r1 := ⟨_, rfl⟩
              rw [hr1] at HAD HO ⊢
              have HR1 := Lib.hid hr1
              have HBK := Lib.hid (show r1.blocked = false by rw [← hr1]; rfl)
              have HAS := Lib.hid hAS; have HGS := Lib.hid hgs; have HOG := Lib.hid hog
              clear hF hfx e15 e18 ho1 ho2 hb1 hr1 hblk hAS hgs hog hat
              unfold Reg.puts Reg.puts Reg.puts Reg.puts Reg.puts Reg.puts
              go_wp2_with fail
              refine HAD.out.mono ?_
              rintro en w2 ⟨rfl, hbx, gv', dv', hat⟩
              have HBX := Lib.hid hbx; have HAT := Lib.hid hat
              clear hbx hat
              go_wp2_with fail
              go_meet
              refine ⟨rfl, ?_⟩
              rw [HA1.out, HV.out, if_pos rfl, HR1.out]
              refine AdvS.add (HAS.out.bel.trans HBX.out) HAT.out HBK.out HGS.out (fun g hg => (HOG.out g hg).keeps HBX.out.ki HBX.out.ke) (HO.out.keeps HBX.out.ki HBX.out.ke)
        case rest =>
          obtain ⟨rfl, hAS1⟩ := hcut
          obtain ⟨wf, rfl⟩ : ∃ w' : World, w' = wc := ⟨_, rfl⟩
          have AS1 := Lib.hid hAS1
          have HWE := Lib.hid (Nat.le_trans HGE.out.size (Nat.le_refl _))
          have BF := Lib.hid (BX.out.belX hAS1.bel BXB.out.1)
          have PF := Lib.hid ((hAS1.bel.blk _ hPBe (by omega)).trans PX.out)
          have hqe : q < we.heap.size := by have := HWE.out; omega
          have NF := Lib.hid ((World.cell?_of_block (a := ⟨q, L, none⟩) (hAS1.bel.blk q hqe (by omega))).trans NX.out)
          have OWE := Lib.hid (show OwnR b2 we (.slice (some ⟨q, 0, none⟩) r.counts.length cq, .slice ea r.evs.length ec, r) from ⟨own_below HO1.out HGE.out.below, own_below HO2.out HGE.out.below⟩)
          have OF := Lib.hid (OWE.out.keeps hAS1.bel.ki hAS1.bel.ke)
          have HLL := Lib.hid (show L + 1 = r.counts.length by omega)
          have PLX := fun (w1 : World) (hb : BelX we.heap.size (W.heap.size + 3) we w1) => HPL.out.keep (w' := w1) fun a ha => (World.cell?_of_block (hb.blk a.block (by omega) (by omega))).trans (HGE.out.below.cell (by omega))
          have TBX := fun (w1 : World) (hb : BelX we.heap.size (W.heap.size + 3) we w1) => (Tab.of_eq HT.out ((hb.blk _ (by omega) (by omega)).trans (HGE.out.below.block _ hg)) : Tab w1)
          have HPX := Lib.hid PLX; have HTX := Lib.hid TBX
          have hfs := hAS1.bel.size
          have hPBf : PB < wf.heap.size := by omega
          have hqf : q < wf.heap.size := by omega
          have hWf : W.heap.size ≤ wf.heap.size := by have := HWE.out; omega
          have BX0 := BX; have PX0 := PX; have NX0 := NX
          clear hAS1 BX PX NX ASX PLX TBX
          obtain ⟨C2, hC2⟩ : ∃ C : Bool, step2 p r e N L s = C := ⟨_, rfl⟩
          have HC2 := Lib.hid hC2
          clear hC2
          have HW1 := Lib.hid (show IntKind.i64.wrap ((L : Int) + 1) = (L : Int) + 1 from IntWalk.i64_in _ (by omega))
          go_upto_region 7 with (fail)
          go_cut [85] (fun s85 wx => s85 = .bool C2 ∧ Below wf.heap.size wf wx)
          case first =>
            obtain ⟨hl0, hl1, hl2, hl4⟩ := BF.out.at_
            have a0 := Grw.cellG hl4 ((Lib.cell_of_heap BF.out.att 0).trans rfl)
            have p0 := Grw.cellG hl0 ((Lib.cell_of_heap BF.out.pl 0).trans rfl)
            have p1 := Grw.cellG hl0 ((Lib.cell_of_heap BF.out.pl 1).trans rfl)
            have r0 := Grw.cellG hl1 ((Lib.cell_of_heap BF.out.rn 0).trans rfl)
            have r1 := Grw.cellG hl1 ((Lib.cell_of_heap BF.out.rn 1).trans rfl)
            have e0 := Grw.cellG hl2 ((Lib.cell_of_heap BF.out.evt 0).trans rfl)
            have e1 := Grw.cellG hl2 ((Lib.cell_of_heap BF.out.evt 1).trans rfl)
            have e2 := Grw.cellG hl2 ((Lib.cell_of_heap BF.out.evt 2).trans rfl)
            have e3 := Grw.cellG hl2 ((Lib.cell_of_heap BF.out.evt 3).trans rfl)
            have s1 := Grw.cellG hPBf ((Lib.cell_of_heap PF.out 1).trans rfl)
            have cN := Grw.cellG hqf NF.out
            have R2 := Lib.hid (Grw.cellG hl1 ((Lib.cell_of_heap BF.out.rn 2).trans rfl))
            by_cases h2 : L + 1 < p.steps.length
            · have h2i : (L : Int) + 1 < (p.steps.length : Int) := by omega
              have hd2 : decide ((L : Int) + 1 < (p.steps.length : Int)) = true := decide_eq_true h2i
              have hd3 : decide (L + 1 < p.steps.length) = true := decide_eq_true h2
              have HS2 := Lib.hid (show C2 = (decide (s.lo ≤ (N : Int)) && (!r.blocked && fitsS (p.steps[L + 1]'h2) r (L + 1) e)) by
                rw [← HC2.out]; unfold step2; rw [List.getElem?_eq_getElem h2])
              by_cases hlo : s.lo ≤ (N : Int)
              · have hdl : decide (s.lo ≤ (N : Int)) = true := decide_eq_true hlo
                have hbl2 : r.blocked = true ∨ r.blocked = false := by cases r.blocked <;> simp
                rcases hbl2 with hbl | hbl
                · skip
                  have r2 := R2.out
                  rw [hbl] at r2
                  have HV := Lib.hid (show C2 = false by rw [HS2.out, hbl]; simp)
                  clear hbl hl0 hl1 hl2 hl4 hlo
                  have hw1 := HW1.out
                  go_quiet_grown (fail)
                  go_wp2_with fail
                  go_meet
                  exact ⟨by rw [HV.out], Grw.below ⟨_, _, rfl⟩⟩
                · skip
                  have r2 := R2.out
                  rw [hbl] at r2
                  have HV := Lib.hid (show C2 = fitsS (p.steps[L + 1]'h2) r (L + 1) e by rw [HS2.out, hbl, hdl]; rfl)
                  have hFT : ∀ n os, Calls Tryd.prog 56 #[.agg #[.slice (some ⟨b, o, none⟩) p.steps.length pc, .int .i64 p.within], .agg #[.slice (some ⟨q, 0, none⟩) r.counts.length cq, .slice ea r.evs.length ec, .bool false], .int .i64 ((L : Int) + 1), evV e] (grow (wf.drewN n) os) fun en w' => en = .returned (.bool C2) ∧ Grw (grow (wf.drewN n) os) w' := fun n os => by
                    have h := fits_any p (.slice (some ⟨b, o, none⟩) p.steps.length pc) (.agg #[.slice (some ⟨q, 0, none⟩) r.counts.length cq, .slice ea r.evs.length ec, .bool r.blocked]) r (L + 1) wf.heap.size e (grow (wf.drewN n) os) hp
                      (((HPX.out wf AS1.out.bel).more (by omega)).grw (Nat.le_refl _) ⟨n, os, rfl⟩) h2 (RunAt.grw ⟨_, _, rfl, Sl.of_own OF.out.1, Sl.of_own OF.out.2⟩ (Nat.le_refl _) ⟨n, os, rfl⟩) (show Grw wf (grow (wf.drewN n) os) from ⟨n, os, rfl⟩).size HW.out he HSE.out
                    rw [hbl, ← HV.out] at h
                    exact h
                  have HFT := Lib.hid hFT
                  clear hbl hl0 hl1 hl2 hl4 hlo hFT
                  have hw1 := HW1.out
                  go_quiet_grown (first | (go_at_call 56; exact Grw.grown (HFT.out _ _)) | exact Grw.grown (HFT.out _ _))
                  go_wp2_with fail
                  go_meet
                  exact ⟨rfl, Grw.below ⟨_, _, rfl⟩⟩
              · have hdl : decide (s.lo ≤ (N : Int)) = false := decide_eq_false hlo
                have HV := Lib.hid (show C2 = false by rw [HS2.out, hdl]; rfl)
                have r2 := R2.out
                clear hl0 hl1 hl2 hl4 hlo
                have hw1 := HW1.out
                go_quiet_grown (fail)
                go_wp2_with fail
                go_meet
                exact ⟨by rw [HV.out], Grw.below ⟨_, _, rfl⟩⟩
            · have HD2 := Lib.hid (show decide ((L : Int) + 1 < (p.steps.length : Int)) = false ∧ decide (L + 1 < p.steps.length) = false from ⟨decide_eq_false (by omega), decide_eq_false h2⟩)
              have HV := Lib.hid (show C2 = false by
                rw [← HC2.out]; unfold step2; rw [List.getElem?_eq_none (by omega)])
              clear hl0 hl1 hl2 hl4 h2 a0 p0 p1 r0 r1 e0 e1 e2 e3 s1 cN R2
              go_wp2_with fail
              refine Reg.stand_order (W := wf) (h := 29) (t := 0)
                [⟨0, 57, [], 99, [], none, fun v _ => v = .int .i64 (L : Int)⟩,
                 ⟨1, 58, [], 99, [], none, fun v _ => v = .int .i64 ((L : Int) + 1)⟩,
                 ⟨2, 59, [], 99, [], none, fun v _ => v = .pointer (some ⟨W.heap.size, 0, none⟩)⟩,
                 ⟨3, 60, [], 99, [], none, fun v _ => v = .slice (some ⟨b, o, none⟩) p.steps.length pc⟩,
                 ⟨4, 61, [], 99, [], none, fun v _ => v = .int .i64 (p.steps.length : Int)⟩,
                 ⟨5, 62, [], 99, [], none, fun v _ => v = .bool false⟩,
                 ⟨6, 63, [], 99, [], none, fun v _ => v = .bool false⟩,
                 ⟨7, 64, [], 99, [], none, fun _ _ => True⟩,
                 ⟨8, 65, [], 99, [], none, fun _ _ => True⟩,
                 ⟨9, 66, [], 99, [], none, fun _ _ => True⟩,
                 ⟨10, 67, [], 99, [], none, fun _ _ => True⟩,
                 ⟨11, 68, [], 99, [], none, fun _ _ => True⟩,
                 ⟨12, 69, [], 99, [], none, fun _ _ => True⟩,
                 ⟨13, 70, [], 99, [], none, fun _ _ => True⟩,
                 ⟨14, 71, [], 99, [], none, fun _ _ => True⟩,
                 ⟨15, 72, [], 99, [], none, fun v _ => v = .bool false⟩,
                 ⟨16, 73, [], 99, [], none, fun v _ => v = .bool false⟩,
                 ⟨17, 74, [], 99, [], none, fun _ _ => True⟩,
                 ⟨18, 75, [], 99, [], none, fun _ _ => True⟩,
                 ⟨19, 76, [], 99, [], none, fun _ _ => True⟩,
                 ⟨20, 77, [], 99, [], none, fun v _ => v = .bool false⟩,
                 ⟨21, 78, [], 99, [], none, fun v _ => v = .bool false⟩,
                 ⟨22, 79, [], 99, [], none, fun _ _ => True⟩,
                 ⟨23, 80, [], 99, [], none, fun _ _ => True⟩,
                 ⟨24, 81, [], 99, [], none, fun _ _ => True⟩,
                 ⟨25, 82, [], 99, [], none, fun _ _ => True⟩,
                 ⟨26, 83, [], 99, [], none, fun _ _ => True⟩,
                 ⟨27, 84, [], 99, [], none, fun _ _ => True⟩,
                 ⟨28, 85, [], 99, [], none, fun v _ => v = .bool false⟩]
                []
                (by kernel_rfl) rfl (by kernel_rfl) (by kernel_rfl) (by kernel_rfl) (show [0, 1, 2, 3, 4, 5, 6, 7, 8, 9, 10, 11, 12, 13, 14, 15, 16, 17, 18, 19, 20, 21, 22, 23, 24, 25, 26, 27, 28].Nodup by decide) (show ∀ i, i < 29 → i ∈ [0, 1, 2, 3, 4, 5, 6, 7, 8, 9, 10, 11, 12, 13, 14, 15, 16, 17, 18, 19, 20, 21, 22, 23, 24, 25, 26, 27, 28] by decide) ?_ (show [57, 58, 59, 60, 61, 62, 63, 64, 65, 66, 67, 68, 69, 70, 71, 72, 73, 74, 75, 76, 77, 78, 79, 80, 81, 82, 83, 84, 85].Nodup by decide) (show ∀ s ∈ [57, 58, 59, 60, 61, 62, 63, 64, 65, 66, 67, 68, 69, 70, 71, 72, 73, 74, 75, 76, 77, 78, 79, 80, 81, 82, 83, 84, 85], s < 115 by decide) (by kernel_rfl) ?_ ?_ (Below.refl _ _) ?_ ?_ ?_
              · intro f hf
                simp only [List.mem_cons, List.not_mem_nil, or_false] at hf
                rcases hf with rfl | rfl | rfl | rfl | rfl | rfl | rfl | rfl | rfl | rfl | rfl | rfl | rfl | rfl | rfl | rfl | rfl | rfl | rfl | rfl | rfl | rfl | rfl | rfl | rfl | rfl | rfl | rfl | rfl <;> simp
              · intro f hf v w1 w2 hk hF
                simp only [List.mem_cons, List.not_mem_nil, or_false] at hf
                rcases hf with rfl | rfl | rfl | rfl | rfl | rfl | rfl | rfl | rfl | rfl | rfl | rfl | rfl | rfl | rfl | rfl | rfl | rfl | rfl | rfl | rfl | rfl | rfl | rfl | rfl | rfl | rfl | rfl | rfl
                · exact hF
                · exact hF
                · exact hF
                · exact hF
                · exact hF
                · exact hF
                · exact hF
                · exact hF
                · exact hF
                · exact hF
                · exact hF
                · exact hF
                · exact hF
                · exact hF
                · exact hF
                · exact hF
                · exact hF
                · exact hF
                · exact hF
                · exact hF
                · exact hF
                · exact hF
                · exact hF
                · exact hF
                · exact hF
                · exact hF
                · exact hF
                · exact hF
                · exact hF
              · intro f hf; cases hf
              · intro f hf; cases hf
              · intro f hf a w1 hs hg' hst
                have hxp := (hs.below.block _ (heap_lt BF.out.pl)).trans BF.out.pl
                have hxa := (hs.below.block _ (heap_lt BF.out.att)).trans BF.out.att
                have t3 : a.eval (.tmp 3) = .pointer (some ⟨W.heap.size, 0, none⟩) := Reg.eval_tmp ((hs.out 3 (show 3 ∉ [57, 58, 59, 60, 61, 62, 63, 64, 65, 66, 67, 68, 69, 70, 71, 72, 73, 74, 75, 76, 77, 78, 79, 80, 81, 82, 83, 84, 85] by decide)).trans rfl)
                have t7 : a.eval (.tmp 7) = .pointer (some ⟨W.heap.size + 4, 0, none⟩) := Reg.eval_tmp ((hs.out 7 (show 7 ∉ [57, 58, 59, 60, 61, 62, 63, 64, 65, 66, 67, 68, 69, 70, 71, 72, 73, 74, 75, 76, 77, 78, 79, 80, 81, 82, 83, 84, 85] by decide)).trans rfl)
                simp only [List.mem_cons, List.not_mem_nil, or_false] at hf
                rcases hf with rfl | rfl | rfl | rfl | rfl | rfl | rfl | rfl | rfl | rfl | rfl | rfl | rfl | rfl | rfl | rfl | rfl | rfl | rfl | rfl | rfl | rfl | rfl | rfl | rfl | rfl | rfl | rfl | rfl
                · exact Reg.step_val rfl rfl rfl (Reg.run_load t7 (load_int ((Lib.cell_of_heap hxa 0).trans rfl))) rfl hs.below (fun e => Reg.Keeps.refl e _)
                · obtain ⟨v1, hv1, rfl⟩ : ∃ v, a.tmps[57]? = some v ∧ v = .int .i64 (L : Int) := hg' _ (Reg.at_fact 0 rfl) (by kernel_rfl) (by simp [Reg.okTil])
                  have u1 := Reg.eval_tmp hv1
                  have hw1 := HW1.out
                  exact Reg.step_val rfl rfl rfl (w' := w1) (v := .int .i64 ((L : Int) + 1)) (by go_simp) rfl hs.below (fun e => Reg.Keeps.refl e _)
                · exact Reg.step_val rfl rfl rfl (Ord.run_fld t3 (fld_plan0 w1 _)) rfl hs.below (fun e => Reg.Keeps.refl e _)
                · obtain ⟨v1, hv1, rfl⟩ : ∃ v, a.tmps[59]? = some v ∧ v = .pointer (some ⟨W.heap.size, 0, none⟩) := hg' _ (Reg.at_fact 2 rfl) (by kernel_rfl) (by simp [Reg.okTil])
                  exact Reg.step_val rfl rfl rfl (Reg.run_load (Reg.eval_tmp hv1) (load_poss ((Lib.cell_of_heap hxp 0).trans rfl))) rfl hs.below (fun e => Reg.Keeps.refl e _)
                · obtain ⟨v1, hv1, rfl⟩ : ∃ v, a.tmps[60]? = some v ∧ v = .slice (some ⟨b, o, none⟩) p.steps.length pc := hg' _ (Reg.at_fact 3 rfl) (by kernel_rfl) (by simp [Reg.okTil])
                  have u1 := Reg.eval_tmp hv1
                  exact Reg.step_val rfl rfl rfl (w' := w1) (v := .int .i64 (p.steps.length : Int)) (by go_simp) rfl hs.below (fun e => Reg.Keeps.refl e _)
                · obtain ⟨v1, hv1, rfl⟩ : ∃ v, a.tmps[58]? = some v ∧ v = .int .i64 ((L : Int) + 1) := hg' _ (Reg.at_fact 1 rfl) (by kernel_rfl) (by simp [Reg.okTil])
                  obtain ⟨v2, hv2, rfl⟩ : ∃ v, a.tmps[61]? = some v ∧ v = .int .i64 (p.steps.length : Int) := hg' _ (Reg.at_fact 4 rfl) (by kernel_rfl) (by simp [Reg.okTil])
                  have u1 := Reg.eval_tmp hv1; have u2 := Reg.eval_tmp hv2
                  have hd2 := HD2.out.1; have hd3 := HD2.out.2
                  exact Reg.step_val rfl rfl rfl (w' := w1) (v := .bool false) (by go_simp) rfl hs.below (fun e => Reg.Keeps.refl e _)
                · obtain ⟨v1, hv1, rfl⟩ : ∃ v, a.tmps[62]? = some v ∧ v = .bool false := hg' _ (Reg.at_fact 5 rfl) (by kernel_rfl) (by simp [Reg.okTil])
                  exact Reg.step_val rfl rfl rfl (Reg.run_move (Reg.eval_tmp hv1)) rfl hs.below (fun e => Reg.Keeps.refl e _)
                · obtain ⟨v1, hv1, rfl⟩ : ∃ v, a.tmps[63]? = some v ∧ v = .bool false := hg' _ (Reg.at_fact 6 rfl) (by kernel_rfl) (by simp [Reg.okTil])
                  exact Reg.step_skip rfl rfl rfl rfl hv1 rfl rfl trivial hs.below
                · obtain ⟨v1, hv1, rfl⟩ : ∃ v, a.tmps[63]? = some v ∧ v = .bool false := hg' _ (Reg.at_fact 6 rfl) (by kernel_rfl) (by simp [Reg.okTil])
                  exact Reg.step_skip rfl rfl rfl rfl hv1 rfl rfl trivial hs.below
                · obtain ⟨v1, hv1, rfl⟩ : ∃ v, a.tmps[63]? = some v ∧ v = .bool false := hg' _ (Reg.at_fact 6 rfl) (by kernel_rfl) (by simp [Reg.okTil])
                  exact Reg.step_skip rfl rfl rfl rfl hv1 rfl rfl trivial hs.below
                · obtain ⟨v1, hv1, rfl⟩ : ∃ v, a.tmps[63]? = some v ∧ v = .bool false := hg' _ (Reg.at_fact 6 rfl) (by kernel_rfl) (by simp [Reg.okTil])
                  exact Reg.step_skip rfl rfl rfl rfl hv1 rfl rfl trivial hs.below
                · obtain ⟨v1, hv1, rfl⟩ : ∃ v, a.tmps[63]? = some v ∧ v = .bool false := hg' _ (Reg.at_fact 6 rfl) (by kernel_rfl) (by simp [Reg.okTil])
                  exact Reg.step_skip rfl rfl rfl rfl hv1 rfl rfl trivial hs.below
                · obtain ⟨v1, hv1, rfl⟩ : ∃ v, a.tmps[63]? = some v ∧ v = .bool false := hg' _ (Reg.at_fact 6 rfl) (by kernel_rfl) (by simp [Reg.okTil])
                  exact Reg.step_skip rfl rfl rfl rfl hv1 rfl rfl trivial hs.below
                · obtain ⟨v1, hv1, rfl⟩ : ∃ v, a.tmps[63]? = some v ∧ v = .bool false := hg' _ (Reg.at_fact 6 rfl) (by kernel_rfl) (by simp [Reg.okTil])
                  exact Reg.step_skip rfl rfl rfl rfl hv1 rfl rfl trivial hs.below
                · obtain ⟨v1, hv1, rfl⟩ : ∃ v, a.tmps[63]? = some v ∧ v = .bool false := hg' _ (Reg.at_fact 6 rfl) (by kernel_rfl) (by simp [Reg.okTil])
                  exact Reg.step_skip rfl rfl rfl rfl hv1 rfl rfl trivial hs.below
                · obtain ⟨v1, hv1, rfl⟩ : ∃ v, a.tmps[63]? = some v ∧ v = .bool false := hg' _ (Reg.at_fact 6 rfl) (by kernel_rfl) (by simp [Reg.okTil])
                  exact Reg.step_val rfl rfl rfl (Reg.run_pick (v := .bool false) (Reg.eval_tmp hv1) rfl) rfl hs.below (fun e => Reg.Keeps.refl e _)
                · obtain ⟨v1, hv1, rfl⟩ : ∃ v, a.tmps[72]? = some v ∧ v = .bool false := hg' _ (Reg.at_fact 15 rfl) (by kernel_rfl) (by simp [Reg.okTil])
                  exact Reg.step_val rfl rfl rfl (Reg.run_move (Reg.eval_tmp hv1)) rfl hs.below (fun e => Reg.Keeps.refl e _)
                · obtain ⟨v1, hv1, rfl⟩ : ∃ v, a.tmps[73]? = some v ∧ v = .bool false := hg' _ (Reg.at_fact 16 rfl) (by kernel_rfl) (by simp [Reg.okTil])
                  exact Reg.step_skip rfl rfl rfl rfl hv1 rfl rfl trivial hs.below
                · obtain ⟨v1, hv1, rfl⟩ : ∃ v, a.tmps[73]? = some v ∧ v = .bool false := hg' _ (Reg.at_fact 16 rfl) (by kernel_rfl) (by simp [Reg.okTil])
                  exact Reg.step_skip rfl rfl rfl rfl hv1 rfl rfl trivial hs.below
                · obtain ⟨v1, hv1, rfl⟩ : ∃ v, a.tmps[73]? = some v ∧ v = .bool false := hg' _ (Reg.at_fact 16 rfl) (by kernel_rfl) (by simp [Reg.okTil])
                  exact Reg.step_skip rfl rfl rfl rfl hv1 rfl rfl trivial hs.below
                · obtain ⟨v1, hv1, rfl⟩ : ∃ v, a.tmps[73]? = some v ∧ v = .bool false := hg' _ (Reg.at_fact 16 rfl) (by kernel_rfl) (by simp [Reg.okTil])
                  exact Reg.step_val rfl rfl rfl (Reg.run_pick (v := .bool false) (Reg.eval_tmp hv1) rfl) rfl hs.below (fun e => Reg.Keeps.refl e _)
                · obtain ⟨v1, hv1, rfl⟩ : ∃ v, a.tmps[77]? = some v ∧ v = .bool false := hg' _ (Reg.at_fact 20 rfl) (by kernel_rfl) (by simp [Reg.okTil])
                  exact Reg.step_val rfl rfl rfl (Reg.run_move (Reg.eval_tmp hv1)) rfl hs.below (fun e => Reg.Keeps.refl e _)
                · obtain ⟨v1, hv1, rfl⟩ : ∃ v, a.tmps[78]? = some v ∧ v = .bool false := hg' _ (Reg.at_fact 21 rfl) (by kernel_rfl) (by simp [Reg.okTil])
                  exact Reg.step_skip rfl rfl rfl rfl hv1 rfl rfl trivial hs.below
                · obtain ⟨v1, hv1, rfl⟩ : ∃ v, a.tmps[78]? = some v ∧ v = .bool false := hg' _ (Reg.at_fact 21 rfl) (by kernel_rfl) (by simp [Reg.okTil])
                  exact Reg.step_skip rfl rfl rfl rfl hv1 rfl rfl trivial hs.below
                · obtain ⟨v1, hv1, rfl⟩ : ∃ v, a.tmps[78]? = some v ∧ v = .bool false := hg' _ (Reg.at_fact 21 rfl) (by kernel_rfl) (by simp [Reg.okTil])
                  exact Reg.step_skip rfl rfl rfl rfl hv1 rfl rfl trivial hs.below
                · obtain ⟨v1, hv1, rfl⟩ : ∃ v, a.tmps[78]? = some v ∧ v = .bool false := hg' _ (Reg.at_fact 21 rfl) (by kernel_rfl) (by simp [Reg.okTil])
                  exact Reg.step_skip rfl rfl rfl rfl hv1 rfl rfl trivial hs.below
                · obtain ⟨v1, hv1, rfl⟩ : ∃ v, a.tmps[78]? = some v ∧ v = .bool false := hg' _ (Reg.at_fact 21 rfl) (by kernel_rfl) (by simp [Reg.okTil])
                  exact Reg.step_skip rfl rfl rfl rfl hv1 rfl rfl trivial hs.below
                · obtain ⟨v1, hv1, rfl⟩ : ∃ v, a.tmps[78]? = some v ∧ v = .bool false := hg' _ (Reg.at_fact 21 rfl) (by kernel_rfl) (by simp [Reg.okTil])
                  exact Reg.step_skip rfl rfl rfl rfl hv1 rfl rfl trivial hs.below
                · obtain ⟨v1, hv1, rfl⟩ : ∃ v, a.tmps[78]? = some v ∧ v = .bool false := hg' _ (Reg.at_fact 21 rfl) (by kernel_rfl) (by simp [Reg.okTil])
                  exact Reg.step_val rfl rfl rfl (Reg.run_pick (v := .bool false) (Reg.eval_tmp hv1) rfl) rfl hs.below (fun e => Reg.Keeps.refl e _)
              · intro vals w1 hF hfx hb1
                have e85 : vals 85 = .bool false := hF _ (Reg.at_fact 28 rfl) (show (29 + 0 : Nat) ≤ 99 by decide)
                simp only [List.map_cons, List.map_nil, e85]
                generalize vals 57 = q57
                generalize vals 58 = q58
                generalize vals 59 = q59
                generalize vals 60 = q60
                generalize vals 61 = q61
                generalize vals 62 = q62
                generalize vals 63 = q63
                generalize vals 64 = q64
                generalize vals 65 = q65
                generalize vals 66 = q66
                generalize vals 67 = q67
                generalize vals 68 = q68
                generalize vals 69 = q69
                generalize vals 70 = q70
                generalize vals 71 = q71
                generalize vals 72 = q72
                generalize vals 73 = q73
                generalize vals 74 = q74
                generalize vals 75 = q75
                generalize vals 76 = q76
                generalize vals 77 = q77
                generalize vals 78 = q78
                generalize vals 79 = q79
                generalize vals 80 = q80
                generalize vals 81 = q81
                generalize vals 82 = q82
                generalize vals 83 = q83
                generalize vals 84 = q84
                clear hF hfx e85
                unfold Reg.puts Reg.puts Reg.puts Reg.puts Reg.puts Reg.puts Reg.puts Reg.puts Reg.puts Reg.puts Reg.puts Reg.puts Reg.puts Reg.puts Reg.puts Reg.puts Reg.puts Reg.puts Reg.puts Reg.puts Reg.puts Reg.puts Reg.puts Reg.puts Reg.puts Reg.puts Reg.puts Reg.puts Reg.puts Reg.puts
                go_simp
                go_wp2_with fail
                go_meet
                exact ⟨by rw [HV.out], hb1⟩
          case rest =>
            obtain ⟨rfl, hgx2⟩ := hcut
            obtain ⟨wh, rfl⟩ : ∃ w' : World, w' = wc := ⟨_, rfl⟩
            have AS2 := Lib.hid (AS1.out.below hgx2 BXB.out)
            have BH := Lib.hid (BF.out.below hgx2)
            have OH := Lib.hid (OF.out.below hgx2)
            have HSW := Lib.hid (show W.heap.size ≤ wh.heap.size by have := hgx2.size; omega)
            clear hgx2 BF PF NF OF
            go_upto_if 85 with (fail)
            go_cut [8] (fun s8 wx => s8 = .pointer (some ⟨PB, 0, none⟩) ∧ AdvS W.heap.size we.heap.size (adv2 p r e N L s) we wx)
            case first =>
              cases hCv : C2 with
              | false =>
                have HV := Lib.hid hCv
                clear hCv
                go_wp2_with fail
                go_meet
                exact ⟨rfl, by rw [adv2_eq, HC2.out, HV.out, if_neg (by decide)]; exact AS2.out⟩
              | true =>
                have HV := Lib.hid hCv
                clear hCv
                have h2 : L + 1 < p.steps.length := by
                  have h := HC2.out
                  rw [HV.out] at h
                  unfold step2 at h
                  rcases Nat.lt_or_ge (L + 1) p.steps.length with h' | h'
                  · exact h'
                  · rw [List.getElem?_eq_none h'] at h; cases h
                have BX := BH
                have OROW := OH
                have BWL := Lib.hid (Nat.le_refl wh.heap.size)
                have SZX := HSW
                have PLX := HPX.out
                have TBX := HTX.out
                have WLN := Lib.hid (show 0 < (withR r (L + 1) e).counts.length ∧ (withR r (L + 1) e).counts.length ≤ p.steps.length by
                  have h : (withR r (L + 1) e).counts.length = L + 2 := by
                    show (List.set _ (L + 1) _).length = _
                    rw [List.length_set, if_pos (by omega), List.length_append, List.length_singleton]; omega
                  omega)
                have GSN := fun (gs : List (Value × Value × RRun)) (h : gs.map (·.2.2) = (adv1 p r e N L s).grown) => (show gs.length ≤ 1000000 by
                  have h1 := congrArg List.length h
                  rw [List.length_map] at h1
                  have h2 := (adv1_small p r e N L s).1
                  omega)
                have DSN : (adv1 p r e N L s).done.length ≤ 1000000 := by
                  have h2 := (adv1_small p r e N L s).2
                  omega
                have ASX := AS2
                clear h2
                go_wp2_with fail
                refine Reg.stand_order (W := wh) (h := 6) (t := 1)
                  [⟨0, 86, [], 99, [], none, fun v _ => v = .agg #[.slice (some ⟨b, o, none⟩) p.steps.length pc, .int .i64 p.within]⟩,
                   ⟨1, 87, [], 99, [], none, fun v _ => v = .agg #[.slice (some ⟨q, 0, none⟩) r.counts.length cq, .slice ea r.evs.length ec, .bool r.blocked]⟩,
                   ⟨2, 88, [], 99, [], none, fun v _ => v = .int .i64 (L : Int)⟩,
                   ⟨3, 89, [], 99, [], none, fun v _ => v = .int .i64 ((L + 1 : Nat) : Int)⟩,
                   ⟨4, 90, [], 99, [], none, fun v _ => v = evV e⟩,
                   ⟨5, 91, [3, 37], 99, [], none, fun v w' => RunOwn wh.heap.size w' v (withR r (L + 1) e)⟩]
                  []
                  (by kernel_rfl) rfl (by kernel_rfl) (by kernel_rfl) (by kernel_rfl) (show [0, 1, 2, 3, 4, 5].Nodup by decide) (show ∀ i, i < 6 → i ∈ [0, 1, 2, 3, 4, 5] by decide) ?_ (show [86, 87, 88, 89, 90, 91].Nodup by decide) (show ∀ s ∈ [86, 87, 88, 89, 90, 91], s < 115 by decide) (by kernel_rfl) ?_ ?_ (Below.refl _ _) ?_ ?_ ?_
                · intro f hf
                  simp only [List.mem_cons, List.not_mem_nil, or_false] at hf
                  rcases hf with rfl | rfl | rfl | rfl | rfl | rfl <;> simp
                · intro f hf v w1 w2 hk hF
                  simp only [List.mem_cons, List.not_mem_nil, or_false] at hf
                  rcases hf with rfl | rfl | rfl | rfl | rfl | rfl
                  · exact hF
                  · exact hF
                  · exact hF
                  · exact hF
                  · exact hF
                  · obtain ⟨cv, ev, e1, h1, h2⟩ := hF
                    exact ⟨cv, ev, e1, (hk 3 (by simp)).1 _ _ _ _ _ h1, (hk 37 (by simp)).1 _ _ _ _ _ h2⟩
                · intro f hf; cases hf
                · intro f hf; cases hf
                · intro f hf a w1 hs hg' _
                  have hxp := (hs.below.block _ (heap_lt BX.out.pl)).trans BX.out.pl
                  have hxr := (hs.below.block _ (heap_lt BX.out.rn)).trans BX.out.rn
                  have hxe := (hs.below.block _ (heap_lt BX.out.evt)).trans BX.out.evt
                  have hxa := (hs.below.block _ (heap_lt BX.out.att)).trans BX.out.att
                  have t3 : a.eval (.tmp 3) = .pointer (some ⟨W.heap.size, 0, none⟩) := Reg.eval_tmp ((hs.out 3 (show 3 ∉ [86, 87, 88, 89, 90, 91] by decide)).trans rfl)
                  have t4 : a.eval (.tmp 4) = .pointer (some ⟨W.heap.size + 1, 0, none⟩) := Reg.eval_tmp ((hs.out 4 (show 4 ∉ [86, 87, 88, 89, 90, 91] by decide)).trans rfl)
                  have t5 : a.eval (.tmp 5) = .pointer (some ⟨W.heap.size + 2, 0, none⟩) := Reg.eval_tmp ((hs.out 5 (show 5 ∉ [86, 87, 88, 89, 90, 91] by decide)).trans rfl)
                  have t7 : a.eval (.tmp 7) = .pointer (some ⟨W.heap.size + 4, 0, none⟩) := Reg.eval_tmp ((hs.out 7 (show 7 ∉ [86, 87, 88, 89, 90, 91] by decide)).trans rfl)
                  simp only [List.mem_cons, List.not_mem_nil, or_false] at hf
                  rcases hf with rfl | rfl | rfl | rfl | rfl | rfl
                  · exact Reg.step_val rfl rfl rfl (Reg.run_load t3 (load_plan hxp)) rfl hs.below (fun e => Reg.Keeps.refl e _)
                  · exact Reg.step_val rfl rfl rfl (Reg.run_load t4 (load_run hxr)) rfl hs.below (fun e => Reg.Keeps.refl e _)
                  · exact Reg.step_val rfl rfl rfl (Reg.run_load t7 (load_int ((Lib.cell_of_heap hxa 0).trans rfl))) rfl hs.below (fun e => Reg.Keeps.refl e _)
                  · obtain ⟨v, hv, rfl⟩ : ∃ v, a.tmps[88]? = some v ∧ v = .int .i64 (L : Int) := hg' _ (Reg.at_fact 2 rfl) (by kernel_rfl) (by simp [Reg.okTil])
                    have u1 := Reg.eval_tmp hv
                    have hw1 := HW1.out
                    exact Reg.step_val rfl rfl rfl (w' := w1) (v := .int .i64 ((L + 1 : Nat) : Int)) (by go_simp) rfl hs.below (fun e => Reg.Keeps.refl e _)
                  · exact Reg.step_val rfl rfl rfl (Reg.run_load t5 (load_ev hxe)) rfl hs.below (fun e => Reg.Keeps.refl e _)
                  · obtain ⟨v1, hv1, rfl⟩ : ∃ v, a.tmps[87]? = some v ∧ v = .agg #[.slice (some ⟨q, 0, none⟩) r.counts.length cq, .slice ea r.evs.length ec, .bool r.blocked] := hg' _ (Reg.at_fact 1 rfl) (by kernel_rfl) (by simp [Reg.okTil])
                    obtain ⟨v2, hv2, rfl⟩ : ∃ v, a.tmps[89]? = some v ∧ v = .int .i64 ((L + 1 : Nat) : Int) := hg' _ (Reg.at_fact 3 rfl) (by kernel_rfl) (by simp [Reg.okTil])
                    obtain ⟨v3, hv3, rfl⟩ : ∃ v, a.tmps[90]? = some v ∧ v = evV e := hg' _ (Reg.at_fact 4 rfl) (by kernel_rfl) (by simp [Reg.okTil])
                    have u1 := Reg.eval_tmp hv1; have u2 := Reg.eval_tmp hv2; have u3 := Reg.eval_tmp hv3
                    have hOR := OROW.out.below hs.below
                    refine Reg.step_call (f := 58) (args := #[.agg #[.slice (some ⟨q, 0, none⟩) r.counts.length cq, .slice ea r.evs.length ec, .bool r.blocked], .int .i64 ((L + 1 : Nat) : Int), evV e]) rfl rfl rfl (by go_simp) hs.below ((with_any _ _ r ((L + 1)) w1.heap.size e w1 ⟨_, _, rfl, Sl.of_own hOR.1, Sl.of_own hOR.2⟩ (Nat.le_refl _) HLC.out HLE.out HW.out (by have := HLL.out; omega)).mono ?_)
                    rintro en w2 ⟨v', rfl, ho, hb⟩
                    refine ⟨v', rfl, ?_, hb⟩
                    obtain ⟨cv, ev, e1, h1, h2⟩ := ho
                    exact ⟨cv, ev, e1, Joins.ownsRow_le h1 hs.below.size, Joins.ownsRow_le h2 hs.below.size⟩
                · intro vals w1 hF hfx hb1
                  have e15 : vals 86 = .agg #[.slice (some ⟨b, o, none⟩) p.steps.length pc, .int .i64 p.within] := hF _ (Reg.at_fact 0 rfl) (show (6 + 1 : Nat) ≤ 99 by decide)
                  obtain ⟨cv, ev, e18, ho1, ho2⟩ : RunOwn wh.heap.size w1 (vals 91) (withR r (L + 1) e) := hF _ (Reg.at_fact 5 rfl) (show (6 + 1 : Nat) ≤ 99 by decide)
                  simp only [List.map_cons, List.map_nil, e15, e18]
                  have hAS := ASX.out.below hb1 BXB.out
                  obtain ⟨gv, dv, gs, hat, hgs, hog⟩ := hAS.res
                  have HAD := Lib.hid (add_any p (.slice (some ⟨b, o, none⟩) p.steps.length pc) cv ev (withR r ((L + 1)) e) B we.heap.size wh.heap.size (W.heap.size + 3) false false (.slice none 0 0) (.slice none 0 0) gv dv gs.length (cellsOf encR gs) ((adv1 p r e N L s)).done w1 hp
                    (PLX w1 hAS.bel) (by have := BXB.out; omega) (by have := BWL.out; have := hAS.bel.size; omega) (by have := heap_lt hat.blk; exact this) (by omega) ho1 ho2 (HW.out.withR (by have := HLL.out; omega) hr1 hr2) (by
                      intro y hy
                      rcases List.mem_append.1 (show y ∈ r.evs ++ [e] from hy) with h | h
                      · exact HF.out y h
                      · rw [List.mem_singleton.1 h]; exact hid)
                    (WLN.out.1) (WLN.out.2) (TBX w1 hAS.bel) (by have := BXB.out; omega) (by omega) hat (GSN _ hgs) DSN)
                  have HO := Lib.hid (show OwnR W.heap.size w1 (cv, ev, withR r ((L + 1)) e) from ⟨Joins.ownsRow_le ho1 SZX.out, Joins.ownsRow_le ho2 SZX.out⟩)
                  generalize vals 87 = q87
                  generalize vals 88 = q88
                  generalize vals 89 = q89
                  generalize vals 90 = q90
                  have hblk : (withR r ((L + 1)) e).blocked = false := rfl
                  rw [hblk] at HAD ⊢
                  obtain ⟨cA, cK, rfl⟩ := (Sl.of_own ho1).shape
                  obtain ⟨eA, eK, rfl⟩ := (Sl.of_own ho2).shape
                  obtain ⟨r1, hr1⟩ : ∃ r1, withR r ((L + 1)) e = r1 := ⟨_, rfl⟩
                  rw [hr1] at HAD HO ⊢
                  have HR1 := Lib.hid hr1
                  have HBK := Lib.hid (show r1.blocked = false by rw [← hr1]; rfl)
                  have HAS := Lib.hid hAS; have HGS := Lib.hid hgs; have HOG := Lib.hid hog
                  clear hF hfx e15 e18 ho1 ho2 hb1 hr1 hblk hAS hgs hog hat
                  unfold Reg.puts Reg.puts Reg.puts Reg.puts Reg.puts Reg.puts Reg.puts
                  go_wp2_with fail
                  refine HAD.out.mono ?_
                  rintro en w2 ⟨rfl, hbx, gv', dv', hat⟩
                  have HBX := Lib.hid hbx; have HAT := Lib.hid hat
                  clear hbx hat
                  go_wp2_with fail
                  go_meet
                  refine ⟨rfl, ?_⟩
                  rw [adv2_eq, HC2.out, HV.out, if_pos rfl, HR1.out]
                  refine AdvS.add (HAS.out.bel.trans HBX.out) HAT.out HBK.out HGS.out (fun g hg => (HOG.out g hg).keeps HBX.out.ki HBX.out.ke) (HO.out.keeps HBX.out.ki HBX.out.ke)
            case rest =>
              obtain ⟨rfl, hAS3⟩ := hcut
              obtain ⟨wk, rfl⟩ : ∃ w' : World, w' = wc := ⟨_, rfl⟩
              obtain ⟨gv, dv, gs, hat, hgs, hog⟩ := hAS3.res
              have BK := Lib.hid (BX0.out.belX hAS3.bel BXB.out.1)
              have PK := Lib.hid ((hAS3.bel.blk _ hPBe (by omega)).trans PX0.out)
              have HBW := Lib.hid (show Below W.heap.size W wk from HGE.out.below.trans ⟨hAS3.bel.os, hAS3.bel.tape, hAS3.bel.output, hAS3.bel.size, fun k hk => hAS3.bel.blk k (by omega) (by omega)⟩)
              have HAT := Lib.hid hat; have HGS := Lib.hid hgs; have HOG := Lib.hid hog
              have hkX : W.heap.size + 3 < wk.heap.size := heap_lt hat.blk
              clear hAS3 hat hgs hog BX0 PX0 NX0 AS2 BH OH AS1
              go_wp2_with fail
              refine Reg.stand_order (W := W) (h := 13) (t := 0)
                [⟨0, 93, [], 99, [], none, fun v _ => v = .pointer (some ⟨W.heap.size + 1, 0, none⟩)⟩,
                 ⟨1, 94, [], 99, [], none, fun v _ => v = .slice (some ⟨q, 0, none⟩) r.counts.length cq⟩,
                 ⟨2, 95, [3], 99, [], none, fun v w' => w'.ownsRow W.heap.size 3 1 v r.counts.length (cntV r.counts)⟩,
                 ⟨3, 96, [], 99, [], none, fun v _ => v = .pointer (some ⟨W.heap.size + 1, 1, none⟩)⟩,
                 ⟨4, 97, [], 99, [], none, fun v _ => v = .slice ea r.evs.length ec⟩,
                 ⟨5, 98, [37], 99, [], none, fun v w' => w'.ownsRow W.heap.size 37 4 v r.evs.length (cellsOf encE r.evs)⟩,
                 ⟨6, 99, [], 99, [], none, fun v _ => v = .pointer (some ⟨W.heap.size + 1, 2, none⟩)⟩,
                 ⟨7, 100, [], 99, [], none, fun v _ => v = .bool r.blocked⟩,
                 ⟨8, 101, [3, 37], 99, [], none, fun v w' => ∃ a1 k1 a2 k2, v = .agg #[.slice a1 r.counts.length k1, .slice a2 r.evs.length k2, .bool r.blocked] ∧ OwnR W.heap.size w' (.slice a1 r.counts.length k1, .slice a2 r.evs.length k2, r)⟩,
                 ⟨9, 102, [], 99, [], none, fun v _ => v = .pointer (some ⟨W.heap.size + 3, 0, none⟩)⟩,
                 ⟨10, 0, [86], 12, [], some 86, fun _ w' => w'.heap[W.heap.size + 3]? = some (.cells #[.bool true, .slice none 0 0, .slice none 0 0, .bool false, gv, dv] 86 (0, 0))⟩,
                 ⟨11, 103, [], 99, [], none, fun v _ => v = .pointer (some ⟨W.heap.size + 3, 1, none⟩)⟩,
                 ⟨12, 1, [86, 3, 37], 99, [], some 86, fun _ w' => ∃ a1 k1 a2 k2, w'.heap[W.heap.size + 3]? = some (.cells #[.bool true, .slice a1 r.counts.length k1, .slice a2 r.evs.length k2, .bool r.blocked, gv, dv] 86 (0, 0)) ∧ OwnR W.heap.size w' (.slice a1 r.counts.length k1, .slice a2 r.evs.length k2, r)⟩]
                [⟨[86], 10, fun w' => w'.heap[W.heap.size + 3]? = some (.cells #[.bool false, .slice none 0 0, .slice none 0 0, .bool false, gv, dv] 86 (0, 0))⟩,
                 ⟨[25, 56, 37, 3, 47], 99, fun w' => Box W.heap.size (.slice (some ⟨b, o, none⟩) p.steps.length pc) (.slice (some ⟨q, 0, none⟩) r.counts.length cq) (.slice ea r.evs.length ec) p.within r.blocked e L w' ∧ w'.heap[PB]? = some (.cells #[.int .u8 s.kind, .int .i64 s.lo, .int .i64 s.hi, .slice ta s.tests.length tc, .slice ba s.bars.length bc] 47 (0, 0))⟩,
                 ⟨[56, 9, 3, 37], 99, fun w' => w'.ownsRow we.heap.size 56 3 gv gs.length (cellsOf encR gs) ∧ w'.ownsRow we.heap.size 9 1 dv (adv2 p r e N L s).done.length ((adv2 p r e N L s).done.map strV) ∧ ∀ g ∈ gs, OwnR W.heap.size w' g⟩]
                (by kernel_rfl) rfl (by kernel_rfl) (by kernel_rfl) (by kernel_rfl) (show [0, 1, 2, 3, 4, 5, 6, 7, 8, 9, 10, 11, 12].Nodup by decide) (show ∀ i, i < 13 → i ∈ [0, 1, 2, 3, 4, 5, 6, 7, 8, 9, 10, 11, 12] by decide) ?_ (show [93, 94, 95, 96, 97, 98, 99, 100, 101, 102, 0, 103, 1].Nodup by decide) (show ∀ s ∈ [93, 94, 95, 96, 97, 98, 99, 100, 101, 102, 0, 103, 1], s < 115 by decide) (by kernel_rfl) ?_ ?_ HBW.out ?_ ?_ ?_
              · intro f hf
                simp only [List.mem_cons, List.not_mem_nil, or_false] at hf
                rcases hf with rfl | rfl | rfl | rfl | rfl | rfl | rfl | rfl | rfl | rfl | rfl | rfl | rfl <;> simp
              · intro f hf v w1 w2 hk hF
                simp only [List.mem_cons, List.not_mem_nil, or_false] at hf
                rcases hf with rfl | rfl | rfl | rfl | rfl | rfl | rfl | rfl | rfl | rfl | rfl | rfl | rfl
                · exact hF
                · exact hF
                · exact (hk 3 (by simp)).1 _ _ _ _ _ hF
                · exact hF
                · exact hF
                · exact (hk 37 (by simp)).1 _ _ _ _ _ hF
                · exact hF
                · exact hF
                · obtain ⟨a1, k1, a2, k2, e1, h1⟩ := hF
                  exact ⟨a1, k1, a2, k2, e1, h1.keeps (hk 3 (by simp)) (hk 37 (by simp))⟩
                · exact hF
                · exact (hk 86 (by simp)).2 _ _ hF
                · exact hF
                · obtain ⟨a1, k1, a2, k2, e1, h1⟩ := hF
                  exact ⟨a1, k1, a2, k2, (hk 86 (by simp)).2 _ _ e1, h1.keeps (hk 3 (by simp)) (hk 37 (by simp))⟩
              · intro f hf w1 w2 hk hG
                simp only [List.mem_cons, List.not_mem_nil, or_false] at hf
                rcases hf with rfl | rfl | rfl
                · exact (hk 86 (by simp)).2 _ _ hG
                · exact ⟨⟨(hk 25 (by simp)).2 _ _ hG.1.pl, (hk 56 (by simp)).2 _ _ hG.1.rn, (hk 37 (by simp)).2 _ _ hG.1.evt, (hk 3 (by simp)).2 _ _ hG.1.att⟩, (hk 47 (by simp)).2 _ _ hG.2⟩
                · exact ⟨(hk 56 (by simp)).1 _ _ _ _ _ hG.1, (hk 9 (by simp)).1 _ _ _ _ _ hG.2.1, fun g hg => (hG.2.2 g hg).keeps (hk 3 (by simp)) (hk 37 (by simp))⟩
              · intro f hf
                simp only [List.mem_cons, List.not_mem_nil, or_false] at hf
                rcases hf with rfl | rfl | rfl
                · exact HAT.out.blk
                · exact ⟨⟨BK.out.pl, BK.out.rn, BK.out.evt, BK.out.att⟩, PK.out⟩
                · exact ⟨HAT.out.own1.drew, HAT.out.own2.drew, fun g hg => ⟨(HOG.out g hg).1.drew, (HOG.out g hg).2.drew⟩⟩
              · intro f hf a w1 hs hg' hst
                have hbox := hst _ (Reg.at_stand 1 rfl) (by simp [Reg.okTil])
                have t4 : a.eval (.tmp 4) = .pointer (some ⟨W.heap.size + 1, 0, none⟩) := Reg.eval_tmp ((hs.out 4 (show 4 ∉ [93, 94, 95, 96, 97, 98, 99, 100, 101, 102, 0, 103, 1] by decide)).trans rfl)
                have t6 : a.eval (.tmp 6) = .pointer (some ⟨W.heap.size + 3, 0, none⟩) := Reg.eval_tmp ((hs.out 6 (show 6 ∉ [93, 94, 95, 96, 97, 98, 99, 100, 101, 102, 0, 103, 1] by decide)).trans rfl)
                simp only [List.mem_cons, List.not_mem_nil, or_false] at hf
                rcases hf with rfl | rfl | rfl | rfl | rfl | rfl | rfl | rfl | rfl | rfl | rfl | rfl | rfl
                · exact Reg.step_val rfl rfl rfl (Ord.run_fld t4 (fld_run0 w1 _)) rfl hs.below (fun e => Reg.Keeps.refl e _)
                · obtain ⟨v1, hv1, rfl⟩ : ∃ v, a.tmps[93]? = some v ∧ v = .pointer (some ⟨W.heap.size + 1, 0, none⟩) := hg' _ (Reg.at_fact 0 rfl) (by kernel_rfl) (by simp [Reg.okTil])
                  exact Reg.step_val rfl rfl rfl (Reg.run_load (Reg.eval_tmp hv1) (load_nums ((Lib.cell_of_heap hbox.1.rn 0).trans rfl))) rfl hs.below (fun e => Reg.Keeps.refl e _)
                · obtain ⟨v1, hv1, rfl⟩ : ∃ v, a.tmps[94]? = some v ∧ v = .slice (some ⟨q, 0, none⟩) r.counts.length cq := hg' _ (Reg.at_fact 1 rfl) (by kernel_rfl) (by simp [Reg.okTil])
                  have u1 := Reg.eval_tmp hv1
                  refine Reg.step_call (f := 59) (args := #[.slice (some ⟨q, 0, none⟩) r.counts.length cq]) rfl rfl rfl (by go_simp) hs.below ((cloneI_any _ r.counts w1 w1.heap.size (Sl.of_own (own_below HO1.out hs.below)) HLC.out (by omega)).mono ?_)
                  rintro en w2 ⟨v', rfl, ho, hb⟩
                  exact ⟨v', rfl, Joins.ownsRow_le ho hs.below.size, hb⟩
                · exact Reg.step_val rfl rfl rfl (Ord.run_fld t4 (fld_run1 w1 _)) rfl hs.below (fun e => Reg.Keeps.refl e _)
                · obtain ⟨v1, hv1, rfl⟩ : ∃ v, a.tmps[96]? = some v ∧ v = .pointer (some ⟨W.heap.size + 1, 1, none⟩) := hg' _ (Reg.at_fact 3 rfl) (by kernel_rfl) (by simp [Reg.okTil])
                  exact Reg.step_val rfl rfl rfl (Reg.run_load (Reg.eval_tmp hv1) (load_evs ((Lib.cell_of_heap hbox.1.rn 1).trans rfl))) rfl hs.below (fun e => Reg.Keeps.refl e _)
                · obtain ⟨v1, hv1, rfl⟩ : ∃ v, a.tmps[97]? = some v ∧ v = .slice ea r.evs.length ec := hg' _ (Reg.at_fact 4 rfl) (by kernel_rfl) (by simp [Reg.okTil])
                  have u1 := Reg.eval_tmp hv1
                  refine Reg.step_call (f := 31) (args := #[.slice ea r.evs.length ec]) rfl rfl rfl (by go_simp) hs.below ((cloneE_any _ r.evs w1 w1.heap.size (Sl.of_own (own_below HO2.out hs.below)) HLE.out (by omega)).mono ?_)
                  rintro en w2 ⟨v', rfl, ho, hb⟩
                  exact ⟨v', rfl, Joins.ownsRow_le ho hs.below.size, hb⟩
                · exact Reg.step_val rfl rfl rfl (Ord.run_fld t4 (fld_run2 w1 _)) rfl hs.below (fun e => Reg.Keeps.refl e _)
                · obtain ⟨v1, hv1, rfl⟩ : ∃ v, a.tmps[99]? = some v ∧ v = .pointer (some ⟨W.heap.size + 1, 2, none⟩) := hg' _ (Reg.at_fact 6 rfl) (by kernel_rfl) (by simp [Reg.okTil])
                  exact Reg.step_val rfl rfl rfl (Reg.run_load (Reg.eval_tmp hv1) (load_bool ((Lib.cell_of_heap hbox.1.rn 2).trans rfl))) rfl hs.below (fun e => Reg.Keeps.refl e _)
                · obtain ⟨v1, hv1, ho1⟩ : ∃ v, a.tmps[95]? = some v ∧ w1.ownsRow W.heap.size 3 1 v r.counts.length (cntV r.counts) := hg' _ (Reg.at_fact 2 rfl) (by kernel_rfl) (by simp [Reg.okTil])
                  obtain ⟨v2, hv2, ho2⟩ : ∃ v, a.tmps[98]? = some v ∧ w1.ownsRow W.heap.size 37 4 v r.evs.length (cellsOf encE r.evs) := hg' _ (Reg.at_fact 5 rfl) (by kernel_rfl) (by simp [Reg.okTil])
                  obtain ⟨v3, hv3, rfl⟩ : ∃ v, a.tmps[100]? = some v ∧ v = .bool r.blocked := hg' _ (Reg.at_fact 7 rfl) (by kernel_rfl) (by simp [Reg.okTil])
                  obtain ⟨a1, k1, rfl⟩ := (Sl.of_own ho1).shape
                  obtain ⟨a2, k2, rfl⟩ := (Sl.of_own ho2).shape
                  exact Reg.step_val rfl rfl rfl (run_build3 (Reg.eval_tmp hv1) (Reg.eval_tmp hv2) (Reg.eval_tmp hv3)) ⟨a1, k1, a2, k2, rfl, ho1, ho2⟩ hs.below (fun e => Reg.Keeps.refl e _)
                · exact Reg.step_val rfl rfl rfl (Ord.run_fld t6 (fld_res0 w1 _)) rfl hs.below (fun e => Reg.Keeps.refl e _)
                · obtain ⟨v1, hv1, rfl⟩ : ∃ v, a.tmps[102]? = some v ∧ v = .pointer (some ⟨W.heap.size + 3, 0, none⟩) := hg' _ (Reg.at_fact 9 rfl) (by kernel_rfl) (by simp [Reg.okTil])
                  have hx := hst _ (Reg.at_stand 0 rfl) (by simp [Reg.okTil])
                  refine Reg.step_store rfl rfl rfl (run_store_b (Reg.eval_tmp hv1) rfl ((Lib.cell_of_heap hx 0).trans rfl) (frozen_of_row w1 _ 0 _ _ hx)) (by rw [hs.size]; exact (by decide : 0 < 115)) (fun v => ?_) (hs.below.setCell (p := ⟨W.heap.size + 3, 0, none⟩) (by show W.heap.size ≤ W.heap.size + 3; omega) _) (fun e he => Keeps.set hx (fun h => he (by rw [h])))
                  exact (blk_setc hx 0 _).trans rfl
                · exact Reg.step_val rfl rfl rfl (Ord.run_fld t6 (fld_res1 w1 _)) rfl hs.below (fun e => Reg.Keeps.refl e _)
                · obtain ⟨v1, hv1, rfl⟩ : ∃ v, a.tmps[103]? = some v ∧ v = .pointer (some ⟨W.heap.size + 3, 1, none⟩) := hg' _ (Reg.at_fact 11 rfl) (by kernel_rfl) (by simp [Reg.okTil])
                  obtain ⟨v2, hv2, a1, k1, a2, k2, rfl, ho⟩ : ∃ v, a.tmps[101]? = some v ∧ ∃ a1 k1 a2 k2, v = .agg #[.slice a1 r.counts.length k1, .slice a2 r.evs.length k2, .bool r.blocked] ∧ OwnR W.heap.size w1 (.slice a1 r.counts.length k1, .slice a2 r.evs.length k2, r) := hg' _ (Reg.at_fact 8 rfl) (by kernel_rfl) (by simp [Reg.okTil])
                  obtain ⟨_, _, hx⟩ : ∃ v, a.tmps[0]? = some v ∧ w1.heap[W.heap.size + 3]? = some (.cells #[.bool true, .slice none 0 0, .slice none 0 0, .bool false, gv, dv] 86 (0, 0)) := hg' _ (Reg.at_fact 10 rfl) (by kernel_rfl) (by simp [Reg.okTil])
                  have hx1 := blk_setc hx 1 (.slice a1 r.counts.length k1)
                  have hx2 := blk_setc hx1 2 (.slice a2 r.evs.length k2)
                  have k0 := fun (e : TypeId) (he : e ≠ 86) => ((Keeps.set (i := 1) (u := .slice a1 r.counts.length k1) hx he).trans (Keeps.set (i := 2) (u := .slice a2 r.evs.length k2) hx1 he)).trans (Keeps.set (i := 3) (u := .bool r.blocked) hx2 he)
                  refine Reg.step_store rfl rfl rfl (run_store_run (Reg.eval_tmp hv1) (Reg.eval_tmp hv2) hx) (by rw [hs.size]; exact (by decide : 1 < 115)) (fun v => ?_)
                    (((hs.below.setCell (p := ⟨W.heap.size + 3, 1, none⟩) (by show W.heap.size ≤ W.heap.size + 3; omega) _).setCell (p := ⟨W.heap.size + 3, 2, none⟩) (by show W.heap.size ≤ W.heap.size + 3; omega) _).setCell (p := ⟨W.heap.size + 3, 3, none⟩) (by show W.heap.size ≤ W.heap.size + 3; omega) _) (fun e he => k0 e (fun h => he (by rw [h])))
                  exact ⟨a1, k1, a2, k2, (blk_setc hx2 3 _).trans rfl, ho.keeps (k0 3 (by decide)) (k0 37 (by decide))⟩
              · intro vals w1 hF hfx hb1
                obtain ⟨a1, k1, a2, k2, hx, hor⟩ : ∃ a1 k1 a2 k2, w1.heap[W.heap.size + 3]? = some (.cells #[.bool true, .slice a1 r.counts.length k1, .slice a2 r.evs.length k2, .bool r.blocked, gv, dv] 86 (0, 0)) ∧ OwnR W.heap.size w1 (.slice a1 r.counts.length k1, .slice a2 r.evs.length k2, r) := hF _ (Reg.at_fact 12 rfl) (show (13 + 0 : Nat) ≤ 99 by decide)
                obtain ⟨hbox, hpos⟩ := hfx _ (Reg.at_stand 1 rfl) (show (13 + 0 : Nat) ≤ 99 by decide)
                obtain ⟨hg1, hg2, hg3⟩ := hfx _ (Reg.at_stand 2 rfl) (show (13 + 0 : Nat) ≤ 99 by decide)
                obtain ⟨gA, gK, rfl⟩ := (Sl.of_own hg1).shape
                obtain ⟨dA, dK, rfl⟩ := (Sl.of_own hg2).shape
                simp only [List.map_cons, List.map_nil]
                generalize vals 93 = q93; generalize vals 94 = q94; generalize vals 95 = q95; generalize vals 96 = q96; generalize vals 97 = q97; generalize vals 98 = q98; generalize vals 99 = q99; generalize vals 100 = q100; generalize vals 101 = q101; generalize vals 102 = q102; generalize vals 103 = q103; generalize vals 0 = q0; generalize vals 1 = q1
                have HX' := Lib.hid hx; have HOR' := Lib.hid hor; have HBOX' := Lib.hid hbox; have HPOS' := Lib.hid hpos; have HG1' := Lib.hid hg1; have HG2' := Lib.hid hg2; have HG3' := Lib.hid hg3; have HB1 := Lib.hid hb1
                clear hF hfx hx hor hbox hpos hg1 hg2 hg3 hb1
                unfold Reg.puts Reg.puts Reg.puts Reg.puts Reg.puts Reg.puts Reg.puts Reg.puts Reg.puts Reg.puts Reg.puts Reg.puts Reg.puts Reg.puts
                go_simp
                have hx := HX'.out; have hor := HOR'.out; have hbox := HBOX'.out; have hpos := HPOS'.out; have hg1 := HG1'.out; have hg2 := HG2'.out; have hg3 := HG3'.out; have hb1 := HB1.out
                obtain ⟨BB, hBB⟩ : ∃ B, adv3 r e L s = B := ⟨_, rfl⟩
                have END := Lib.hid (show ∀ w2, Grw w1 w2 → ∃ w3, w3 = w2.setCell ⟨W.heap.size + 3, 3, none⟩ (.bool BB) ∧ w3.heap[W.heap.size + 3]? = some (.cells #[.bool true, .slice a1 r.counts.length k1, .slice a2 r.evs.length k2, .bool BB, .slice gA gs.length gK, .slice dA (adv2 p r e N L s).done.length dK] 86 (0, 0)) ∧ ResAt W.heap.size w3 (.agg #[.bool true, .slice a1 r.counts.length k1, .slice a2 r.evs.length k2, .bool BB, .slice gA gs.length gK, .slice dA (adv2 p r e N L s).done.length dK]) (advR p r e) ∧ Below W.heap.size W w3 by
                  intro w2 hg
                  have hx2 := (hg.below.block _ (heap_lt hx)).trans hx
                  have kk := fun (t : TypeId) (ht : t ≠ 86) => (Reg.Keeps.below t hg.below).trans (Keeps.set (i := 3) (u := .bool BB) hx2 ht)
                  refine ⟨_, rfl, (blk_setc hx2 3 _).trans rfl, ?_, (hb1.trans (hg.below.mono hb1.size)).setCell (p := ⟨W.heap.size + 3, 3, none⟩) (by show W.heap.size ≤ W.heap.size + 3; omega) _⟩
                  rw [HADV2.out, hBB]
                  exact ⟨_, _, _, _, gs, rfl, OwnR.keeps hor (kk 3 (by decide)) (kk 37 (by decide)), HGS.out, Joins.ownsRow_le ((kk 56 (by decide)).1 _ _ _ _ _ hg1) HGE.out.size, fun g hgm => (hg3 g hgm).keeps (kk 3 (by decide)) (kk 37 (by decide)), Joins.ownsRow_le ((kk 9 (by decide)).1 _ _ _ _ _ hg2) HGE.out.size⟩)
                have hsz1 := hb1.size
                have HCB := Lib.hid (containsB_any s.bars (.slice ba s.bars.length bc) (.slice (some ⟨q, 0, none⟩) r.counts.length cq) (.slice ea r.evs.length ec) r L w1.heap.size (W.heap.size + 1) (W.heap.size + 4) (W.heap.size + 2) e w1 ((BarAt.keep HVB.out fun a ha => hb1.cell (Nat.lt_of_lt_of_le ha hB)).more (by omega))
                  ⟨(Lib.cell_of_heap hbox.rn 0).trans rfl, (Lib.cell_of_heap hbox.rn 1).trans rfl, (Lib.cell_of_heap hbox.rn 2).trans rfl, (Lib.cell_of_heap hbox.att 0).trans rfl, (Lib.cell_of_heap hbox.evt 0).trans rfl, (Lib.cell_of_heap hbox.evt 1).trans rfl, (Lib.cell_of_heap hbox.evt 2).trans rfl, (Lib.cell_of_heap hbox.evt 3).trans rfl, heap_lt hbox.rn, heap_lt hbox.att, heap_lt hbox.evt⟩
                  (hp.bar s HSM.out).2 (hp.bar s HSM.out).1 ⟨_, _, rfl, Sl.of_own (own_below HO1.out hb1), Sl.of_own (own_below HO2.out hb1)⟩ (Nat.le_refl _) HW.out hLs he HSE.out)
                have HB3 := Lib.hid (show BB = (r.blocked || s.bars.any fun b => barB b r L e) from hBB.symm)
                have HX := Lib.hid hx; have HP := Lib.hid hpos
                have hmf : ∀ (fn : Fn) (first cap : Array Value) (w : World), (Instr.makeFunc fn first cap).run Tryd.prog w = .ok (.func fn first cap) w := fun _ _ _ _ => rfl
                have b2 := (Lib.cell_of_heap hbox.rn 2).trans rfl
                have s4 : w1.cell? ⟨PB, 4, none⟩ = some (.slice ba s.bars.length bc) := (Lib.cell_of_heap hpos 4).trans rfl
                have B2 := Lib.hid b2
                clear hx hor hbox hpos hg1 hg2 hg3 hBB hb1 b2
                have hbl2 : r.blocked = true ∨ r.blocked = false := by cases r.blocked <;> simp
                rcases hbl2 with hbl | hbl
                · have b2 : w1.cell? ⟨W.heap.size + 1, 2, none⟩ = some (.bool true) := by rw [← hbl]; exact B2.out
                  have HBB := Lib.hid (show BB = true by rw [HB3.out, hbl]; rfl)
                  have x3 : w1.cell? ⟨W.heap.size + 3, 3, none⟩ = some (.bool true) := by rw [← hbl]; exact (Lib.cell_of_heap HX.out 3).trans rfl
                  have f3 := frozen_of_row w1 _ 3 _ _ HX.out
                  clear hbl
                  go_upto_region 11 with (fail)
                  obtain ⟨w3, hw3, hx3, hres, hbf⟩ := END.out w1 (Grw.refl _)
                  rw [HBB.out] at hw3 hx3 hres
                  rw [← hw3]
                  have HX3 := Lib.hid hx3; have HRES := Lib.hid hres; have HBF := Lib.hid hbf
                  clear hw3 hx3 hres hbf x3 f3 b2 s4
                  have z0 := (Lib.cell_of_heap HX3.out 0).trans rfl
                  have z1 := (Lib.cell_of_heap HX3.out 1).trans rfl
                  have z2 := (Lib.cell_of_heap HX3.out 2).trans rfl
                  have z3 := (Lib.cell_of_heap HX3.out 3).trans rfl
                  have z4 := (Lib.cell_of_heap HX3.out 4).trans rfl
                  have z5 := (Lib.cell_of_heap HX3.out 5).trans rfl
                  have f0 := frozen_of_row w3 _ 0 _ _ HX3.out
                  have f1 := frozen_of_row w3 _ 1 _ _ HX3.out
                  have f2 := frozen_of_row w3 _ 2 _ _ HX3.out
                  have f3 := frozen_of_row w3 _ 3 _ _ HX3.out
                  have f4 := frozen_of_row w3 _ 4 _ _ HX3.out
                  have f5 := frozen_of_row w3 _ 5 _ _ HX3.out
                  go_wp2_with fail
                  rw [show W.heap.size + 1 + 1 + 1 = W.heap.size + 3 from rfl, resave HX3.out]
                  refine bodyPost_ret (res_adv rfl z0 z1 z2 z3 z4 z5) rfl ⟨_, rfl, HRES.out, HBF.out⟩
                · have b2 : w1.cell? ⟨W.heap.size + 1, 2, none⟩ = some (.bool false) := by rw [← hbl]; exact B2.out
                  have HBB := Lib.hid (show (s.bars.any fun b => barB b r L e) = BB by rw [HB3.out, hbl]; rfl)
                  rw [HBB.out] at HCB
                  clear hbl
                  go_wp2_with fail
                  refine HCB.out.mono ?_
                  rintro en w2 ⟨rfl, hgw2⟩
                  have HGW2 := Lib.hid hgw2
                  have hx2 := (hgw2.below.block _ (heap_lt HX.out)).trans HX.out
                  have x3 := (Lib.cell_of_heap hx2 3).trans rfl
                  have f3 := frozen_of_row w2 _ 3 _ _ hx2
                  clear hgw2 hx2 b2 s4
                  go_upto_region 11 with (fail)
                  obtain ⟨w3, hw3, hx3, hres, hbf⟩ := END.out w2 HGW2.out
                  rw [← hw3]
                  have HX3 := Lib.hid hx3; have HRES := Lib.hid hres; have HBF := Lib.hid hbf
                  clear hw3 hx3 hres hbf x3 f3
                  have z0 := (Lib.cell_of_heap HX3.out 0).trans rfl
                  have z1 := (Lib.cell_of_heap HX3.out 1).trans rfl
                  have z2 := (Lib.cell_of_heap HX3.out 2).trans rfl
                  have z3 := (Lib.cell_of_heap HX3.out 3).trans rfl
                  have z4 := (Lib.cell_of_heap HX3.out 4).trans rfl
                  have z5 := (Lib.cell_of_heap HX3.out 5).trans rfl
                  have f0 := frozen_of_row w3 _ 0 _ _ HX3.out
                  have f1 := frozen_of_row w3 _ 1 _ _ HX3.out
                  have f2 := frozen_of_row w3 _ 2 _ _ HX3.out
                  have f3 := frozen_of_row w3 _ 3 _ _ HX3.out
                  have f4 := frozen_of_row w3 _ 4 _ _ HX3.out
                  have f5 := frozen_of_row w3 _ 5 _ _ HX3.out
                  go_wp2_with fail
                  rw [show W.heap.size + 1 + 1 + 1 = W.heap.size + 3 from rfl, resave HX3.out]
                  refine bodyPost_ret (res_adv rfl z0 z1 z2 z3 z4 z5) rfl ⟨_, rfl, HRES.out, HBF.out⟩
end Go.Proofs.YtcojnojdgigmdaaDoor.WR
