/- The walk of run.All, of up to 1000 events, where the runs are not too many. -/
import Derived.Test.YtcojnojdgigmdaaDoorWAll
import Derived.Test.YtcojnojdgigmdaaDoorWSym3
namespace Go.Proofs.YtcojnojdgigmdaaDoor.WR
open Go Go.RowKit Go.Sort Go.Proofs.YtcojnojdgigmdaaDoor Go.Proofs.YtcojnojdgigmdaaDoor.PL Go.Proofs.YtcojnojdgigmdaaDoor.PR Go.Proofs.YtcojnojdgigmdaaDoor.Mem Go.Proofs.YtcojnojdgigmdaaDoor.WS
theorem sortG (ev : Value) (l : List Ev) (W : World) (B : Nat) (h : Evs W B ev l) (hl : Lit ev) (hn : l.length ≤ 1000) :
    Calls Tryd.prog 16 #[ev] W fun e w' => ∃ v' ls, e = .returned v' ∧ ls.Perm l ∧ SortedE ls ∧ w'.ownsRow W.heap.size 37 4 v' l.length (cellsOf encE ls) ∧ Below W.heap.size W w' := by
  obtain ⟨A, c, rfl⟩ := Sl.shape h
  refine (ST.sort_big A c l W B h (hl _ _ _ rfl) (by omega)).mono ?_
  rintro e w' ⟨v', ls, rfl, h1, h2, h3, h4⟩
  exact ⟨v', ls, rfl, h1.perm, h2, h3, h4⟩
set_option maxRecDepth 100000 in
set_option maxHeartbeats 6400000 in
theorem runAllG (p : RPlan) (pv ev : Value) (l : List Ev) (B : Nat) (W : World) (hp : OkP p) (hps : p.steps.length ≤ 1000) (hpl : PlnAt W B pv p.steps) (hB : B ≤ W.heap.size) (hl : Evs W W.heap.size ev l) (hlit : Lit ev) (hn : l.length ≤ 1000) (hfew : ∀ ls, ls.Perm l → SortedE ls → ∀ k, k ≤ ls.length → (runA p (ls.take k)).1.length ≤ 274877906944 ∧ (runA p (ls.take k)).2.length ≤ 274877906944) (hev : ∀ e ∈ l, OkEv e) (ht : Tab W) (hg : 0 < W.heap.size) :
    Calls Tryd.prog 14 #[.agg #[pv, .int .i64 p.within], ev] W fun en w' => ∃ v ls, en = .returned v ∧ ls.Perm l ∧ SortedE ls ∧ w'.ownsRow W.heap.size 9 1 v (runA p ls).2.length ((runA p ls).2.map strV) ∧ Below W.heap.size W w' := by
  have HPL := Lib.hid hpl
  obtain ⟨pa, pc, rfl, _⟩ := hpl
  obtain ⟨ea, ec, rfl⟩ := Sl.shape hl
  obtain ⟨wa, hwa⟩ : ∃ wa, wa = W.alloc (.cells #[.slice pa p.steps.length pc, .int .i64 p.within] 25) := ⟨_, rfl⟩
  have hgr : Grw W wa := by rw [hwa]; exact (Grw.refl _).alloc _
  have HWA := Lib.hid hwa; have HGR := Lib.hid hgr
  have HSO := Lib.hid (sortG _ l wa W.heap.size (Sl.keep hl fun p hp => hgr.below.cell hp) hlit hn)
  have XP := Lib.hid (show wa.heap[W.heap.size]? = some (.cells #[.slice pa p.steps.length pc, .int .i64 p.within] 25 (0, 0)) by rw [hwa]; exact heap_new rfl)
  have HT := Lib.hid ht; have HEV := Lib.hid hev; have HN := Lib.hid hn
  clear hl hwa hgr ht hev hn
  go_enter Tryd.func14, Tryd.ntmps14
  go_wp2_with fail
  rw [← HWA.out]
  refine HSO.out.mono ?_
  rintro en w1 ⟨v16, ls, rfl, hperm, hsort, hown, hbel⟩
  have hln : ls.length = l.length := hperm.length_eq
  rw [← hln] at hown
  obtain ⟨sa, sc, rfl⟩ : ∃ a c, v16 = .slice a ls.length c := (Sl.of_own hown).shape
  have HFEW := Lib.hid (hfew ls hperm hsort)
  clear hfew
  have hlen : ls.length ≤ 1000 := by have := HN.out; omega
  have HE2 := Lib.hid (show ∀ e ∈ ls, OkEv e from fun e he => HEV.out e (hperm.mem_iff.1 he))
  have HSL := Lib.hid hown; have HBL := Lib.hid hbel; have HPERM := Lib.hid hperm; have HSORT := Lib.hid hsort
  have HS0 := Lib.hid (show AllS W p #[.slice pa p.steps.length pc, .int .i64 p.within] (.slice sa ls.length sc) ls (.slice none 0 0) (.slice none 0 0) (.int .i64 0) w1 from
    ⟨0, Nat.zero_le _, rfl, HGR.out.below.trans (hbel.mono HGR.out.size), (hbel.block _ (heap_lt XP.out)).trans XP.out, Joins.ownsRow_le hown HGR.out.size, [], rfl, RowR.empty _ _, World.ownsRow_nil _ _ _ _⟩)
  clear hperm hsort hown hbel hln
  go_wp2_with fail
  go_loopw [5, 6, 18] (fun vr vo i wr => AllS W p #[.slice pa p.steps.length pc, .int .i64 p.within] (.slice sa ls.length sc) ls vr vo i wr) (fun _ _ i _ => ls.length - (intOf i).toNat)
  case atStart => exact HS0.out
  case round =>
    obtain ⟨k, hk, rfl, hb, hpb, hsl, gs, hgs, hrow, hout⟩ := hrel
    by_cases hlt : k < ls.length
    · have hki : (k : Int) < (ls.length : Int) := by omega
      have hk0 : (0 : Int) ≤ (k : Int) := by omega
      obtain ⟨sb, sc', hs', c0, c1, c2, c3⟩ := evs_at hsl rfl hlt
      obtain ⟨rfl, rfl⟩ : sa = some ⟨sb, 0, none⟩ ∧ sc = sc' := by simpa using hs'
      have HEK := Lib.hid (HE2.out _ (List.getElem_mem hlt))
      have HTK := Lib.hid (List.take_succ_eq_append_getElem hlt)
      obtain ⟨e, he⟩ : ∃ e, ls[k] = e := ⟨_, rfl⟩
      rw [he] at c0 c1 c2 c3 HEK HTK
      obtain ⟨wo, rfl⟩ : ∃ wo : World, wo = wr := ⟨_, rfl⟩
      obtain ⟨ra, rc, rfl⟩ := (Sl.of_own hrow.own).shape
      obtain ⟨oa, oc, rfl⟩ := (Sl.of_own hout).shape
      have HIN := Lib.hid (show InnS W p #[.slice pa p.steps.length pc, .int .i64 p.within] wo.heap.size e (.slice (some ⟨sb, 0, none⟩) ls.length sc) ls (.slice ra gs.length rc) gs (runA p (ls.take k)).2 (.slice oa (runA p (ls.take k)).2.length oc) (.slice none 0 0) (.slice none 0 0) (.int .i64 0) (wo.alloc (.cells #[.int .i64 e.id, .int .i64 e.time, .int .u8 e.kind, .int .i64 e.val] 37)) from
        ⟨0, Nat.zero_le _, rfl, [], [], rfl, rfl, by
          have hb2 : Below wo.heap.size wo (wo.alloc (.cells #[.int .i64 e.id, .int .i64 e.time, .int .u8 e.kind, .int .i64 e.val] 37)) := (Below.refl _ _).alloc (Nat.le_refl _) _
          refine ⟨hb.trans (hb2.mono hb.size), heap_alloc hpb, heap_new rfl, own_below hsl hb2, hrow.below hb2, RowR.empty _ _, RowR.empty _ _, ?_, Reg.Apart.nil' _, Reg.Apart.nil' _, Reg.Apart.nil _⟩
          have h2 : (runA p (ls.take k)).2 ++ (innR p e ((gs.map (·.2.2)).take 0)).2.2 = (runA p (ls.take k)).2 := by
            rw [List.take_zero, innR_nil]; simp
          rw [h2]
          exact own_below hout hb2⟩)
      have HGS := Lib.hid hgs
      have HRK := Lib.hid (runA_ok p OkEv (ls.take k) fun e he => HE2.out e (List.mem_of_mem_take he))
      have hgl : gs.length ≤ 274877906944 := by
        have h2 := (HFEW.out k hk).1
        rw [← hgs, List.length_map] at h2
        omega
      have hol : (runA p (ls.take k)).2.length ≤ 274877906944 := by
        have h2 := (HFEW.out k hk).2
        omega
      obtain ⟨os0, hos0⟩ : ∃ os0, (runA p (ls.take k)).2 = os0 := ⟨_, rfl⟩
      rw [hos0] at HIN hol ⊢
      have HOS := Lib.hid hos0
      have hWo := hb.size
      clear hb hpb hsl hgs hrow hout hs' he hos0
      go_wp2_with fail
      go_loopw [6, 9, 10, 24] (fun vo vn vy i wr => InnS W p #[.slice pa p.steps.length pc, .int .i64 p.within] wo.heap.size e (.slice (some ⟨sb, 0, none⟩) ls.length sc) ls (.slice ra gs.length rc) gs os0 vo vn vy i wr) (fun _ _ _ i _ => gs.length - (intOf i).toNat)
      case atStart => exact HIN.out
      case round =>
        obtain ⟨j, hj, rfl, ns, ys, hns, hys, hinn⟩ := hrel
        obtain ⟨os, hos⟩ : ∃ os, os0 ++ (innR p e ((gs.map (·.2.2)).take j)).2.2 = os := ⟨_, rfl⟩
        rw [hos] at hinn
        have HOSJ := Lib.hid hos
        clear hos
        obtain ⟨na, nc, rfl⟩ := (Sl.of_own hinn.n.own).shape
        obtain ⟨ya, yc, rfl⟩ := (Sl.of_own hinn.y.own).shape
        obtain ⟨oa, oc, rfl⟩ := (Sl.of_own hinn.o).shape
        by_cases hjl : j < gs.length
        · have hji : (j : Int) < (gs.length : Int) := by omega
          have hj0 : (0 : Int) ≤ (j : Int) := by omega
          obtain ⟨rb, rc', hr', _, d0, d1, d2⟩ := hinn.r.at_ hjl
          obtain ⟨rfl, rfl⟩ : ra = some ⟨rb, 0, none⟩ ∧ rc = rc' := by simpa using hr'
          have HOG := Lib.hid (hinn.r.els _ (List.getElem_mem hjl))
          have HTJ := Lib.hid (show (gs.map (·.2.2)).take (j + 1) = (gs.map (·.2.2)).take j ++ [gs[j].2.2] by
            rw [List.take_succ_eq_append_getElem (by simpa using hjl), List.getElem_map])
          have HGD := Lib.hid (show GoodR p OkEv k gs[j].2.2 by
            have h1 := HRK.out.1 gs[j].2.2 (by rw [← HGS.out]; exact List.mem_map_of_mem (List.getElem_mem hjl))
            exact h1.more (by rw [List.length_take]; omega))
          obtain ⟨⟨cv, ev', r⟩, hgj⟩ : ∃ g, gs[j] = g := ⟨_, rfl⟩
          rw [hgj] at d0 d1 d2 HOG HTJ HGD
          simp only at d0 d1 d2 HTJ HGD
          obtain ⟨hog1, hog2⟩ : wr.ownsRow W.heap.size 3 1 cv r.counts.length (cntV r.counts) ∧ wr.ownsRow W.heap.size 37 4 ev' r.evs.length (cellsOf encE r.evs) := HOG.out
          obtain ⟨ca, cc, rfl⟩ := (Sl.of_own hog1).shape
          obtain ⟨va, vc, rfl⟩ := (Sl.of_own hog2).shape
          clear hog1 hog2
          have HINN := Lib.hid hinn; have HNS := Lib.hid hns; have HYS := Lib.hid hys
          obtain ⟨wo2, rfl⟩ : ∃ wo : World, wo = wr := ⟨_, rfl⟩
          obtain ⟨wb, hwb⟩ : ∃ wb, wb = wo2.alloc (.cells #[.slice ca r.counts.length cc, .slice va r.evs.length vc, .bool r.blocked] 56) := ⟨_, rfl⟩
          have hbb : Below wo2.heap.size wo2 wb := by rw [hwb]; exact (Below.refl _ _).alloc (Nat.le_refl _) _
          have HIB := Lib.hid (hinn.below hbb)
          have XRB := Lib.hid (show wb.heap[wo2.heap.size]? = some (.cells #[.slice ca r.counts.length cc, .slice va r.evs.length vc, .bool r.blocked] 56 (0, 0)) by rw [hwb]; exact heap_new rfl)
          have HWB := Lib.hid hwb
          have HBB := Lib.hid hbb
          have hnb := hinn.bel.size
          have HRS := Lib.hid (show WfR r ∧ FitId r.evs ∧ SmE r.evs ∧ (∀ y ∈ r.evs, Sm y.time) ∧ r.evs.length < 1000000 ∧ r.counts.length < 1000000 from
            ⟨⟨HGD.out.sum, by have := HGD.out.few; omega, by have := HGD.out.le; omega⟩, fun y hy => (HGD.out.evs y hy).2.2, fun y hy => (HGD.out.evs y hy).1, fun y hy => (HGD.out.evs y hy).2.1, by have := HGD.out.few; omega, by have := HGD.out.le; omega⟩)
          have hszb := hbb.size
          have HAV := Lib.hid (adv_any p (.slice pa p.steps.length pc) (.slice ca r.counts.length cc) (.slice va r.evs.length vc) r e B W.heap.size wb hp (HPL.out.keep fun a ha => (hinn.bel.trans (hbb.mono hnb)).cell (Nat.lt_of_lt_of_le ha hB)) (by omega)
            (own_below HOG.out.1 hbb) (own_below HOG.out.2 hbb) HRS.out.1 HRS.out.2.1 HRS.out.2.2.1 HRS.out.2.2.2.1 HGD.out.pos HGD.out.le HRS.out.2.2.2.2.1 HRS.out.2.2.2.2.2 HEK.out.1 HEK.out.2.2 (Tab.of_eq HT.out ((hinn.bel.trans (hbb.mono hnb)).block _ hg)) (by omega))
          have p0 : wb.cell? ⟨W.heap.size, 0, none⟩ = some (.slice pa p.steps.length pc) := (Lib.cell_of_heap HIB.out.pl 0).trans rfl
          have p1 : wb.cell? ⟨W.heap.size, 1, none⟩ = some (.int .i64 p.within) := (Lib.cell_of_heap HIB.out.pl 1).trans rfl
          have r0 : wb.cell? ⟨wo2.heap.size, 0, none⟩ = some (.slice ca r.counts.length cc) := (Lib.cell_of_heap XRB.out 0).trans rfl
          have r1 : wb.cell? ⟨wo2.heap.size, 1, none⟩ = some (.slice va r.evs.length vc) := (Lib.cell_of_heap XRB.out 1).trans rfl
          have r2 : wb.cell? ⟨wo2.heap.size, 2, none⟩ = some (.bool r.blocked) := (Lib.cell_of_heap XRB.out 2).trans rfl
          have e0 : wb.cell? ⟨wo.heap.size, 0, none⟩ = some (.int .i64 e.id) := (Lib.cell_of_heap HIB.out.ev 0).trans rfl
          have e1 : wb.cell? ⟨wo.heap.size, 1, none⟩ = some (.int .i64 e.time) := (Lib.cell_of_heap HIB.out.ev 1).trans rfl
          have e2 : wb.cell? ⟨wo.heap.size, 2, none⟩ = some (.int .u8 e.kind) := (Lib.cell_of_heap HIB.out.ev 2).trans rfl
          have e3 : wb.cell? ⟨wo.heap.size, 3, none⟩ = some (.int .i64 e.val) := (Lib.cell_of_heap HIB.out.ev 3).trans rfl
          clear hinn hns hys hr' hwb hbb hgj
          go_upto_region 10 with (fail)
          rw [← HWB.out]
          clear d0 d1 d2
          go_wp2_with fail
          refine HAV.out.mono ?_
          rintro en w2 ⟨xv, rfl, hres, hb2⟩
          have HXI := Lib.hid (innR_snoc p e ((gs.map (·.2.2)).take j) r)
          obtain ⟨x, hx⟩ : ∃ x, advR p r e = x := ⟨_, rfl⟩
          have HX := Lib.hid hx
          rw [hx] at hres
          obtain ⟨c0, e0', gv, dv, xs, rfl, ho0, hxs, hgv, hxo, hdv⟩ := hres
          obtain ⟨a1, k1, rfl⟩ := (Sl.of_own (show w2.ownsRow wb.heap.size 3 1 c0 x.run.counts.length (cntV x.run.counts) from ho0.1)).shape
          obtain ⟨a2, k2, rfl⟩ := (Sl.of_own (show w2.ownsRow wb.heap.size 37 4 e0' x.run.evs.length (cellsOf encE x.run.evs) from ho0.2)).shape
          obtain ⟨a3, k3, rfl⟩ := (Sl.of_own hgv).shape
          obtain ⟨a4, k4, rfl⟩ := (Sl.of_own hdv).shape
          obtain ⟨w3, hw3⟩ : ∃ w3, w3 = w2.alloc (.cells #[.bool x.keep, .slice a1 x.run.counts.length k1, .slice a2 x.run.evs.length k2, .bool x.run.blocked, .slice a3 xs.length k3, .slice a4 x.done.length k4] 86) := ⟨_, rfl⟩
          have hb3 : Below w2.heap.size w2 w3 := by rw [hw3]; exact (Below.refl _ _).alloc (Nat.le_refl _) _
          have HW3 := Lib.hid hw3
          have HXA := Lib.hid (show XAt w2.heap.size wb.heap.size x (.slice a1 x.run.counts.length k1) (.slice a2 x.run.evs.length k2) (.slice a3 xs.length k3) (.slice a4 x.done.length k4) xs w3 from
            ⟨by rw [hw3]; exact heap_new rfl, ho0.below hb3, hxs, own_below hgv hb3, fun g hg => (hxo g hg).below hb3, own_below hdv hb3⟩)
          have HI3 := Lib.hid ((HIB.out.below hb2).below hb3)
          have HRN := Lib.hid HIB.out.n.own; have HRY := Lib.hid HIB.out.y.own
          have HOK := Lib.hid (advR_ok p OkEv k r e HGD.out HEK.out)
          rw [hx] at HOK HXI
          have hWb : W.heap.size ≤ wb.heap.size := HIB.out.bel.size
          have hbw2 := hb2.size; have hbw3 := hb3.size
          have hnsl : ns.length ≤ gs.length := by
            have h1 := congrArg List.length HNS.out
            rw [List.length_map] at h1
            have h2 := (innR_ok p OkEv k e HEK.out ((gs.map (·.2.2)).take j) (fun r' hr' => (HRK.out.1 r' (by rw [← HGS.out]; exact List.mem_of_mem_take hr')).more (by rw [List.length_take]; omega))).2.2
            rw [List.length_take, List.length_map] at h2
            omega
          have hysl : ys.length ≤ 2 * gs.length := by
            have h1 := congrArg List.length HYS.out
            rw [List.length_map] at h1
            have h2 := (innR_ok p OkEv k e HEK.out ((gs.map (·.2.2)).take j) (fun r' hr' => (HRK.out.1 r' (by rw [← HGS.out]; exact List.mem_of_mem_take hr')).more (by rw [List.length_take]; omega))).2.2
            rw [List.length_take, List.length_map] at h2
            omega
          have hosl : (os0 ++ (innR p e ((gs.map (·.2.2)).take j)).2.2).length ≤ 3 * 274877906944 := by
            have h2 := (innR_ok p OkEv k e HEK.out ((gs.map (·.2.2)).take j) (fun r' hr' => (HRK.out.1 r' (by rw [← HGS.out]; exact List.mem_of_mem_take hr')).more (by rw [List.length_take]; omega))).2.2
            rw [List.length_take, List.length_map] at h2
            rw [List.length_append]
            omega
          rw [HOSJ.out] at hosl
          obtain ⟨K1, hK1⟩ : ∃ K, x.keep = K := ⟨_, rfl⟩
          have HK1 := Lib.hid hK1
          rw [hK1] at HW3 ⊢
          clear hK1
          obtain ⟨X, hX⟩ : ∃ X, w2.heap.size = X := ⟨_, rfl⟩
          rw [hX] at HXA hbw2 hbw3
          have HXX := Lib.hid hX
          have HB2 := Lib.hid hb2
          clear hx ho0 hxs hgv hxo hdv hw3 hb2 hb3 p0 p1 r0 r1 r2 e0 e1 e2 e3 hX
          go_upto_region 11 with (fail)
          rw [← HW3.out, HXX.out]
          have y0 : w3.cell? ⟨X, 0, none⟩ = some (.bool K1) := by rw [← HK1.out]; exact (Lib.cell_of_heap HXA.out.blk 0).trans rfl
          go_upto_if 33 with (fail)
          clear y0
          go_cut [9] (fun s9 wx => (∃ a n c, s9 = .slice a n c) ∧ CutN W #[.slice pa p.steps.length pc, .int .i64 p.within] wo.heap.size e (.slice (some ⟨sb, 0, none⟩) ls.length sc) ls (.slice (some ⟨rb, 0, none⟩) gs.length rc) gs (.slice ya ys.length yc) (.slice oa os.length oc) ys os X wb.heap.size x (.slice a1 x.run.counts.length k1) (.slice a2 x.run.evs.length k2) (.slice a3 xs.length k3) (.slice a4 x.done.length k4) xs (innR p e ((gs.map (·.2.2)).take j)).1 s9 wx)
          case first =>
            cases hKv : K1 with
            | false =>
              have HV := Lib.hid (HK1.out.trans hKv)
              clear hKv
              go_wp2_with fail
              go_meet
              exact ⟨⟨_, _, _, rfl⟩, ns, by rw [HNS.out, HV.out]; simp, HI3.out, HXA.out⟩
            | true =>
              have HV := Lib.hid (HK1.out.trans hKv)
              clear hKv
              obtain ⟨i0, hi, hz0, hz1, hz2⟩ := info_parts infoRun
              have y1 : w3.cell? ⟨X, 1, none⟩ = some (.slice a1 x.run.counts.length k1) := (Lib.cell_of_heap HXA.out.blk 1).trans rfl
              have y2 : w3.cell? ⟨X, 2, none⟩ = some (.slice a2 x.run.evs.length k2) := (Lib.cell_of_heap HXA.out.blk 2).trans rfl
              have y3 : w3.cell? ⟨X, 3, none⟩ = some (.bool x.run.blocked) := (Lib.cell_of_heap HXA.out.blk 3).trans rfl
              have HO4 := Lib.hid (Reg.own_new (w := w3) (b := 0) (e := 56) (sz := 3) (n := 1) (cs := #[.slice a1 x.run.counts.length k1, .slice a2 x.run.evs.length k2, .bool x.run.blocked]) rfl (Nat.zero_le _) rfl (by unfold maxLen; omega))
              have HI4 := Lib.hid (HI3.out.below (w' := w3.alloc (.cells #[.slice a1 x.run.counts.length k1, .slice a2 x.run.evs.length k2, .bool x.run.blocked] 56)) ((Below.refl _ _).alloc (Nat.le_refl _) _))
              have HX4 := Lib.hid (HXA.out.below (w' := w3.alloc (.cells #[.slice a1 x.run.counts.length k1, .slice a2 x.run.evs.length k2, .bool x.run.blocked] 56)) ((Below.refl _ _).alloc (Nat.le_refl _) _))
              go_wp2_with (at_builtin; refine Reg.wpList_append_src _ rfl (.tmp 34) (.tmp 37) 84 rfl W.heap.size 0 56 i0 _ 3 56 Tryd.underlying84 hi hz0 hz1 hz2 rfl (by decide) _ _ ns.length 1 _ _ rfl HI4.out.n.own rfl HO4.out ?d1 ?d2 ?d3 ?d4 ?_)
              case d1 => exact ⟨rfl, rfl, rfl⟩
              case d2 => unfold maxLen; omega
              case d3 => omega
              case d4 => have := HI3.out.bel.size; omega
              intro v' w5 ho5 hg5 hv5
              obtain ⟨na', nc', rfl⟩ := (Sl.of_own ho5).shape
              have HCN := Lib.hid (show CutN W #[.slice pa p.steps.length pc, .int .i64 p.within] wo.heap.size e (.slice (some ⟨sb, 0, none⟩) ls.length sc) ls (.slice (some ⟨rb, 0, none⟩) gs.length rc) gs (.slice ya ys.length yc) (.slice oa os.length oc) ys os X wb.heap.size x (.slice a1 x.run.counts.length k1) (.slice a2 x.run.evs.length k2) (.slice a3 xs.length k3) (.slice a4 x.done.length k4) xs (innR p e ((gs.map (·.2.2)).take j)).1 (.slice na' (ns.length + 1) nc') w5 from
                ⟨ns ++ [(.slice a1 x.run.counts.length k1, .slice a2 x.run.evs.length k2, x.run)], by rw [List.map_append, HNS.out, if_pos HV.out]; rfl, HI4.out.pushN (g := (.slice a1 x.run.counts.length k1, .slice a2 x.run.evs.length k2, x.run)) (HX4.out.own.le hWb) ho5 hg5 (by simpa using hv5), HX4.out.grown HI4.out.n.own hg5 (HX4.out.apart HRN.out (Nat.le_refl _))⟩)
              clear ho5 hg5 hv5 hi hz0 hz1 hz2 y1 y2 y3
              go_wp2_with fail
              go_meet
              exact ⟨⟨_, _, _, rfl⟩, HCN.out⟩
          case rest =>
            obtain ⟨⟨na', nl, nc', rfl⟩, ns', hns', hin6, hx6⟩ := hcut
            obtain ⟨w6, rfl⟩ : ∃ w' : World, w' = wc := ⟨_, rfl⟩
            have HIN6 := Lib.hid hin6; have HX6 := Lib.hid hx6
            have HNS6 := Lib.hid hns'
            have HRY' := Lib.hid hin6.ry; have HNY' := Lib.hid hin6.ny
            have HRST := Lib.hid (show Rst W #[.slice pa p.steps.length pc, .int .i64 p.within] wo.heap.size e (.slice (some ⟨sb, 0, none⟩) ls.length sc) ls X x.keep (.slice a1 x.run.counts.length k1) (.slice a2 x.run.evs.length k2) x.run.blocked (.slice a3 xs.length k3) (.slice a4 x.done.length k4) gs ns' ys xs w6.drew from
              ⟨hin6.pl, hin6.ev, hin6.sl.drew, hx6.blk, fun g hg => by
                have h : OwnR W.heap.size w6 g := by
                  rcases hg with hg | hg | hg | hg
                  · exact hin6.r.els g hg
                  · exact hin6.n.els g hg
                  · exact hin6.y.els g hg
                  · exact (hx6.els g hg).le hWb
                exact ⟨h.1.drew, h.2.drew⟩⟩)
            have HXO := Lib.hid (show ∀ y ∈ cellsOf encR xs, y.oneCell' = true from RowR.one (H := wb.heap.size) (w := w6) (v := .slice a3 xs.length k3) ⟨hx6.row, hx6.els⟩)
            have hxl : xs.length ≤ 2 ∧ x.done.length ≤ 2 := by
              have h1 := HOK.out.1.few1
              have h2 := congrArg List.length hx6.gs
              rw [List.length_map] at h2
              exact ⟨by omega, HOK.out.1.few2⟩
            have hxl1 := hxl.1; have hxl2 := hxl.2
            obtain ⟨i0, hi, hz0, hz1, hz2⟩ := info_parts infoRun
            obtain ⟨i1, hj1, hy0, hy1, hy2⟩ := info_parts infoStr
            clear hin6 hx6 hns' hxl
            go_wp2_with fail
            refine Reg.inv_order (W := W) (h := 8) (t := 2)
              [⟨0, 39, [], 99, [], none, fun v _ => v = .slice ya ys.length yc⟩,
               ⟨1, 40, [], 99, [], none, fun v _ => v = .pointer (some ⟨X, 4, none⟩)⟩,
               ⟨2, 41, [], 99, [], none, fun v _ => v = .slice a3 xs.length k3⟩,
               ⟨3, 42, [56], 99, [], some 56, fun v w' => w'.ownsRow W.heap.size 56 3 v (ys.length + xs.length) (cellsOf encR ys ++ cellsOf encR xs) ∧ Reg.Apart (.slice (some ⟨rb, 0, none⟩) gs.length rc) v ∧ Reg.Apart (.slice na' nl nc') v⟩,
               ⟨4, 43, [], 99, [], none, fun v _ => v = .slice oa os.length oc⟩,
               ⟨5, 44, [], 99, [], none, fun v _ => v = .pointer (some ⟨X, 5, none⟩)⟩,
               ⟨6, 45, [], 99, [], none, fun v _ => v = .slice a4 x.done.length k4⟩,
               ⟨7, 46, [9], 99, [], some 9, fun v w' => w'.ownsRow W.heap.size 9 1 v (os.length + x.done.length) (os.map strV ++ x.done.map strV)⟩]
              [⟨[56], 3, fun w' => w'.ownsRow W.heap.size 56 3 (.slice ya ys.length yc) ys.length (cellsOf encR ys)⟩,
               ⟨[56], 3, fun w' => w'.ownsRow wb.heap.size 56 3 (.slice a3 xs.length k3) xs.length (cellsOf encR xs)⟩,
               ⟨[9], 7, fun w' => w'.ownsRow W.heap.size 9 1 (.slice oa os.length oc) os.length (os.map strV)⟩,
               ⟨[9], 7, fun w' => w'.ownsRow wb.heap.size 9 1 (.slice a4 x.done.length k4) x.done.length (x.done.map strV)⟩,
               ⟨[86, 25, 37, 3], 99, fun w' => Rst W #[.slice pa p.steps.length pc, .int .i64 p.within] wo.heap.size e (.slice (some ⟨sb, 0, none⟩) ls.length sc) ls X x.keep (.slice a1 x.run.counts.length k1) (.slice a2 x.run.evs.length k2) x.run.blocked (.slice a3 xs.length k3) (.slice a4 x.done.length k4) gs ns' ys xs w'⟩]
              (fun w' => w'.ownsRow W.heap.size 56 3 (.slice (some ⟨rb, 0, none⟩) gs.length rc) gs.length (cellsOf encR gs) ∧ w'.ownsRow W.heap.size 56 3 (.slice na' nl nc') ns'.length (cellsOf encR ns'))
              (by kernel_rfl) rfl (by kernel_rfl) (by kernel_rfl) (by kernel_rfl) (show [0, 1, 2, 3, 4, 5, 6, 7].Nodup by decide) (show ∀ i, i < 8 → i ∈ [0, 1, 2, 3, 4, 5, 6, 7] by decide) ?_ (show [39, 40, 41, 42, 43, 44, 45, 46].Nodup by decide) (show ∀ s ∈ [39, 40, 41, 42, 43, 44, 45, 46], s < 63 by decide) (by kernel_rfl) ?_ ?_ HIN6.out.bel (⟨HIN6.out.r.own.drew, HIN6.out.n.own.drew⟩) ?_ ?_ ?_
            · intro f hf
              simp only [List.mem_cons, List.not_mem_nil, or_false] at hf
              rcases hf with rfl | rfl | rfl | rfl | rfl | rfl | rfl | rfl <;> simp
            · intro f hf v w1 w2 hk hF
              simp only [List.mem_cons, List.not_mem_nil, or_false] at hf
              rcases hf with rfl | rfl | rfl | rfl | rfl | rfl | rfl | rfl
              · exact hF
              · exact hF
              · exact hF
              · exact ⟨(hk 56 (by simp)).1 _ _ _ _ _ hF.1, hF.2⟩
              · exact hF
              · exact hF
              · exact hF
              · exact (hk 9 (by simp)).1 _ _ _ _ _ hF
            · intro f hf w1 w2 hk hG
              simp only [List.mem_cons, List.not_mem_nil, or_false] at hf
              rcases hf with rfl | rfl | rfl | rfl | rfl
              · exact (hk 56 (by simp)).1 _ _ _ _ _ hG
              · exact (hk 56 (by simp)).1 _ _ _ _ _ hG
              · exact (hk 9 (by simp)).1 _ _ _ _ _ hG
              · exact (hk 9 (by simp)).1 _ _ _ _ _ hG
              · exact hG.keeps (hk 86 (by simp)) (hk 25 (by simp)) (hk 37 (by simp)) (hk 3 (by simp))
            · intro f hf
              simp only [List.mem_cons, List.not_mem_nil, or_false] at hf
              rcases hf with rfl | rfl | rfl | rfl | rfl
              · exact HIN6.out.y.own.drew
              · exact HX6.out.row.drew
              · exact HIN6.out.o.drew
              · exact HX6.out.done.drew
              · exact HRST.out
            · intro f hf a w1 hs hI hg' hst
              have hst4 := hst _ (Reg.at_stand 4 rfl) (by simp [Reg.okTil])
              have t10 : a.eval (.tmp 10) = .slice ya ys.length yc := Reg.eval_tmp ((hs.out 10 (show 10 ∉ [39, 40, 41, 42, 43, 44, 45, 46] by decide)).trans rfl)
              have t6 : a.eval (.tmp 6) = .slice oa os.length oc := Reg.eval_tmp ((hs.out 6 (show 6 ∉ [39, 40, 41, 42, 43, 44, 45, 46] by decide)).trans rfl)
              have t13 : a.eval (.tmp 13) = .pointer (some ⟨X, 0, none⟩) := Reg.eval_tmp ((hs.out 13 (show 13 ∉ [39, 40, 41, 42, 43, 44, 45, 46] by decide)).trans rfl)
              simp only [List.mem_cons, List.not_mem_nil, or_false] at hf
              rcases hf with rfl | rfl | rfl | rfl | rfl | rfl | rfl | rfl
              · exact Reg.step_valI rfl rfl rfl (Reg.run_move t10) rfl hs.below hI
              · exact Reg.step_valI rfl rfl rfl (Ord.run_fld t13 (fld_res2 w1 _)) rfl hs.below hI
              · obtain ⟨v1, hv1, rfl⟩ : ∃ v, a.tmps[40]? = some v ∧ v = .pointer (some ⟨X, 4, none⟩) := hg' _ (Reg.at_fact 1 rfl) (by kernel_rfl) (by simp [Reg.okTil])
                exact Reg.step_valI rfl rfl rfl (Reg.run_load (Reg.eval_tmp hv1) (load_runs ((Lib.cell_of_heap hst4.blk 4).trans rfl))) rfl hs.below hI
              · obtain ⟨v1, hv1, rfl⟩ : ∃ v, a.tmps[39]? = some v ∧ v = .slice ya ys.length yc := hg' _ (Reg.at_fact 0 rfl) (by kernel_rfl) (by simp [Reg.okTil])
                obtain ⟨v2, hv2, rfl⟩ : ∃ v, a.tmps[41]? = some v ∧ v = .slice a3 xs.length k3 := hg' _ (Reg.at_fact 2 rfl) (by kernel_rfl) (by simp [Reg.okTil])
                have hs0 := hst _ (Reg.at_stand 0 rfl) (by simp [Reg.okTil])
                have hs1 := hst _ (Reg.at_stand 1 rfl) (by simp [Reg.okTil])
                refine Reg.step_appI rfl rfl rfl rfl hs.below Tryd.underlying84 hi hz0 hz1 hz2 rfl (by decide) hv1 hs0 hv2 hs1 HXO.out (by unfold maxLen; omega) (by omega) (Nat.le_refl _) hs.below.size (fun v' w' ho hgr hv => ?_)
                exact ⟨⟨ho, HRY'.out.grown hI.1 hv, HNY'.out.grown hI.2 hv⟩, Reg.own_apart hI.1 HRY'.out hgr, Reg.own_apart hI.2 HNY'.out hgr⟩
              · exact Reg.step_valI rfl rfl rfl (Reg.run_move t6) rfl hs.below hI
              · exact Reg.step_valI rfl rfl rfl (Ord.run_fld t13 (fld_res3 w1 _)) rfl hs.below hI
              · obtain ⟨v1, hv1, rfl⟩ : ∃ v, a.tmps[44]? = some v ∧ v = .pointer (some ⟨X, 5, none⟩) := hg' _ (Reg.at_fact 5 rfl) (by kernel_rfl) (by simp [Reg.okTil])
                exact Reg.step_valI rfl rfl rfl (Reg.run_load (Reg.eval_tmp hv1) (load_strs ((Lib.cell_of_heap hst4.blk 5).trans rfl))) rfl hs.below hI
              · obtain ⟨v1, hv1, rfl⟩ : ∃ v, a.tmps[43]? = some v ∧ v = .slice oa os.length oc := hg' _ (Reg.at_fact 4 rfl) (by kernel_rfl) (by simp [Reg.okTil])
                obtain ⟨v2, hv2, rfl⟩ : ∃ v, a.tmps[45]? = some v ∧ v = .slice a4 x.done.length k4 := hg' _ (Reg.at_fact 6 rfl) (by kernel_rfl) (by simp [Reg.okTil])
                have hs0 := hst _ (Reg.at_stand 2 rfl) (by simp [Reg.okTil])
                have hs1 := hst _ (Reg.at_stand 3 rfl) (by simp [Reg.okTil])
                refine Reg.step_appI rfl rfl rfl rfl hs.below Tryd.underlying39 hj1 hy0 hy1 hy2 rfl (by decide) hv1 hs0 hv2 hs1 (strV_one _) (by unfold maxLen; omega) (by omega) (Nat.le_refl _) hs.below.size (fun v' w' ho hgr hv => ?_)
                have kk := Reg.Keeps.grown (show (56 : TypeId) ≠ 9 by decide) hs0 hgr
                exact ⟨ho, kk.1 _ _ _ _ _ hI.1, kk.1 _ _ _ _ _ hI.2⟩
            · intro vals w1 hF hfx hb1 hI
              obtain ⟨h42, ha42, hb42⟩ : (fun v w' => w'.ownsRow W.heap.size 56 3 v (ys.length + xs.length) (cellsOf encR ys ++ cellsOf encR xs) ∧ Reg.Apart (.slice (some ⟨rb, 0, none⟩) gs.length rc) v ∧ Reg.Apart (.slice na' nl nc') v) (vals 42) w1 := hF _ (Reg.at_fact 3 rfl) (show (8 + 2 : Nat) ≤ 99 by decide)
              have h46 : w1.ownsRow W.heap.size 9 1 (vals 46) (os.length + x.done.length) (os.map strV ++ x.done.map strV) := hF _ (Reg.at_fact 7 rfl) (show (8 + 2 : Nat) ≤ 99 by decide)
              have hst4 := hfx _ (Reg.at_stand 4 rfl) (show (8 + 2 : Nat) ≤ 99 by decide)
              have HFIN := Lib.hid (show Inn W #[.slice pa p.steps.length pc, .int .i64 p.within] wo.heap.size e (.slice (some ⟨sb, 0, none⟩) ls.length sc) ls (.slice (some ⟨rb, 0, none⟩) gs.length rc) gs (.slice na' nl nc') (vals 42) (vals 46) ns' (ys ++ xs) (os ++ x.done) w1 from hst4.inn hb1 hI.1 hI.2 h42 h46 HIN6.out.rn ha42 hb42 hWb)
              have HREL := Lib.hid (show InnS W p #[.slice pa p.steps.length pc, .int .i64 p.within] wo.heap.size e (.slice (some ⟨sb, 0, none⟩) ls.length sc) ls (.slice (some ⟨rb, 0, none⟩) gs.length rc) gs os0 (vals 46) (.slice na' nl nc') (vals 42) (.int .i64 ((j : Int) + 1)) w1 from
                ⟨j + 1, by omega, by go_num, ns', ys ++ xs, by rw [HTJ.out, HXI.out]; exact HNS6.out, by rw [HTJ.out, HXI.out, List.map_append, HYS.out, HX6.out.gs], by
                  rw [HTJ.out, HXI.out, ← List.append_assoc, HOSJ.out]; exact HFIN.out⟩)
              simp only [List.map_cons, List.map_nil]
              generalize vals 39 = q39 at HREL ⊢
              generalize vals 40 = q40 at HREL ⊢
              generalize vals 41 = q41 at HREL ⊢
              generalize vals 42 = q42 at HREL ⊢
              generalize vals 43 = q43 at HREL ⊢
              generalize vals 44 = q44 at HREL ⊢
              generalize vals 45 = q45 at HREL ⊢
              generalize vals 46 = q46 at HREL ⊢
              clear hF hfx h42 ha42 hb42 h46 hst4 hb1 hI HFIN
              unfold Reg.puts Reg.puts Reg.puts Reg.puts Reg.puts Reg.puts Reg.puts Reg.puts Reg.puts
              go_wp2_with fail
              go_roundw
              case rel => exact HREL.out
              case measure => simp [intOf]; omega
        · obtain rfl : j = gs.length := by omega
          rw [show (gs.map (·.2.2)).take gs.length = gs.map (·.2.2) from List.take_of_length_le (by simp)] at hns hys HOSJ
          obtain ⟨wo2, rfl⟩ : ∃ wo : World, wo = wr := ⟨_, rfl⟩
          have HINN := Lib.hid hinn; have HNS := Lib.hid hns; have HYS := Lib.hid hys
          have hWb : W.heap.size ≤ wo2.heap.size := hinn.bel.size
          have HST := Lib.hid (start_any p (.slice pa p.steps.length pc) e B wo2 hp (HPL.out.keep fun a ha => hinn.bel.cell (Nat.lt_of_lt_of_le ha hB)) (by omega) HEK.out.1 HEK.out.2.2 (Tab.of_eq HT.out (hinn.bel.block _ hg)) (by omega))
          have p0 : wo2.cell? ⟨W.heap.size, 0, none⟩ = some (.slice pa p.steps.length pc) := (Lib.cell_of_heap HINN.out.pl 0).trans rfl
          have p1 : wo2.cell? ⟨W.heap.size, 1, none⟩ = some (.int .i64 p.within) := (Lib.cell_of_heap HINN.out.pl 1).trans rfl
          have e0 : wo2.cell? ⟨wo.heap.size, 0, none⟩ = some (.int .i64 e.id) := (Lib.cell_of_heap HINN.out.ev 0).trans rfl
          have e1 : wo2.cell? ⟨wo.heap.size, 1, none⟩ = some (.int .i64 e.time) := (Lib.cell_of_heap HINN.out.ev 1).trans rfl
          have e2 : wo2.cell? ⟨wo.heap.size, 2, none⟩ = some (.int .u8 e.kind) := (Lib.cell_of_heap HINN.out.ev 2).trans rfl
          have e3 : wo2.cell? ⟨wo.heap.size, 3, none⟩ = some (.int .i64 e.val) := (Lib.cell_of_heap HINN.out.ev 3).trans rfl
          have HRUN := Lib.hid (show runA p (ls.take (k + 1)) = ((innR p e (gs.map (·.2.2))).1 ++ (innR p e (gs.map (·.2.2))).2.1 ++ (startR p e).grown, os ++ (startR p e).done) by
            rw [HTK.out, runA_snoc]
            unfold stepA
            rw [← HGS.out, HOS.out, turnR_inn]
            simp only []
            rw [← List.append_assoc, HOSJ.out])
          have HOK := Lib.hid (startR_ok p OkEv e HEK.out)
          have hnl : ns.length ≤ gs.length ∧ ys.length ≤ 2 * gs.length ∧ os.length ≤ 3 * 274877906944 := by
            have h2 := (innR_ok p OkEv k e HEK.out (gs.map (·.2.2)) (fun r' hr' => (HRK.out.1 r' (by rw [← HGS.out]; exact hr')).more (by rw [List.length_take]; omega))).2.2
            have h3 := congrArg List.length hns
            have h4 := congrArg List.length hys
            have h5 := congrArg List.length HOSJ.out
            rw [List.length_append] at h5
            rw [List.length_map] at h2 h3 h4
            omega
          have hnsl := hnl.1; have hysl := hnl.2.1; have hosl := hnl.2.2
          clear hinn hns hys hnl
          go_wp2_with fail
          refine HST.out.mono ?_
          rintro en w2 ⟨xv, rfl, hres, hb2⟩
          obtain ⟨x, hx⟩ : ∃ x, startR p e = x := ⟨_, rfl⟩
          rw [hx] at hres HRUN HOK
          obtain ⟨c0, e0', gv, dv, xs, rfl, ho0, hxs, hgv, hxo, hdv⟩ := hres
          obtain ⟨a1, k1, rfl⟩ := (Sl.of_own (show w2.ownsRow wo2.heap.size 3 1 c0 x.run.counts.length (cntV x.run.counts) from ho0.1)).shape
          obtain ⟨a2, k2, rfl⟩ := (Sl.of_own (show w2.ownsRow wo2.heap.size 37 4 e0' x.run.evs.length (cellsOf encE x.run.evs) from ho0.2)).shape
          obtain ⟨a3, k3, rfl⟩ := (Sl.of_own hgv).shape
          obtain ⟨a4, k4, rfl⟩ := (Sl.of_own hdv).shape
          obtain ⟨w3, hw3⟩ : ∃ w3, w3 = w2.alloc (.cells #[.bool x.keep, .slice a1 x.run.counts.length k1, .slice a2 x.run.evs.length k2, .bool x.run.blocked, .slice a3 xs.length k3, .slice a4 x.done.length k4] 86) := ⟨_, rfl⟩
          have hb3 : Below w2.heap.size w2 w3 := by rw [hw3]; exact (Below.refl _ _).alloc (Nat.le_refl _) _
          have HW3 := Lib.hid hw3
          obtain ⟨X, hX⟩ : ∃ X, w2.heap.size = X := ⟨_, rfl⟩
          have HXA := Lib.hid (show XAt X wo2.heap.size x (.slice a1 x.run.counts.length k1) (.slice a2 x.run.evs.length k2) (.slice a3 xs.length k3) (.slice a4 x.done.length k4) xs w3 from
            ⟨by rw [hw3, ← hX]; exact heap_new rfl, ho0.below hb3, hxs, own_below hgv hb3, fun g hg => (hxo g hg).below hb3, own_below hdv hb3⟩)
          have HI3 := Lib.hid ((HINN.out.below hb2).below hb3)
          have HXX := Lib.hid hX
          have HRST := Lib.hid (show Rst W #[.slice pa p.steps.length pc, .int .i64 p.within] wo.heap.size e (.slice (some ⟨sb, 0, none⟩) ls.length sc) ls X x.keep (.slice a1 x.run.counts.length k1) (.slice a2 x.run.evs.length k2) x.run.blocked (.slice a3 xs.length k3) (.slice a4 x.done.length k4) [] ns ys xs w3.drew from
            ⟨HI3.out.pl, HI3.out.ev, HI3.out.sl.drew, HXA.out.blk, fun g hg => by
              have h : OwnR W.heap.size w3 g := by
                rcases hg with hg | hg | hg | hg
                · cases hg
                · exact HI3.out.n.els g hg
                · exact HI3.out.y.els g hg
                · exact (HXA.out.els g hg).le hWb
              exact ⟨h.1.drew, h.2.drew⟩⟩)
          have HXO := Lib.hid (show ∀ y ∈ cellsOf encR xs, y.oneCell' = true from RowR.one (H := wo2.heap.size) (w := w3) (v := .slice a3 xs.length k3) ⟨HXA.out.row, HXA.out.els⟩)
          have HYO := Lib.hid (show ∀ y ∈ cellsOf encR ys, y.oneCell' = true from RowR.one HI3.out.y)
          have HGN := Lib.hid (HXA.out.apart HINN.out.n.own (Nat.le_refl _))
          have hxl : xs.length ≤ 1 ∧ x.done.length ≤ 1 := by
            have h1 := HOK.out.2.1
            have h2 := congrArg List.length hxs
            rw [List.length_map] at h2
            exact ⟨by omega, HOK.out.2.2⟩
          have hxl1 := hxl.1; have hxl2 := hxl.2
          obtain ⟨i0, hi, hz0, hz1, hz2⟩ := info_parts infoRun
          obtain ⟨i1, hj1, hy0, hy1, hy2⟩ := info_parts infoStr
          clear hx ho0 hxs hgv hxo hdv hw3 hb2 hb3 p0 p1 e0 e1 e2 e3 hX hxl
          go_upto_region 16 with (fail)
          rw [← HW3.out, HXX.out]
          refine Reg.inv_order (W := W) (h := 10) (t := 2)
            [⟨0, 51, [], 99, [], none, fun v _ => v = .slice na ns.length nc⟩,
             ⟨1, 52, [], 99, [], none, fun v _ => v = .slice ya ys.length yc⟩,
             ⟨2, 53, [56], 5, [], some 56, fun v w' => w'.ownsRow W.heap.size 56 3 v (ns.length + ys.length) (cellsOf encR ns ++ cellsOf encR ys) ∧ Reg.Apart (.slice a3 xs.length k3) v⟩,
             ⟨3, 54, [], 99, [], none, fun v _ => v = .pointer (some ⟨X, 4, none⟩)⟩,
             ⟨4, 55, [], 99, [], none, fun v _ => v = .slice a3 xs.length k3⟩,
             ⟨5, 56, [56], 99, [], some 56, fun v w' => w'.ownsRow W.heap.size 56 3 v (ns.length + ys.length + xs.length) ((cellsOf encR ns ++ cellsOf encR ys) ++ cellsOf encR xs)⟩,
             ⟨6, 57, [], 99, [], none, fun v _ => v = .slice oa os.length oc⟩,
             ⟨7, 58, [], 99, [], none, fun v _ => v = .pointer (some ⟨X, 5, none⟩)⟩,
             ⟨8, 59, [], 99, [], none, fun v _ => v = .slice a4 x.done.length k4⟩,
             ⟨9, 60, [9], 99, [], some 9, fun v w' => w'.ownsRow W.heap.size 9 1 v (os.length + x.done.length) (os.map strV ++ x.done.map strV)⟩]
            [⟨[56], 2, fun w' => w'.ownsRow W.heap.size 56 3 (.slice na ns.length nc) ns.length (cellsOf encR ns)⟩,
             ⟨[56], 2, fun w' => w'.ownsRow W.heap.size 56 3 (.slice ya ys.length yc) ys.length (cellsOf encR ys)⟩,
             ⟨[9], 9, fun w' => w'.ownsRow W.heap.size 9 1 (.slice oa os.length oc) os.length (os.map strV)⟩,
             ⟨[9], 9, fun w' => w'.ownsRow wo2.heap.size 9 1 (.slice a4 x.done.length k4) x.done.length (x.done.map strV)⟩,
             ⟨[86, 25, 37, 3], 99, fun w' => Rst W #[.slice pa p.steps.length pc, .int .i64 p.within] wo.heap.size e (.slice (some ⟨sb, 0, none⟩) ls.length sc) ls X x.keep (.slice a1 x.run.counts.length k1) (.slice a2 x.run.evs.length k2) x.run.blocked (.slice a3 xs.length k3) (.slice a4 x.done.length k4) [] ns ys xs w'⟩]
            (fun w' => w'.ownsRow wo2.heap.size 56 3 (.slice a3 xs.length k3) xs.length (cellsOf encR xs))
            (by kernel_rfl) rfl (by kernel_rfl) (by kernel_rfl) (by kernel_rfl) (show [0, 1, 2, 3, 4, 5, 6, 7, 8, 9].Nodup by decide) (show ∀ i, i < 10 → i ∈ [0, 1, 2, 3, 4, 5, 6, 7, 8, 9] by decide) ?_ (show [51, 52, 53, 54, 55, 56, 57, 58, 59, 60].Nodup by decide) (show ∀ s ∈ [51, 52, 53, 54, 55, 56, 57, 58, 59, 60], s < 63 by decide) (by kernel_rfl) ?_ ?_ HI3.out.bel (HXA.out.row.drew) ?_ ?_ ?_
          · intro f hf
            simp only [List.mem_cons, List.not_mem_nil, or_false] at hf
            rcases hf with rfl | rfl | rfl | rfl | rfl | rfl | rfl | rfl | rfl | rfl <;> simp
          · intro f hf v w1 w2 hk hF
            simp only [List.mem_cons, List.not_mem_nil, or_false] at hf
            rcases hf with rfl | rfl | rfl | rfl | rfl | rfl | rfl | rfl | rfl | rfl
            · exact hF
            · exact hF
            · exact ⟨(hk 56 (by simp)).1 _ _ _ _ _ hF.1, hF.2⟩
            · exact hF
            · exact hF
            · exact (hk 56 (by simp)).1 _ _ _ _ _ hF
            · exact hF
            · exact hF
            · exact hF
            · exact (hk 9 (by simp)).1 _ _ _ _ _ hF
          · intro f hf w1 w2 hk hG
            simp only [List.mem_cons, List.not_mem_nil, or_false] at hf
            rcases hf with rfl | rfl | rfl | rfl | rfl
            · exact (hk 56 (by simp)).1 _ _ _ _ _ hG
            · exact (hk 56 (by simp)).1 _ _ _ _ _ hG
            · exact (hk 9 (by simp)).1 _ _ _ _ _ hG
            · exact (hk 9 (by simp)).1 _ _ _ _ _ hG
            · exact hG.keeps (hk 86 (by simp)) (hk 25 (by simp)) (hk 37 (by simp)) (hk 3 (by simp))
          · intro f hf
            simp only [List.mem_cons, List.not_mem_nil, or_false] at hf
            rcases hf with rfl | rfl | rfl | rfl | rfl
            · exact HI3.out.n.own.drew
            · exact HI3.out.y.own.drew
            · exact HI3.out.o.drew
            · exact HXA.out.done.drew
            · exact HRST.out
          · intro f hf a w1 hs hI hg' hst
            have hst4 := hst _ (Reg.at_stand 4 rfl) (by simp [Reg.okTil])
            have t9 : a.eval (.tmp 9) = .slice na ns.length nc := Reg.eval_tmp ((hs.out 9 (show 9 ∉ [51, 52, 53, 54, 55, 56, 57, 58, 59, 60] by decide)).trans rfl)
            have t10 : a.eval (.tmp 10) = .slice ya ys.length yc := Reg.eval_tmp ((hs.out 10 (show 10 ∉ [51, 52, 53, 54, 55, 56, 57, 58, 59, 60] by decide)).trans rfl)
            have t6 : a.eval (.tmp 6) = .slice oa os.length oc := Reg.eval_tmp ((hs.out 6 (show 6 ∉ [51, 52, 53, 54, 55, 56, 57, 58, 59, 60] by decide)).trans rfl)
            have t14 : a.eval (.tmp 14) = .pointer (some ⟨X, 0, none⟩) := Reg.eval_tmp ((hs.out 14 (show 14 ∉ [51, 52, 53, 54, 55, 56, 57, 58, 59, 60] by decide)).trans rfl)
            simp only [List.mem_cons, List.not_mem_nil, or_false] at hf
            rcases hf with rfl | rfl | rfl | rfl | rfl | rfl | rfl | rfl | rfl | rfl
            · exact Reg.step_valI rfl rfl rfl (Reg.run_move t9) rfl hs.below hI
            · exact Reg.step_valI rfl rfl rfl (Reg.run_move t10) rfl hs.below hI
            · obtain ⟨v1, hv1, rfl⟩ : ∃ v, a.tmps[51]? = some v ∧ v = .slice na ns.length nc := hg' _ (Reg.at_fact 0 rfl) (by kernel_rfl) (by simp [Reg.okTil])
              obtain ⟨v2, hv2, rfl⟩ : ∃ v, a.tmps[52]? = some v ∧ v = .slice ya ys.length yc := hg' _ (Reg.at_fact 1 rfl) (by kernel_rfl) (by simp [Reg.okTil])
              have hs0 := hst _ (Reg.at_stand 0 rfl) (by simp [Reg.okTil])
              have hs1 := hst _ (Reg.at_stand 1 rfl) (by simp [Reg.okTil])
              refine Reg.step_appI rfl rfl rfl rfl hs.below Tryd.underlying84 hi hz0 hz1 hz2 rfl (by decide) hv1 hs0 hv2 hs1 HYO.out (by unfold maxLen; omega) (by omega) (Nat.le_refl _) hs.below.size (fun v' w' ho hgr hv => ?_)
              exact ⟨⟨ho, HGN.out.grown hI hv⟩, Reg.own_apart hI HGN.out hgr⟩
            · exact Reg.step_valI rfl rfl rfl (Ord.run_fld t14 (fld_res2 w1 _)) rfl hs.below hI
            · obtain ⟨v1, hv1, rfl⟩ : ∃ v, a.tmps[54]? = some v ∧ v = .pointer (some ⟨X, 4, none⟩) := hg' _ (Reg.at_fact 3 rfl) (by kernel_rfl) (by simp [Reg.okTil])
              exact Reg.step_valI rfl rfl rfl (Reg.run_load (Reg.eval_tmp hv1) (load_runs ((Lib.cell_of_heap hst4.blk 4).trans rfl))) rfl hs.below hI
            · obtain ⟨v1, hv1, ho1, ha1⟩ : ∃ v, a.tmps[53]? = some v ∧ w1.ownsRow W.heap.size 56 3 v (ns.length + ys.length) (cellsOf encR ns ++ cellsOf encR ys) ∧ Reg.Apart (.slice a3 xs.length k3) v := hg' _ (Reg.at_fact 2 rfl) (by kernel_rfl) (by simp [Reg.okTil])
              obtain ⟨v2, hv2, rfl⟩ : ∃ v, a.tmps[55]? = some v ∧ v = .slice a3 xs.length k3 := hg' _ (Reg.at_fact 4 rfl) (by kernel_rfl) (by simp [Reg.okTil])
              refine Reg.step_appI rfl rfl rfl rfl hs.below Tryd.underlying84 hi hz0 hz1 hz2 rfl (by decide) hv1 ho1 hv2 hI HXO.out (by unfold maxLen; omega) (by omega) (Nat.le_refl _) hs.below.size (fun v' w' ho hgr hv => ?_)
              exact ⟨ho, Reg.own_apart hI ha1 hgr⟩
            · exact Reg.step_valI rfl rfl rfl (Reg.run_move t6) rfl hs.below hI
            · exact Reg.step_valI rfl rfl rfl (Ord.run_fld t14 (fld_res3 w1 _)) rfl hs.below hI
            · obtain ⟨v1, hv1, rfl⟩ : ∃ v, a.tmps[58]? = some v ∧ v = .pointer (some ⟨X, 5, none⟩) := hg' _ (Reg.at_fact 7 rfl) (by kernel_rfl) (by simp [Reg.okTil])
              exact Reg.step_valI rfl rfl rfl (Reg.run_load (Reg.eval_tmp hv1) (load_strs ((Lib.cell_of_heap hst4.blk 5).trans rfl))) rfl hs.below hI
            · obtain ⟨v1, hv1, rfl⟩ : ∃ v, a.tmps[57]? = some v ∧ v = .slice oa os.length oc := hg' _ (Reg.at_fact 6 rfl) (by kernel_rfl) (by simp [Reg.okTil])
              obtain ⟨v2, hv2, rfl⟩ : ∃ v, a.tmps[59]? = some v ∧ v = .slice a4 x.done.length k4 := hg' _ (Reg.at_fact 8 rfl) (by kernel_rfl) (by simp [Reg.okTil])
              have hs0 := hst _ (Reg.at_stand 2 rfl) (by simp [Reg.okTil])
              have hs1 := hst _ (Reg.at_stand 3 rfl) (by simp [Reg.okTil])
              refine Reg.step_appI rfl rfl rfl rfl hs.below Tryd.underlying39 hj1 hy0 hy1 hy2 rfl (by decide) hv1 hs0 hv2 hs1 (strV_one _) (by unfold maxLen; omega) (by omega) (Nat.le_refl _) hs.below.size (fun v' w' ho hgr hv => ?_)
              have kk := Reg.Keeps.grown (show (56 : TypeId) ≠ 9 by decide) hs0 hgr
              exact ⟨ho, kk.1 _ _ _ _ _ hI⟩
          · intro vals w1 hF hfx hb1 hI
            have h56 : w1.ownsRow W.heap.size 56 3 (vals 56) (ns.length + ys.length + xs.length) ((cellsOf encR ns ++ cellsOf encR ys) ++ cellsOf encR xs) := hF _ (Reg.at_fact 5 rfl) (show (10 + 2 : Nat) ≤ 99 by decide)
            have h60 : w1.ownsRow W.heap.size 9 1 (vals 60) (os.length + x.done.length) (os.map strV ++ x.done.map strV) := hF _ (Reg.at_fact 9 rfl) (show (10 + 2 : Nat) ≤ 99 by decide)
            have hst4 := hfx _ (Reg.at_stand 4 rfl) (show (10 + 2 : Nat) ≤ 99 by decide)
            have HREL := Lib.hid (show AllS W p #[.slice pa p.steps.length pc, .int .i64 p.within] (.slice (some ⟨sb, 0, none⟩) ls.length sc) ls (vals 56) (vals 60) (.int .i64 ((k : Int) + 1)) w1 from
              ⟨k + 1, by omega, by go_num, hb1, hst4.pl, hst4.sl, ns ++ ys ++ xs, by rw [HRUN.out, List.map_append, List.map_append, HNS.out, HYS.out, HXA.out.gs], ⟨by
                rw [List.length_append, List.length_append, show cellsOf encR (ns ++ ys ++ xs) = (cellsOf encR ns ++ cellsOf encR ys) ++ cellsOf encR xs by simp [cellsOf]]; exact h56, fun g hg => by
                rcases List.mem_append.1 hg with hg | hg
                · rcases List.mem_append.1 hg with hg | hg
                  · exact hst4.els g (.inr (.inl hg))
                  · exact hst4.els g (.inr (.inr (.inl hg)))
                · exact hst4.els g (.inr (.inr (.inr hg)))⟩, by
                rw [HRUN.out]; simp only []; rw [List.length_append, List.map_append]; exact h60⟩)
            simp only [List.map_cons, List.map_nil]
            generalize vals 51 = q51 at HREL ⊢
            generalize vals 52 = q52 at HREL ⊢
            generalize vals 53 = q53 at HREL ⊢
            generalize vals 54 = q54 at HREL ⊢
            generalize vals 55 = q55 at HREL ⊢
            generalize vals 56 = q56 at HREL ⊢
            generalize vals 57 = q57 at HREL ⊢
            generalize vals 58 = q58 at HREL ⊢
            generalize vals 59 = q59 at HREL ⊢
            generalize vals 60 = q60 at HREL ⊢
            clear hF hfx h56 h60 hst4 hb1 hI
            unfold Reg.puts Reg.puts Reg.puts Reg.puts Reg.puts Reg.puts Reg.puts Reg.puts Reg.puts Reg.puts Reg.puts
            go_wp2_with fail
            go_roundw
            case rel => exact HREL.out
            case measure => simp [intOf]; omega
    · obtain rfl : k = ls.length := by omega
      rw [List.take_length] at hout
      obtain ⟨oa, oc, rfl⟩ := (Sl.of_own hout).shape
      have HP := Lib.hid (show ∃ v ls', Ending.returned (.slice oa (runA p ls).2.length oc) = .returned v ∧ ls'.Perm l ∧ SortedE ls' ∧ wr.ownsRow W.heap.size 9 1 v (runA p ls').2.length ((runA p ls').2.map strV) ∧ Below W.heap.size W wr from ⟨_, ls, rfl, HPERM.out, HSORT.out, hout, hb⟩)
      clear hb hpb hsl hgs hrow hout
      go_wp2_with fail
      go_ret
      exact HP.out
end Go.Proofs.YtcojnojdgigmdaaDoor.WR
