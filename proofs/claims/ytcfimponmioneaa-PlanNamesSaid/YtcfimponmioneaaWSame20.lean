/- The walk of oxbowlaw20.tests at two lists of tests that are one. -/
import Derived.Test.YtcfimponmioneaaDk
namespace Go.Proofs.Ytcfimponmioneaa.WL
open Go Go.RowKit Go.Sort Go.Proofs.Ytcfimponmioneaa Go.Proofs.Ytcfimponmioneaa.PL Go.Proofs.Ytcfimponmioneaa.Mem Go.Proofs.Ytcfimponmioneaa.WP

theorem Tests.at_ {w : World} {L B : Nat} {v : Value} {l : List PT} (h : Tests w L B v l) {i : Nat} (hi : i < l.length) :
    ∃ (b o c : Nat), v = .slice (some ⟨b, o, none⟩) l.length c ∧ b < B ∧ w.cell? ⟨b, o + i * 4, none⟩ = some (.int .i64 l[i].op) ∧ w.cell? ⟨b, o + i * 4 + 1, none⟩ = some (.int .i64 l[i].step) ∧
      w.cell? ⟨b, o + i * 4 + 2, none⟩ = some (.int .i64 l[i].add) ∧ w.cell? ⟨b, o + i * 4 + 3, none⟩ = some (.bool l[i].turn) := by
  obtain ⟨b, o, c, hv, hb, hx⟩ := Sl.elem h.1 hi
  refine ⟨b, o, c, hv, hb, ?_, ?_, ?_, ?_⟩
  · exact hx 0 _ (by omega) (by rw [cellsOf_get encT_len l i 0 (by omega) hi]; rfl)
  · exact hx 1 _ (by omega) (by rw [cellsOf_get encT_len l i 1 (by omega) hi]; rfl)
  · exact hx 2 _ (by omega) (by rw [cellsOf_get encT_len l i 2 (by omega) hi]; rfl)
  · exact hx 3 _ (by omega) (by rw [cellsOf_get encT_len l i 3 (by omega) hi]; rfl)

set_option maxRecDepth 100000 in
set_option maxHeartbeats 3200000 in
theorem tests_any (v1 v2 : Value) (l : List PT) (w : World) (L : Nat) (h1 : Tests w L w.heap.size v1 l) (h2 : Tests w L w.heap.size v2 l) (h16 : l.length ≤ 16) :
    Calls Try.prog 42 #[v1, v2] w fun e w' => e = .returned (.bool true) ∧ Grw w w' := by
  obtain ⟨a1, c1, rfl⟩ := Sl.shape h1.1
  obtain ⟨a2, c2, rfl⟩ := Sl.shape h2.1
  have H1 := Lib.hid h1
  have H2 := Lib.hid h2
  have h16' : (l.length : Int) ≤ 16 := by omega
  clear h1 h2
  go_enter Try.func42, Try.ntmps42
  go_wp2_with fail
  go_loopw [14] (fun u wr => ∃ i : Nat, u = .int .i64 i ∧ i ≤ l.length ∧ Grw w wr) (fun u _ => l.length - (intOf u).toNat)
  case atStart => exact ⟨0, rfl, by omega, Grw.refl _⟩
  case round =>
    obtain ⟨i, rfl, hi, hg⟩ := hrel
    have HG := Lib.hid hg
    have hsz := hg.size
    clear hg
    by_cases hlt : i < l.length
    · have hlt' : (i : Int) < (l.length : Int) := by omega
      have hi0 : (0 : Int) ≤ (i : Int) := by omega
      obtain ⟨g1, o1, q1, e1, hb1, x0, x1, x2, x3⟩ := H1.out.at_ hlt
      obtain ⟨g2, o2, q2, e2, hb2, y0, y1, y2, y3⟩ := H2.out.at_ hlt
      obtain ⟨rfl, rfl⟩ : a1 = some ⟨g1, o1, none⟩ ∧ c1 = q1 := by simpa using e1
      obtain ⟨rfl, rfl⟩ : a2 = some ⟨g2, o2, none⟩ ∧ c2 = q2 := by simpa using e2
      have d0 := HG.out.cell hb1 x0
      have d1 := HG.out.cell hb1 x1
      have d2 := HG.out.cell hb1 x2
      have d3 := HG.out.cell hb1 x3
      have HG' := Lib.hid (HG.out.alloc (.cells #[.int .i64 l[i].op, .int .i64 l[i].step, .int .i64 l[i].add, .bool l[i].turn] 73))
      have d4 := HG'.out.cell hb2 y0
      have d5 := HG'.out.cell hb2 y1
      have d6 := HG'.out.cell hb2 y2
      have d7 := HG'.out.cell hb2 y3
      generalize l[i] = x at *
      clear e1 e2 x0 x1 x2 x3 y0 y1 y2 y3
      go_wp2_with fail
      go_quiet (fail)
      go_wp2_with fail
      go_roundw
      case rel => exact ⟨i + 1, by go_num, by omega, HG'.out.drewN _⟩
      case measure => simp [intOf]; omega
    · obtain rfl : i = l.length := by omega
      go_wp2_with fail
      go_ret
      exact ⟨rfl, HG.out⟩

theorem Grw.cellG {w : World} {b o : Nat} {u : Value} (hb : b < w.heap.size) (h : w.cell? ⟨b, o, none⟩ = some u) : ∀ n os, (grow (w.drewN n) os).cell? ⟨b, o, none⟩ = some u := fun n os => cell_grown hb h n os

set_option maxRecDepth 100000 in
set_option maxHeartbeats 6400000 in
theorem same20 (vs qs : Value) (wi : Int) (ss : List GS) (gs : List (Grp Unit)) (ts : Nat → List PT) (w : World) (L : Nat) (h1 : PlanAt w L w.heap.size vs gs ts) (h2 : DocAt w L w.heap.size qs ss ts)
    (hf : (flat gs).map (·.1) = ss) (hg : goodG gs) (h8 : ss.length ≤ 8) (h16 : ∀ i, (ts i).length ≤ 16) :
    Calls Try.prog 22 #[.agg #[vs, .int .i64 wi], .agg #[qs, .int .i64 wi]] w fun e w' => e = .returned (.bool true) ∧ Grw w w' := by
  obtain ⟨a1, c1, rfl, hp⟩ := h1
  obtain ⟨a2, c2, rfl, hd⟩ := h2
  have hfl : (flat gs).length = ss.length := by rw [← hf]; simp
  have hat : ∀ (k : Nat) (x : GS × Unit), (flat gs)[k]? = some x → ∃ hk : k < ss.length, ss[k] = x.1 := fun k x hk => by
    have h : ss[k]? = some x.1 := by rw [← hf, List.getElem?_map, hk]; rfl
    exact ⟨(List.getElem?_eq_some_iff.1 h).1, (List.getElem?_eq_some_iff.1 h).2⟩
  obtain ⟨w2, hw2⟩ : ∃ w2, w2 = (w.alloc (.cells #[.slice a1 gs.length c1, .int .i64 wi] 51)).alloc (.cells #[.slice a2 ss.length c2, .int .i64 wi] 59) := ⟨_, rfl⟩
  have hz2 : w2.heap.size = w.heap.size + 2 := by rw [hw2]; simp
  have G2 : Grw w w2 := by rw [hw2]; exact ((Grw.refl w).alloc _).alloc _
  have P1 := Lib.hid (show w2.heap[w.heap.size]? = some (.cells #[.slice a1 gs.length c1, .int .i64 wi] 51 (0, 0)) by rw [hw2]; exact heap_alloc (heap_new rfl))
  have P2 := Lib.hid (show w2.heap[w.heap.size + 1]? = some (.cells #[.slice a2 ss.length c2, .int .i64 wi] 59 (0, 0)) by rw [hw2]; exact heap_new (by simp))
  have HP := Lib.hid hp; have HD := Lib.hid hd; have HAT := Lib.hid hat; have HG := Lib.hid hg; have H16 := Lib.hid h16
  have HG2 := Lib.hid G2
  have HW2 := Lib.hid hw2
  have mixed : Try.prog.follows .mixedOrders = true := by kernel_rfl
  have hgl : gs.length ≤ 8 := by
    have h0 : ∀ g : List (Grp Unit), g.length ≤ (flat g).length := by
      intro g
      induction g with
      | nil => simp
      | cons a r ih => simp only [flat, List.flatMap_cons, List.length_append, List.length_cons] at ih ⊢; omega
    have := h0 gs
    omega
  have hgl' : (gs.length : Int) ≤ 8 := by omega
  have h8' : (ss.length : Int) ≤ 8 := by omega
  clear hp hd hat hf hg h16 G2 hw2
  go_enter Try.func22, Try.ntmps22
  go_wp2_with fail
  rw [← HW2.out]
  go_loopw [5, 13] (fun t u wr => ∃ q : Nat, u = .int .i64 q ∧ q ≤ gs.length ∧ t = .int .i64 (startG gs q) ∧ Grw w2 wr) (fun _ u _ => gs.length - (intOf u).toNat)
  case atStart => exact ⟨0, rfl, by omega, by rw [startG_zero]; rfl, Grw.refl _⟩
  case round =>
    obtain ⟨q, rfl, hq, rfl, hgr⟩ := hrel
    have HGR := Lib.hid hgr
    have HGW := Lib.hid (HG2.out.trans hgr)
    have hsz := hgr.size
    clear hgr
    by_cases hlt : q < gs.length
    · have hlt' : (q : Int) < (gs.length : Int) := by omega
      have hq0 : (0 : Int) ≤ (q : Int) := by omega
      obtain ⟨gv, e1, hgv, p0, p1, p2, ⟨vt, p3, ht1⟩, vb, p4, hbars⟩ := HP.out q hlt
      obtain ⟨hk, hsk⟩ := HAT.out _ _ (flat_head gs q hlt)
      obtain ⟨gd, e2, hgd, d0, d1, d2, d3, vd, d4, ht2⟩ := HD.out _ hk
      rw [hsk] at d0 d1 d2 d3
      have hneg := (HG.out gs[q] (List.getElem_mem hlt)).1
      rw [hneg] at d1
      have hss := startG_succ gs q hlt
      obtain ⟨bad, bcap, rfl, hbr⟩ := hbars
      subst e1 e2
      obtain ⟨x, hx⟩ : ∃ x, gs[q].1.1 = x := ⟨_, rfl⟩
      rw [hx] at p0 p1 p2 d0 d2 d3
      obtain ⟨k, hkk⟩ : ∃ k, startG gs q = k := ⟨_, rfl⟩
      rw [hkk] at hk d0 d1 d2 d3 d4 ht1 ht2 hss hbr ⊢
      have hkl : (k : Int) < (ss.length : Int) := by omega
      have hk0 : (0 : Int) ≤ (k : Int) := by omega
      have x0 := HGW.out.cell hgv.2 p0
      have x1 := HGW.out.cell hgv.2 p1
      have x2 := HGW.out.cell hgv.2 p2
      have x3 := HGW.out.cell hgv.2 p3
      have x4 := HGW.out.cell hgv.2 p4
      obtain ⟨wa, hwa⟩ : ∃ wa, wa = wr.alloc (.cells #[.int .u8 x.k, .int .i64 x.lo, .int .i64 x.hi, vt, .slice bad gs[q].2.length bcap] 67) := ⟨_, rfl⟩
      have hza : wa.heap.size = wr.heap.size + 1 := by rw [hwa]; simp
      have ga : Grw wr wa := by rw [hwa]; exact (Grw.refl wr).alloc _
      have PA := Lib.hid (show wa.heap[wr.heap.size]? = some (.cells #[.int .u8 x.k, .int .i64 x.lo, .int .i64 x.hi, vt, .slice bad gs[q].2.length bcap] 67 (0, 0)) by rw [hwa]; exact heap_new rfl)
      have hgwa := HGW.out.trans ga
      have hgsz := hgwa.size
      have y0 := Grw.cellG (b := w.heap.size + 1) (o := 0) (u := .slice (some ⟨gd, 0, none⟩) ss.length c2) (show _ < wa.heap.size by omega) ((HGR.out.trans ga).cell (by omega) ((Lib.cell_of_heap P2.out 0).trans rfl))
      have z0 := Grw.cellG (show gd < wa.heap.size by omega) (hgwa.cell hgd.2 d0)
      have z1 := Grw.cellG (show gd < wa.heap.size by omega) (hgwa.cell hgd.2 d1)
      have z2 := Grw.cellG (show gd < wa.heap.size by omega) (hgwa.cell hgd.2 d2)
      have z3 := Grw.cellG (show gd < wa.heap.size by omega) (hgwa.cell hgd.2 d3)
      have z4 := Grw.cellG (show gd < wa.heap.size by omega) (hgwa.cell hgd.2 d4)
      have s0 := Grw.cellG (b := wr.heap.size) (o := 0) (u := .int .u8 x.k) (show _ < wa.heap.size by omega) ((Lib.cell_of_heap PA.out 0).trans rfl)
      have s1 := Grw.cellG (b := wr.heap.size) (o := 1) (u := .int .i64 x.lo) (show _ < wa.heap.size by omega) ((Lib.cell_of_heap PA.out 1).trans rfl)
      have s2 := Grw.cellG (b := wr.heap.size) (o := 2) (u := .int .i64 x.hi) (show _ < wa.heap.size by omega) ((Lib.cell_of_heap PA.out 2).trans rfl)
      have s3 := Grw.cellG (b := wr.heap.size) (o := 3) (u := vt) (show _ < wa.heap.size by omega) ((Lib.cell_of_heap PA.out 3).trans rfl)
      have htc : ∀ n os, Calls Try.prog 42 #[vt, vd] (grow (wa.drewN n) os) fun e w' => e = .returned (.bool true) ∧ Grw (grow (wa.drewN n) os) w' := fun n os => by
        have hb := hgwa.trans (show Grw wa (grow (wa.drewN n) os) from ⟨n, os, rfl⟩)
        exact tests_any vt vd (ts k) _ L ((ht1.keep fun p _ hp => hb.below.cell hp).more (Nat.le_refl _) hb.size) ((ht2.keep fun p _ hp => hb.below.cell hp).more (Nat.le_refl _) hb.size) (H16.out k)
      have HTC := Lib.hid htc
      have HBR := Lib.hid hbr
      have HSS := Lib.hid hss
      have HWA := Lib.hid hwa
      have HGWA := Lib.hid hgwa
      have HGA := Lib.hid ga
      have HKK := Lib.hid hkk
      have hkf : decide (ss.length ≤ k) = false := by simp; omega
      obtain ⟨vtl, vtc, rfl⟩ := Sl.shape ht1.1
      obtain ⟨vdl, vdc, rfl⟩ := Sl.shape ht2.1
      clear p0 p1 p2 p3 p4 d0 d1 d2 d3 d4 ht1 ht2 htc hbr hss hwa hgwa ga hkk hneg hx hsk
      go_wp2_with fail
      rw [← HWA.out]
      go_quiet_grown (first | (go_at_call 42; exact Grw.grown (HTC.out _ _)) | exact Grw.grown (HTC.out _ _))
      change Exit.then _ _ Exit.normal _ (grow (wa.drewN nq) osq)
      have gq : Grw wa (grow (wa.drewN nq) osq) := ⟨nq, osq, rfl⟩
      have HGQ := Lib.hid ((HGR.out.trans HGA.out).trans gq)
      have s4 : (grow (wa.drewN nq) osq).cell? ⟨wr.heap.size, 4, none⟩ = some (.slice bad gs[q].2.length bcap) := gq.cell (by omega) ((Lib.cell_of_heap PA.out 4).trans rfl)
      have hbl : gs[q].2.length ≤ 8 := by have := startG_le gs (q + 1); have := HSS.out; omega
      have hbl' : (gs[q].2.length : Int) ≤ 8 := by omega
      clear y0 z0 z1 z2 z3 z4 s0 s1 s2 s3 x0 x1 x2 x3 x4 gq HTC
      generalize grow (wa.drewN nq) osq = w6 at *
      go_wp2_with fail
      clear s4
      go_loopw [5, 80] (fun t u wz => ∃ r : Nat, u = .int .i64 r ∧ r ≤ gs[q].2.length ∧ t = .int .i64 (k + 1 + r : Nat) ∧ Grw w2 wz) (fun _ u _ => gs[q].2.length - (intOf u).toNat)
      case atStart => exact ⟨0, rfl, by omega, by go_num, HGQ.out⟩
      case round =>
        clear HGQ PA HGWA HGA
        obtain ⟨r, rfl, hr, rfl, hgr2⟩ := hrel
        have HGR2 := Lib.hid hgr2
        have HGW2 := Lib.hid (HG2.out.trans hgr2)
        have hsz2 := hgr2.size
        clear hgr2
        by_cases hrl : r < gs[q].2.length
        · have hrl' : (r : Int) < (gs[q].2.length : Int) := by omega
          have hr0 : (0 : Int) ≤ (r : Int) := by omega
          obtain ⟨gb, e1, hgb, p0, vt2, p1, ht1⟩ := HBR.out r hrl
          have hfb := flat_bar gs q r hlt hrl
          rw [HKK.out] at hfb
          obtain ⟨m, hm⟩ : ∃ m, k + 1 + r = m := ⟨_, rfl⟩
          rw [hm] at hfb ht1 ⊢
          obtain ⟨hk2, hsk⟩ := HAT.out _ _ hfb
          obtain ⟨gd2, e2, hgd2, d0, d1, _, _, vd2, d4, ht2⟩ := HD.out _ hk2
          obtain rfl : gd = gd2 := by simpa using e2
          rw [hsk] at d0 d1
          have hneg := (HG.out gs[q] (List.getElem_mem hlt)).2 _ (List.getElem_mem hrl)
          rw [hneg] at d1
          subst e1
          obtain ⟨y, hy⟩ : ∃ y, gs[q].2[r].1 = y := ⟨_, rfl⟩
          rw [hy] at p0 d0
          have hml : (m : Int) < (ss.length : Int) := by omega
          have hm0 : (0 : Int) ≤ (m : Int) := by omega
          have x0 := HGW2.out.cell hgb.2 p0
          have x1 := HGW2.out.cell hgb.2 p1
          obtain ⟨wa2, hwa⟩ : ∃ wa, wa = wr.alloc (.cells #[.int .u8 y.k, vt2] 69) := ⟨_, rfl⟩
          have hza2 : wa2.heap.size = wr.heap.size + 1 := by rw [hwa]; simp
          have ga : Grw wr wa2 := by rw [hwa]; exact (Grw.refl wr).alloc _
          have PA := Lib.hid (show wa2.heap[wr.heap.size]? = some (.cells #[.int .u8 y.k, vt2] 69 (0, 0)) by rw [hwa]; exact heap_new rfl)
          have hgwa := HGW2.out.trans ga
          have hgsz2 := hgwa.size
          have y0 := Grw.cellG (b := w.heap.size + 1) (o := 0) (u := .slice (some ⟨gd, 0, none⟩) ss.length c2) (show _ < wa2.heap.size by omega) ((HGR2.out.trans ga).cell (by omega) ((Lib.cell_of_heap P2.out 0).trans rfl))
          have z0 := Grw.cellG (show gd < wa2.heap.size by omega) (hgwa.cell hgd2.2 d0)
          have z1 := Grw.cellG (show gd < wa2.heap.size by omega) (hgwa.cell hgd2.2 d1)
          have z4 := Grw.cellG (show gd < wa2.heap.size by omega) (hgwa.cell hgd2.2 d4)
          have s0 := Grw.cellG (b := wr.heap.size) (o := 0) (u := .int .u8 y.k) (show _ < wa2.heap.size by omega) ((Lib.cell_of_heap PA.out 0).trans rfl)
          have s1 := Grw.cellG (b := wr.heap.size) (o := 1) (u := vt2) (show _ < wa2.heap.size by omega) ((Lib.cell_of_heap PA.out 1).trans rfl)
          have htc : ∀ n os, Calls Try.prog 42 #[vt2, vd2] (grow (wa2.drewN n) os) fun e w' => e = .returned (.bool true) ∧ Grw (grow (wa2.drewN n) os) w' := fun n os => by
            have hb := hgwa.trans (show Grw wa2 (grow (wa2.drewN n) os) from ⟨n, os, rfl⟩)
            exact tests_any vt2 vd2 (ts m) _ L ((ht1.keep fun p _ hp => hb.below.cell hp).more (Nat.le_refl _) hb.size) ((ht2.keep fun p _ hp => hb.below.cell hp).more (Nat.le_refl _) hb.size) (H16.out m)
          have HTC := Lib.hid htc
          have HWA2 := Lib.hid hwa
          have HGA2 := Lib.hid ga
          have HM := Lib.hid hm
          have hmf : decide (ss.length ≤ m) = false := by simp; omega
          obtain ⟨ut, uc, rfl⟩ := Sl.shape ht1.1
          obtain ⟨vu, vuc, rfl⟩ := Sl.shape ht2.1
          clear p0 p1 d0 d1 d4 ht1 ht2 htc hwa hgwa ga hm hneg hy hsk e2
          go_wp2_with fail
          rw [← HWA2.out]
          go_quiet_grown (first | (go_at_call 42; exact Grw.grown (HTC.out _ _)) | exact Grw.grown (HTC.out _ _))
          change Exit.then _ _ Exit.normal _ (grow (wa2.drewN nq) osq)
          have gq : Grw wa2 (grow (wa2.drewN nq) osq) := ⟨nq, osq, rfl⟩
          have HGQ := Lib.hid ((HGR2.out.trans HGA2.out).trans gq)
          clear y0 z0 z1 z4 s0 s1 x0 x1 gq HTC
          generalize grow (wa2.drewN nq) osq = w7 at *
          go_wp2_with fail
          go_roundw
          case rel => exact ⟨r + 1, by go_num, by omega, by rw [show k + 1 + (r + 1) = m + 1 by have := HM.out; omega]; go_num, HGQ.out⟩
          case measure => simp [intOf]; omega
        · obtain rfl : r = gs[q].2.length := by omega
          clear hrl hr
          rw [show k + 1 + gs[q].2.length = startG gs (q + 1) from HSS.out.symm]
          go_wp2_with fail
          go_roundw
          case rel => exact ⟨q + 1, by go_num, by omega, rfl, HGR2.out⟩
          case measure => simp [intOf]; omega
    · obtain rfl : q = gs.length := by omega
      have hse : startG gs gs.length = ss.length := by rw [startG_end]; exact hfl
      have y0 : wr.cell? ⟨w.heap.size + 1, 0, none⟩ = some (.slice a2 ss.length c2) := HGR.out.cell (by omega) ((Lib.cell_of_heap P2.out 0).trans rfl)
      have y1 : wr.cell? ⟨w.heap.size + 1, 1, none⟩ = some (.int .i64 wi) := HGR.out.cell (by omega) ((Lib.cell_of_heap P2.out 1).trans rfl)
      have y2 : wr.cell? ⟨w.heap.size, 1, none⟩ = some (.int .i64 wi) := HGR.out.cell (by omega) ((Lib.cell_of_heap P1.out 1).trans rfl)
      rw [hse]
      clear hse
      go_wp2_with fail
      go_ret
      exact ⟨rfl, HGW.out⟩
end Go.Proofs.Ytcfimponmioneaa.WL
