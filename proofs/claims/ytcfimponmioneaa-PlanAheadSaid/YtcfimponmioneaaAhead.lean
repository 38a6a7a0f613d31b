/- PlanAhead: the law's walk. -/
import Derived.Test.YtcfimponmioneaaWake20
import Derived.Test.YtcfimponmioneaaPats
import Derived.Test.YtcfimponmioneaaPSteps
import Derived.Test.YtcfimponmioneaaPatIn
namespace Go.Proofs.Ytcfimponmioneaa.WL
open Go Go.RowKit Go.Sort Go.Proofs.Ytcfimponmioneaa Go.Proofs.Ytcfimponmioneaa.PL Go.Proofs.Ytcfimponmioneaa.PP Go.Proofs.Ytcfimponmioneaa.Mem Go.Proofs.Ytcfimponmioneaa.WP

set_option maxRecDepth 100000 in
set_option maxHeartbeats 6400000 in
theorem ahead_law (s : ByteArray) (vs vc : Value) (wi : Int) (ss : List GS) (cs : List GC) (W : World) (h1 : Stps W W.heap.size vs ss) (h2 : Cnds W W.heap.size vc cs) (hl1 : ss.length * 24 ≤ 140737488351232) (hl2 : cs.length * 32 ≤ 140737488351232) :
    Calls Try.prog 10 #[.string s, .agg #[vs, vc, .int .i64 wi]] W fun e w' => e = .returned (.bool true) ∧ Below W.heap.size W w' := by
  obtain ⟨a1, c1, rfl⟩ := Sl.shape h1
  obtain ⟨a2, c2, rfl⟩ := Sl.shape h2
  obtain ⟨w1, hw1⟩ : ∃ w1, w1 = W.alloc (.cells #[.slice a1 ss.length c1, .slice a2 cs.length c2, .int .i64 wi] 46) := ⟨_, rfl⟩
  have hb1 : Below W.heap.size W w1 := by rw [hw1]; exact (Below.refl _ _).alloc (Nat.le_refl _) _
  have hz1 : w1.heap.size = W.heap.size + 1 := by rw [hw1]; simp
  have HPT := Lib.hid (pats_any _ _ wi ss cs w1 (Sl.more (Sl.below h1 hb1) hb1.size) (Sl.more (Sl.below h2 hb1) hb1.size) hl1 hl2)
  have HW1 := Lib.hid hw1
  have HB1 := Lib.hid hb1
  have hss : ss.length ≤ maxLen := by unfold maxLen; omega
  have hcs : cs.length ≤ maxLen := by unfold maxLen; omega
  clear h1 h2 hw1 hb1
  obtain ⟨pr, hpr⟩ : ∃ pr, pParse s.data.toList = pr := ⟨_, rfl⟩
  have HPR := Lib.hid hpr
  clear hpr
  go_enter Try.func10, Try.ntmps10
  go_wp2_with fail
  rw [← HW1.out]
  refine HPT.out.mono ?_
  rintro e w2 ⟨sa, ca, sb, cb, rfl, hb2, o1, o2, o3, o4⟩
  obtain ⟨sad, scap, rfl⟩ := own_slice o1
  obtain ⟨sbd, sbcap, rfl⟩ := own_slice o2
  obtain ⟨cad, ccap, rfl⟩ := own_slice o3
  obtain ⟨cbd, cbcap, rfl⟩ := own_slice o4
  obtain ⟨w3, hw3⟩ : ∃ w3, w3 = (w2.alloc (.cells #[.slice sad ss.length scap, .slice cad cs.length ccap, .int .i64 wi] 25)).alloc (.cells #[.slice sbd ss.length sbcap, .slice cbd cs.length cbcap, .int .i64 wi] 32) := ⟨_, rfl⟩
  have hb23 : Below w2.heap.size w2 w3 := by rw [hw3]; exact ((Below.refl _ _).alloc (Nat.le_refl _) _).alloc (by simp) _
  have hz3 : w3.heap.size = w2.heap.size + 2 := by rw [hw3]; simp
  have X3 := Lib.hid (show w3.heap[w2.heap.size]? = some (.cells #[.slice sad ss.length scap, .slice cad cs.length ccap, .int .i64 wi] 25 (0, 0)) by rw [hw3]; exact heap_alloc (heap_new rfl))
  have HS2 := Lib.hid (show Stps w3 w3.heap.size (.slice sad ss.length scap) ss from Sl.own_more' o1 hb23)
  have HC2 := Lib.hid (show Cnds w3 w3.heap.size (.slice cad cs.length ccap) cs from Sl.own_more' o3 hb23)
  have hsz2 := hb2.size
  have HB3 := Lib.hid (HB1.out.trans ((hb2.mono (by omega)).trans (hb23.mono (by omega))))
  have HW3 := Lib.hid hw3
  have HP := Lib.hid (parse_any s w3)
  rw [HPR.out] at HP
  clear hb2 o1 o2 o3 o4 hw3 hb23 HPT
  go_wp2_with fail
  rw [← HW3.out]
  obtain ⟨B, hB⟩ : ∃ B, w2.heap.size = B := ⟨_, rfl⟩
  rw [hB] at X3 hz3 hsz2 ⊢
  clear hB HW3
  have hBW : W.heap.size ≤ B := by have := HB1.out.size; omega
  have hB3 : B < w3.heap.size := by omega
  cases pr with
  | inl f =>
    obtain ⟨k, er⟩ := f
    refine HP.out.mono ?_
    rintro e w4 ⟨hb4, rfl⟩
    have her : (er == 0) = false := by simp [parse_nz HPR.out]
    have hsz4 := hb4.size
    have X4 := Lib.hid (blk_alloc ((hb4.block B (by omega)).trans X3.out) (.cells #[nilS, nilS, .int .i64 0] 25))
    have z0 := (Lib.cell_of_heap X4.out 0).trans rfl
    have z1 := (Lib.cell_of_heap X4.out 1).trans rfl
    have z2 := (Lib.cell_of_heap X4.out 2).trans rfl
    have hba := hb4.alloc hb4.size (.cells #[nilS, nilS, .int .i64 0] 25)
    have PIN := Lib.hid (PatIn.below (W := W) (wi := wi) ⟨HB3.out, HS2.out, HC2.out, hss, hcs⟩ hba)
    clear hb4 hba X3 HS2 HC2 HB3 HB1 HP
    go_wp2_with fail
    clear z0 z1 z2
    obtain ⟨w6, hw6⟩ : ∃ w6, w6 = w4.alloc (.cells #[nilS, nilS, .int .i64 0] 25) := ⟨_, rfl⟩
    rw [← hw6] at PIN X4 ⊢
    have hB6 : B < w6.heap.size := by rw [hw6]; simp; omega
    clear hw6 her HPR HW1 hz1 hz3 hsz2 hsz4 hB3 hl1 hl2 hss hcs
    have HMK := Lib.hid (make_any _ _ wi ss cs w6 PIN.out.st PIN.out.cd PIN.out.l1 PIN.out.l2)
    refine HMK.out.mono ?_
    rintro e w7 ⟨hb7, hpost⟩
    obtain ⟨ck1, hk1⟩ : ∃ x, (checkP ss cs wi).1 = x := ⟨_, rfl⟩
    obtain ⟨ck2, hk2⟩ : ∃ x, (checkP ss cs wi).2 = x := ⟨_, rfl⟩
    rw [hk1, hk2] at hpost
    have hsz7 := hb7.size
    have HB7 := Lib.hid hb7
    have BW7 := Lib.hid (PIN.out.bel.trans (hb7.mono PIN.out.bel.size))
    clear hb7
    rcases hpost with ⟨hbad, rfl⟩ | ⟨hck, hok, vp, rfl, hpl⟩
    · have hbad' : (ck2 != 0) = true := by simpa using hbad
      have hbad'' : (ck2 == 0) = false := by simpa using hbad
      obtain ⟨w8, hw8⟩ : ∃ w8, w8 = w7.alloc (.cells #[nilS, .int .i64 0] 51) := ⟨_, rfl⟩
      have hb8 := BW7.out.alloc BW7.out.size (.cells #[nilS, .int .i64 0] 51)
      rw [← hw8] at hb8
      have BW8 := Lib.hid hb8
      have HW8 := Lib.hid hw8
      have HWK := Lib.hid (wakes20_any w8)
      clear hw8 hb8 hbad hk1 hk2 HMK
      go_wp2_with fail
      rw [← HW8.out]
      refine HWK.out.mono ?_
      rintro e w9 ⟨rfl, hb9⟩
      have BW9 := Lib.hid (BW8.out.trans (hb9.mono BW8.out.size))
      clear hb9
      have HWK2 := Lib.hid (wakes20_any w9)
      go_wp2_with fail
      refine HWK2.out.mono ?_
      rintro e w10 ⟨rfl, hb10⟩
      have BW10 := Lib.hid (BW9.out.trans (hb10.mono BW9.out.size))
      clear hb10
      go_wp2_with fail
      go_ret
      exact ⟨rfl, BW10.out⟩
    · obtain ⟨pad, pc, rfl, hq⟩ := hpl
      rw [hck] at hk1 hk2
      subst hk1 hk2
      have HOK := Lib.hid hok
      obtain ⟨w8, hw8⟩ : ∃ w8, w8 = w7.alloc (.cells #[.slice pad (groups (unitl ss)).length pc, .int .i64 wi] 51) := ⟨_, rfl⟩
      have hb8 : Below w7.heap.size w7 w8 := by rw [hw8]; exact (Below.refl _ _).alloc (Nat.le_refl _) _
      have hz8 : w8.heap.size = w7.heap.size + 1 := by rw [hw8]; simp
      have Y8 := show w8.heap[w7.heap.size]? = some (.cells #[.slice pad (groups (unitl ss)).length pc, .int .i64 wi] 51 (0, 0)) by rw [hw8]; exact heap_new rfl
      have HW8 := Lib.hid hw8
      have HWK := Lib.hid (wakes20_any w8)
      have HB8 := Lib.hid hb8
      have HY8 := Lib.hid Y8
      clear hw8 hb8 HMK hok Y8 hck
      go_wp2_with fail
      rw [← HW8.out]
      refine HWK.out.mono ?_
      rintro e w9 ⟨rfl, hb9⟩
      have hsz9 := hb9.size
      have hb79 := HB8.out.trans (hb9.mono HB8.out.size)
      have hpl : PlanAt w9 w6.heap.size w9.heap.size (.slice pad (groups (unitl ss)).length pc) (groups (unitl ss)) (testsAt ss cs) :=
        (PlanAt.keep (show PlanAt w7 _ w7.heap.size _ _ _ from ⟨pad, pc, rfl, hq⟩) fun p _ h2 => World.cell?_of_block (hb79.block p.block h2)).more (Nat.le_refl _) hb79.size
      obtain ⟨_, _, e, hq9⟩ := hpl
      obtain ⟨rfl, rfl⟩ : pad = _ ∧ pc = _ := by simpa using e
      have HQ := Lib.hid hq9
      have Y9 := Lib.hid ((hb9.block _ (by omega)).trans HY8.out)
      have X9 := Lib.hid ((hb79.block B (by omega)).trans ((HB7.out.block B (by omega)).trans X4.out))
      have BW9 := Lib.hid (BW7.out.trans (hb79.mono BW7.out.size))
      have z0 : w9.cell? ⟨w7.heap.size, 0, none⟩ = some (.slice pad (groups (unitl ss)).length pc) := (Lib.cell_of_heap Y9.out 0).trans rfl
      clear hb9 hb79 hq hq9 e HY8 HB8 HWK HW8 HB7 X4 BW7
      obtain ⟨C, hC⟩ : ∃ C, w7.heap.size = C := ⟨_, rfl⟩
      rw [hC] at Y9 z0 hz8 hsz7 ⊢
      have hC9 : C < w9.heap.size := by omega
      have hB9 : B < w9.heap.size := by omega
      clear hC
      obtain ⟨gs, hgs⟩ : ∃ gs, groups (unitl ss) = gs := ⟨_, rfl⟩
      rw [hgs] at Y9 z0 HQ ⊢
      have HGS := Lib.hid hgs
      have hg8 : gs.length ≤ 8 := by rw [← hgs]; exact HOK.out.groups8
      have hg8' : (gs.length : Int) ≤ 8 := by omega
      clear hgs

      have HAH := Lib.hid (show ∀ q (_ : q < gs.length) t, t ∈ testsAt ss cs (startG gs q) → t.step < q ∧ -2 ≤ t.step by have h := HGS.out; subst h; exact fun q hq t ht => HOK.out.ahead hq ht)
      have HAB := Lib.hid (show ∀ q (hq : q < gs.length) r (_ : r < gs[q].2.length) t, t ∈ testsAt ss cs (startG gs q + 1 + r) → t.step ≤ q ∧ -1 ≤ t.step by have h := HGS.out; subst h; exact fun q hq r hr t ht => HOK.out.aheadB hq hr ht)
      have HTL := Lib.hid HOK.out.tests
      have HBL8 := Lib.hid (show ∀ q (_ : q < gs.length), gs[q].2.length ≤ 8 by
        have h := HGS.out; subst h
        intro q hq
        have h1 := startG_succ _ q hq
        have h2 := startG_le8 HOK.out (q + 1)
        omega)
      go_wp2_with fail
      go_loopw [51] (fun u wr => ∃ q : Nat, u = .int .i64 q ∧ q ≤ gs.length ∧ Grw w9 wr) (fun u _ => gs.length - (intOf u).toNat)
      case atStart => exact ⟨0, rfl, by omega, Grw.refl _⟩
      case round =>
        obtain ⟨q, rfl, hq, hgr⟩ := hrel
        have HGR := Lib.hid hgr
        have hsz := hgr.size
        clear hgr z0
        by_cases hlt : q < gs.length
        · have hlt' : (q : Int) < (gs.length : Int) := by omega
          have hq0 : (0 : Int) ≤ (q : Int) := by omega
          obtain ⟨gv, e1, hgv, p0, p1, p2, ⟨vt, p3, ht1⟩, vb, p4, hbars⟩ := HQ.out q hlt
          obtain ⟨bad, bcap, rfl, hbr⟩ := hbars
          obtain ⟨vtl, vtc, rfl⟩ := Sl.shape ht1.1
          subst e1
          have hah := HAH.out q hlt
          have hab := HAB.out q hlt
          have hbl8 := HBL8.out q hlt
          have htl16 := HTL.out (startG gs q)
          obtain ⟨x, hx⟩ : ∃ x, gs[q].1.1 = x := ⟨_, rfl⟩
          rw [hx] at p0 p1 p2
          have x0 := HGR.out.cell hgv.2 p0
          have x1 := HGR.out.cell hgv.2 p1
          have x2 := HGR.out.cell hgv.2 p2
          have x3 := HGR.out.cell hgv.2 p3
          have x4 := HGR.out.cell hgv.2 p4
          obtain ⟨k, hkk⟩ : ∃ k, startG gs q = k := ⟨_, rfl⟩
          simp only [hkk] at hbr hab
          rw [hkk] at ht1 hah htl16 x3
          have HBR := Lib.hid hbr
          have HT1 := Lib.hid ht1
          have HAH1 := Lib.hid hah
          have HAB1 := Lib.hid hab
          obtain ⟨tl, htl⟩ : ∃ c, (testsAt ss cs k).length = c := ⟨_, rfl⟩
          obtain ⟨bl, hbl⟩ : ∃ c, gs[q].2.length = c := ⟨_, rfl⟩
          rw [htl] at x3 htl16
          rw [hbl] at x4 hbl8
          have HTLE := Lib.hid htl
          have HBL := Lib.hid hbl
          have htl16' : (tl : Int) ≤ 16 := by omega
          have hbl8' : (bl : Int) ≤ 8 := by omega
          obtain ⟨wa, hwa⟩ : ∃ wa, wa = wr.alloc (.cells #[.int .u8 x.k, .int .i64 x.lo, .int .i64 x.hi, .slice vtl tl vtc, .slice bad bl bcap] 67) := ⟨_, rfl⟩
          have hza : wa.heap.size = wr.heap.size + 1 := by rw [hwa]; simp
          have PA := Lib.hid (show wa.heap[wr.heap.size]? = some (.cells #[.int .u8 x.k, .int .i64 x.lo, .int .i64 x.hi, .slice vtl tl vtc, .slice bad bl bcap] 67 (0, 0)) by rw [hwa]; exact heap_new rfl)
          have HGA := Lib.hid (HGR.out.trans (show Grw wr wa by rw [hwa]; exact (Grw.refl wr).alloc _))
          have HWA := Lib.hid hwa
          clear p0 p1 p2 p3 p4 ht1 hbr hx hkk htl hbl hah hab hwa
          go_wp2_with fail
          rw [← HWA.out]
          clear x0 x1 x2 x3 x4
          obtain ⟨D, hD⟩ : ∃ D, wr.heap.size = D := ⟨_, rfl⟩
          rw [hD] at PA hza hsz ⊢
          clear hD HWA
          go_loopw [59] (fun u wz => ∃ r : Nat, u = .int .i64 r ∧ r ≤ tl ∧ Grw wa wz) (fun u _ => tl - (intOf u).toNat)
          case atStart => exact ⟨0, rfl, by omega, Grw.refl _⟩
          case round =>
            obtain ⟨r, rfl, hr, hgr2⟩ := hrel
            have HGR2 := Lib.hid hgr2
            have HGR3 := Lib.hid (HGA.out.trans hgr2)
            have hsz2 := hgr2.size
            clear hgr2
            by_cases hrl : r < tl
            · have hrl' : (r : Int) < (tl : Int) := by omega
              have hr0 : (0 : Int) ≤ (r : Int) := by omega
              obtain ⟨g1, o1, q1, e1, hb1, y0, y1, y2, y3⟩ := HT1.out.at_ (i := r) (by rw [HTLE.out]; exact hrl)
              obtain ⟨rfl, rfl⟩ : vtl = some ⟨g1, o1, none⟩ ∧ vtc = q1 := by rw [HTLE.out] at e1; simpa using e1
              have hst := HAH1.out _ (List.getElem_mem (show r < (testsAt ss cs k).length by rw [HTLE.out]; exact hrl))
              have d0 := HGR3.out.cell hb1 y0
              have d1 := HGR3.out.cell hb1 y1
              have d2 := HGR3.out.cell hb1 y2
              have d3 := HGR3.out.cell hb1 y3
              clear y0 y1 y2 y3 e1
              generalize (testsAt ss cs k)[r]'(by rw [HTLE.out]; exact hrl) = t at *
              have hs1 : decide (t.step ≥ (q : Int)) = false := by simp; omega
              have hs1' : decide ((q : Int) ≤ t.step) = false := by simp; omega
              have hs2 : decide (t.step < -2) = false := by simp; omega
              go_wp2_with fail
              go_roundw
              case rel => exact ⟨r + 1, by go_num, by omega, HGR2.out.alloc _⟩
              case measure => simp [intOf]; omega
            · obtain rfl : r = tl := by omega
              have s4 : wr.cell? ⟨D, 4, none⟩ = some (.slice bad bl bcap) := HGR2.out.cell (show (⟨D, 4, none⟩ : Addr).block < wa.heap.size by show D < _; omega) ((Lib.cell_of_heap PA.out 4).trans rfl)
              go_wp2_with fail
              clear s4
              go_loopw [76] (fun u wz => ∃ r : Nat, u = .int .i64 r ∧ r ≤ bl ∧ Grw wa wz) (fun u _ => bl - (intOf u).toNat)
              case atStart => exact ⟨0, rfl, by omega, HGR2.out⟩
              case round =>
                clear HGR3 HGR2 hsz2 hr
                obtain ⟨m, rfl, hm, hgr2⟩ := hrel
                have HGR2 := Lib.hid hgr2
                have HGR3 := Lib.hid (HGA.out.trans hgr2)
                have hsz2 := hgr2.size
                clear hgr2
                by_cases hml : m < bl
                · have hml' : (m : Int) < (bl : Int) := by omega
                  have hm0 : (0 : Int) ≤ (m : Int) := by omega
                  obtain ⟨gb, e1, hgb, q0, vt2, q1, ht2⟩ := HBR.out m (by rw [HBL.out]; exact hml)
                  obtain ⟨ut, uc, rfl⟩ := Sl.shape ht2.1
                  subst e1
                  have hab := HAB1.out m (by rw [HBL.out]; exact hml)
                  have htl2 := HTL.out (k + 1 + m)
                  have x0 := HGR3.out.cell hgb.2 q0
                  have x1 := HGR3.out.cell hgb.2 q1
                  obtain ⟨k2, hk2⟩ : ∃ k2, k + 1 + m = k2 := ⟨_, rfl⟩
                  rw [hk2] at ht2 hab htl2 x1
                  have HT2 := Lib.hid ht2
                  have HAB2 := Lib.hid hab
                  obtain ⟨t2, ht2e⟩ : ∃ c, (testsAt ss cs k2).length = c := ⟨_, rfl⟩
                  rw [ht2e] at x1 htl2
                  have HTL2 := Lib.hid ht2e
                  have htl2' : (t2 : Int) ≤ 16 := by omega
                  obtain ⟨bk, hbk⟩ : ∃ b, (gs[q].2[m]'(by rw [HBL.out]; exact hml)).1.k = b := ⟨_, rfl⟩
                  rw [hbk] at x0
                  have HGR4 := Lib.hid (HGR2.out.alloc (.cells #[.int .u8 bk, .slice ut t2 uc] 69))
                  clear q0 q1 ht2 ht2e hab hk2 hbk
                  go_wp2_with fail
                  clear x0 x1
                  go_loopw [83] (fun u wz => ∃ r : Nat, u = .int .i64 r ∧ r ≤ t2 ∧ Grw wa wz) (fun u _ => t2 - (intOf u).toNat)
                  case atStart => exact ⟨0, rfl, by omega, HGR4.out⟩
                  case round =>
                    clear HGR4 HGR3 HGR2 hsz2
                    obtain ⟨n, rfl, hn, hgr2⟩ := hrel
                    have HGR2 := Lib.hid hgr2
                    have HGR3 := Lib.hid (HGA.out.trans hgr2)
                    have hsz2 := hgr2.size
                    clear hgr2
                    by_cases hnl : n < t2
                    · have hnl' : (n : Int) < (t2 : Int) := by omega
                      have hn0 : (0 : Int) ≤ (n : Int) := by omega
                      obtain ⟨g1, o1, q1, e1, hb1, y0, y1, y2, y3⟩ := HT2.out.at_ (i := n) (by rw [HTL2.out]; exact hnl)
                      obtain ⟨rfl, rfl⟩ : ut = some ⟨g1, o1, none⟩ ∧ uc = q1 := by rw [HTL2.out] at e1; simpa using e1
                      have hst := HAB2.out _ (List.getElem_mem (show n < (testsAt ss cs k2).length by rw [HTL2.out]; exact hnl))
                      have d0 := HGR3.out.cell hb1 y0
                      have d1 := HGR3.out.cell hb1 y1
                      have d2 := HGR3.out.cell hb1 y2
                      have d3 := HGR3.out.cell hb1 y3
                      clear y0 y1 y2 y3 e1
                      generalize (testsAt ss cs k2)[n]'(by rw [HTL2.out]; exact hnl) = t at *
                      have hs1 : decide (t.step > (q : Int)) = false := by simp; omega
                      have hs1' : decide ((q : Int) < t.step) = false := by simp; omega
                      have hs2 : decide (t.step < -1) = false := by simp; omega
                      go_wp2_with fail
                      go_roundw
                      case rel => exact ⟨n + 1, by go_num, by omega, HGR2.out.alloc _⟩
                      case measure => simp [intOf]; omega
                    · obtain rfl : n = t2 := by omega
                      go_wp2_with fail
                      go_roundw
                      case rel => exact ⟨m + 1, by go_num, by omega, HGR2.out⟩
                      case measure => simp [intOf]; omega
                · obtain rfl : m = bl := by omega
                  go_wp2_with fail
                  go_roundw
                  case rel => exact ⟨q + 1, by go_num, by omega, (show Grw w9 wa from HGA.out).trans HGR2.out⟩
                  case measure => simp [intOf]; omega
        · obtain rfl : q = gs.length := by omega
          go_wp2_with fail
          go_ret
          exact ⟨rfl, BW9.out.trans (HGR.out.below.mono BW9.out.size)⟩
  | inr p =>
    refine HP.out.mono ?_
    rintro e w4 ⟨hb4, sl, cl, rfl, ho1, ho2⟩
    obtain ⟨sad', scap', rfl⟩ := own_slice ho1
    obtain ⟨cad', ccap', rfl⟩ := own_slice ho2
    have hlen := PLen.parse_len HPR.out
    have hsz4 := hb4.size
    have X4 := Lib.hid (blk_alloc ((hb4.block B (by omega)).trans X3.out) (.cells #[.slice sad' p.ss.length scap', .slice cad' p.cs.length ccap', .int .i64 p.wi] 25))
    have z0 := (Lib.cell_of_heap X4.out 0).trans rfl
    have z1 := (Lib.cell_of_heap X4.out 1).trans rfl
    have z2 := (Lib.cell_of_heap X4.out 2).trans rfl
    have f0 := Lib.frozen_of_heap X4.out 0
    have f1 := Lib.frozen_of_heap X4.out 1
    have f2 := Lib.frozen_of_heap X4.out 2
    have hne : B ≠ w4.heap.size := by omega
    have hne' : w4.heap.size ≠ B := by omega
    obtain ⟨w5, hw5⟩ : ∃ w5, w5 = w4.alloc (.cells #[.slice sad' p.ss.length scap', .slice cad' p.cs.length ccap', .int .i64 p.wi] 25) := ⟨_, rfl⟩
    have hb45 : Below w4.heap.size w4 w5 := by rw [hw5]; exact (Below.refl _ _).alloc (Nat.le_refl _) _
    have ho1' := own_below ho1 hb45
    have ho2' := own_below ho2 hb45
    have HO := Lib.hid (And.intro ho1' ho2')
    have HB5 := Lib.hid (HB3.out.trans ((hb4.trans (hb45.mono hb4.size)).mono HB3.out.size))
    have HW5 := Lib.hid hw5
    clear hb4 HP ho1 ho2 ho1' ho2' hb45 hw5 X3 HS2 HC2 HB3 HB1
    go_wp2_with fail
    clear z0 z1 z2 f0 f1 f2
    rw [← HW5.out] at X4 ⊢
    obtain ⟨w6, hw6⟩ : ∃ w6, w6 = ((w5.setCell ⟨B, 0, none⟩ (.slice sad' p.ss.length scap')).setCell ⟨B, 1, none⟩ (.slice cad' p.cs.length ccap')).setCell ⟨B, 2, none⟩ (.int .i64 p.wi) := ⟨_, rfl⟩
    obtain ⟨k1, _, k3, k4⟩ := set3 X4.out hw6
    have PIN := Lib.hid (show PatIn W w6 (.slice sad' p.ss.length scap') (.slice cad' p.cs.length ccap') p.wi (p.ss.map gS) (p.cs.map gC) from
      ⟨k4 hBW HB5.out, Stps.of_own' (k3 HO.out.1 (by decide)) (Below.refl _ _), Cnds.of_own' (k3 HO.out.2 (by decide)) (Below.refl _ _), by rw [List.length_map]; unfold maxLen; omega, by rw [List.length_map]; unfold maxLen; omega⟩)
    have X4 := Lib.hid k1
    have hB6 : B < w6.heap.size := by have := blk_lt k1; exact this
    rw [← hw6]
    have E1 : (p.ss.map gS).length = p.ss.length := List.length_map _
    have E2 : (p.cs.map gC).length = p.cs.length := List.length_map _
    rw [← E1, ← E2] at X4 PIN ⊢
    generalize p.ss.map gS = ss' at *
    generalize p.cs.map gC = cs' at *
    generalize (p.wi : Int) = wi' at *
    clear hw6 k1 k3 k4 HPR HW1 hz1 hz3 hsz2 hsz4 hB3 hl1 hl2 hss hcs HO HB5 HW5 E1 E2 hne hne' hlen
    have HMK := Lib.hid (make_any _ _ wi' ss' cs' w6 PIN.out.st PIN.out.cd PIN.out.l1 PIN.out.l2)
    refine HMK.out.mono ?_
    rintro e w7 ⟨hb7, hpost⟩
    obtain ⟨ck1, hk1⟩ : ∃ x, (checkP ss' cs' wi').1 = x := ⟨_, rfl⟩
    obtain ⟨ck2, hk2⟩ : ∃ x, (checkP ss' cs' wi').2 = x := ⟨_, rfl⟩
    rw [hk1, hk2] at hpost
    have hsz7 := hb7.size
    have HB7 := Lib.hid hb7
    have BW7 := Lib.hid (PIN.out.bel.trans (hb7.mono PIN.out.bel.size))
    clear hb7
    rcases hpost with ⟨hbad, rfl⟩ | ⟨hck, hok, vp, rfl, hpl⟩
    · have hbad' : (ck2 != 0) = true := by simpa using hbad
      have hbad'' : (ck2 == 0) = false := by simpa using hbad
      obtain ⟨w8, hw8⟩ : ∃ w8, w8 = w7.alloc (.cells #[nilS, .int .i64 0] 51) := ⟨_, rfl⟩
      have hb8 := BW7.out.alloc BW7.out.size (.cells #[nilS, .int .i64 0] 51)
      rw [← hw8] at hb8
      have BW8 := Lib.hid hb8
      have HW8 := Lib.hid hw8
      have HWK := Lib.hid (wakes20_any w8)
      clear hw8 hb8 hbad hk1 hk2 HMK
      go_wp2_with fail
      rw [← HW8.out]
      refine HWK.out.mono ?_
      rintro e w9 ⟨rfl, hb9⟩
      have BW9 := Lib.hid (BW8.out.trans (hb9.mono BW8.out.size))
      clear hb9
      have HWK2 := Lib.hid (wakes20_any w9)
      go_wp2_with fail
      refine HWK2.out.mono ?_
      rintro e w10 ⟨rfl, hb10⟩
      have BW10 := Lib.hid (BW9.out.trans (hb10.mono BW9.out.size))
      clear hb10
      go_wp2_with fail
      go_ret
      exact ⟨rfl, BW10.out⟩
    · obtain ⟨pad, pc, rfl, hq⟩ := hpl
      rw [hck] at hk1 hk2
      subst hk1 hk2
      have HOK := Lib.hid hok
      obtain ⟨w8, hw8⟩ : ∃ w8, w8 = w7.alloc (.cells #[.slice pad (groups (unitl ss')).length pc, .int .i64 wi'] 51) := ⟨_, rfl⟩
      have hb8 : Below w7.heap.size w7 w8 := by rw [hw8]; exact (Below.refl _ _).alloc (Nat.le_refl _) _
      have hz8 : w8.heap.size = w7.heap.size + 1 := by rw [hw8]; simp
      have Y8 := show w8.heap[w7.heap.size]? = some (.cells #[.slice pad (groups (unitl ss')).length pc, .int .i64 wi'] 51 (0, 0)) by rw [hw8]; exact heap_new rfl
      have HW8 := Lib.hid hw8
      have HWK := Lib.hid (wakes20_any w8)
      have HB8 := Lib.hid hb8
      have HY8 := Lib.hid Y8
      clear hw8 hb8 HMK hok Y8 hck
      go_wp2_with fail
      rw [← HW8.out]
      refine HWK.out.mono ?_
      rintro e w9 ⟨rfl, hb9⟩
      have hsz9 := hb9.size
      have hb79 := HB8.out.trans (hb9.mono HB8.out.size)
      have hpl : PlanAt w9 w6.heap.size w9.heap.size (.slice pad (groups (unitl ss')).length pc) (groups (unitl ss')) (testsAt ss' cs') :=
        (PlanAt.keep (show PlanAt w7 _ w7.heap.size _ _ _ from ⟨pad, pc, rfl, hq⟩) fun p _ h2 => World.cell?_of_block (hb79.block p.block h2)).more (Nat.le_refl _) hb79.size
      obtain ⟨_, _, e, hq9⟩ := hpl
      obtain ⟨rfl, rfl⟩ : pad = _ ∧ pc = _ := by simpa using e
      have HQ := Lib.hid hq9
      have Y9 := Lib.hid ((hb9.block _ (by omega)).trans HY8.out)
      have X9 := Lib.hid ((hb79.block B (by omega)).trans ((HB7.out.block B (by omega)).trans X4.out))
      have BW9 := Lib.hid (BW7.out.trans (hb79.mono BW7.out.size))
      have z0 : w9.cell? ⟨w7.heap.size, 0, none⟩ = some (.slice pad (groups (unitl ss')).length pc) := (Lib.cell_of_heap Y9.out 0).trans rfl
      clear hb9 hb79 hq hq9 e HY8 HB8 HWK HW8 HB7 X4 BW7
      obtain ⟨C, hC⟩ : ∃ C, w7.heap.size = C := ⟨_, rfl⟩
      rw [hC] at Y9 z0 hz8 hsz7 ⊢
      have hC9 : C < w9.heap.size := by omega
      have hB9 : B < w9.heap.size := by omega
      clear hC
      obtain ⟨gs, hgs⟩ : ∃ gs, groups (unitl ss') = gs := ⟨_, rfl⟩
      rw [hgs] at Y9 z0 HQ ⊢
      have HGS := Lib.hid hgs
      have hg8 : gs.length ≤ 8 := by rw [← hgs]; exact HOK.out.groups8
      have hg8' : (gs.length : Int) ≤ 8 := by omega
      clear hgs

      have HAH := Lib.hid (show ∀ q (_ : q < gs.length) t, t ∈ testsAt ss' cs' (startG gs q) → t.step < q ∧ -2 ≤ t.step by have h := HGS.out; subst h; exact fun q hq t ht => HOK.out.ahead hq ht)
      have HAB := Lib.hid (show ∀ q (hq : q < gs.length) r (_ : r < gs[q].2.length) t, t ∈ testsAt ss' cs' (startG gs q + 1 + r) → t.step ≤ q ∧ -1 ≤ t.step by have h := HGS.out; subst h; exact fun q hq r hr t ht => HOK.out.aheadB hq hr ht)
      have HTL := Lib.hid HOK.out.tests
      have HBL8 := Lib.hid (show ∀ q (_ : q < gs.length), gs[q].2.length ≤ 8 by
        have h := HGS.out; subst h
        intro q hq
        have h1 := startG_succ _ q hq
        have h2 := startG_le8 HOK.out (q + 1)
        omega)
      go_wp2_with fail
      go_loopw [51] (fun u wr => ∃ q : Nat, u = .int .i64 q ∧ q ≤ gs.length ∧ Grw w9 wr) (fun u _ => gs.length - (intOf u).toNat)
      case atStart => exact ⟨0, rfl, by omega, Grw.refl _⟩
      case round =>
        obtain ⟨q, rfl, hq, hgr⟩ := hrel
        have HGR := Lib.hid hgr
        have hsz := hgr.size
        clear hgr z0
        by_cases hlt : q < gs.length
        · have hlt' : (q : Int) < (gs.length : Int) := by omega
          have hq0 : (0 : Int) ≤ (q : Int) := by omega
          obtain ⟨gv, e1, hgv, p0, p1, p2, ⟨vt, p3, ht1⟩, vb, p4, hbars⟩ := HQ.out q hlt
          obtain ⟨bad, bcap, rfl, hbr⟩ := hbars
          obtain ⟨vtl, vtc, rfl⟩ := Sl.shape ht1.1
          subst e1
          have hah := HAH.out q hlt
          have hab := HAB.out q hlt
          have hbl8 := HBL8.out q hlt
          have htl16 := HTL.out (startG gs q)
          obtain ⟨x, hx⟩ : ∃ x, gs[q].1.1 = x := ⟨_, rfl⟩
          rw [hx] at p0 p1 p2
          have x0 := HGR.out.cell hgv.2 p0
          have x1 := HGR.out.cell hgv.2 p1
          have x2 := HGR.out.cell hgv.2 p2
          have x3 := HGR.out.cell hgv.2 p3
          have x4 := HGR.out.cell hgv.2 p4
          obtain ⟨k, hkk⟩ : ∃ k, startG gs q = k := ⟨_, rfl⟩
          simp only [hkk] at hbr hab
          rw [hkk] at ht1 hah htl16 x3
          have HBR := Lib.hid hbr
          have HT1 := Lib.hid ht1
          have HAH1 := Lib.hid hah
          have HAB1 := Lib.hid hab
          obtain ⟨tl, htl⟩ : ∃ c, (testsAt ss' cs' k).length = c := ⟨_, rfl⟩
          obtain ⟨bl, hbl⟩ : ∃ c, gs[q].2.length = c := ⟨_, rfl⟩
          rw [htl] at x3 htl16
          rw [hbl] at x4 hbl8
          have HTLE := Lib.hid htl
          have HBL := Lib.hid hbl
          have htl16' : (tl : Int) ≤ 16 := by omega
          have hbl8' : (bl : Int) ≤ 8 := by omega
          obtain ⟨wa, hwa⟩ : ∃ wa, wa = wr.alloc (.cells #[.int .u8 x.k, .int .i64 x.lo, .int .i64 x.hi, .slice vtl tl vtc, .slice bad bl bcap] 67) := ⟨_, rfl⟩
          have hza : wa.heap.size = wr.heap.size + 1 := by rw [hwa]; simp
          have PA := Lib.hid (show wa.heap[wr.heap.size]? = some (.cells #[.int .u8 x.k, .int .i64 x.lo, .int .i64 x.hi, .slice vtl tl vtc, .slice bad bl bcap] 67 (0, 0)) by rw [hwa]; exact heap_new rfl)
          have HGA := Lib.hid (HGR.out.trans (show Grw wr wa by rw [hwa]; exact (Grw.refl wr).alloc _))
          have HWA := Lib.hid hwa
          clear p0 p1 p2 p3 p4 ht1 hbr hx hkk htl hbl hah hab hwa
          go_wp2_with fail
          rw [← HWA.out]
          clear x0 x1 x2 x3 x4
          obtain ⟨D, hD⟩ : ∃ D, wr.heap.size = D := ⟨_, rfl⟩
          rw [hD] at PA hza hsz ⊢
          clear hD HWA
          go_loopw [59] (fun u wz => ∃ r : Nat, u = .int .i64 r ∧ r ≤ tl ∧ Grw wa wz) (fun u _ => tl - (intOf u).toNat)
          case atStart => exact ⟨0, rfl, by omega, Grw.refl _⟩
          case round =>
            obtain ⟨r, rfl, hr, hgr2⟩ := hrel
            have HGR2 := Lib.hid hgr2
            have HGR3 := Lib.hid (HGA.out.trans hgr2)
            have hsz2 := hgr2.size
            clear hgr2
            by_cases hrl : r < tl
            · have hrl' : (r : Int) < (tl : Int) := by omega
              have hr0 : (0 : Int) ≤ (r : Int) := by omega
              obtain ⟨g1, o1, q1, e1, hb1, y0, y1, y2, y3⟩ := HT1.out.at_ (i := r) (by rw [HTLE.out]; exact hrl)
              obtain ⟨rfl, rfl⟩ : vtl = some ⟨g1, o1, none⟩ ∧ vtc = q1 := by rw [HTLE.out] at e1; simpa using e1
              have hst := HAH1.out _ (List.getElem_mem (show r < (testsAt ss' cs' k).length by rw [HTLE.out]; exact hrl))
              have d0 := HGR3.out.cell hb1 y0
              have d1 := HGR3.out.cell hb1 y1
              have d2 := HGR3.out.cell hb1 y2
              have d3 := HGR3.out.cell hb1 y3
              clear y0 y1 y2 y3 e1
              generalize (testsAt ss' cs' k)[r]'(by rw [HTLE.out]; exact hrl) = t at *
              have hs1 : decide (t.step ≥ (q : Int)) = false := by simp; omega
              have hs1' : decide ((q : Int) ≤ t.step) = false := by simp; omega
              have hs2 : decide (t.step < -2) = false := by simp; omega
              go_wp2_with fail
              go_roundw
              case rel => exact ⟨r + 1, by go_num, by omega, HGR2.out.alloc _⟩
              case measure => simp [intOf]; omega
            · obtain rfl : r = tl := by omega
              have s4 : wr.cell? ⟨D, 4, none⟩ = some (.slice bad bl bcap) := HGR2.out.cell (show (⟨D, 4, none⟩ : Addr).block < wa.heap.size by show D < _; omega) ((Lib.cell_of_heap PA.out 4).trans rfl)
              go_wp2_with fail
              clear s4
              go_loopw [76] (fun u wz => ∃ r : Nat, u = .int .i64 r ∧ r ≤ bl ∧ Grw wa wz) (fun u _ => bl - (intOf u).toNat)
              case atStart => exact ⟨0, rfl, by omega, HGR2.out⟩
              case round =>
                clear HGR3 HGR2 hsz2 hr
                obtain ⟨m, rfl, hm, hgr2⟩ := hrel
                have HGR2 := Lib.hid hgr2
                have HGR3 := Lib.hid (HGA.out.trans hgr2)
                have hsz2 := hgr2.size
                clear hgr2
                by_cases hml : m < bl
                · have hml' : (m : Int) < (bl : Int) := by omega
                  have hm0 : (0 : Int) ≤ (m : Int) := by omega
                  obtain ⟨gb, e1, hgb, q0, vt2, q1, ht2⟩ := HBR.out m (by rw [HBL.out]; exact hml)
                  obtain ⟨ut, uc, rfl⟩ := Sl.shape ht2.1
                  subst e1
                  have hab := HAB1.out m (by rw [HBL.out]; exact hml)
                  have htl2 := HTL.out (k + 1 + m)
                  have x0 := HGR3.out.cell hgb.2 q0
                  have x1 := HGR3.out.cell hgb.2 q1
                  obtain ⟨k2, hk2⟩ : ∃ k2, k + 1 + m = k2 := ⟨_, rfl⟩
                  rw [hk2] at ht2 hab htl2 x1
                  have HT2 := Lib.hid ht2
                  have HAB2 := Lib.hid hab
                  obtain ⟨t2, ht2e⟩ : ∃ c, (testsAt ss' cs' k2).length = c := ⟨_, rfl⟩
                  rw [ht2e] at x1 htl2
                  have HTL2 := Lib.hid ht2e
                  have htl2' : (t2 : Int) ≤ 16 := by omega
                  obtain ⟨bk, hbk⟩ : ∃ b, (gs[q].2[m]'(by rw [HBL.out]; exact hml)).1.k = b := ⟨_, rfl⟩
                  rw [hbk] at x0
                  have HGR4 := Lib.hid (HGR2.out.alloc (.cells #[.int .u8 bk, .slice ut t2 uc] 69))
                  clear q0 q1 ht2 ht2e hab hk2 hbk
                  go_wp2_with fail
                  clear x0 x1
                  go_loopw [83] (fun u wz => ∃ r : Nat, u = .int .i64 r ∧ r ≤ t2 ∧ Grw wa wz) (fun u _ => t2 - (intOf u).toNat)
                  case atStart => exact ⟨0, rfl, by omega, HGR4.out⟩
                  case round =>
                    clear HGR4 HGR3 HGR2 hsz2
                    obtain ⟨n, rfl, hn, hgr2⟩ := hrel
                    have HGR2 := Lib.hid hgr2
                    have HGR3 := Lib.hid (HGA.out.trans hgr2)
                    have hsz2 := hgr2.size
                    clear hgr2
                    by_cases hnl : n < t2
                    · have hnl' : (n : Int) < (t2 : Int) := by omega
                      have hn0 : (0 : Int) ≤ (n : Int) := by omega
                      obtain ⟨g1, o1, q1, e1, hb1, y0, y1, y2, y3⟩ := HT2.out.at_ (i := n) (by rw [HTL2.out]; exact hnl)
                      obtain ⟨rfl, rfl⟩ : ut = some ⟨g1, o1, none⟩ ∧ uc = q1 := by rw [HTL2.out] at e1; simpa using e1
                      have hst := HAB2.out _ (List.getElem_mem (show n < (testsAt ss' cs' k2).length by rw [HTL2.out]; exact hnl))
                      have d0 := HGR3.out.cell hb1 y0
                      have d1 := HGR3.out.cell hb1 y1
                      have d2 := HGR3.out.cell hb1 y2
                      have d3 := HGR3.out.cell hb1 y3
                      clear y0 y1 y2 y3 e1
                      generalize (testsAt ss' cs' k2)[n]'(by rw [HTL2.out]; exact hnl) = t at *
                      have hs1 : decide (t.step > (q : Int)) = false := by simp; omega
                      have hs1' : decide ((q : Int) < t.step) = false := by simp; omega
                      have hs2 : decide (t.step < -1) = false := by simp; omega
                      go_wp2_with fail
                      go_roundw
                      case rel => exact ⟨n + 1, by go_num, by omega, HGR2.out.alloc _⟩
                      case measure => simp [intOf]; omega
                    · obtain rfl : n = t2 := by omega
                      go_wp2_with fail
                      go_roundw
                      case rel => exact ⟨m + 1, by go_num, by omega, HGR2.out⟩
                      case measure => simp [intOf]; omega
                · obtain rfl : m = bl := by omega
                  go_wp2_with fail
                  go_roundw
                  case rel => exact ⟨q + 1, by go_num, by omega, (show Grw w9 wa from HGA.out).trans HGR2.out⟩
                  case measure => simp [intOf]; omega
        · obtain rfl : q = gs.length := by omega
          go_wp2_with fail
          go_ret
          exact ⟨rfl, BW9.out.trans (HGR.out.below.mono BW9.out.size)⟩
end Go.Proofs.Ytcfimponmioneaa.WL
