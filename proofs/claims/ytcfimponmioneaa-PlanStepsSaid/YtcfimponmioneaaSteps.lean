/- PlanSteps: the law's walk. -/
import Derived.Test.YtcfimponmioneaaWake20
import Derived.Test.YtcfimponmioneaaPats
import Derived.Test.YtcfimponmioneaaPSteps
import Derived.Test.YtcfimponmioneaaPatIn
namespace Go.Proofs.Ytcfimponmioneaa.WL
open Go Go.RowKit Go.Sort Go.Proofs.Ytcfimponmioneaa Go.Proofs.Ytcfimponmioneaa.PL Go.Proofs.Ytcfimponmioneaa.PP Go.Proofs.Ytcfimponmioneaa.Mem Go.Proofs.Ytcfimponmioneaa.WP

set_option maxRecDepth 100000 in
set_option maxHeartbeats 6400000 in
theorem steps_law (s : ByteArray) (vs vc : Value) (wi : Int) (ss : List GS) (cs : List GC) (W : World) (h1 : Stps W W.heap.size vs ss) (h2 : Cnds W W.heap.size vc cs) (hl1 : ss.length * 24 ≤ 140737488351232) (hl2 : cs.length * 32 ≤ 140737488351232) :
    Calls Try.prog 9 #[.string s, .agg #[vs, vc, .int .i64 wi]] W fun e w' => e = .returned (.bool true) ∧ Below W.heap.size W w' := by
  obtain ⟨a1, c1, rfl⟩ := Sl.shape h1
  obtain ⟨a2, c2, rfl⟩ := Sl.shape h2
  obtain ⟨w1, hw1⟩ : ∃ w1, w1 = W.alloc (.cells #[.slice a1 ss.length c1, .slice a2 cs.length c2, .int .i64 wi] 46) := ⟨_, rfl⟩
  have hb1 : Below W.heap.size W w1 := by rw [hw1]; exact (Below.refl _ _).alloc (Nat.le_refl _) _
  have hz1 : w1.heap.size = W.heap.size + 1 := by rw [hw1]; simp
  have HPT := Lib.hid (pats_any _ _ wi ss cs w1 (Sl.more (Sl.below h1 hb1) hb1.size) (Sl.more (Sl.below h2 hb1) hb1.size) hl1 hl2)
  have HW1 := Lib.hid hw1
  have HB1 := Lib.hid hb1
  have hss : ss.length ≤ maxLen := by unfold maxLen; omega
  have hcs : cs.length ≤ maxLen := by unfold maxLen; omega
  clear h1 h2 hw1 hb1
  obtain ⟨pr, hpr⟩ : ∃ pr, pParse s.data.toList = pr := ⟨_, rfl⟩
  have HPR := Lib.hid hpr
  clear hpr
  go_enter Try.func9, Try.ntmps9
  go_wp2_with fail
  rw [← HW1.out]
  refine HPT.out.mono ?_
  rintro e w2 ⟨sa, ca, sb, cb, rfl, hb2, o1, o2, o3, o4⟩
  obtain ⟨sad, scap, rfl⟩ := own_slice o1
  obtain ⟨sbd, sbcap, rfl⟩ := own_slice o2
  obtain ⟨cad, ccap, rfl⟩ := own_slice o3
  obtain ⟨cbd, cbcap, rfl⟩ := own_slice o4
  obtain ⟨w3, hw3⟩ : ∃ w3, w3 = (w2.alloc (.cells #[.slice sad ss.length scap, .slice cad cs.length ccap, .int .i64 wi] 25)).alloc (.cells #[.slice sbd ss.length sbcap, .slice cbd cs.length cbcap, .int .i64 wi] 32) := ⟨_, rfl⟩
  have hb23 : Below w2.heap.size w2 w3 := by rw [hw3]; exact ((Below.refl _ _).alloc (Nat.le_refl _) _).alloc (by simp) _
  have hz3 : w3.heap.size = w2.heap.size + 2 := by rw [hw3]; simp
  have X3 := Lib.hid (show w3.heap[w2.heap.size]? = some (.cells #[.slice sad ss.length scap, .slice cad cs.length ccap, .int .i64 wi] 25 (0, 0)) by rw [hw3]; exact heap_alloc (heap_new rfl))
  have HS2 := Lib.hid (show Stps w3 w3.heap.size (.slice sad ss.length scap) ss from Sl.own_more' o1 hb23)
  have HC2 := Lib.hid (show Cnds w3 w3.heap.size (.slice cad cs.length ccap) cs from Sl.own_more' o3 hb23)
  have hsz2 := hb2.size
  have HB3 := Lib.hid (HB1.out.trans ((hb2.mono (by omega)).trans (hb23.mono (by omega))))
  have HW3 := Lib.hid hw3
  have HP := Lib.hid (parse_any s w3)
  rw [HPR.out] at HP
  clear hb2 o1 o2 o3 o4 hw3 hb23 HPT
  go_wp2_with fail
  rw [← HW3.out]
  obtain ⟨B, hB⟩ : ∃ B, w2.heap.size = B := ⟨_, rfl⟩
  rw [hB] at X3 hz3 hsz2 ⊢
  clear hB HW3
  have hBW : W.heap.size ≤ B := by have := HB1.out.size; omega
  have hB3 : B < w3.heap.size := by omega
  cases pr with
  | inl f =>
    obtain ⟨k, er⟩ := f
    refine HP.out.mono ?_
    rintro e w4 ⟨hb4, rfl⟩
    have her : (er == 0) = false := by simp [parse_nz HPR.out]
    have hsz4 := hb4.size
    have X4 := Lib.hid (blk_alloc ((hb4.block B (by omega)).trans X3.out) (.cells #[nilS, nilS, .int .i64 0] 25))
    have z0 := (Lib.cell_of_heap X4.out 0).trans rfl
    have z1 := (Lib.cell_of_heap X4.out 1).trans rfl
    have z2 := (Lib.cell_of_heap X4.out 2).trans rfl
    have hba := hb4.alloc hb4.size (.cells #[nilS, nilS, .int .i64 0] 25)
    have PIN := Lib.hid (PatIn.below (W := W) (wi := wi) ⟨HB3.out, HS2.out, HC2.out, hss, hcs⟩ hba)
    clear hb4 hba X3 HS2 HC2 HB3 HB1 HP
    go_wp2_with fail
    clear z0 z1 z2
    obtain ⟨w6, hw6⟩ : ∃ w6, w6 = w4.alloc (.cells #[nilS, nilS, .int .i64 0] 25) := ⟨_, rfl⟩
    rw [← hw6] at PIN X4 ⊢
    have hB6 : B < w6.heap.size := by rw [hw6]; simp; omega
    clear hw6 her HPR HW1 hz1 hz3 hsz2 hsz4 hB3 hl1 hl2 hss hcs
    have HMK := Lib.hid (make_any _ _ wi ss cs w6 PIN.out.st PIN.out.cd PIN.out.l1 PIN.out.l2)
    refine HMK.out.mono ?_
    rintro e w7 ⟨hb7, hpost⟩
    obtain ⟨ck1, hk1⟩ : ∃ x, (checkP ss cs wi).1 = x := ⟨_, rfl⟩
    obtain ⟨ck2, hk2⟩ : ∃ x, (checkP ss cs wi).2 = x := ⟨_, rfl⟩
    rw [hk1, hk2] at hpost
    have hsz7 := hb7.size
    have HB7 := Lib.hid hb7
    have BW7 := Lib.hid (PIN.out.bel.trans (hb7.mono PIN.out.bel.size))
    clear hb7
    rcases hpost with ⟨hbad, rfl⟩ | ⟨hck, hok, vp, rfl, hpl⟩
    · have hbad' : (ck2 != 0) = true := by simpa using hbad
      have hbad'' : (ck2 == 0) = false := by simpa using hbad
      obtain ⟨w8, hw8⟩ : ∃ w8, w8 = w7.alloc (.cells #[nilS, .int .i64 0] 51) := ⟨_, rfl⟩
      have hb8 := BW7.out.alloc BW7.out.size (.cells #[nilS, .int .i64 0] 51)
      rw [← hw8] at hb8
      have BW8 := Lib.hid hb8
      have HW8 := Lib.hid hw8
      have HWK := Lib.hid (wakes20_any w8)
      clear hw8 hb8 hbad hk1 hk2 HMK
      go_wp2_with fail
      rw [← HW8.out]
      refine HWK.out.mono ?_
      rintro e w9 ⟨rfl, hb9⟩
      have BW9 := Lib.hid (BW8.out.trans (hb9.mono BW8.out.size))
      clear hb9
      have HWK2 := Lib.hid (wakes20_any w9)
      go_wp2_with fail
      refine HWK2.out.mono ?_
      rintro e w10 ⟨rfl, hb10⟩
      have BW10 := Lib.hid (BW9.out.trans (hb10.mono BW9.out.size))
      clear hb10
      go_wp2_with fail
      go_ret
      exact ⟨rfl, BW10.out⟩
    · obtain ⟨pad, pc, rfl, hq⟩ := hpl
      rw [hck] at hk1 hk2
      subst hk1 hk2
      have HOK := Lib.hid hok
      obtain ⟨w8, hw8⟩ : ∃ w8, w8 = w7.alloc (.cells #[.slice pad (groups (unitl ss)).length pc, .int .i64 wi] 51) := ⟨_, rfl⟩
      have hb8 : Below w7.heap.size w7 w8 := by rw [hw8]; exact (Below.refl _ _).alloc (Nat.le_refl _) _
      have hz8 : w8.heap.size = w7.heap.size + 1 := by rw [hw8]; simp
      have Y8 := show w8.heap[w7.heap.size]? = some (.cells #[.slice pad (groups (unitl ss)).length pc, .int .i64 wi] 51 (0, 0)) by rw [hw8]; exact heap_new rfl
      have HW8 := Lib.hid hw8
      have HWK := Lib.hid (wakes20_any w8)
      have HB8 := Lib.hid hb8
      have HY8 := Lib.hid Y8
      clear hw8 hb8 HMK hok Y8 hck
      go_wp2_with fail
      rw [← HW8.out]
      refine HWK.out.mono ?_
      rintro e w9 ⟨rfl, hb9⟩
      have hsz9 := hb9.size
      have hb79 := HB8.out.trans (hb9.mono HB8.out.size)
      have hpl : PlanAt w9 w6.heap.size w9.heap.size (.slice pad (groups (unitl ss)).length pc) (groups (unitl ss)) (testsAt ss cs) :=
        (PlanAt.keep (show PlanAt w7 _ w7.heap.size _ _ _ from ⟨pad, pc, rfl, hq⟩) fun p _ h2 => World.cell?_of_block (hb79.block p.block h2)).more (Nat.le_refl _) hb79.size
      obtain ⟨_, _, e, hq9⟩ := hpl
      obtain ⟨rfl, rfl⟩ : pad = _ ∧ pc = _ := by simpa using e
      have HQ := Lib.hid hq9
      have Y9 := Lib.hid ((hb9.block _ (by omega)).trans HY8.out)
      have X9 := Lib.hid ((hb79.block B (by omega)).trans ((HB7.out.block B (by omega)).trans X4.out))
      have BW9 := Lib.hid (BW7.out.trans (hb79.mono BW7.out.size))
      have z0 : w9.cell? ⟨w7.heap.size, 0, none⟩ = some (.slice pad (groups (unitl ss)).length pc) := (Lib.cell_of_heap Y9.out 0).trans rfl
      clear hb9 hb79 hq hq9 e HY8 HB8 HWK HW8 HB7 X4 BW7
      obtain ⟨C, hC⟩ : ∃ C, w7.heap.size = C := ⟨_, rfl⟩
      rw [hC] at Y9 z0 hz8 hsz7 ⊢
      have hC9 : C < w9.heap.size := by omega
      have hB9 : B < w9.heap.size := by omega
      clear hC
      obtain ⟨gs, hgs⟩ : ∃ gs, groups (unitl ss) = gs := ⟨_, rfl⟩
      rw [hgs] at Y9 z0 HQ ⊢
      have HGS := Lib.hid hgs
      have hg8 : gs.length ≤ 8 := by rw [← hgs]; exact HOK.out.groups8
      have hg8' : (gs.length : Int) ≤ 8 := by omega
      clear hgs

      have h16 := HOK.out.c16
      have hs8 := HOK.out.n8
      have HHD := Lib.hid (show ∀ q (h : q < gs.length), 1 ≤ gs[q].1.1.lo ∧ gs[q].1.1.lo ≤ gs[q].1.1.hi ∧ gs[q].1.1.hi ≤ 4 by have h := HGS.out; subst h; exact fun q hq => HOK.out.head hq)
      have HLA := Lib.hid (show ∀ q (h : q < gs.length), q + 1 = gs.length → gs[q].2.length = 0 by have h := HGS.out; subst h; exact fun q hq => HOK.out.last hq)
      have HSL := Lib.hid (show ∀ q, startG gs q ≤ 8 by have h := HGS.out; subst h; exact startG_le8 HOK.out)
      have HEN := Lib.hid (show startG gs gs.length = ss.length by have h := HGS.out; subst h; exact HOK.out.end_)
      have HBN := Lib.hid (show 1 ≤ bindsG gs gs.length ∧ bindsG gs gs.length ≤ 16 by have h := HGS.out; subst h; exact ⟨HOK.out.binds1, HOK.out.binds16⟩)
      have h16' : (cs.length : Int) ≤ 16 := by omega
      have hs8' : (ss.length : Int) ≤ 8 := by omega
      go_wp2_with fail
      go_loopw [13, 14, 15, 50] (fun a b c u wr => ∃ q : Nat, u = .int .i64 q ∧ q ≤ gs.length ∧ a = .int .i64 (startG gs q) ∧ b = .int .i64 (condsTo ss cs (startG gs q)) ∧ c = .int .i64 (bindsG gs q) ∧ Grw w9 wr) (fun _ _ _ u _ => gs.length - (intOf u).toNat)
      case atStart => exact ⟨0, rfl, by omega, by rw [startG_zero]; rfl, by rw [startG_zero]; rfl, rfl, Grw.refl _⟩
      case round =>
        obtain ⟨q, rfl, hq, rfl, rfl, rfl, hgr⟩ := hrel
        have HGR := Lib.hid hgr
        have hsz := hgr.size
        have y0 := hgr.cell (show (⟨C, 0, none⟩ : Addr).block < _ from hC9) z0
        clear hgr
        by_cases hlt : q < gs.length
        · have hlt' : (q : Int) < (gs.length : Int) := by omega
          have hq0 : (0 : Int) ≤ (q : Int) := by omega
          obtain ⟨gv, e1, hgv, p0, p1, p2, ⟨vt, p3, ht1⟩, vb, p4, hbars⟩ := HQ.out q hlt
          obtain ⟨bad, bcap, rfl, hbr⟩ := hbars
          obtain ⟨vtl, vtc, rfl⟩ := Sl.shape ht1.1
          subst e1
          have hh := HHD.out q hlt
          have hla := HLA.out q hlt
          have HSS := Lib.hid (startG_succ gs q hlt)
          have HBX := Lib.hid (show bindsG gs (q + 1) = bindsG gs q + gs[q].1.1.hi by simp only [bindsG]; rw [getElem!_pos gs q hlt])
          have hb1 := bindsG_ge (fun q hq => by have := HHD.out q hq; omega) q (by omega)
          have hb2 := bindsG_le (fun q hq => by have := HHD.out q hq; omega) q (by omega)
          have hsl := HSL.out (q + 1)
          rw [HSS.out] at hsl
          have hcn := condsTo_le ss cs (startG gs q + 1)
          have HCX := Lib.hid (show condsTo ss cs (startG gs q + 1) = condsTo ss cs (startG gs q) + (testsAt ss cs (startG gs q)).length from rfl)
          rw [HCX.out] at hcn
          obtain ⟨x, hx⟩ : ∃ x, gs[q].1.1 = x := ⟨_, rfl⟩
          rw [hx] at p0 p1 p2 hh HBX
          have x0 := HGR.out.cell hgv.2 p0
          have x1 := HGR.out.cell hgv.2 p1
          have x2 := HGR.out.cell hgv.2 p2
          have x3 := HGR.out.cell hgv.2 p3
          have x4 := HGR.out.cell hgv.2 p4
          obtain ⟨k, hkk⟩ : ∃ k, startG gs q = k := ⟨_, rfl⟩
          simp only [hkk] at hbr
          have HBR := Lib.hid hbr
          rw [hkk] at hcn HCX HSS x3 hsl ⊢
          obtain ⟨cN, hcN⟩ : ∃ c, condsTo ss cs k = c := ⟨_, rfl⟩
          obtain ⟨bN, hbN⟩ : ∃ c, bindsG gs q = c := ⟨_, rfl⟩
          obtain ⟨tl, htl⟩ : ∃ c, (testsAt ss cs k).length = c := ⟨_, rfl⟩
          obtain ⟨bl, hbl⟩ : ∃ c, gs[q].2.length = c := ⟨_, rfl⟩
          rw [hcN, hbN]
          rw [hbN] at hb1 hb2 HBX
          rw [hcN, htl] at hcn HCX
          rw [htl] at x3
          rw [hbl] at x4 hla hsl HSS
          have HBL := Lib.hid hbl
          have hcn1 : (cN : Int) + tl ≤ 16 := by omega
          have hk1 : (k : Int) + 1 + bl ≤ 8 := by omega
          obtain ⟨h1lo, hlohi, hhi4⟩ := hh
          have hlo' : decide (x.lo < 1) = false := by simp; omega
          have hhi' : decide (x.lo > x.hi) = false := by simp; omega
          have ya : ∀ o, (wr.alloc o).cell? ⟨C, 0, none⟩ = some (.slice (some ⟨gv, 0, none⟩) gs.length pc) := fun o => (World.cell?_of_block (Below.heap_alloc wr o C (by omega))).trans y0
          clear p0 p1 p2 p3 p4 ht1 hbr hx hkk hcN hbN htl hbl
          by_cases he : q + 1 = gs.length
          · have hl0 := hla he
            have hqe : ((q : Int) == (gs.length : Int) - 1) = true := by simp; omega
            have hpl0 : decide ((bl : Int) > 0) = false := by simp; omega
            have HL0 := Lib.hid hl0
            clear hl0
            go_wp2_with fail
            clear x0 x1 x2 x3 x4 ya
            go_loopw [14, 97] (fun t u wz => ∃ r : Nat, u = .int .i64 r ∧ r ≤ bl ∧ t = .int .i64 (condsTo ss cs (k + 1 + r)) ∧ Grw w9 wz) (fun _ u _ => bl - (intOf u).toNat)
            case atStart => exact ⟨0, rfl, by omega, by show _ = Value.int .i64 ((condsTo ss cs (k + 1) : Nat) : Int); rw [HCX.out]; go_num, HGR.out.alloc _⟩
            case round =>
              obtain ⟨r, rfl, hr, rfl, hgr2⟩ := hrel
              have HGR2 := Lib.hid hgr2
              clear hgr2
              by_cases hrl : r < bl
              · exact absurd hrl (by have := HL0.out; omega)
              · obtain rfl : r = bl := by omega
                go_wp2_with fail
                go_roundw
                case rel => exact ⟨q + 1, by go_num, by omega, by rw [HSS.out]; go_num, by rw [HSS.out], by rw [HBX.out], HGR2.out⟩
                case measure => simp [intOf]; omega
          · have hqe : ((q : Int) == (gs.length : Int) - 1) = false := by simp; omega
            go_wp2_with fail
            clear x0 x1 x2 x3 x4 ya
            go_loopw [14, 97] (fun t u wz => ∃ r : Nat, u = .int .i64 r ∧ r ≤ bl ∧ t = .int .i64 (condsTo ss cs (k + 1 + r)) ∧ Grw w9 wz) (fun _ u _ => bl - (intOf u).toNat)
            case atStart => exact ⟨0, rfl, by omega, by show _ = Value.int .i64 ((condsTo ss cs (k + 1) : Nat) : Int); rw [HCX.out]; go_num, HGR.out.alloc _⟩
            case round =>
              obtain ⟨r, rfl, hr, rfl, hgr2⟩ := hrel
              have HGR2 := Lib.hid hgr2
              clear hgr2
              by_cases hrl : r < bl
              · have hrl' : (r : Int) < (bl : Int) := by omega
                have hr0 : (0 : Int) ≤ (r : Int) := by omega
                obtain ⟨gb, e1, hgb, q0, vt2, q1, ht2⟩ := HBR.out r (by rw [HBL.out]; exact hrl)
                obtain ⟨ut, uc, rfl⟩ := Sl.shape ht2.1
                subst e1
                have hc2 := condsTo_le ss cs (k + 1 + r + 1)
                have HC2 := Lib.hid (show condsTo ss cs (k + 1 + (r + 1)) = condsTo ss cs (k + 1 + r) + (testsAt ss cs (k + 1 + r)).length from rfl)
                rw [show condsTo ss cs (k + 1 + r + 1) = condsTo ss cs (k + 1 + r) + (testsAt ss cs (k + 1 + r)).length from rfl] at hc2
                have x0 := HGR2.out.cell hgb.2 q0
                have x1 := HGR2.out.cell hgb.2 q1
                obtain ⟨c2, hc2e⟩ : ∃ c, condsTo ss cs (k + 1 + r) = c := ⟨_, rfl⟩
                obtain ⟨t2, ht2e⟩ : ∃ c, (testsAt ss cs (k + 1 + r)).length = c := ⟨_, rfl⟩
                rw [hc2e]
                rw [hc2e, ht2e] at hc2 HC2
                rw [ht2e] at x1
                have hc3 : (c2 : Int) + t2 ≤ 16 := by omega
                clear q0 q1 ht2 hc2e ht2e
                go_wp2_with fail
                go_roundw
                case rel => exact ⟨r + 1, by go_num, by omega, by rw [HC2.out]; go_num, HGR2.out.alloc _⟩
                case measure => simp [intOf]; omega
              · obtain rfl : r = bl := by omega
                go_wp2_with fail
                go_roundw
                case rel => exact ⟨q + 1, by go_num, by omega, by rw [HSS.out]; go_num, by rw [HSS.out], by rw [HBX.out], HGR2.out⟩
                case measure => simp [intOf]; omega
        · obtain rfl : q = gs.length := by omega
          have HPB := Lib.hid (binds_any (.slice pad gs.length pc) wi gs (testsAt ss cs) wr w6.heap.size ((PlanAt.keep (show PlanAt w9 _ w9.heap.size _ _ _ from ⟨pad, pc, rfl, HQ.out⟩) fun p _ hp => HGR.out.below.cell hp).more (Nat.le_refl _) HGR.out.size) hg8 (fun q hq => by have := HHD.out q hq; omega))
          have hcl := HOK.out.conds
          have x0 : wr.cell? ⟨B, 0, none⟩ = some (.slice sad ss.length scap) := HGR.out.cell hB9 ((Lib.cell_of_heap X9.out 0).trans rfl)
          have x1 : wr.cell? ⟨B, 1, none⟩ = some (.slice cad cs.length ccap) := HGR.out.cell hB9 ((Lib.cell_of_heap X9.out 1).trans rfl)
          have y1 : wr.cell? ⟨C, 1, none⟩ = some (.int .i64 wi) := HGR.out.cell hC9 ((Lib.cell_of_heap Y9.out 1).trans rfl)
          rw [HEN.out, hcl]
          obtain ⟨hn1, hn2⟩ := HBN.out
          obtain ⟨bn, hbn⟩ : ∃ b, bindsG gs gs.length = b := ⟨_, rfl⟩
          rw [hbn] at hn1 hn2 HPB ⊢
          clear hbn hcl
          go_wp2_with fail
          refine HPB.out.mono ?_
          rintro e w10 ⟨rfl, hg10⟩
          have BW10 := Lib.hid (BW9.out.trans ((HGR.out.trans hg10).below.mono BW9.out.size))
          clear hg10
          go_wp2_with fail
          go_ret
          exact ⟨rfl, BW10.out⟩
  | inr p =>
    refine HP.out.mono ?_
    rintro e w4 ⟨hb4, sl, cl, rfl, ho1, ho2⟩
    obtain ⟨sad', scap', rfl⟩ := own_slice ho1
    obtain ⟨cad', ccap', rfl⟩ := own_slice ho2
    have hlen := PLen.parse_len HPR.out
    have hsz4 := hb4.size
    have X4 := Lib.hid (blk_alloc ((hb4.block B (by omega)).trans X3.out) (.cells #[.slice sad' p.ss.length scap', .slice cad' p.cs.length ccap', .int .i64 p.wi] 25))
    have z0 := (Lib.cell_of_heap X4.out 0).trans rfl
    have z1 := (Lib.cell_of_heap X4.out 1).trans rfl
    have z2 := (Lib.cell_of_heap X4.out 2).trans rfl
    have f0 := Lib.frozen_of_heap X4.out 0
    have f1 := Lib.frozen_of_heap X4.out 1
    have f2 := Lib.frozen_of_heap X4.out 2
    have hne : B ≠ w4.heap.size := by omega
    have hne' : w4.heap.size ≠ B := by omega
    obtain ⟨w5, hw5⟩ : ∃ w5, w5 = w4.alloc (.cells #[.slice sad' p.ss.length scap', .slice cad' p.cs.length ccap', .int .i64 p.wi] 25) := ⟨_, rfl⟩
    have hb45 : Below w4.heap.size w4 w5 := by rw [hw5]; exact (Below.refl _ _).alloc (Nat.le_refl _) _
    have ho1' := own_below ho1 hb45
    have ho2' := own_below ho2 hb45
    have HO := Lib.hid (And.intro ho1' ho2')
    have HB5 := Lib.hid (HB3.out.trans ((hb4.trans (hb45.mono hb4.size)).mono HB3.out.size))
    have HW5 := Lib.hid hw5
    clear hb4 HP ho1 ho2 ho1' ho2' hb45 hw5 X3 HS2 HC2 HB3 HB1
    go_wp2_with fail
    clear z0 z1 z2 f0 f1 f2
    rw [← HW5.out] at X4 ⊢
    obtain ⟨w6, hw6⟩ : ∃ w6, w6 = ((w5.setCell ⟨B, 0, none⟩ (.slice sad' p.ss.length scap')).setCell ⟨B, 1, none⟩ (.slice cad' p.cs.length ccap')).setCell ⟨B, 2, none⟩ (.int .i64 p.wi) := ⟨_, rfl⟩
    obtain ⟨k1, _, k3, k4⟩ := set3 X4.out hw6
    have PIN := Lib.hid (show PatIn W w6 (.slice sad' p.ss.length scap') (.slice cad' p.cs.length ccap') p.wi (p.ss.map gS) (p.cs.map gC) from
      ⟨k4 hBW HB5.out, Stps.of_own' (k3 HO.out.1 (by decide)) (Below.refl _ _), Cnds.of_own' (k3 HO.out.2 (by decide)) (Below.refl _ _), by rw [List.length_map]; unfold maxLen; omega, by rw [List.length_map]; unfold maxLen; omega⟩)
    have X4 := Lib.hid k1
    have hB6 : B < w6.heap.size := by have := blk_lt k1; exact this
    rw [← hw6]
    have E1 : (p.ss.map gS).length = p.ss.length := List.length_map _
    have E2 : (p.cs.map gC).length = p.cs.length := List.length_map _
    rw [← E1, ← E2] at X4 PIN ⊢
    generalize p.ss.map gS = ss' at *
    generalize p.cs.map gC = cs' at *
    generalize (p.wi : Int) = wi' at *
    clear hw6 k1 k3 k4 HPR HW1 hz1 hz3 hsz2 hsz4 hB3 hl1 hl2 hss hcs HO HB5 HW5 E1 E2 hne hne' hlen
    have HMK := Lib.hid (make_any _ _ wi' ss' cs' w6 PIN.out.st PIN.out.cd PIN.out.l1 PIN.out.l2)
    refine HMK.out.mono ?_
    rintro e w7 ⟨hb7, hpost⟩
    obtain ⟨ck1, hk1⟩ : ∃ x, (checkP ss' cs' wi').1 = x := ⟨_, rfl⟩
    obtain ⟨ck2, hk2⟩ : ∃ x, (checkP ss' cs' wi').2 = x := ⟨_, rfl⟩
    rw [hk1, hk2] at hpost
    have hsz7 := hb7.size
    have HB7 := Lib.hid hb7
    have BW7 := Lib.hid (PIN.out.bel.trans (hb7.mono PIN.out.bel.size))
    clear hb7
    rcases hpost with ⟨hbad, rfl⟩ | ⟨hck, hok, vp, rfl, hpl⟩
    · have hbad' : (ck2 != 0) = true := by simpa using hbad
      have hbad'' : (ck2 == 0) = false := by simpa using hbad
      obtain ⟨w8, hw8⟩ : ∃ w8, w8 = w7.alloc (.cells #[nilS, .int .i64 0] 51) := ⟨_, rfl⟩
      have hb8 := BW7.out.alloc BW7.out.size (.cells #[nilS, .int .i64 0] 51)
      rw [← hw8] at hb8
      have BW8 := Lib.hid hb8
      have HW8 := Lib.hid hw8
      have HWK := Lib.hid (wakes20_any w8)
      clear hw8 hb8 hbad hk1 hk2 HMK
      go_wp2_with fail
      rw [← HW8.out]
      refine HWK.out.mono ?_
      rintro e w9 ⟨rfl, hb9⟩
      have BW9 := Lib.hid (BW8.out.trans (hb9.mono BW8.out.size))
      clear hb9
      have HWK2 := Lib.hid (wakes20_any w9)
      go_wp2_with fail
      refine HWK2.out.mono ?_
      rintro e w10 ⟨rfl, hb10⟩
      have BW10 := Lib.hid (BW9.out.trans (hb10.mono BW9.out.size))
      clear hb10
      go_wp2_with fail
      go_ret
      exact ⟨rfl, BW10.out⟩
    · obtain ⟨pad, pc, rfl, hq⟩ := hpl
      rw [hck] at hk1 hk2
      subst hk1 hk2
      have HOK := Lib.hid hok
      obtain ⟨w8, hw8⟩ : ∃ w8, w8 = w7.alloc (.cells #[.slice pad (groups (unitl ss')).length pc, .int .i64 wi'] 51) := ⟨_, rfl⟩
      have hb8 : Below w7.heap.size w7 w8 := by rw [hw8]; exact (Below.refl _ _).alloc (Nat.le_refl _) _
      have hz8 : w8.heap.size = w7.heap.size + 1 := by rw [hw8]; simp
      have Y8 := show w8.heap[w7.heap.size]? = some (.cells #[.slice pad (groups (unitl ss')).length pc, .int .i64 wi'] 51 (0, 0)) by rw [hw8]; exact heap_new rfl
      have HW8 := Lib.hid hw8
      have HWK := Lib.hid (wakes20_any w8)
      have HB8 := Lib.hid hb8
      have HY8 := Lib.hid Y8
      clear hw8 hb8 HMK hok Y8 hck
      go_wp2_with fail
      rw [← HW8.out]
      refine HWK.out.mono ?_
      rintro e w9 ⟨rfl, hb9⟩
      have hsz9 := hb9.size
      have hb79 := HB8.out.trans (hb9.mono HB8.out.size)
      have hpl : PlanAt w9 w6.heap.size w9.heap.size (.slice pad (groups (unitl ss')).length pc) (groups (unitl ss')) (testsAt ss' cs') :=
        (PlanAt.keep (show PlanAt w7 _ w7.heap.size _ _ _ from ⟨pad, pc, rfl, hq⟩) fun p _ h2 => World.cell?_of_block (hb79.block p.block h2)).more (Nat.le_refl _) hb79.size
      obtain ⟨_, _, e, hq9⟩ := hpl
      obtain ⟨rfl, rfl⟩ : pad = _ ∧ pc = _ := by simpa using e
      have HQ := Lib.hid hq9
      have Y9 := Lib.hid ((hb9.block _ (by omega)).trans HY8.out)
      have X9 := Lib.hid ((hb79.block B (by omega)).trans ((HB7.out.block B (by omega)).trans X4.out))
      have BW9 := Lib.hid (BW7.out.trans (hb79.mono BW7.out.size))
      have z0 : w9.cell? ⟨w7.heap.size, 0, none⟩ = some (.slice pad (groups (unitl ss')).length pc) := (Lib.cell_of_heap Y9.out 0).trans rfl
      clear hb9 hb79 hq hq9 e HY8 HB8 HWK HW8 HB7 X4 BW7
      obtain ⟨C, hC⟩ : ∃ C, w7.heap.size = C := ⟨_, rfl⟩
      rw [hC] at Y9 z0 hz8 hsz7 ⊢
      have hC9 : C < w9.heap.size := by omega
      have hB9 : B < w9.heap.size := by omega
      clear hC
      obtain ⟨gs, hgs⟩ : ∃ gs, groups (unitl ss') = gs := ⟨_, rfl⟩
      rw [hgs] at Y9 z0 HQ ⊢
      have HGS := Lib.hid hgs
      have hg8 : gs.length ≤ 8 := by rw [← hgs]; exact HOK.out.groups8
      have hg8' : (gs.length : Int) ≤ 8 := by omega
      clear hgs

      have h16 := HOK.out.c16
      have hs8 := HOK.out.n8
      have HHD := Lib.hid (show ∀ q (h : q < gs.length), 1 ≤ gs[q].1.1.lo ∧ gs[q].1.1.lo ≤ gs[q].1.1.hi ∧ gs[q].1.1.hi ≤ 4 by have h := HGS.out; subst h; exact fun q hq => HOK.out.head hq)
      have HLA := Lib.hid (show ∀ q (h : q < gs.length), q + 1 = gs.length → gs[q].2.length = 0 by have h := HGS.out; subst h; exact fun q hq => HOK.out.last hq)
      have HSL := Lib.hid (show ∀ q, startG gs q ≤ 8 by have h := HGS.out; subst h; exact startG_le8 HOK.out)
      have HEN := Lib.hid (show startG gs gs.length = ss'.length by have h := HGS.out; subst h; exact HOK.out.end_)
      have HBN := Lib.hid (show 1 ≤ bindsG gs gs.length ∧ bindsG gs gs.length ≤ 16 by have h := HGS.out; subst h; exact ⟨HOK.out.binds1, HOK.out.binds16⟩)
      have h16' : (cs'.length : Int) ≤ 16 := by omega
      have hs8' : (ss'.length : Int) ≤ 8 := by omega
      go_wp2_with fail
      go_loopw [13, 14, 15, 50] (fun a b c u wr => ∃ q : Nat, u = .int .i64 q ∧ q ≤ gs.length ∧ a = .int .i64 (startG gs q) ∧ b = .int .i64 (condsTo ss' cs' (startG gs q)) ∧ c = .int .i64 (bindsG gs q) ∧ Grw w9 wr) (fun _ _ _ u _ => gs.length - (intOf u).toNat)
      case atStart => exact ⟨0, rfl, by omega, by rw [startG_zero]; rfl, by rw [startG_zero]; rfl, rfl, Grw.refl _⟩
      case round =>
        obtain ⟨q, rfl, hq, rfl, rfl, rfl, hgr⟩ := hrel
        have HGR := Lib.hid hgr
        have hsz := hgr.size
        have y0 := hgr.cell (show (⟨C, 0, none⟩ : Addr).block < _ from hC9) z0
        clear hgr
        by_cases hlt : q < gs.length
        · have hlt' : (q : Int) < (gs.length : Int) := by omega
          have hq0 : (0 : Int) ≤ (q : Int) := by omega
          obtain ⟨gv, e1, hgv, p0, p1, p2, ⟨vt, p3, ht1⟩, vb, p4, hbars⟩ := HQ.out q hlt
          obtain ⟨bad, bcap, rfl, hbr⟩ := hbars
          obtain ⟨vtl, vtc, rfl⟩ := Sl.shape ht1.1
          subst e1
          have hh := HHD.out q hlt
          have hla := HLA.out q hlt
          have HSS := Lib.hid (startG_succ gs q hlt)
          have HBX := Lib.hid (show bindsG gs (q + 1) = bindsG gs q + gs[q].1.1.hi by simp only [bindsG]; rw [getElem!_pos gs q hlt])
          have hb1 := bindsG_ge (fun q hq => by have := HHD.out q hq; omega) q (by omega)
          have hb2 := bindsG_le (fun q hq => by have := HHD.out q hq; omega) q (by omega)
          have hsl := HSL.out (q + 1)
          rw [HSS.out] at hsl
          have hcn := condsTo_le ss' cs' (startG gs q + 1)
          have HCX := Lib.hid (show condsTo ss' cs' (startG gs q + 1) = condsTo ss' cs' (startG gs q) + (testsAt ss' cs' (startG gs q)).length from rfl)
          rw [HCX.out] at hcn
          obtain ⟨x, hx⟩ : ∃ x, gs[q].1.1 = x := ⟨_, rfl⟩
          rw [hx] at p0 p1 p2 hh HBX
          have x0 := HGR.out.cell hgv.2 p0
          have x1 := HGR.out.cell hgv.2 p1
          have x2 := HGR.out.cell hgv.2 p2
          have x3 := HGR.out.cell hgv.2 p3
          have x4 := HGR.out.cell hgv.2 p4
          obtain ⟨k, hkk⟩ : ∃ k, startG gs q = k := ⟨_, rfl⟩
          simp only [hkk] at hbr
          have HBR := Lib.hid hbr
          rw [hkk] at hcn HCX HSS x3 hsl ⊢
          obtain ⟨cN, hcN⟩ : ∃ c, condsTo ss' cs' k = c := ⟨_, rfl⟩
          obtain ⟨bN, hbN⟩ : ∃ c, bindsG gs q = c := ⟨_, rfl⟩
          obtain ⟨tl, htl⟩ : ∃ c, (testsAt ss' cs' k).length = c := ⟨_, rfl⟩
          obtain ⟨bl, hbl⟩ : ∃ c, gs[q].2.length = c := ⟨_, rfl⟩
          rw [hcN, hbN]
          rw [hbN] at hb1 hb2 HBX
          rw [hcN, htl] at hcn HCX
          rw [htl] at x3
          rw [hbl] at x4 hla hsl HSS
          have HBL := Lib.hid hbl
          have hcn1 : (cN : Int) + tl ≤ 16 := by omega
          have hk1 : (k : Int) + 1 + bl ≤ 8 := by omega
          obtain ⟨h1lo, hlohi, hhi4⟩ := hh
          have hlo' : decide (x.lo < 1) = false := by simp; omega
          have hhi' : decide (x.lo > x.hi) = false := by simp; omega
          have ya : ∀ o, (wr.alloc o).cell? ⟨C, 0, none⟩ = some (.slice (some ⟨gv, 0, none⟩) gs.length pc) := fun o => (World.cell?_of_block (Below.heap_alloc wr o C (by omega))).trans y0
          clear p0 p1 p2 p3 p4 ht1 hbr hx hkk hcN hbN htl hbl
          by_cases he : q + 1 = gs.length
          · have hl0 := hla he
            have hqe : ((q : Int) == (gs.length : Int) - 1) = true := by simp; omega
            have hpl0 : decide ((bl : Int) > 0) = false := by simp; omega
            have HL0 := Lib.hid hl0
            clear hl0
            go_wp2_with fail
            clear x0 x1 x2 x3 x4 ya
            go_loopw [14, 97] (fun t u wz => ∃ r : Nat, u = .int .i64 r ∧ r ≤ bl ∧ t = .int .i64 (condsTo ss' cs' (k + 1 + r)) ∧ Grw w9 wz) (fun _ u _ => bl - (intOf u).toNat)
            case atStart => exact ⟨0, rfl, by omega, by show _ = Value.int .i64 ((condsTo ss' cs' (k + 1) : Nat) : Int); rw [HCX.out]; go_num, HGR.out.alloc _⟩
            case round =>
              obtain ⟨r, rfl, hr, rfl, hgr2⟩ := hrel
              have HGR2 := Lib.hid hgr2
              clear hgr2
              by_cases hrl : r < bl
              · exact absurd hrl (by have := HL0.out; omega)
              · obtain rfl : r = bl := by omega
                go_wp2_with fail
                go_roundw
                case rel => exact ⟨q + 1, by go_num, by omega, by rw [HSS.out]; go_num, by rw [HSS.out], by rw [HBX.out], HGR2.out⟩
                case measure => simp [intOf]; omega
          · have hqe : ((q : Int) == (gs.length : Int) - 1) = false := by simp; omega
            go_wp2_with fail
            clear x0 x1 x2 x3 x4 ya
            go_loopw [14, 97] (fun t u wz => ∃ r : Nat, u = .int .i64 r ∧ r ≤ bl ∧ t = .int .i64 (condsTo ss' cs' (k + 1 + r)) ∧ Grw w9 wz) (fun _ u _ => bl - (intOf u).toNat)
            case atStart => exact ⟨0, rfl, by omega, by show _ = Value.int .i64 ((condsTo ss' cs' (k + 1) : Nat) : Int); rw [HCX.out]; go_num, HGR.out.alloc _⟩
            case round =>
              obtain ⟨r, rfl, hr, rfl, hgr2⟩ := hrel
              have HGR2 := Lib.hid hgr2
              clear hgr2
              by_cases hrl : r < bl
              · have hrl' : (r : Int) < (bl : Int) := by omega
                have hr0 : (0 : Int) ≤ (r : Int) := by omega
                obtain ⟨gb, e1, hgb, q0, vt2, q1, ht2⟩ := HBR.out r (by rw [HBL.out]; exact hrl)
                obtain ⟨ut, uc, rfl⟩ := Sl.shape ht2.1
                subst e1
                have hc2 := condsTo_le ss' cs' (k + 1 + r + 1)
                have HC2 := Lib.hid (show condsTo ss' cs' (k + 1 + (r + 1)) = condsTo ss' cs' (k + 1 + r) + (testsAt ss' cs' (k + 1 + r)).length from rfl)
                rw [show condsTo ss' cs' (k + 1 + r + 1) = condsTo ss' cs' (k + 1 + r) + (testsAt ss' cs' (k + 1 + r)).length from rfl] at hc2
                have x0 := HGR2.out.cell hgb.2 q0
                have x1 := HGR2.out.cell hgb.2 q1
                obtain ⟨c2, hc2e⟩ : ∃ c, condsTo ss' cs' (k + 1 + r) = c := ⟨_, rfl⟩
                obtain ⟨t2, ht2e⟩ : ∃ c, (testsAt ss' cs' (k + 1 + r)).length = c := ⟨_, rfl⟩
                rw [hc2e]
                rw [hc2e, ht2e] at hc2 HC2
                rw [ht2e] at x1
                have hc3 : (c2 : Int) + t2 ≤ 16 := by omega
                clear q0 q1 ht2 hc2e ht2e
                go_wp2_with fail
                go_roundw
                case rel => exact ⟨r + 1, by go_num, by omega, by rw [HC2.out]; go_num, HGR2.out.alloc _⟩
                case measure => simp [intOf]; omega
              · obtain rfl : r = bl := by omega
                go_wp2_with fail
                go_roundw
                case rel => exact ⟨q + 1, by go_num, by omega, by rw [HSS.out]; go_num, by rw [HSS.out], by rw [HBX.out], HGR2.out⟩
                case measure => simp [intOf]; omega
        · obtain rfl : q = gs.length := by omega
          have HPB := Lib.hid (binds_any (.slice pad gs.length pc) wi' gs (testsAt ss' cs') wr w6.heap.size ((PlanAt.keep (show PlanAt w9 _ w9.heap.size _ _ _ from ⟨pad, pc, rfl, HQ.out⟩) fun p _ hp => HGR.out.below.cell hp).more (Nat.le_refl _) HGR.out.size) hg8 (fun q hq => by have := HHD.out q hq; omega))
          have hcl := HOK.out.conds
          have x0 : wr.cell? ⟨B, 0, none⟩ = some (.slice sad' ss'.length scap') := HGR.out.cell hB9 ((Lib.cell_of_heap X9.out 0).trans rfl)
          have x1 : wr.cell? ⟨B, 1, none⟩ = some (.slice cad' cs'.length ccap') := HGR.out.cell hB9 ((Lib.cell_of_heap X9.out 1).trans rfl)
          have y1 : wr.cell? ⟨C, 1, none⟩ = some (.int .i64 wi') := HGR.out.cell hC9 ((Lib.cell_of_heap Y9.out 1).trans rfl)
          rw [HEN.out, hcl]
          obtain ⟨hn1, hn2⟩ := HBN.out
          obtain ⟨bn, hbn⟩ : ∃ b, bindsG gs gs.length = b := ⟨_, rfl⟩
          rw [hbn] at hn1 hn2 HPB ⊢
          clear hbn hcl
          go_wp2_with fail
          refine HPB.out.mono ?_
          rintro e w10 ⟨rfl, hg10⟩
          have BW10 := Lib.hid (BW9.out.trans ((HGR.out.trans hg10).below.mono BW9.out.size))
          clear hg10
          go_wp2_with fail
          go_ret
          exact ⟨rfl, BW10.out⟩
end Go.Proofs.Ytcfimponmioneaa.WL
