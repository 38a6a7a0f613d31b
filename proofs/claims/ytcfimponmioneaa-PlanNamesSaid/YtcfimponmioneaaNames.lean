/- PlanNames: the law's walk. -/
import Derived.Test.YtcfimponmioneaaWake20
import Derived.Test.YtcfimponmioneaaWNames
import Derived.Test.YtcfimponmioneaaPatIn
import Derived.Shelf.SlSortCmp.QuietGrown
namespace Go.Proofs.Ytcfimponmioneaa.WL
open Go Go.RowKit Go.Sort Go.Proofs.Ytcfimponmioneaa Go.Proofs.Ytcfimponmioneaa.PL Go.Proofs.Ytcfimponmioneaa.PP Go.Proofs.Ytcfimponmioneaa.Mem Go.Proofs.Ytcfimponmioneaa.WP

set_option maxRecDepth 100000 in
set_option maxHeartbeats 6400000 in
theorem names_law (s : ByteArray) (by' : Int) (hby : -9223372036854775808 ≤ by' ∧ by' ≤ 9223372036854775807) (W : World) :
    Calls Try.prog 11 #[.string s, .int .i64 by'] W fun e w' => e = .returned (.bool true) ∧ Below W.heap.size W w' := by
  obtain ⟨w1, hw1⟩ : ∃ w1, w1 = W.alloc (.cells #[.int .i64 by'] 3) := ⟨_, rfl⟩
  have hb1 : Below W.heap.size W w1 := by rw [hw1]; exact (Below.refl _ _).alloc (Nat.le_refl _) _
  have hz1 : w1.heap.size = W.heap.size + 1 := by rw [hw1]; simp
  have X1 := Lib.hid (show w1.heap[W.heap.size]? = some (.cells #[.int .i64 by'] 3 (0, 0)) by rw [hw1]; exact heap_new rfl)
  have HW1 := Lib.hid hw1
  have HB1 := Lib.hid hb1
  have HP := Lib.hid (parse_any s w1)
  clear hw1 hb1
  obtain ⟨pr, hpr⟩ : ∃ pr, pParse s.data.toList = pr := ⟨_, rfl⟩
  rw [hpr] at HP
  have HPR := Lib.hid hpr
  clear hpr
  go_enter Try.func11, Try.ntmps11
  go_wp2_with fail
  rw [← HW1.out]
  cases pr with
  | inl f =>
    obtain ⟨k, er⟩ := f
    refine HP.out.mono ?_
    rintro e w2 ⟨hb2, rfl⟩
    have her : (er != 0) = true := by simp [parse_nz HPR.out]
    have her' : (er == 0) = false := by simp [parse_nz HPR.out]
    obtain ⟨w3, hw3⟩ : ∃ w3, w3 = w2.alloc (.cells #[nilS, nilS, .int .i64 0] 25) := ⟨_, rfl⟩
    have hb3 := hb2.alloc hb2.size (.cells #[nilS, nilS, .int .i64 0] 25)
    rw [← hw3] at hb3
    have BW3 := Lib.hid (HB1.out.trans (hb3.mono HB1.out.size))
    have HW3 := Lib.hid hw3
    have HWK := Lib.hid (wakes20_any w3)
    clear hw3 hb3 hb2 HP
    go_wp2_with fail
    rw [← HW3.out]
    refine HWK.out.mono ?_
    rintro e w4 ⟨rfl, hb4⟩
    have BW4 := Lib.hid (BW3.out.trans (hb4.mono BW3.out.size))
    have HWK2 := Lib.hid (wakes20_any w4)
    clear hb4
    go_wp2_with fail
    refine HWK2.out.mono ?_
    rintro e w5 ⟨rfl, hb5⟩
    have BW5 := Lib.hid (BW4.out.trans (hb5.mono BW4.out.size))
    clear hb5
    go_wp2_with fail
    go_ret
    exact ⟨rfl, BW5.out⟩
  | inr p =>
    refine HP.out.mono ?_
    rintro e w2 ⟨hb2, sl, cl, rfl, ho1, ho2⟩
    obtain ⟨sad, scap, rfl⟩ := own_slice ho1
    obtain ⟨cad, ccap, rfl⟩ := own_slice ho2
    have hlen := PLen.parse_len HPR.out
    have hpok := parse_ok HPR.out
    have hsz2 := hb2.size
    obtain ⟨w3, hw3⟩ : ∃ w3, w3 = w2.alloc (.cells #[.slice sad p.ss.length scap, .slice cad p.cs.length ccap, .int .i64 p.wi] 25) := ⟨_, rfl⟩
    have hb23 : Below w2.heap.size w2 w3 := by rw [hw3]; exact (Below.refl _ _).alloc (Nat.le_refl _) _
    have hz3 : w3.heap.size = w2.heap.size + 1 := by rw [hw3]; simp
    have X3 := show w3.heap[w2.heap.size]? = some (.cells #[.slice sad p.ss.length scap, .slice cad p.cs.length ccap, .int .i64 p.wi] 25 (0, 0)) by rw [hw3]; exact heap_new rfl
    have B13 := hb2.trans (hb23.mono hb2.size)
    have HO := Lib.hid (And.intro (own_below ho1 hb23) (own_below ho2 hb23))
    have Y3 := Lib.hid ((B13.block _ (show W.heap.size < w1.heap.size by omega)).trans X1.out)
    have HX3 := Lib.hid X3
    have BW3 := Lib.hid (HB1.out.trans (B13.mono HB1.out.size))
    have HW3 := Lib.hid hw3
    have HWK := Lib.hid (wakes20_any w3)
    have HPO := Lib.hid hpok
    clear hw3 hb2 HP ho1 ho2 hb23 X3 B13 X1 hpok
    go_wp2_with fail
    rw [← HW3.out]
    refine HWK.out.mono ?_
    rintro e w4 ⟨rfl, hb4⟩
    have hsz4 := hb4.size
    have HO4 := Lib.hid (And.intro (own_below HO.out.1 hb4) (own_below HO.out.2 hb4))
    have HX4 := Lib.hid ((hb4.block _ (by omega)).trans HX3.out)
    have Y4 := Lib.hid ((hb4.block W.heap.size (by omega)).trans Y3.out)
    have BW4 := Lib.hid (BW3.out.trans (hb4.mono BW3.out.size))
    clear hb4 HO HX3 Y3 BW3 HWK HW3 HW1
    obtain ⟨A, hA⟩ : ∃ A, w2.heap.size = A := ⟨_, rfl⟩
    rw [hA] at HX4 hz3 hsz2 ⊢
    have hA4 : A < w4.heap.size := by omega
    have hWA : W.heap.size < A := by omega
    have hwz : w1.heap.size ≤ A := hsz2
    clear hA
    have y0 : w4.cell? ⟨W.heap.size, 0, none⟩ = some (.int .i64 by') := (Lib.cell_of_heap Y4.out 0).trans rfl
    have yf : w4.frozen? ⟨W.heap.size, 0, none⟩ = false := Lib.frozen_of_heap Y4.out 0
    have a2 : w4.cell? ⟨A, 2, none⟩ = some (.int .i64 p.wi) := (Lib.cell_of_heap HX4.out 2).trans rfl
    have hneA : A ≠ W.heap.size := by omega
    have hneA' : W.heap.size ≠ A := by omega
    have hs : ∀ s ∈ p.ss.map gS, isNm s.nm := by
      intro s hs
      obtain ⟨t, ht, rfl⟩ := List.mem_map.1 hs
      have := HPO.out.1 t ht
      unfold okS at this
      unfold isNm
      show 97 ≤ (t.nm : Int) ∧ (t.nm : Int) ≤ 122
      omega
    have hc : ∀ c ∈ p.cs.map gC, isNm c.l ∧ (c.r = 0 ∨ isNm c.r) := by
      intro c hc
      obtain ⟨t, ht, rfl⟩ := List.mem_map.1 hc
      have := HPO.out.2 t ht
      unfold okC at this
      unfold isNm
      show (97 ≤ (t.l : Int) ∧ (t.l : Int) ≤ 122) ∧ ((t.r : Int) = 0 ∨ (97 ≤ (t.r : Int) ∧ (t.r : Int) ≤ 122))
      omega
    have HO5 := HO4.out
    rw [cells_gS, cells_gC] at HO5
    clear HO4
    have HO4 := Lib.hid HO5
    clear HO5
    have E1 : (p.ss.map gS).length = p.ss.length := List.length_map _
    have E2 : (p.cs.map gC).length = p.cs.length := List.length_map _
    have hl9 : (p.ss.map gS).length ≤ 9 := by rw [E1]; exact hlen.1
    have hl17 : (p.cs.map gC).length ≤ 17 := by rw [E2]; exact hlen.2
    rw [← E1, ← E2] at HX4 HO4 ⊢
    clear E1 E2 hlen HPO HPR
    generalize p.ss.map gS = ss at *
    generalize p.cs.map gC = cs at *
    generalize (p.wi : Int) = wi at *
    clear p
    have HS := Lib.hid hs
    have HC := Lib.hid hc
    clear hs hc
    have hl9' : (ss.length : Int) ≤ 9 := by omega
    have hl17' : (cs.length : Int) ≤ 17 := by omega
    by_cases hpos : 0 < by'
    · obtain ⟨V, hV⟩ : ∃ V, V = w4.setCell ⟨W.heap.size, 0, none⟩ (.int .i64 (by' % 26)) := ⟨_, rfl⟩
      have hzV : V.heap.size = w4.heap.size := by rw [hV]; simp
      have YV := Lib.hid (show V.heap[W.heap.size]? = some (.cells #[.int .i64 (by' % 26)] 3 (0, 0)) by rw [hV]; exact blk_set Y4.out 0 _)
      have XV := Lib.hid (show V.heap[A]? = some (.cells #[.slice sad ss.length scap, .slice cad cs.length ccap, .int .i64 wi] 25 (0, 0)) by rw [hV]; exact blk_other HX4.out _ 0 _ hneA)
      have BWV := Lib.hid (show Below W.heap.size W V by rw [hV]; exact BW4.out.setCell (p := ⟨W.heap.size, 0, none⟩) (Nat.le_refl _) _)
      have HSV := Lib.hid (show Stps V V.heap.size (.slice sad ss.length scap) ss by rw [hV]; exact Sl.own_more'' (own_set HO4.out.1 Y4.out (by decide)))
      have HCV := Lib.hid (show Cnds V V.heap.size (.slice cad cs.length ccap) cs by rw [hV]; exact Sl.own_more'' (own_set HO4.out.2 Y4.out (by decide)))
      have hk : 0 ≤ (by' % 26) ∧ (by' % 26) < 26 := by omega
      have v0 : V.cell? ⟨A, 0, none⟩ = some (.slice sad ss.length scap) := (Lib.cell_of_heap XV.out 0).trans rfl
      have v1 : V.cell? ⟨A, 1, none⟩ = some (.slice cad cs.length ccap) := (Lib.cell_of_heap XV.out 1).trans rfl
      have v2 : V.cell? ⟨A, 2, none⟩ = some (.int .i64 wi) := (Lib.cell_of_heap XV.out 2).trans rfl
      have v3 : V.cell? ⟨W.heap.size, 0, none⟩ = some (.int .i64 (by' % 26)) := (Lib.cell_of_heap YV.out 0).trans rfl
      have HN0 := Lib.hid (show Nk V (V.alloc (.cells #[nilP, nilP, .int .i64 wi] 25)) wi nilP nilP 0 [] 0 [] from ⟨(Below.refl _ _).alloc (Nat.le_refl _) _, heap_new rfl, World.ownsRow_nil _ _ _ _, World.ownsRow_nil _ _ _ _⟩)
      have HVH := Lib.hid hV
      have hAV : A < V.heap.size := by omega
      have hWV : W.heap.size < V.heap.size := by omega
      have s0 : ((w4.setCell ⟨W.heap.size, 0, none⟩ (.int .i64 (by' % 26))).alloc (.cells #[nilP, nilP, .int .i64 wi] 25)).cell? ⟨A, 0, none⟩ = some (.slice sad ss.length scap) := by rw [← hV]; exact (World.cell?_of_block (Below.heap_alloc V _ A hAV)).trans v0
      have HV3 := Lib.hid v3; have HV1 := Lib.hid v1; have HV2 := Lib.hid v2; have HV0 := Lib.hid v0
      clear hV Y4 HX4 HO4 BW4
      go_wp2_with fail
      clear y0 yf a2 s0 v0 v1 v2 v3
      rw [← HVH.out]
      clear HVH
      rw [← hzV]
      clear hzV
      obtain ⟨i0, hi, hz0, hz1, hz2⟩ := info_parts infoS1
      go_loopw [47] (fun u wr => ∃ n : Nat, n ≤ ss.length ∧ u = .int .i64 n ∧ ∃ sv, Nk V wr wi sv nilP n ((ss.map (tS (by' % 26))).take n) 0 []) (fun u _ => ss.length - (intOf u).toNat)
      case atStart => exact ⟨0, by omega, rfl, _, HN0.out⟩
      case round =>
        obtain ⟨n, hn, rfl, sv, hnk⟩ := hrel
        have HR := Lib.hid hnk
        clear hnk
        by_cases hlt : n < ss.length
        · obtain ⟨b, o, c', hc', hbl, g0, g1, g2, g3, g4⟩ := HSV.out.at_ hlt
          obtain ⟨rfl, rfl⟩ : sad = some ⟨b, o, none⟩ ∧ scap = c' := by simpa using hc'
          have hlt' : (n : Int) < (ss.length : Int) := by omega
          have hn0 : (0 : Int) ≤ (n : Int) := by omega
          have hc0 := (HR.out.bel.cell (p := ⟨b, o + n * 5, none⟩) hbl).trans g0
          have hc1 := (HR.out.bel.cell (p := ⟨b, o + n * 5 + 1, none⟩) hbl).trans g1
          have hc2 := (HR.out.bel.cell (p := ⟨b, o + n * 5 + 2, none⟩) hbl).trans g2
          have hc3 := (HR.out.bel.cell (p := ⟨b, o + n * 5 + 3, none⟩) hbl).trans g3
          have hc4 := (HR.out.bel.cell (p := ⟨b, o + n * 5 + 4, none⟩) hbl).trans g4
          have hnm := HS.out ss[n] (List.getElem_mem hlt)
          have HT := Lib.hid (show (ss.map (tS (by' % 26))).take (n + 1) = (ss.map (tS (by' % 26))).take n ++ [tS (by' % 26) ss[n]] by rw [take_snocL _ n (by simpa using hlt), List.getElem_map])
          obtain ⟨x, hx⟩ : ∃ x, ss[n] = x := ⟨_, rfl⟩
          rw [hx] at hc0 hc1 hc2 hc3 hc4 hnm HT
          have HTN := Lib.hid (turn_any (by' % 26) x.nm W.heap.size (wr.alloc (.cells #[.int .u8 x.k, .int .u8 x.nm, .bool x.neg, .int .i64 x.lo, .int .i64 x.hi] 76)) hk (.inr hnm) ((((Below.refl _ _).alloc (Nat.le_refl _) _).cell (p := ⟨W.heap.size, 0, none⟩) (show W.heap.size < wr.heap.size by have := HR.out.bel.size; omega)).trans ((HR.out.bel.cell (p := ⟨W.heap.size, 0, none⟩) hWV).trans HV3.out)))
          have HA := Lib.hid (HR.out.alloc (.cells #[.int .u8 x.k, .int .u8 (tn (by' % 26) x.nm), .bool x.neg, .int .i64 x.lo, .int .i64 x.hi] 76))
          have hsz := HR.out.bel.size
          clear g0 g1 g2 g3 g4 hc' hx hnm
          go_wp2_with fail
          refine HTN.out.mono ?_
          rintro e w' ⟨rfl, rfl⟩
          have y0 := (Lib.cell_of_heap HA.out.bc 0).trans rfl
          have HZ9 := Lib.hid (show (wr.alloc (.cells #[.int .u8 x.k, .int .u8 (tn (by' % 26) x.nm), .bool x.neg, .int .i64 x.lo, .int .i64 x.hi] 76)).heap.size = wr.heap.size + 1 by simp)
          clear HTN hc0 hc1 hc2 hc3 hc4
          go_wp2_with (at_builtin; refine wpList_append_lies _ rfl (.tmp 57) (.tmp 59) 22 rfl V.heap.size 76 i0 _ 5 24 Try.underlying22 hi hz0 hz1 hz2 rfl (by decide) _ _ _ rfl (HA.out.o1.alloc _) ⟨wr.heap.size + 1, 0, none⟩ 1 1 (encG (tS (by' % 26) x)) rfl rfl ?c1 ?c2 (by decide) ?c3 ?c4 ?c5 _ rfl ?_)
          case c1 =>
            intro j u hu
            have h := new_cell (wr.alloc (.cells #[.int .u8 x.k, .int .u8 (tn (by' % 26) x.nm), .bool x.neg, .int .i64 x.lo, .int .i64 x.hi] 76)) (encG (tS (by' % 26) x)).toArray 76 j u (by simpa using hu)
            rw [HZ9.out] at h
            exact h
          case c2 => exact encG_one _
          case c3 => unfold maxLen; omega
          case c4 => omega
          case c5 => simp; omega
          intro gn cap w13 hown hgr _ _
          have HP13 := Lib.hid (Nk.pushS (HA.out.alloc _) hgr hown)
          have b13 := heap_kept (heap_alloc HA.out.bc) (HA.out.o1.alloc _) (by decide) hgr
          have z0 := (Lib.cell_of_heap b13 0).trans rfl
          have zf := Lib.frozen_of_heap b13 0
          clear hown hgr b13 y0 HA HZ9 HR
          go_wp2_with fail
          go_roundw
          case rel => exact ⟨n + 1, by omega, by go_num, _, by rw [HT.out]; exact HP13.out⟩
          case measure => simp [intOf]; omega
        · obtain rfl : n = ss.length := by omega
          have HR := Lib.hid (show Nk V wr wi sv nilP ss.length (ss.map (tS (by' % 26))) 0 [] by have := HR.out; rwa [List.take_of_length_le (by simp)] at this)
          have q1 := (HR.out.bel.cell (p := ⟨A, 1, none⟩) hAV).trans HV1.out
          clear i0 hi hz0 hz1 hz2 HN0 hlt hn
          obtain ⟨i0, hi, hz0, hz1, hz2⟩ := info_parts infoC1
          go_wp2_with fail
          clear q1
          go_loopw [66] (fun u wr => ∃ n : Nat, n ≤ cs.length ∧ u = .int .i64 n ∧ ∃ cv, Nk V wr wi sv cv ss.length (ss.map (tS (by' % 26))) n ((cs.map (tC (by' % 26))).take n)) (fun u _ => cs.length - (intOf u).toNat)
          case atStart => exact ⟨0, by omega, rfl, _, HR.out⟩
          case round =>
            clear HR
            obtain ⟨n, hn, rfl, cv, hnk⟩ := hrel
            have HR := Lib.hid hnk
            clear hnk
            by_cases hlt : n < cs.length
            · obtain ⟨b, o, c', hc', hbl, g0, g1, g2, g3⟩ := HCV.out.at_ hlt
              obtain ⟨rfl, rfl⟩ : cad = some ⟨b, o, none⟩ ∧ ccap = c' := by simpa using hc'
              have hlt' : (n : Int) < (cs.length : Int) := by omega
              have hn0 : (0 : Int) ≤ (n : Int) := by omega
              have hc0 := (HR.out.bel.cell (p := ⟨b, o + n * 4, none⟩) hbl).trans g0
              have hc1 := (HR.out.bel.cell (p := ⟨b, o + n * 4 + 1, none⟩) hbl).trans g1
              have hc2 := (HR.out.bel.cell (p := ⟨b, o + n * 4 + 2, none⟩) hbl).trans g2
              have hc3 := (HR.out.bel.cell (p := ⟨b, o + n * 4 + 3, none⟩) hbl).trans g3
              have hnm := HC.out cs[n] (List.getElem_mem hlt)
              have HT := Lib.hid (show (cs.map (tC (by' % 26))).take (n + 1) = (cs.map (tC (by' % 26))).take n ++ [tC (by' % 26) cs[n]] by rw [take_snocL _ n (by simpa using hlt), List.getElem_map])
              obtain ⟨x, hx⟩ : ∃ x, cs[n] = x := ⟨_, rfl⟩
              rw [hx] at hc0 hc1 hc2 hc3 hnm HT
              have hsz := HR.out.bel.size
              obtain ⟨w8, hw8⟩ : ∃ w8, w8 = wr.alloc (.cells #[.int .u8 x.l, .int .i64 x.op, .int .u8 x.r, .int .i64 x.k] 78) := ⟨_, rfl⟩
              obtain ⟨D, hD⟩ : ∃ D, wr.heap.size = D := ⟨_, rfl⟩
              have X8 := Lib.hid (show w8.heap[D]? = some (.cells #[.int .u8 x.l, .int .i64 x.op, .int .u8 x.r, .int .i64 x.k] 78 (0, 0)) by rw [hw8]; exact heap_new hD.symm)
              have HK8 := Lib.hid (show w8.cell? ⟨W.heap.size, 0, none⟩ = some (.int .i64 (by' % 26)) by rw [hw8]; exact (((Below.refl _ _).alloc (Nat.le_refl _) _).cell (p := ⟨W.heap.size, 0, none⟩) (show W.heap.size < wr.heap.size by omega)).trans ((HR.out.bel.cell (p := ⟨W.heap.size, 0, none⟩) hWV).trans HV3.out))
              have HN8 := Lib.hid (show Nk V w8 wi sv cv ss.length (ss.map (tS (by' % 26))) n ((cs.map (tC (by' % 26))).take n) by rw [hw8]; exact HR.out.alloc _)
              have HW8 := Lib.hid hw8
              have HNM := Lib.hid hnm
              have HDD := Lib.hid hD
              clear g0 g1 g2 g3 hc' hx hnm hw8 hD
              go_wp2_with fail
              rw [HDD.out, ← HW8.out]
              have HW8' := HW8
              clear hc0 hc1 hc2 hc3 HW8
              refine Ord.store2_order (h := 12) (i1 := 9) (i2 := 11) (w1 := w8.drew.setCell ⟨D, 0, none⟩ (.int .u8 (tn (by' % 26) x.l))) (w2 := (w8.drew.setCell ⟨D, 0, none⟩ (.int .u8 (tn (by' % 26) x.l))).setCell ⟨D, 2, none⟩ (.int .u8 (tn (by' % 26) x.r)))
                (floats := [(0, 70, .func (.func 26) #[] #[.pointer (some ⟨W.heap.size, 0, none⟩)]), (1, 71, .pointer (some ⟨D, 0, none⟩)), (2, 72, .int .u8 x.l), (3, 73, .int .u8 (tn (by' % 26) x.l)), (4, 74, .func (.func 26) #[] #[.pointer (some ⟨W.heap.size, 0, none⟩)]), (5, 75, .pointer (some ⟨D, 2, none⟩)), (6, 76, .int .u8 x.r), (7, 77, .int .u8 (tn (by' % 26) x.r)), (8, 78, .pointer (some ⟨D, 0, none⟩)), (10, 79, .pointer (some ⟨D, 2, none⟩))])
                (by kernel_rfl) rfl (by kernel_rfl) (by kernel_rfl) (by kernel_rfl) (show [0, 1, 2, 3, 4, 5, 6, 7, 8, 10, 9, 11].Nodup by decide) (show ∀ i, i < 12 → i ∈ [0, 1, 2, 3, 4, 5, 6, 7, 8, 10, 9, 11] by decide) (show ∀ i ∈ [0, 1, 2, 3, 4, 5, 6, 7, 8, 10, 9, 11], i < 12 by decide)
                (show [70, 71, 72, 73, 74, 75, 76, 77, 78, 79].Nodup by decide) (show ∀ s ∈ [70, 71, 72, 73, 74, 75, 76, 77, 78, 79], s < 212 by decide) ?_ ?_ ?_ ?_
              · intro i s' y hm a w K hs hk' hw hK
                simp only [List.mem_cons, List.not_mem_nil, or_false, Prod.mk.injEq] at hm
                rcases hm with ⟨rfl, rfl, rfl⟩ | ⟨rfl, rfl, rfl⟩ | ⟨rfl, rfl, rfl⟩ | ⟨rfl, rfl, rfl⟩ | ⟨rfl, rfl, rfl⟩ | ⟨rfl, rfl, rfl⟩ | ⟨rfl, rfl, rfl⟩ | ⟨rfl, rfl, rfl⟩ | ⟨rfl, rfl, rfl⟩ | ⟨rfl, rfl, rfl⟩
                · exact Ord.wpOp_val (o := _) rfl rfl (Ord.run_move (Ord.eval_tmp ((hs.out 8 (show 8 ∉ [70, 71, 72, 73, 74, 75, 76, 77, 78, 79] by decide)).trans rfl))) hK
                · exact Ord.wpOp_val (o := _) rfl rfl (Ord.run_fld (Ord.eval_tmp ((hs.out 13 (show 13 ∉ [70, 71, 72, 73, 74, 75, 76, 77, 78, 79] by decide)).trans rfl)) (fld_cnd0 w D)) hK
                · rcases hw with rfl | hw
                  · exact Ord.wpOp_val (o := _) rfl rfl (Ord.run_load (Ord.eval_tmp (hk' _ 1 71 (.pointer (some ⟨D, 0, none⟩)) rfl (by simp) (Ord.waits_of (by kernel_rfl)))) (load_u8 ((Lib.cell_of_heap (Mem.heap_drew X8.out) 0).trans rfl))) hK
                  · exact absurd (hw.1.symm.trans (by kernel_rfl)) Bool.false_ne_true
                · rcases hw with rfl | hw
                  · refine Ord.wpOp_enter (o := _) rfl rfl (Ord.run_enterV (Ord.eval_tmp (hk' _ 0 70 (.func (.func 26) #[] #[.pointer (some ⟨W.heap.size, 0, none⟩)]) rfl (by simp) (Ord.waits_of (by kernel_rfl)))) (Ord.eval_tmp (hk' _ 2 72 (.int .u8 x.l) rfl (by simp) (Ord.waits_of (by kernel_rfl)))) (enter_turn _ _ _)) ?_
                    refine (turn_any (by' % 26) x.l W.heap.size w8.drew hk (.inr HNM.out.1) HK8.out).mono ?_
                    rintro e w'' ⟨rfl, rfl⟩
                    exact hK
                  · exact absurd (hw.1.symm.trans (by kernel_rfl)) Bool.false_ne_true
                · exact Ord.wpOp_val (o := _) rfl rfl (Ord.run_move (Ord.eval_tmp ((hs.out 8 (show 8 ∉ [70, 71, 72, 73, 74, 75, 76, 77, 78, 79] by decide)).trans rfl))) hK
                · exact Ord.wpOp_val (o := _) rfl rfl (Ord.run_fld (Ord.eval_tmp ((hs.out 13 (show 13 ∉ [70, 71, 72, 73, 74, 75, 76, 77, 78, 79] by decide)).trans rfl)) (fld_cnd2 w D)) hK
                · rcases hw with rfl | hw
                  · exact Ord.wpOp_val (o := _) rfl rfl (Ord.run_load (Ord.eval_tmp (hk' _ 5 75 (.pointer (some ⟨D, 2, none⟩)) rfl (by simp) (Ord.waits_of (by kernel_rfl)))) (load_u8 ((Lib.cell_of_heap (Mem.heap_drew X8.out) 2).trans rfl))) hK
                  · exact absurd (hw.1.symm.trans (by kernel_rfl)) Bool.false_ne_true
                · rcases hw with rfl | hw
                  · refine Ord.wpOp_enter (o := _) rfl rfl (Ord.run_enterV (Ord.eval_tmp (hk' _ 4 74 (.func (.func 26) #[] #[.pointer (some ⟨W.heap.size, 0, none⟩)]) rfl (by simp) (Ord.waits_of (by kernel_rfl)))) (Ord.eval_tmp (hk' _ 6 76 (.int .u8 x.r) rfl (by simp) (Ord.waits_of (by kernel_rfl)))) (enter_turn _ _ _)) ?_
                    refine (turn_any (by' % 26) x.r W.heap.size w8.drew hk HNM.out.2 HK8.out).mono ?_
                    rintro e w'' ⟨rfl, rfl⟩
                    exact hK
                  · exact absurd (hw.1.symm.trans (by kernel_rfl)) Bool.false_ne_true
                · exact Ord.wpOp_val (o := _) rfl rfl (Ord.run_fld (Ord.eval_tmp ((hs.out 13 (show 13 ∉ [70, 71, 72, 73, 74, 75, 76, 77, 78, 79] by decide)).trans rfl)) (fld_cnd0 w D)) hK
                · exact Ord.wpOp_val (o := _) rfl rfl (Ord.run_fld (Ord.eval_tmp ((hs.out 13 (show 13 ∉ [70, 71, 72, 73, 74, 75, 76, 77, 78, 79] by decide)).trans rfl)) (fld_cnd2 w D)) hK
              · intro a K hs hk' hK
                exact Ord.wpOp_skip (o := _) rfl rfl rfl (run_store_u8 (Ord.eval_tmp (hk' _ 8 78 (.pointer (some ⟨D, 0, none⟩)) rfl (by simp) (Ord.waits_of (by kernel_rfl)))) (Ord.eval_tmp (hk' _ 3 73 (.int .u8 (tn (by' % 26) x.l)) rfl (by simp) (Ord.waits_of (by kernel_rfl)))) ((Lib.cell_of_heap (Mem.heap_drew X8.out) 0).trans rfl) (Lib.frozen_of_heap (Mem.heap_drew X8.out) 0)) hK
              · intro a K hs hk' hK
                have X9 := blk_set (Mem.heap_drew X8.out) 0 (.int .u8 (tn (by' % 26) x.l))
                exact Ord.wpOp_skip (o := _) rfl rfl rfl (run_store_u8 (Ord.eval_tmp (hk' _ 10 79 (.pointer (some ⟨D, 2, none⟩)) rfl (by simp) (Ord.waits_of (by kernel_rfl)))) (Ord.eval_tmp (hk' _ 7 77 (.int .u8 (tn (by' % 26) x.r)) rfl (by simp) (Ord.waits_of (by kernel_rfl)))) ((Lib.cell_of_heap X9 2).trans rfl) (Lib.frozen_of_heap X9 2)) hK
              · obtain ⟨w10, hw10⟩ : ∃ w10, w10 = (w8.drew.setCell ⟨D, 0, none⟩ (.int .u8 (tn (by' % 26) x.l))).setCell ⟨D, 2, none⟩ (.int .u8 (tn (by' % 26) x.r)) := ⟨_, rfl⟩
                have X10 := Lib.hid (show w10.heap[D]? = some (.cells #[.int .u8 (tn (by' % 26) x.l), .int .i64 x.op, .int .u8 (tn (by' % 26) x.r), .int .i64 x.k] 78 (0, 0)) by rw [hw10]; exact blk_set (blk_set (Mem.heap_drew X8.out) 0 _) 2 _)
                have hb8 : Below wr.heap.size wr w10 := by
                  rw [hw10]
                  refine Below.setCell (p := ⟨D, 2, none⟩) (Below.setCell (p := ⟨D, 0, none⟩) (Below.drew ?_) (by rw [HDD.out]; exact Nat.le_refl _) _) (by rw [HDD.out]; exact Nat.le_refl _) _
                  rw [HW8'.out]; exact (Below.refl _ _).alloc (Nat.le_refl _) _
                have HN10 := Lib.hid (HR.out.below hb8)
                rw [← hw10]
                clear hw10 hb8 X8 HK8
                have y0 := (Lib.cell_of_heap HN10.out.bc 1).trans rfl
                have n0 := (Lib.cell_of_heap X10.out 0).trans rfl
                have n1 := (Lib.cell_of_heap X10.out 1).trans rfl
                have n2 := (Lib.cell_of_heap X10.out 2).trans rfl
                have n3 := (Lib.cell_of_heap X10.out 3).trans rfl
                simp only [Ord.puts, List.map_cons, List.map_nil]
                go_wp2_with (at_builtin; refine wpList_append_lies _ rfl (.tmp 81) (.tmp 83) 23 rfl V.heap.size 78 i0 _ 4 32 Try.underlying23 hi hz0 hz1 hz2 rfl (by decide) _ _ _ rfl (HN10.out.o2.alloc _) ⟨w10.heap.size, 0, none⟩ 1 1 (encD (tC (by' % 26) x)) rfl rfl ?d1 ?d2 (by decide) ?d3 ?d4 ?d5 _ rfl ?_)
                case d1 =>
                  intro j u hu
                  exact new_cell w10 (encD (tC (by' % 26) x)).toArray 78 j u (by simpa using hu)
                case d2 => exact encD_one _
                case d3 => unfold maxLen; omega
                case d4 => omega
                case d5 => have := HN10.out.bel.size; exact Nat.le_trans this (by simp)
                intro gn cap w13 hown hgr _ _
                have HP13 := Lib.hid (Nk.pushC (HN10.out.alloc _) hgr hown)
                have b13 := heap_kept (heap_alloc HN10.out.bc) (HN10.out.o2.alloc _) (by decide) hgr
                have z0 := (Lib.cell_of_heap b13 1).trans rfl
                have zf := Lib.frozen_of_heap b13 1
                clear hown hgr b13 y0 HN10 X10 n0 n1 n2 n3
                go_wp2_with fail
                go_roundw
                case rel => exact ⟨n + 1, by omega, by go_num, _, by rw [HT.out]; exact HP13.out⟩
                case measure => simp [intOf]; omega
            · obtain rfl : n = cs.length := by omega
              have HR := Lib.hid (show Nk V wr wi sv cv ss.length (ss.map (tS (by' % 26))) cs.length (cs.map (tC (by' % 26))) by have := HR.out; rwa [List.take_of_length_le (by simp)] at this)
              clear i0 hi hz0 hz1 hz2 hlt hn
              have a0 := (HR.out.bel.cell (p := ⟨A, 0, none⟩) hAV).trans HV0.out
              have a1 := (HR.out.bel.cell (p := ⟨A, 1, none⟩) hAV).trans HV1.out
              have a2 := (HR.out.bel.cell (p := ⟨A, 2, none⟩) hAV).trans HV2.out
              have hszr := HR.out.bel.size
              have hMK1 := make_any (.slice sad ss.length scap) (.slice cad cs.length ccap) wi ss cs wr (Sl.more (Sl.below HSV.out HR.out.bel) hszr) (Sl.more (Sl.below HCV.out HR.out.bel) hszr) (by unfold maxLen; omega) (by unfold maxLen; omega)
              have HMK1 := Lib.hid hMK1
              clear hMK1
              go_wp2_with fail
              refine HMK1.out.mono ?_
              intro e w11 hpost
              obtain ⟨hb11, pad, pc, rfl, hpl⟩ := hpost.uni
              clear hpost HMK1 a0 a1 a2
              obtain ⟨hpt1, hpt2, hpt3⟩ := pd_t (k := (by' % 26)) HS.out HC.out wi
              have hckt := checkP_t (k := (by' % 26)) HS.out HC.out wi
              have hbn2 := (pd_bnd ss cs wi).2.1
              obtain ⟨gs, hgs, hbn1, hbn3⟩ : ∃ gs, pdG ss cs wi = gs ∧ gs.length ≤ 8 ∧ ∀ q (h : q < gs.length), gs[q].2.length ≤ 8 := ⟨_, rfl, (pd_bnd ss cs wi).1, (pd_bnd ss cs wi).2.2⟩
              obtain ⟨ts, hts⟩ : ∃ ts, pdT ss cs wi = ts := ⟨_, rfl⟩
              obtain ⟨wv, hwv⟩ : ∃ wv, pdW ss cs wi = wv := ⟨_, rfl⟩
              obtain ⟨ck, hck⟩ : ∃ ck, checkP ss cs wi = ck := ⟨_, rfl⟩
              rw [hgs] at hpl hpt1 ⊢
              rw [hts] at hpl hpt2 hbn2
              rw [hwv] at hpt3 ⊢
              rw [hck] at hckt ⊢
              obtain ⟨svd, svc, rfl⟩ := own_slice HR.out.o1
              obtain ⟨cvd, cvc, rfl⟩ := own_slice HR.out.o2
              have hsz11 := hb11.size
              obtain ⟨w12, hw12⟩ : ∃ w12, w12 = w11.alloc (.cells #[.slice pad gs.length pc, .int .i64 wv] 51) := ⟨_, rfl⟩
              obtain ⟨PB, hPB⟩ : ∃ PB, w11.heap.size = PB := ⟨_, rfl⟩
              have hb12 : Below w11.heap.size w11 w12 := by rw [hw12]; exact (Below.refl _ _).alloc (Nat.le_refl _) _
              have hz12 : w12.heap.size = PB + 1 := by rw [hw12, ← hPB]; simp
              have HN12 := Lib.hid ((HR.out.below hb11).below hb12)
              have XP := Lib.hid (show w12.heap[PB]? = some (.cells #[.slice pad gs.length pc, .int .i64 wv] 51 (0, 0)) by rw [hw12]; exact heap_new hPB.symm)
              have HPL := Lib.hid ((hpl.keep (w' := w12) fun p _ h2 => World.cell?_of_block (hb12.block p.block h2)).more (Nat.zero_le _) hb12.size)
              have hMK2 := make_any (.slice svd ss.length svc) (.slice cvd cs.length cvc) wi (ss.map (tS (by' % 26))) (cs.map (tC (by' % 26))) w12 (by unfold Stps; rw [List.length_map]; exact Sl.own_more'' HN12.out.o1) (by unfold Cnds; rw [List.length_map]; exact Sl.own_more'' HN12.out.o2) (by rw [List.length_map]; unfold maxLen; omega) (by rw [List.length_map]; unfold maxLen; omega)
              have HMK2 := Lib.hid hMK2
              have HW12 := Lib.hid hw12; have HPB := Lib.hid hPB
              have c0 : (w11.alloc (.cells #[.slice pad gs.length pc, .int .i64 wv] 51)).cell? ⟨V.heap.size, 0, none⟩ = some (.slice svd ss.length svc) := by rw [← hw12]; exact (Lib.cell_of_heap HN12.out.bc 0).trans rfl
              have c1 : (w11.alloc (.cells #[.slice pad gs.length pc, .int .i64 wv] 51)).cell? ⟨V.heap.size, 1, none⟩ = some (.slice cvd cs.length cvc) := by rw [← hw12]; exact (Lib.cell_of_heap HN12.out.bc 1).trans rfl
              have c2 : (w11.alloc (.cells #[.slice pad gs.length pc, .int .i64 wv] 51)).cell? ⟨V.heap.size, 2, none⟩ = some (.int .i64 wi) := by rw [← hw12]; exact (Lib.cell_of_heap HN12.out.bc 2).trans rfl
              clear hMK2 hw12 hPB hpl hb11 hb12 hgs hts hwv hck HR
              go_wp2_with fail
              rw [← HW12.out]
              clear c0 c1 c2
              refine HMK2.out.mono ?_
              intro e w13 hpost
              obtain ⟨hb13, pad2, pc2, rfl, hpl2⟩ := hpost.uni
              clear hpost HMK2
              rw [hpt1, List.length_map] at hpl2 ⊢
              rw [hpt2] at hpl2
              rw [hpt3, hckt, HPB.out]
              replace hpl2 := PlanAt.named hpl2
              clear hpt1 hpt2 hpt3 hckt HS HC HW12 HSV HCV HV0 HV1 HV2 HV3 YV XV
              obtain ⟨ck1, ck2⟩ := ck
              have hsz13 := hb13.size
              obtain ⟨QB, hQB⟩ : ∃ QB, w13.heap.size = QB := ⟨_, rfl⟩
              obtain ⟨w14, hw14⟩ : ∃ w14, w14 = w13.alloc (.cells #[.slice pad2 gs.length pc2, .int .i64 wv] 51) := ⟨_, rfl⟩
              have hb14 : Below w13.heap.size w13 w14 := by rw [hw14]; exact (Below.refl _ _).alloc (Nat.le_refl _) _
              have hz14 : w14.heap.size = QB + 1 := by rw [hw14, ← hQB]; simp
              have hb24 := hb13.trans (hb14.mono hb13.size)
              have XQ := Lib.hid (show w14.heap[QB]? = some (.cells #[.slice pad2 gs.length pc2, .int .i64 wv] 51 (0, 0)) by rw [hw14]; exact heap_new hQB.symm)
              have XP4 := Lib.hid ((hb24.block PB (by omega)).trans XP.out)
              have HP1 := Lib.hid ((HPL.out.keep (w' := w14) fun p _ h2 => World.cell?_of_block (hb24.block p.block h2)).more (Nat.zero_le _) hb24.size)
              have HP2 := Lib.hid ((hpl2.keep (w' := w14) fun p _ h2 => World.cell?_of_block (hb14.block p.block h2)).more (Nat.zero_le _) hb14.size)
              have BW14 := Lib.hid (BWV.out.trans ((HN12.out.bel.trans (hb24.mono HN12.out.bel.size)).mono BWV.out.size))
              have ya : ∀ o, (w13.alloc o).cell? ⟨PB, 0, none⟩ = some (.slice pad gs.length pc) := fun o => (World.cell?_of_block (Below.heap_alloc w13 o PB (show PB < w13.heap.size by omega))).trans ((Lib.cell_of_heap ((hb13.block PB (by omega)).trans XP.out) 0).trans rfl)
              have yb : ∀ o, (w13.alloc o).cell? ⟨PB, 1, none⟩ = some (.int .i64 wv) := fun o => (World.cell?_of_block (Below.heap_alloc w13 o PB (show PB < w13.heap.size by omega))).trans ((Lib.cell_of_heap ((hb13.block PB (by omega)).trans XP.out) 1).trans rfl)
              have HW14 := Lib.hid hw14; have HQB := Lib.hid hQB
              have hP14 : PB < w14.heap.size := by omega
              have hQ14 : QB < w14.heap.size := by omega
              have hgl' : (gs.length : Int) ≤ 8 := by omega
              have HB2 := Lib.hid hbn2; have HB3 := Lib.hid hbn3
              have mixed : Try.prog.follows .mixedOrders = true := by kernel_rfl
              clear hw14 hQB hpl2 hb13 hb14 hb24 XP HPL HN12 BWV hbn2 hbn3
              go_wp2_with fail
              rw [← HW14.out, HQB.out]
              clear ya yb HW14 HQB HPB
              go_loopw [126] (fun u wr => ∃ q : Nat, u = .int .i64 q ∧ q ≤ gs.length ∧ Grw w14 wr) (fun u _ => gs.length - (intOf u).toNat)
              case atStart => exact ⟨0, rfl, by omega, Grw.refl _⟩
              case round =>
                obtain ⟨q, rfl, hq, hgr⟩ := hrel
                have HGR := Lib.hid hgr
                have hszq := hgr.size
                clear hgr
                by_cases hlt : q < gs.length
                · have hlt' : (q : Int) < (gs.length : Int) := by omega
                  have hq0 : (0 : Int) ≤ (q : Int) := by omega
                  obtain ⟨_, _, e1, hq1⟩ := HP1.out
                  obtain ⟨rfl, rfl⟩ : pad = _ ∧ pc = _ := by simpa using e1
                  obtain ⟨_, _, e2, hq2⟩ := HP2.out
                  obtain ⟨rfl, rfl⟩ : pad2 = _ ∧ pc2 = _ := by simpa using e2
                  clear e1 e2
                  obtain ⟨gv, e1, hgv, p0, p1, p2, ⟨vt, p3, ht1⟩, vb, p4, hbars⟩ := hq1 q hlt
                  obtain ⟨gu, e2, hgu, r0, r1, r2, ⟨vu, r3, ht2⟩, vc, r4, hbars2⟩ := hq2 q hlt
                  obtain ⟨bad, bcap, rfl, hbr⟩ := hbars
                  obtain ⟨bad2, bcap2, rfl, hbr2⟩ := hbars2
                  obtain ⟨vtl, vtc, rfl⟩ := Sl.shape ht1.1
                  obtain ⟨vul, vuc, rfl⟩ := Sl.shape ht2.1
                  subst e1 e2
                  have hbl8 := HB3.out q hlt
                  have htl16 := HB2.out (startG gs q)
                  obtain ⟨x, hx⟩ : ∃ x, gs[q].1.1 = x := ⟨_, rfl⟩
                  rw [hx] at p0 p1 p2 r0 r1 r2
                  obtain ⟨k, hkk⟩ : ∃ k, startG gs q = k := ⟨_, rfl⟩
                  simp only [hkk] at hbr hbr2
                  rw [hkk] at ht1 ht2 htl16 p3 r3
                  have u0 := HGR.out.cell (show (⟨PB, 0, none⟩ : Addr).block < w14.heap.size from hP14) ((Lib.cell_of_heap XP4.out 0).trans rfl)
                  have u1 := HGR.out.cell (show (⟨QB, 0, none⟩ : Addr).block < w14.heap.size from hQ14) ((Lib.cell_of_heap XQ.out 0).trans rfl)
                  have x0 := HGR.out.cell hgv.2 p0
                  have x1 := HGR.out.cell hgv.2 p1
                  have x2 := HGR.out.cell hgv.2 p2
                  have x3 := HGR.out.cell hgv.2 p3
                  have x4 := HGR.out.cell hgv.2 p4
                  have z0 := HGR.out.cell hgu.2 r0
                  have z1 := HGR.out.cell hgu.2 r1
                  have z2 := HGR.out.cell hgu.2 r2
                  have z3 := HGR.out.cell hgu.2 r3
                  have z4 := HGR.out.cell hgu.2 r4
                  have HBR := Lib.hid hbr; have HBR2 := Lib.hid hbr2
                  have HT1 := Lib.hid ht1; have HT2 := Lib.hid ht2
                  obtain ⟨tl, htl⟩ : ∃ c, (ts k).length = c := ⟨_, rfl⟩
                  obtain ⟨bl, hbl⟩ : ∃ c, gs[q].2.length = c := ⟨_, rfl⟩
                  rw [htl] at x3 z3 htl16
                  rw [hbl] at x4 z4 hbl8
                  have HTLE := Lib.hid htl
                  have HBL := Lib.hid hbl
                  clear hq1 hq2 p0 p1 p2 p3 p4 r0 r1 r2 r3 r4 ht1 ht2 hbr hbr2 hx hkk htl hbl
                  go_wp2_with fail
                  go_cut [21, 22] (fun s1 s2 wx => ∃ b1 b2 : Nat, s1 = .pointer (some ⟨b1, 0, none⟩) ∧ s2 = .pointer (some ⟨b2, 0, none⟩) ∧ wx.heap[b1]? = some (.cells #[.int .u8 x.k, .int .i64 x.lo, .int .i64 x.hi, .slice vtl tl vtc, .slice bad bl bcap] 67 (0, 0)) ∧ wx.heap[b2]? = some (.cells #[.int .u8 x.k, .int .i64 x.lo, .int .i64 x.hi, .slice vul tl vuc, .slice bad2 bl bcap2] 67 (0, 0)) ∧ Grw w14 wx)
                  case first =>
                    go_region_held3 (fun w' => w'.cell? ⟨PB, 0, none⟩ = some (.slice (some ⟨gv, 0, none⟩) gs.length pc) ∧ w'.cell? ⟨QB, 0, none⟩ = some (.slice (some ⟨gu, 0, none⟩) gs.length pc2) ∧ w'.cell? ⟨gv, q * 5, none⟩ = some (.int .u8 x.k) ∧ w'.cell? ⟨gv, q * 5 + 1, none⟩ = some (.int .i64 x.lo) ∧ w'.cell? ⟨gv, q * 5 + 2, none⟩ = some (.int .i64 x.hi) ∧ w'.cell? ⟨gv, q * 5 + 3, none⟩ = some (.slice vtl tl vtc) ∧ w'.cell? ⟨gv, q * 5 + 4, none⟩ = some (.slice bad bl bcap) ∧ w'.cell? ⟨gu, q * 5, none⟩ = some (.int .u8 x.k) ∧ w'.cell? ⟨gu, q * 5 + 1, none⟩ = some (.int .i64 x.lo) ∧ w'.cell? ⟨gu, q * 5 + 2, none⟩ = some (.int .i64 x.hi) ∧ w'.cell? ⟨gu, q * 5 + 3, none⟩ = some (.slice vul tl vuc) ∧ w'.cell? ⟨gu, q * 5 + 4, none⟩ = some (.slice bad2 bl bcap2)) (go_keep) (fail)
                    all_goals (go_wp2_with fail; go_meet)
                    · exact ⟨_, _, rfl, rfl, Mem.heap_drew (heap_alloc (heap_new rfl)), Mem.heap_drew (heap_new (by simp)), ((HGR.out.alloc _).alloc _).drewN 1⟩
                    · exact ⟨_, _, rfl, rfl, Mem.heap_drew (heap_new (by simp)), Mem.heap_drew (heap_alloc (heap_new rfl)), ((HGR.out.alloc _).alloc _).drewN 1⟩
                  case rest =>
                    obtain ⟨b1, b2, rfl, rfl, hx1, hx2, hgr⟩ := hcut
                    clear HGR u0 u1 x0 x1 x2 x3 x4 z0 z1 z2 z3 z4
                    have HX1 := Lib.hid hx1; have HX2 := Lib.hid hx2
                    have hgr : Grw w14 wc := hgr
                    have hszc := hgr.size
                    have HAL := Lib.hid (alike_any _ _ (ts k) wc 0 ((HT1.out.keep fun p _ hp => hgr.below.cell hp).more (Nat.zero_le _) hgr.size) ((HT2.out.keep fun p _ hp => hgr.below.cell hp).more (Nat.zero_le _) hgr.size) (by rw [HTLE.out]; exact htl16))
                    rw [HTLE.out] at HAL
                    have HGR := Lib.hid hgr
                    have x0 := (Lib.cell_of_heap hx1 0).trans rfl
                    have x1 := (Lib.cell_of_heap hx1 1).trans rfl
                    have x2 := (Lib.cell_of_heap hx1 2).trans rfl
                    have x3 := (Lib.cell_of_heap hx1 3).trans rfl
                    have z0 := (Lib.cell_of_heap hx2 0).trans rfl
                    have z1 := (Lib.cell_of_heap hx2 1).trans rfl
                    have z2 := (Lib.cell_of_heap hx2 2).trans rfl
                    have z3 := (Lib.cell_of_heap hx2 3).trans rfl
                    clear hx1 hx2 hgr
                    go_wp2_with fail
                    refine HAL.out.mono ?_
                    rintro e w15 ⟨rfl, hg15⟩
                    have HG15 := Lib.hid (HGR.out.trans hg15)
                    have E1 := Lib.hid ((hg15.below.block b1 (blk_lt HX1.out)).trans HX1.out)
                    have E2 := Lib.hid ((hg15.below.block b2 (blk_lt HX2.out)).trans HX2.out)
                    have x4 := (Lib.cell_of_heap E1.out 4).trans rfl
                    have z4 := (Lib.cell_of_heap E2.out 4).trans rfl
                    clear hg15 HX1 HX2 HGR HAL x0 x1 x2 x3 z0 z1 z2 z3
                    go_wp2_with fail
                    clear x4 z4
                    go_loopw [178] (fun u wz => ∃ r : Nat, u = .int .i64 r ∧ r ≤ bl ∧ Grw w15 wz) (fun u _ => bl - (intOf u).toNat)
                    case atStart => exact ⟨0, rfl, by omega, Grw.refl _⟩
                    case round =>
                      obtain ⟨r, rfl, hr, hgr2⟩ := hrel
                      have HGR2 := Lib.hid hgr2
                      have HGR3 := Lib.hid (HG15.out.trans hgr2)
                      have hsz2 := hgr2.size
                      have hsz3 := HGR3.out.size
                      clear hgr2
                      by_cases hrl : r < bl
                      · have hrl' : (r : Int) < (bl : Int) := by omega
                        have hr0 : (0 : Int) ≤ (r : Int) := by omega
                        obtain ⟨gb, e1, hgb, q0, vt2, q1, ht1⟩ := HBR.out r (by rw [HBL.out]; exact hrl)
                        obtain ⟨gd, e2, hgd, q2, vt3, q3, ht2⟩ := HBR2.out r (by rw [HBL.out]; exact hrl)
                        obtain ⟨ut, uc, rfl⟩ := Sl.shape ht1.1
                        obtain ⟨ud, ue, rfl⟩ := Sl.shape ht2.1
                        subst e1 e2
                        have h16 := HB2.out (k + 1 + r)
                        obtain ⟨bk, hbk⟩ : ∃ b, (gs[q].2[r]'(by rw [HBL.out]; exact hrl)).1.k = b := ⟨_, rfl⟩
                        rw [hbk] at q0 q2
                        obtain ⟨m, hm⟩ : ∃ m, k + 1 + r = m := ⟨_, rfl⟩
                        rw [hm] at q1 q3 ht1 ht2 h16
                        have y0 := Grw.cellG (b := b1) (o := 4) (show b1 < wr.heap.size by have := blk_lt E1.out; omega) (HGR2.out.cell (blk_lt E1.out) ((Lib.cell_of_heap E1.out 4).trans rfl))
                        have y1 := Grw.cellG (b := b2) (o := 4) (show b2 < wr.heap.size by have := blk_lt E2.out; omega) (HGR2.out.cell (blk_lt E2.out) ((Lib.cell_of_heap E2.out 4).trans rfl))
                        have y2 := Grw.cellG (show gb < wr.heap.size by omega) (HGR3.out.cell hgb.2 q0)
                        have y3 := Grw.cellG (show gb < wr.heap.size by omega) (HGR3.out.cell hgb.2 q1)
                        have y4 := Grw.cellG (show gd < wr.heap.size by omega) (HGR3.out.cell hgd.2 q2)
                        have y5 := Grw.cellG (show gd < wr.heap.size by omega) (HGR3.out.cell hgd.2 q3)
                        have htc : ∀ n os, Calls Try.prog 27 #[.slice ut (ts m).length uc, .slice ud (ts m).length ue] (grow (wr.drewN n) os) fun e w' => e = .returned (.bool true) ∧ Grw (grow (wr.drewN n) os) w' := fun n os => by
                          have hb := HGR3.out.trans (show Grw wr (grow (wr.drewN n) os) from ⟨n, os, rfl⟩)
                          exact alike_any _ _ (ts m) _ 0 ((ht1.keep fun p _ hp => hb.below.cell hp).more (Nat.zero_le _) hb.size) ((ht2.keep fun p _ hp => hb.below.cell hp).more (Nat.zero_le _) hb.size) h16
                        have HTC := Lib.hid htc
                        obtain ⟨tm, htm⟩ : ∃ t, (ts m).length = t := ⟨_, rfl⟩
                        rw [htm] at y3 y5 HTC
                        clear q0 q1 q2 q3 ht1 ht2 htc hbk hm htm h16
                        go_wp2_with fail
                        go_quiet_grown (first | (go_at_call 27; exact Grw.grown (HTC.out _ _)) | exact Grw.grown (HTC.out _ _))
                        change Exit.then _ _ Exit.normal _ (grow (wr.drewN nq) osq)
                        have HGQ := Lib.hid (HGR2.out.trans (show Grw wr (grow (wr.drewN nq) osq) from ⟨nq, osq, rfl⟩))
                        clear y0 y1 y2 y3 y4 y5 HTC
                        generalize grow (wr.drewN nq) osq = w7 at *
                        go_wp2_with fail
                        go_roundw
                        case rel => exact ⟨r + 1, by go_num, by omega, HGQ.out⟩
                        case measure => simp [intOf]; omega
                      · obtain rfl : r = bl := by omega
                        go_wp2_with fail
                        go_roundw
                        case rel => exact ⟨q + 1, by go_num, by omega, HGR3.out⟩
                        case measure => simp [intOf]; omega
                · obtain rfl : q = gs.length := by omega
                  go_wp2_with fail
                  go_ret
                  exact ⟨rfl, BW14.out.trans (HGR.out.below.mono BW14.out.size)⟩
    · obtain ⟨V, hV⟩ : ∃ V, V = w4.setCell ⟨W.heap.size, 0, none⟩ (.int .i64 (0 : Int)) := ⟨_, rfl⟩
      have hzV : V.heap.size = w4.heap.size := by rw [hV]; simp
      have YV := Lib.hid (show V.heap[W.heap.size]? = some (.cells #[.int .i64 (0 : Int)] 3 (0, 0)) by rw [hV]; exact blk_set Y4.out 0 _)
      have XV := Lib.hid (show V.heap[A]? = some (.cells #[.slice sad ss.length scap, .slice cad cs.length ccap, .int .i64 wi] 25 (0, 0)) by rw [hV]; exact blk_other HX4.out _ 0 _ hneA)
      have BWV := Lib.hid (show Below W.heap.size W V by rw [hV]; exact BW4.out.setCell (p := ⟨W.heap.size, 0, none⟩) (Nat.le_refl _) _)
      have HSV := Lib.hid (show Stps V V.heap.size (.slice sad ss.length scap) ss by rw [hV]; exact Sl.own_more'' (own_set HO4.out.1 Y4.out (by decide)))
      have HCV := Lib.hid (show Cnds V V.heap.size (.slice cad cs.length ccap) cs by rw [hV]; exact Sl.own_more'' (own_set HO4.out.2 Y4.out (by decide)))
      have hk : 0 ≤ (0 : Int) ∧ (0 : Int) < 26 := by omega
      have v0 : V.cell? ⟨A, 0, none⟩ = some (.slice sad ss.length scap) := (Lib.cell_of_heap XV.out 0).trans rfl
      have v1 : V.cell? ⟨A, 1, none⟩ = some (.slice cad cs.length ccap) := (Lib.cell_of_heap XV.out 1).trans rfl
      have v2 : V.cell? ⟨A, 2, none⟩ = some (.int .i64 wi) := (Lib.cell_of_heap XV.out 2).trans rfl
      have v3 : V.cell? ⟨W.heap.size, 0, none⟩ = some (.int .i64 (0 : Int)) := (Lib.cell_of_heap YV.out 0).trans rfl
      have HN0 := Lib.hid (show Nk V (V.alloc (.cells #[nilP, nilP, .int .i64 wi] 25)) wi nilP nilP 0 [] 0 [] from ⟨(Below.refl _ _).alloc (Nat.le_refl _) _, heap_new rfl, World.ownsRow_nil _ _ _ _, World.ownsRow_nil _ _ _ _⟩)
      have HVH := Lib.hid hV
      have hAV : A < V.heap.size := by omega
      have hWV : W.heap.size < V.heap.size := by omega
      have s0 : ((w4.setCell ⟨W.heap.size, 0, none⟩ (.int .i64 (0 : Int))).alloc (.cells #[nilP, nilP, .int .i64 wi] 25)).cell? ⟨A, 0, none⟩ = some (.slice sad ss.length scap) := by rw [← hV]; exact (World.cell?_of_block (Below.heap_alloc V _ A hAV)).trans v0
      have HV3 := Lib.hid v3; have HV1 := Lib.hid v1; have HV2 := Lib.hid v2; have HV0 := Lib.hid v0
      clear hV Y4 HX4 HO4 BW4
      go_wp2_with fail
      clear y0 yf a2 s0 v0 v1 v2 v3
      rw [← HVH.out]
      clear HVH
      rw [← hzV]
      clear hzV
      obtain ⟨i0, hi, hz0, hz1, hz2⟩ := info_parts infoS1
      go_loopw [47] (fun u wr => ∃ n : Nat, n ≤ ss.length ∧ u = .int .i64 n ∧ ∃ sv, Nk V wr wi sv nilP n ((ss.map (tS (0 : Int))).take n) 0 []) (fun u _ => ss.length - (intOf u).toNat)
      case atStart => exact ⟨0, by omega, rfl, _, HN0.out⟩
      case round =>
        obtain ⟨n, hn, rfl, sv, hnk⟩ := hrel
        have HR := Lib.hid hnk
        clear hnk
        by_cases hlt : n < ss.length
        · obtain ⟨b, o, c', hc', hbl, g0, g1, g2, g3, g4⟩ := HSV.out.at_ hlt
          obtain ⟨rfl, rfl⟩ : sad = some ⟨b, o, none⟩ ∧ scap = c' := by simpa using hc'
          have hlt' : (n : Int) < (ss.length : Int) := by omega
          have hn0 : (0 : Int) ≤ (n : Int) := by omega
          have hc0 := (HR.out.bel.cell (p := ⟨b, o + n * 5, none⟩) hbl).trans g0
          have hc1 := (HR.out.bel.cell (p := ⟨b, o + n * 5 + 1, none⟩) hbl).trans g1
          have hc2 := (HR.out.bel.cell (p := ⟨b, o + n * 5 + 2, none⟩) hbl).trans g2
          have hc3 := (HR.out.bel.cell (p := ⟨b, o + n * 5 + 3, none⟩) hbl).trans g3
          have hc4 := (HR.out.bel.cell (p := ⟨b, o + n * 5 + 4, none⟩) hbl).trans g4
          have hnm := HS.out ss[n] (List.getElem_mem hlt)
          have HT := Lib.hid (show (ss.map (tS (0 : Int))).take (n + 1) = (ss.map (tS (0 : Int))).take n ++ [tS (0 : Int) ss[n]] by rw [take_snocL _ n (by simpa using hlt), List.getElem_map])
          obtain ⟨x, hx⟩ : ∃ x, ss[n] = x := ⟨_, rfl⟩
          rw [hx] at hc0 hc1 hc2 hc3 hc4 hnm HT
          have HTN := Lib.hid (turn_any (0 : Int) x.nm W.heap.size (wr.alloc (.cells #[.int .u8 x.k, .int .u8 x.nm, .bool x.neg, .int .i64 x.lo, .int .i64 x.hi] 76)) hk (.inr hnm) ((((Below.refl _ _).alloc (Nat.le_refl _) _).cell (p := ⟨W.heap.size, 0, none⟩) (show W.heap.size < wr.heap.size by have := HR.out.bel.size; omega)).trans ((HR.out.bel.cell (p := ⟨W.heap.size, 0, none⟩) hWV).trans HV3.out)))
          have HA := Lib.hid (HR.out.alloc (.cells #[.int .u8 x.k, .int .u8 (tn (0 : Int) x.nm), .bool x.neg, .int .i64 x.lo, .int .i64 x.hi] 76))
          have hsz := HR.out.bel.size
          clear g0 g1 g2 g3 g4 hc' hx hnm
          go_wp2_with fail
          refine HTN.out.mono ?_
          rintro e w' ⟨rfl, rfl⟩
          have y0 := (Lib.cell_of_heap HA.out.bc 0).trans rfl
          have HZ9 := Lib.hid (show (wr.alloc (.cells #[.int .u8 x.k, .int .u8 (tn (0 : Int) x.nm), .bool x.neg, .int .i64 x.lo, .int .i64 x.hi] 76)).heap.size = wr.heap.size + 1 by simp)
          clear HTN hc0 hc1 hc2 hc3 hc4
          go_wp2_with (at_builtin; refine wpList_append_lies _ rfl (.tmp 57) (.tmp 59) 22 rfl V.heap.size 76 i0 _ 5 24 Try.underlying22 hi hz0 hz1 hz2 rfl (by decide) _ _ _ rfl (HA.out.o1.alloc _) ⟨wr.heap.size + 1, 0, none⟩ 1 1 (encG (tS (0 : Int) x)) rfl rfl ?c1 ?c2 (by decide) ?c3 ?c4 ?c5 _ rfl ?_)
          case c1 =>
            intro j u hu
            have h := new_cell (wr.alloc (.cells #[.int .u8 x.k, .int .u8 (tn (0 : Int) x.nm), .bool x.neg, .int .i64 x.lo, .int .i64 x.hi] 76)) (encG (tS (0 : Int) x)).toArray 76 j u (by simpa using hu)
            rw [HZ9.out] at h
            exact h
          case c2 => exact encG_one _
          case c3 => unfold maxLen; omega
          case c4 => omega
          case c5 => simp; omega
          intro gn cap w13 hown hgr _ _
          have HP13 := Lib.hid (Nk.pushS (HA.out.alloc _) hgr hown)
          have b13 := heap_kept (heap_alloc HA.out.bc) (HA.out.o1.alloc _) (by decide) hgr
          have z0 := (Lib.cell_of_heap b13 0).trans rfl
          have zf := Lib.frozen_of_heap b13 0
          clear hown hgr b13 y0 HA HZ9 HR
          go_wp2_with fail
          go_roundw
          case rel => exact ⟨n + 1, by omega, by go_num, _, by rw [HT.out]; exact HP13.out⟩
          case measure => simp [intOf]; omega
        · obtain rfl : n = ss.length := by omega
          have HR := Lib.hid (show Nk V wr wi sv nilP ss.length (ss.map (tS (0 : Int))) 0 [] by have := HR.out; rwa [List.take_of_length_le (by simp)] at this)
          have q1 := (HR.out.bel.cell (p := ⟨A, 1, none⟩) hAV).trans HV1.out
          clear i0 hi hz0 hz1 hz2 HN0 hlt hn
          obtain ⟨i0, hi, hz0, hz1, hz2⟩ := info_parts infoC1
          go_wp2_with fail
          clear q1
          go_loopw [66] (fun u wr => ∃ n : Nat, n ≤ cs.length ∧ u = .int .i64 n ∧ ∃ cv, Nk V wr wi sv cv ss.length (ss.map (tS (0 : Int))) n ((cs.map (tC (0 : Int))).take n)) (fun u _ => cs.length - (intOf u).toNat)
          case atStart => exact ⟨0, by omega, rfl, _, HR.out⟩
          case round =>
            clear HR
            obtain ⟨n, hn, rfl, cv, hnk⟩ := hrel
            have HR := Lib.hid hnk
            clear hnk
            by_cases hlt : n < cs.length
            · obtain ⟨b, o, c', hc', hbl, g0, g1, g2, g3⟩ := HCV.out.at_ hlt
              obtain ⟨rfl, rfl⟩ : cad = some ⟨b, o, none⟩ ∧ ccap = c' := by simpa using hc'
              have hlt' : (n : Int) < (cs.length : Int) := by omega
              have hn0 : (0 : Int) ≤ (n : Int) := by omega
              have hc0 := (HR.out.bel.cell (p := ⟨b, o + n * 4, none⟩) hbl).trans g0
              have hc1 := (HR.out.bel.cell (p := ⟨b, o + n * 4 + 1, none⟩) hbl).trans g1
              have hc2 := (HR.out.bel.cell (p := ⟨b, o + n * 4 + 2, none⟩) hbl).trans g2
              have hc3 := (HR.out.bel.cell (p := ⟨b, o + n * 4 + 3, none⟩) hbl).trans g3
              have hnm := HC.out cs[n] (List.getElem_mem hlt)
              have HT := Lib.hid (show (cs.map (tC (0 : Int))).take (n + 1) = (cs.map (tC (0 : Int))).take n ++ [tC (0 : Int) cs[n]] by rw [take_snocL _ n (by simpa using hlt), List.getElem_map])
              obtain ⟨x, hx⟩ : ∃ x, cs[n] = x := ⟨_, rfl⟩
              rw [hx] at hc0 hc1 hc2 hc3 hnm HT
              have hsz := HR.out.bel.size
              obtain ⟨w8, hw8⟩ : ∃ w8, w8 = wr.alloc (.cells #[.int .u8 x.l, .int .i64 x.op, .int .u8 x.r, .int .i64 x.k] 78) := ⟨_, rfl⟩
              obtain ⟨D, hD⟩ : ∃ D, wr.heap.size = D := ⟨_, rfl⟩
              have X8 := Lib.hid (show w8.heap[D]? = some (.cells #[.int .u8 x.l, .int .i64 x.op, .int .u8 x.r, .int .i64 x.k] 78 (0, 0)) by rw [hw8]; exact heap_new hD.symm)
              have HK8 := Lib.hid (show w8.cell? ⟨W.heap.size, 0, none⟩ = some (.int .i64 (0 : Int)) by rw [hw8]; exact (((Below.refl _ _).alloc (Nat.le_refl _) _).cell (p := ⟨W.heap.size, 0, none⟩) (show W.heap.size < wr.heap.size by omega)).trans ((HR.out.bel.cell (p := ⟨W.heap.size, 0, none⟩) hWV).trans HV3.out))
              have HN8 := Lib.hid (show Nk V w8 wi sv cv ss.length (ss.map (tS (0 : Int))) n ((cs.map (tC (0 : Int))).take n) by rw [hw8]; exact HR.out.alloc _)
              have HW8 := Lib.hid hw8
              have HNM := Lib.hid hnm
              have HDD := Lib.hid hD
              clear g0 g1 g2 g3 hc' hx hnm hw8 hD
              go_wp2_with fail
              rw [HDD.out, ← HW8.out]
              have HW8' := HW8
              clear hc0 hc1 hc2 hc3 HW8
              refine Ord.store2_order (h := 12) (i1 := 9) (i2 := 11) (w1 := w8.drew.setCell ⟨D, 0, none⟩ (.int .u8 (tn (0 : Int) x.l))) (w2 := (w8.drew.setCell ⟨D, 0, none⟩ (.int .u8 (tn (0 : Int) x.l))).setCell ⟨D, 2, none⟩ (.int .u8 (tn (0 : Int) x.r)))
                (floats := [(0, 70, .func (.func 26) #[] #[.pointer (some ⟨W.heap.size, 0, none⟩)]), (1, 71, .pointer (some ⟨D, 0, none⟩)), (2, 72, .int .u8 x.l), (3, 73, .int .u8 (tn (0 : Int) x.l)), (4, 74, .func (.func 26) #[] #[.pointer (some ⟨W.heap.size, 0, none⟩)]), (5, 75, .pointer (some ⟨D, 2, none⟩)), (6, 76, .int .u8 x.r), (7, 77, .int .u8 (tn (0 : Int) x.r)), (8, 78, .pointer (some ⟨D, 0, none⟩)), (10, 79, .pointer (some ⟨D, 2, none⟩))])
                (by kernel_rfl) rfl (by kernel_rfl) (by kernel_rfl) (by kernel_rfl) (show [0, 1, 2, 3, 4, 5, 6, 7, 8, 10, 9, 11].Nodup by decide) (show ∀ i, i < 12 → i ∈ [0, 1, 2, 3, 4, 5, 6, 7, 8, 10, 9, 11] by decide) (show ∀ i ∈ [0, 1, 2, 3, 4, 5, 6, 7, 8, 10, 9, 11], i < 12 by decide)
                (show [70, 71, 72, 73, 74, 75, 76, 77, 78, 79].Nodup by decide) (show ∀ s ∈ [70, 71, 72, 73, 74, 75, 76, 77, 78, 79], s < 212 by decide) ?_ ?_ ?_ ?_
              · intro i s' y hm a w K hs hk' hw hK
                simp only [List.mem_cons, List.not_mem_nil, or_false, Prod.mk.injEq] at hm
                rcases hm with ⟨rfl, rfl, rfl⟩ | ⟨rfl, rfl, rfl⟩ | ⟨rfl, rfl, rfl⟩ | ⟨rfl, rfl, rfl⟩ | ⟨rfl, rfl, rfl⟩ | ⟨rfl, rfl, rfl⟩ | ⟨rfl, rfl, rfl⟩ | ⟨rfl, rfl, rfl⟩ | ⟨rfl, rfl, rfl⟩ | ⟨rfl, rfl, rfl⟩
                · exact Ord.wpOp_val (o := _) rfl rfl (Ord.run_move (Ord.eval_tmp ((hs.out 8 (show 8 ∉ [70, 71, 72, 73, 74, 75, 76, 77, 78, 79] by decide)).trans rfl))) hK
                · exact Ord.wpOp_val (o := _) rfl rfl (Ord.run_fld (Ord.eval_tmp ((hs.out 13 (show 13 ∉ [70, 71, 72, 73, 74, 75, 76, 77, 78, 79] by decide)).trans rfl)) (fld_cnd0 w D)) hK
                · rcases hw with rfl | hw
                  · exact Ord.wpOp_val (o := _) rfl rfl (Ord.run_load (Ord.eval_tmp (hk' _ 1 71 (.pointer (some ⟨D, 0, none⟩)) rfl (by simp) (Ord.waits_of (by kernel_rfl)))) (load_u8 ((Lib.cell_of_heap (Mem.heap_drew X8.out) 0).trans rfl))) hK
                  · exact absurd (hw.1.symm.trans (by kernel_rfl)) Bool.false_ne_true
                · rcases hw with rfl | hw
                  · refine Ord.wpOp_enter (o := _) rfl rfl (Ord.run_enterV (Ord.eval_tmp (hk' _ 0 70 (.func (.func 26) #[] #[.pointer (some ⟨W.heap.size, 0, none⟩)]) rfl (by simp) (Ord.waits_of (by kernel_rfl)))) (Ord.eval_tmp (hk' _ 2 72 (.int .u8 x.l) rfl (by simp) (Ord.waits_of (by kernel_rfl)))) (enter_turn _ _ _)) ?_
                    refine (turn_any (0 : Int) x.l W.heap.size w8.drew hk (.inr HNM.out.1) HK8.out).mono ?_
                    rintro e w'' ⟨rfl, rfl⟩
                    exact hK
                  · exact absurd (hw.1.symm.trans (by kernel_rfl)) Bool.false_ne_true
                · exact Ord.wpOp_val (o := _) rfl rfl (Ord.run_move (Ord.eval_tmp ((hs.out 8 (show 8 ∉ [70, 71, 72, 73, 74, 75, 76, 77, 78, 79] by decide)).trans rfl))) hK
                · exact Ord.wpOp_val (o := _) rfl rfl (Ord.run_fld (Ord.eval_tmp ((hs.out 13 (show 13 ∉ [70, 71, 72, 73, 74, 75, 76, 77, 78, 79] by decide)).trans rfl)) (fld_cnd2 w D)) hK
                · rcases hw with rfl | hw
                  · exact Ord.wpOp_val (o := _) rfl rfl (Ord.run_load (Ord.eval_tmp (hk' _ 5 75 (.pointer (some ⟨D, 2, none⟩)) rfl (by simp) (Ord.waits_of (by kernel_rfl)))) (load_u8 ((Lib.cell_of_heap (Mem.heap_drew X8.out) 2).trans rfl))) hK
                  · exact absurd (hw.1.symm.trans (by kernel_rfl)) Bool.false_ne_true
                · rcases hw with rfl | hw
                  · refine Ord.wpOp_enter (o := _) rfl rfl (Ord.run_enterV (Ord.eval_tmp (hk' _ 4 74 (.func (.func 26) #[] #[.pointer (some ⟨W.heap.size, 0, none⟩)]) rfl (by simp) (Ord.waits_of (by kernel_rfl)))) (Ord.eval_tmp (hk' _ 6 76 (.int .u8 x.r) rfl (by simp) (Ord.waits_of (by kernel_rfl)))) (enter_turn _ _ _)) ?_
                    refine (turn_any (0 : Int) x.r W.heap.size w8.drew hk HNM.out.2 HK8.out).mono ?_
                    rintro e w'' ⟨rfl, rfl⟩
                    exact hK
                  · exact absurd (hw.1.symm.trans (by kernel_rfl)) Bool.false_ne_true
                · exact Ord.wpOp_val (o := _) rfl rfl (Ord.run_fld (Ord.eval_tmp ((hs.out 13 (show 13 ∉ [70, 71, 72, 73, 74, 75, 76, 77, 78, 79] by decide)).trans rfl)) (fld_cnd0 w D)) hK
                · exact Ord.wpOp_val (o := _) rfl rfl (Ord.run_fld (Ord.eval_tmp ((hs.out 13 (show 13 ∉ [70, 71, 72, 73, 74, 75, 76, 77, 78, 79] by decide)).trans rfl)) (fld_cnd2 w D)) hK
              · intro a K hs hk' hK
                exact Ord.wpOp_skip (o := _) rfl rfl rfl (run_store_u8 (Ord.eval_tmp (hk' _ 8 78 (.pointer (some ⟨D, 0, none⟩)) rfl (by simp) (Ord.waits_of (by kernel_rfl)))) (Ord.eval_tmp (hk' _ 3 73 (.int .u8 (tn (0 : Int) x.l)) rfl (by simp) (Ord.waits_of (by kernel_rfl)))) ((Lib.cell_of_heap (Mem.heap_drew X8.out) 0).trans rfl) (Lib.frozen_of_heap (Mem.heap_drew X8.out) 0)) hK
              · intro a K hs hk' hK
                have X9 := blk_set (Mem.heap_drew X8.out) 0 (.int .u8 (tn (0 : Int) x.l))
                exact Ord.wpOp_skip (o := _) rfl rfl rfl (run_store_u8 (Ord.eval_tmp (hk' _ 10 79 (.pointer (some ⟨D, 2, none⟩)) rfl (by simp) (Ord.waits_of (by kernel_rfl)))) (Ord.eval_tmp (hk' _ 7 77 (.int .u8 (tn (0 : Int) x.r)) rfl (by simp) (Ord.waits_of (by kernel_rfl)))) ((Lib.cell_of_heap X9 2).trans rfl) (Lib.frozen_of_heap X9 2)) hK
              · obtain ⟨w10, hw10⟩ : ∃ w10, w10 = (w8.drew.setCell ⟨D, 0, none⟩ (.int .u8 (tn (0 : Int) x.l))).setCell ⟨D, 2, none⟩ (.int .u8 (tn (0 : Int) x.r)) := ⟨_, rfl⟩
                have X10 := Lib.hid (show w10.heap[D]? = some (.cells #[.int .u8 (tn (0 : Int) x.l), .int .i64 x.op, .int .u8 (tn (0 : Int) x.r), .int .i64 x.k] 78 (0, 0)) by rw [hw10]; exact blk_set (blk_set (Mem.heap_drew X8.out) 0 _) 2 _)
                have hb8 : Below wr.heap.size wr w10 := by
                  rw [hw10]
                  refine Below.setCell (p := ⟨D, 2, none⟩) (Below.setCell (p := ⟨D, 0, none⟩) (Below.drew ?_) (by rw [HDD.out]; exact Nat.le_refl _) _) (by rw [HDD.out]; exact Nat.le_refl _) _
                  rw [HW8'.out]; exact (Below.refl _ _).alloc (Nat.le_refl _) _
                have HN10 := Lib.hid (HR.out.below hb8)
                rw [← hw10]
                clear hw10 hb8 X8 HK8
                have y0 := (Lib.cell_of_heap HN10.out.bc 1).trans rfl
                have n0 := (Lib.cell_of_heap X10.out 0).trans rfl
                have n1 := (Lib.cell_of_heap X10.out 1).trans rfl
                have n2 := (Lib.cell_of_heap X10.out 2).trans rfl
                have n3 := (Lib.cell_of_heap X10.out 3).trans rfl
                simp only [Ord.puts, List.map_cons, List.map_nil]
                go_wp2_with (at_builtin; refine wpList_append_lies _ rfl (.tmp 81) (.tmp 83) 23 rfl V.heap.size 78 i0 _ 4 32 Try.underlying23 hi hz0 hz1 hz2 rfl (by decide) _ _ _ rfl (HN10.out.o2.alloc _) ⟨w10.heap.size, 0, none⟩ 1 1 (encD (tC (0 : Int) x)) rfl rfl ?d1 ?d2 (by decide) ?d3 ?d4 ?d5 _ rfl ?_)
                case d1 =>
                  intro j u hu
                  exact new_cell w10 (encD (tC (0 : Int) x)).toArray 78 j u (by simpa using hu)
                case d2 => exact encD_one _
                case d3 => unfold maxLen; omega
                case d4 => omega
                case d5 => have := HN10.out.bel.size; exact Nat.le_trans this (by simp)
                intro gn cap w13 hown hgr _ _
                have HP13 := Lib.hid (Nk.pushC (HN10.out.alloc _) hgr hown)
                have b13 := heap_kept (heap_alloc HN10.out.bc) (HN10.out.o2.alloc _) (by decide) hgr
                have z0 := (Lib.cell_of_heap b13 1).trans rfl
                have zf := Lib.frozen_of_heap b13 1
                clear hown hgr b13 y0 HN10 X10 n0 n1 n2 n3
                go_wp2_with fail
                go_roundw
                case rel => exact ⟨n + 1, by omega, by go_num, _, by rw [HT.out]; exact HP13.out⟩
                case measure => simp [intOf]; omega
            · obtain rfl : n = cs.length := by omega
              have HR := Lib.hid (show Nk V wr wi sv cv ss.length (ss.map (tS (0 : Int))) cs.length (cs.map (tC (0 : Int))) by have := HR.out; rwa [List.take_of_length_le (by simp)] at this)
              clear i0 hi hz0 hz1 hz2 hlt hn
              have a0 := (HR.out.bel.cell (p := ⟨A, 0, none⟩) hAV).trans HV0.out
              have a1 := (HR.out.bel.cell (p := ⟨A, 1, none⟩) hAV).trans HV1.out
              have a2 := (HR.out.bel.cell (p := ⟨A, 2, none⟩) hAV).trans HV2.out
              have hszr := HR.out.bel.size
              have hMK1 := make_any (.slice sad ss.length scap) (.slice cad cs.length ccap) wi ss cs wr (Sl.more (Sl.below HSV.out HR.out.bel) hszr) (Sl.more (Sl.below HCV.out HR.out.bel) hszr) (by unfold maxLen; omega) (by unfold maxLen; omega)
              have HMK1 := Lib.hid hMK1
              clear hMK1
              go_wp2_with fail
              refine HMK1.out.mono ?_
              intro e w11 hpost
              obtain ⟨hb11, pad, pc, rfl, hpl⟩ := hpost.uni
              clear hpost HMK1 a0 a1 a2
              obtain ⟨hpt1, hpt2, hpt3⟩ := pd_t (k := (0 : Int)) HS.out HC.out wi
              have hckt := checkP_t (k := (0 : Int)) HS.out HC.out wi
              have hbn2 := (pd_bnd ss cs wi).2.1
              obtain ⟨gs, hgs, hbn1, hbn3⟩ : ∃ gs, pdG ss cs wi = gs ∧ gs.length ≤ 8 ∧ ∀ q (h : q < gs.length), gs[q].2.length ≤ 8 := ⟨_, rfl, (pd_bnd ss cs wi).1, (pd_bnd ss cs wi).2.2⟩
              obtain ⟨ts, hts⟩ : ∃ ts, pdT ss cs wi = ts := ⟨_, rfl⟩
              obtain ⟨wv, hwv⟩ : ∃ wv, pdW ss cs wi = wv := ⟨_, rfl⟩
              obtain ⟨ck, hck⟩ : ∃ ck, checkP ss cs wi = ck := ⟨_, rfl⟩
              rw [hgs] at hpl hpt1 ⊢
              rw [hts] at hpl hpt2 hbn2
              rw [hwv] at hpt3 ⊢
              rw [hck] at hckt ⊢
              obtain ⟨svd, svc, rfl⟩ := own_slice HR.out.o1
              obtain ⟨cvd, cvc, rfl⟩ := own_slice HR.out.o2
              have hsz11 := hb11.size
              obtain ⟨w12, hw12⟩ : ∃ w12, w12 = w11.alloc (.cells #[.slice pad gs.length pc, .int .i64 wv] 51) := ⟨_, rfl⟩
              obtain ⟨PB, hPB⟩ : ∃ PB, w11.heap.size = PB := ⟨_, rfl⟩
              have hb12 : Below w11.heap.size w11 w12 := by rw [hw12]; exact (Below.refl _ _).alloc (Nat.le_refl _) _
              have hz12 : w12.heap.size = PB + 1 := by rw [hw12, ← hPB]; simp
              have HN12 := Lib.hid ((HR.out.below hb11).below hb12)
              have XP := Lib.hid (show w12.heap[PB]? = some (.cells #[.slice pad gs.length pc, .int .i64 wv] 51 (0, 0)) by rw [hw12]; exact heap_new hPB.symm)
              have HPL := Lib.hid ((hpl.keep (w' := w12) fun p _ h2 => World.cell?_of_block (hb12.block p.block h2)).more (Nat.zero_le _) hb12.size)
              have hMK2 := make_any (.slice svd ss.length svc) (.slice cvd cs.length cvc) wi (ss.map (tS (0 : Int))) (cs.map (tC (0 : Int))) w12 (by unfold Stps; rw [List.length_map]; exact Sl.own_more'' HN12.out.o1) (by unfold Cnds; rw [List.length_map]; exact Sl.own_more'' HN12.out.o2) (by rw [List.length_map]; unfold maxLen; omega) (by rw [List.length_map]; unfold maxLen; omega)
              have HMK2 := Lib.hid hMK2
              have HW12 := Lib.hid hw12; have HPB := Lib.hid hPB
              have c0 : (w11.alloc (.cells #[.slice pad gs.length pc, .int .i64 wv] 51)).cell? ⟨V.heap.size, 0, none⟩ = some (.slice svd ss.length svc) := by rw [← hw12]; exact (Lib.cell_of_heap HN12.out.bc 0).trans rfl
              have c1 : (w11.alloc (.cells #[.slice pad gs.length pc, .int .i64 wv] 51)).cell? ⟨V.heap.size, 1, none⟩ = some (.slice cvd cs.length cvc) := by rw [← hw12]; exact (Lib.cell_of_heap HN12.out.bc 1).trans rfl
              have c2 : (w11.alloc (.cells #[.slice pad gs.length pc, .int .i64 wv] 51)).cell? ⟨V.heap.size, 2, none⟩ = some (.int .i64 wi) := by rw [← hw12]; exact (Lib.cell_of_heap HN12.out.bc 2).trans rfl
              clear hMK2 hw12 hPB hpl hb11 hb12 hgs hts hwv hck HR
              go_wp2_with fail
              rw [← HW12.out]
              clear c0 c1 c2
              refine HMK2.out.mono ?_
              intro e w13 hpost
              obtain ⟨hb13, pad2, pc2, rfl, hpl2⟩ := hpost.uni
              clear hpost HMK2
              rw [hpt1, List.length_map] at hpl2 ⊢
              rw [hpt2] at hpl2
              rw [hpt3, hckt, HPB.out]
              replace hpl2 := PlanAt.named hpl2
              clear hpt1 hpt2 hpt3 hckt HS HC HW12 HSV HCV HV0 HV1 HV2 HV3 YV XV
              obtain ⟨ck1, ck2⟩ := ck
              have hsz13 := hb13.size
              obtain ⟨QB, hQB⟩ : ∃ QB, w13.heap.size = QB := ⟨_, rfl⟩
              obtain ⟨w14, hw14⟩ : ∃ w14, w14 = w13.alloc (.cells #[.slice pad2 gs.length pc2, .int .i64 wv] 51) := ⟨_, rfl⟩
              have hb14 : Below w13.heap.size w13 w14 := by rw [hw14]; exact (Below.refl _ _).alloc (Nat.le_refl _) _
              have hz14 : w14.heap.size = QB + 1 := by rw [hw14, ← hQB]; simp
              have hb24 := hb13.trans (hb14.mono hb13.size)
              have XQ := Lib.hid (show w14.heap[QB]? = some (.cells #[.slice pad2 gs.length pc2, .int .i64 wv] 51 (0, 0)) by rw [hw14]; exact heap_new hQB.symm)
              have XP4 := Lib.hid ((hb24.block PB (by omega)).trans XP.out)
              have HP1 := Lib.hid ((HPL.out.keep (w' := w14) fun p _ h2 => World.cell?_of_block (hb24.block p.block h2)).more (Nat.zero_le _) hb24.size)
              have HP2 := Lib.hid ((hpl2.keep (w' := w14) fun p _ h2 => World.cell?_of_block (hb14.block p.block h2)).more (Nat.zero_le _) hb14.size)
              have BW14 := Lib.hid (BWV.out.trans ((HN12.out.bel.trans (hb24.mono HN12.out.bel.size)).mono BWV.out.size))
              have ya : ∀ o, (w13.alloc o).cell? ⟨PB, 0, none⟩ = some (.slice pad gs.length pc) := fun o => (World.cell?_of_block (Below.heap_alloc w13 o PB (show PB < w13.heap.size by omega))).trans ((Lib.cell_of_heap ((hb13.block PB (by omega)).trans XP.out) 0).trans rfl)
              have yb : ∀ o, (w13.alloc o).cell? ⟨PB, 1, none⟩ = some (.int .i64 wv) := fun o => (World.cell?_of_block (Below.heap_alloc w13 o PB (show PB < w13.heap.size by omega))).trans ((Lib.cell_of_heap ((hb13.block PB (by omega)).trans XP.out) 1).trans rfl)
              have HW14 := Lib.hid hw14; have HQB := Lib.hid hQB
              have hP14 : PB < w14.heap.size := by omega
              have hQ14 : QB < w14.heap.size := by omega
              have hgl' : (gs.length : Int) ≤ 8 := by omega
              have HB2 := Lib.hid hbn2; have HB3 := Lib.hid hbn3
              have mixed : Try.prog.follows .mixedOrders = true := by kernel_rfl
              clear hw14 hQB hpl2 hb13 hb14 hb24 XP HPL HN12 BWV hbn2 hbn3
              go_wp2_with fail
              rw [← HW14.out, HQB.out]
              clear ya yb HW14 HQB HPB
              go_loopw [126] (fun u wr => ∃ q : Nat, u = .int .i64 q ∧ q ≤ gs.length ∧ Grw w14 wr) (fun u _ => gs.length - (intOf u).toNat)
              case atStart => exact ⟨0, rfl, by omega, Grw.refl _⟩
              case round =>
                obtain ⟨q, rfl, hq, hgr⟩ := hrel
                have HGR := Lib.hid hgr
                have hszq := hgr.size
                clear hgr
                by_cases hlt : q < gs.length
                · have hlt' : (q : Int) < (gs.length : Int) := by omega
                  have hq0 : (0 : Int) ≤ (q : Int) := by omega
                  obtain ⟨_, _, e1, hq1⟩ := HP1.out
                  obtain ⟨rfl, rfl⟩ : pad = _ ∧ pc = _ := by simpa using e1
                  obtain ⟨_, _, e2, hq2⟩ := HP2.out
                  obtain ⟨rfl, rfl⟩ : pad2 = _ ∧ pc2 = _ := by simpa using e2
                  clear e1 e2
                  obtain ⟨gv, e1, hgv, p0, p1, p2, ⟨vt, p3, ht1⟩, vb, p4, hbars⟩ := hq1 q hlt
                  obtain ⟨gu, e2, hgu, r0, r1, r2, ⟨vu, r3, ht2⟩, vc, r4, hbars2⟩ := hq2 q hlt
                  obtain ⟨bad, bcap, rfl, hbr⟩ := hbars
                  obtain ⟨bad2, bcap2, rfl, hbr2⟩ := hbars2
                  obtain ⟨vtl, vtc, rfl⟩ := Sl.shape ht1.1
                  obtain ⟨vul, vuc, rfl⟩ := Sl.shape ht2.1
                  subst e1 e2
                  have hbl8 := HB3.out q hlt
                  have htl16 := HB2.out (startG gs q)
                  obtain ⟨x, hx⟩ : ∃ x, gs[q].1.1 = x := ⟨_, rfl⟩
                  rw [hx] at p0 p1 p2 r0 r1 r2
                  obtain ⟨k, hkk⟩ : ∃ k, startG gs q = k := ⟨_, rfl⟩
                  simp only [hkk] at hbr hbr2
                  rw [hkk] at ht1 ht2 htl16 p3 r3
                  have u0 := HGR.out.cell (show (⟨PB, 0, none⟩ : Addr).block < w14.heap.size from hP14) ((Lib.cell_of_heap XP4.out 0).trans rfl)
                  have u1 := HGR.out.cell (show (⟨QB, 0, none⟩ : Addr).block < w14.heap.size from hQ14) ((Lib.cell_of_heap XQ.out 0).trans rfl)
                  have x0 := HGR.out.cell hgv.2 p0
                  have x1 := HGR.out.cell hgv.2 p1
                  have x2 := HGR.out.cell hgv.2 p2
                  have x3 := HGR.out.cell hgv.2 p3
                  have x4 := HGR.out.cell hgv.2 p4
                  have z0 := HGR.out.cell hgu.2 r0
                  have z1 := HGR.out.cell hgu.2 r1
                  have z2 := HGR.out.cell hgu.2 r2
                  have z3 := HGR.out.cell hgu.2 r3
                  have z4 := HGR.out.cell hgu.2 r4
                  have HBR := Lib.hid hbr; have HBR2 := Lib.hid hbr2
                  have HT1 := Lib.hid ht1; have HT2 := Lib.hid ht2
                  obtain ⟨tl, htl⟩ : ∃ c, (ts k).length = c := ⟨_, rfl⟩
                  obtain ⟨bl, hbl⟩ : ∃ c, gs[q].2.length = c := ⟨_, rfl⟩
                  rw [htl] at x3 z3 htl16
                  rw [hbl] at x4 z4 hbl8
                  have HTLE := Lib.hid htl
                  have HBL := Lib.hid hbl
                  clear hq1 hq2 p0 p1 p2 p3 p4 r0 r1 r2 r3 r4 ht1 ht2 hbr hbr2 hx hkk htl hbl
                  go_wp2_with fail
                  go_cut [21, 22] (fun s1 s2 wx => ∃ b1 b2 : Nat, s1 = .pointer (some ⟨b1, 0, none⟩) ∧ s2 = .pointer (some ⟨b2, 0, none⟩) ∧ wx.heap[b1]? = some (.cells #[.int .u8 x.k, .int .i64 x.lo, .int .i64 x.hi, .slice vtl tl vtc, .slice bad bl bcap] 67 (0, 0)) ∧ wx.heap[b2]? = some (.cells #[.int .u8 x.k, .int .i64 x.lo, .int .i64 x.hi, .slice vul tl vuc, .slice bad2 bl bcap2] 67 (0, 0)) ∧ Grw w14 wx)
                  case first =>
                    go_region_held3 (fun w' => w'.cell? ⟨PB, 0, none⟩ = some (.slice (some ⟨gv, 0, none⟩) gs.length pc) ∧ w'.cell? ⟨QB, 0, none⟩ = some (.slice (some ⟨gu, 0, none⟩) gs.length pc2) ∧ w'.cell? ⟨gv, q * 5, none⟩ = some (.int .u8 x.k) ∧ w'.cell? ⟨gv, q * 5 + 1, none⟩ = some (.int .i64 x.lo) ∧ w'.cell? ⟨gv, q * 5 + 2, none⟩ = some (.int .i64 x.hi) ∧ w'.cell? ⟨gv, q * 5 + 3, none⟩ = some (.slice vtl tl vtc) ∧ w'.cell? ⟨gv, q * 5 + 4, none⟩ = some (.slice bad bl bcap) ∧ w'.cell? ⟨gu, q * 5, none⟩ = some (.int .u8 x.k) ∧ w'.cell? ⟨gu, q * 5 + 1, none⟩ = some (.int .i64 x.lo) ∧ w'.cell? ⟨gu, q * 5 + 2, none⟩ = some (.int .i64 x.hi) ∧ w'.cell? ⟨gu, q * 5 + 3, none⟩ = some (.slice vul tl vuc) ∧ w'.cell? ⟨gu, q * 5 + 4, none⟩ = some (.slice bad2 bl bcap2)) (go_keep) (fail)
                    all_goals (go_wp2_with fail; go_meet)
                    · exact ⟨_, _, rfl, rfl, Mem.heap_drew (heap_alloc (heap_new rfl)), Mem.heap_drew (heap_new (by simp)), ((HGR.out.alloc _).alloc _).drewN 1⟩
                    · exact ⟨_, _, rfl, rfl, Mem.heap_drew (heap_new (by simp)), Mem.heap_drew (heap_alloc (heap_new rfl)), ((HGR.out.alloc _).alloc _).drewN 1⟩
                  case rest =>
                    obtain ⟨b1, b2, rfl, rfl, hx1, hx2, hgr⟩ := hcut
                    clear HGR u0 u1 x0 x1 x2 x3 x4 z0 z1 z2 z3 z4
                    have HX1 := Lib.hid hx1; have HX2 := Lib.hid hx2
                    have hgr : Grw w14 wc := hgr
                    have hszc := hgr.size
                    have HAL := Lib.hid (alike_any _ _ (ts k) wc 0 ((HT1.out.keep fun p _ hp => hgr.below.cell hp).more (Nat.zero_le _) hgr.size) ((HT2.out.keep fun p _ hp => hgr.below.cell hp).more (Nat.zero_le _) hgr.size) (by rw [HTLE.out]; exact htl16))
                    rw [HTLE.out] at HAL
                    have HGR := Lib.hid hgr
                    have x0 := (Lib.cell_of_heap hx1 0).trans rfl
                    have x1 := (Lib.cell_of_heap hx1 1).trans rfl
                    have x2 := (Lib.cell_of_heap hx1 2).trans rfl
                    have x3 := (Lib.cell_of_heap hx1 3).trans rfl
                    have z0 := (Lib.cell_of_heap hx2 0).trans rfl
                    have z1 := (Lib.cell_of_heap hx2 1).trans rfl
                    have z2 := (Lib.cell_of_heap hx2 2).trans rfl
                    have z3 := (Lib.cell_of_heap hx2 3).trans rfl
                    clear hx1 hx2 hgr
                    go_wp2_with fail
                    refine HAL.out.mono ?_
                    rintro e w15 ⟨rfl, hg15⟩
                    have HG15 := Lib.hid (HGR.out.trans hg15)
                    have E1 := Lib.hid ((hg15.below.block b1 (blk_lt HX1.out)).trans HX1.out)
                    have E2 := Lib.hid ((hg15.below.block b2 (blk_lt HX2.out)).trans HX2.out)
                    have x4 := (Lib.cell_of_heap E1.out 4).trans rfl
                    have z4 := (Lib.cell_of_heap E2.out 4).trans rfl
                    clear hg15 HX1 HX2 HGR HAL x0 x1 x2 x3 z0 z1 z2 z3
                    go_wp2_with fail
                    clear x4 z4
                    go_loopw [178] (fun u wz => ∃ r : Nat, u = .int .i64 r ∧ r ≤ bl ∧ Grw w15 wz) (fun u _ => bl - (intOf u).toNat)
                    case atStart => exact ⟨0, rfl, by omega, Grw.refl _⟩
                    case round =>
                      obtain ⟨r, rfl, hr, hgr2⟩ := hrel
                      have HGR2 := Lib.hid hgr2
                      have HGR3 := Lib.hid (HG15.out.trans hgr2)
                      have hsz2 := hgr2.size
                      have hsz3 := HGR3.out.size
                      clear hgr2
                      by_cases hrl : r < bl
                      · have hrl' : (r : Int) < (bl : Int) := by omega
                        have hr0 : (0 : Int) ≤ (r : Int) := by omega
                        obtain ⟨gb, e1, hgb, q0, vt2, q1, ht1⟩ := HBR.out r (by rw [HBL.out]; exact hrl)
                        obtain ⟨gd, e2, hgd, q2, vt3, q3, ht2⟩ := HBR2.out r (by rw [HBL.out]; exact hrl)
                        obtain ⟨ut, uc, rfl⟩ := Sl.shape ht1.1
                        obtain ⟨ud, ue, rfl⟩ := Sl.shape ht2.1
                        subst e1 e2
                        have h16 := HB2.out (k + 1 + r)
                        obtain ⟨bk, hbk⟩ : ∃ b, (gs[q].2[r]'(by rw [HBL.out]; exact hrl)).1.k = b := ⟨_, rfl⟩
                        rw [hbk] at q0 q2
                        obtain ⟨m, hm⟩ : ∃ m, k + 1 + r = m := ⟨_, rfl⟩
                        rw [hm] at q1 q3 ht1 ht2 h16
                        have y0 := Grw.cellG (b := b1) (o := 4) (show b1 < wr.heap.size by have := blk_lt E1.out; omega) (HGR2.out.cell (blk_lt E1.out) ((Lib.cell_of_heap E1.out 4).trans rfl))
                        have y1 := Grw.cellG (b := b2) (o := 4) (show b2 < wr.heap.size by have := blk_lt E2.out; omega) (HGR2.out.cell (blk_lt E2.out) ((Lib.cell_of_heap E2.out 4).trans rfl))
                        have y2 := Grw.cellG (show gb < wr.heap.size by omega) (HGR3.out.cell hgb.2 q0)
                        have y3 := Grw.cellG (show gb < wr.heap.size by omega) (HGR3.out.cell hgb.2 q1)
                        have y4 := Grw.cellG (show gd < wr.heap.size by omega) (HGR3.out.cell hgd.2 q2)
                        have y5 := Grw.cellG (show gd < wr.heap.size by omega) (HGR3.out.cell hgd.2 q3)
                        have htc : ∀ n os, Calls Try.prog 27 #[.slice ut (ts m).length uc, .slice ud (ts m).length ue] (grow (wr.drewN n) os) fun e w' => e = .returned (.bool true) ∧ Grw (grow (wr.drewN n) os) w' := fun n os => by
                          have hb := HGR3.out.trans (show Grw wr (grow (wr.drewN n) os) from ⟨n, os, rfl⟩)
                          exact alike_any _ _ (ts m) _ 0 ((ht1.keep fun p _ hp => hb.below.cell hp).more (Nat.zero_le _) hb.size) ((ht2.keep fun p _ hp => hb.below.cell hp).more (Nat.zero_le _) hb.size) h16
                        have HTC := Lib.hid htc
                        obtain ⟨tm, htm⟩ : ∃ t, (ts m).length = t := ⟨_, rfl⟩
                        rw [htm] at y3 y5 HTC
                        clear q0 q1 q2 q3 ht1 ht2 htc hbk hm htm h16
                        go_wp2_with fail
                        go_quiet_grown (first | (go_at_call 27; exact Grw.grown (HTC.out _ _)) | exact Grw.grown (HTC.out _ _))
                        change Exit.then _ _ Exit.normal _ (grow (wr.drewN nq) osq)
                        have HGQ := Lib.hid (HGR2.out.trans (show Grw wr (grow (wr.drewN nq) osq) from ⟨nq, osq, rfl⟩))
                        clear y0 y1 y2 y3 y4 y5 HTC
                        generalize grow (wr.drewN nq) osq = w7 at *
                        go_wp2_with fail
                        go_roundw
                        case rel => exact ⟨r + 1, by go_num, by omega, HGQ.out⟩
                        case measure => simp [intOf]; omega
                      · obtain rfl : r = bl := by omega
                        go_wp2_with fail
                        go_roundw
                        case rel => exact ⟨q + 1, by go_num, by omega, HGR3.out⟩
                        case measure => simp [intOf]; omega
                · obtain rfl : q = gs.length := by omega
                  go_wp2_with fail
                  go_ret
                  exact ⟨rfl, BW14.out.trans (HGR.out.below.mono BW14.out.size)⟩
end Go.Proofs.Ytcfimponmioneaa.WL
