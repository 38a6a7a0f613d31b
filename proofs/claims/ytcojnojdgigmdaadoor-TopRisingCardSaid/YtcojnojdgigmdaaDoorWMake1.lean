/- The walk of plan.Make, part 1: a pattern at fault; the steps and bars laid. -/
import Derived.Test.YtcojnojdgigmdaaDoorB06
namespace Go.Proofs.YtcojnojdgigmdaaDoor.WL
open Go Go.RowKit Go.Sort Go.Proofs.YtcojnojdgigmdaaDoor Go.Proofs.YtcojnojdgigmdaaDoor.PL Go.Proofs.YtcojnojdgigmdaaDoor.Mem Go.Proofs.YtcojnojdgigmdaaDoor.WP

/-- The list of the lists' addresses. -/
def OfIs (gs : List (Grp Unit)) (gv : Nat) (vb : Nat → Value) (os : List Value) (m : Nat) : Prop :=
  ∀ k, k < m → os[k * 2]? = some (.int .i64 (locate gs k).1) ∧ os[k * 2 + 1]? = some (.pointer (some (adrOf gs gv vb k)))
theorem OfIs.app {gs : List (Grp Unit)} {gv : Nat} {vb : Nat → Value} {os : List Value} {m : Nat} (h : OfIs gs gv vb os m) (hl : os.length = m * 2) : OfIs gs gv vb (os ++ [.int .i64 (locate gs m).1, .pointer (some (adrOf gs gv vb m))]) (m + 1) := by
  intro k hk
  by_cases hkm : k < m
  · obtain ⟨h1, h2⟩ := h k hkm
    rw [List.getElem?_append_left (by omega), List.getElem?_append_left (by omega)]
    exact ⟨h1, h2⟩
  · obtain rfl : k = m := by omega
    rw [List.getElem?_append_right (by omega), List.getElem?_append_right (by omega)]
    simp [hl]

set_option maxRecDepth 100000 in
set_option maxHeartbeats 6400000 in
theorem make_any (sl cl : Value) (wi : Int) (ss : List GS) (cs : List GC) (W : World) (hs : Stps W W.heap.size sl ss) (hc : Cnds W W.heap.size cl cs) (hbig : ss.length ≤ maxLen) (hbig2 : cs.length ≤ maxLen) :
    Calls Tryd.prog 43 #[.agg #[sl, cl, .int .i64 wi]] W (PostM W ss cs wi) := by
  obtain ⟨i0, hp0, hz0, hz1, hz2⟩ := info_parts infoP
  obtain ⟨i1, hp1, hz3, hz4, hz5⟩ := info_parts infoB
  obtain ⟨i2, hp2, hz6, hz7, hz8⟩ := info_parts infoT
  obtain ⟨i3, hp3, hz9, hz10, hz11⟩ := info_parts infoO
  obtain ⟨a, c, rfl⟩ := Sl.shape hs
  obtain ⟨a2, c2, rfl⟩ := Sl.shape hc
  obtain ⟨w1, hw1⟩ : ∃ w1, w1 = W.alloc (.cells #[.slice a ss.length c, .slice a2 cs.length c2, .int .i64 wi] 106) := ⟨_, rfl⟩
  obtain ⟨w2, hw2⟩ : ∃ w2, w2 = w1.alloc (.cells #[nilS, .int .i64 0] 25) := ⟨_, rfl⟩
  have hz1' : w1.heap.size = W.heap.size + 1 := by rw [hw1]; simp
  have hz2' : w2.heap.size = W.heap.size + 2 := by rw [hw2]; simp; omega
  have G2 : Grw W w2 := by rw [hw2, hw1]; exact ((Grw.refl W).alloc _).alloc _
  have P1 := Lib.hid (show w2.heap[W.heap.size]? = some (.cells #[.slice a ss.length c, .slice a2 cs.length c2, .int .i64 wi] 106 (0, 0)) by rw [hw2]; exact heap_alloc (by rw [hw1]; exact heap_new rfl))
  have P2 := Lib.hid (show w2.heap[W.heap.size + 1]? = some (.cells #[nilS, .int .i64 0] 25 (0, 0)) by rw [hw2]; exact heap_new (by omega))
  have HS := Lib.hid hs; have HC := Lib.hid hc
  have HW1 := Lib.hid hw1; have HW2 := Lib.hid hw2
  have HG2 := Lib.hid G2
  have hck := check_any (.slice a ss.length c) (.slice a2 cs.length c2) wi ss cs w2 ((Sl.below hs G2.below).more G2.size) ((Sl.below hc G2.below).more G2.size) hbig hbig2
  have HCK := Lib.hid hck
  clear hs hc hw1 hw2 G2 hck hbig hbig2
  go_enter Tryd.func43, Tryd.ntmps43
  have y0 : w2.cell? ⟨W.heap.size, 0, none⟩ = some (.slice a ss.length c) := (Lib.cell_of_heap P1.out 0).trans rfl
  have y1 : w2.cell? ⟨W.heap.size, 1, none⟩ = some (.slice a2 cs.length c2) := (Lib.cell_of_heap P1.out 1).trans rfl
  have y2 : w2.cell? ⟨W.heap.size, 2, none⟩ = some (.int .i64 wi) := (Lib.cell_of_heap P1.out 2).trans rfl
  rw [HW2.out, HW1.out] at y0 y1 y2
  go_wp2_with fail
  rw [← HW1.out, ← HW2.out]
  refine HCK.out.mono ?_
  rintro e w3 ⟨rfl, g3⟩
  clear y0 y1 y2
  have HG3 := Lib.hid (HG2.out.trans g3)
  have Q1 := Lib.hid ((g3.below.block _ (by omega)).trans P1.out)
  have Q2 := Lib.hid ((g3.below.block _ (by omega)).trans P2.out)
  have hz3' := g3.size
  clear g3 P1 P2 HW1 HW2 HG2
  rcases checkP_cases ss cs wi with hbad | ⟨hok, hokp⟩
  · have HBAD := Lib.hid hbad
    have he' : ((checkP ss cs wi).2 != 0) = true := by simp [hbad]
    obtain ⟨ck, hck⟩ : ∃ ck, checkP ss cs wi = ck := ⟨_, rfl⟩
    rw [hck] at he' ⊢
    have HK := Lib.hid hck
    obtain ⟨k1, k2⟩ := ck
    simp only at he'
    have u0 : w3.cell? ⟨W.heap.size + 1, 0, none⟩ = some nilS := (Lib.cell_of_heap Q2.out 0).trans rfl
    have u1 : w3.cell? ⟨W.heap.size + 1, 1, none⟩ = some (.int .i64 0) := (Lib.cell_of_heap Q2.out 1).trans rfl
    have f0 : w3.frozen? ⟨W.heap.size + 1, 0, none⟩ = false := Lib.frozen_of_heap Q2.out 0
    have f1 : w3.frozen? ⟨W.heap.size + 1, 1, none⟩ = false := Lib.frozen_of_heap Q2.out 1
    clear hbad hck
    go_wp2_with fail
    refine bodyPost_ret (res_make rfl rfl rfl (blk_set (blk_set Q2.out 0 _) 1 _)) rfl ?_
    unfold PostM
    rw [HK.out]
    refine ⟨?_, .inl ⟨by have := HBAD.out; rw [HK.out] at this; exact this, rfl⟩⟩
    exact (HG3.out.below.setCell (p := ⟨W.heap.size + 1, 0, none⟩) (by show W.heap.size ≤ W.heap.size + 1; omega) _).setCell (p := ⟨W.heap.size + 1, 1, none⟩) (by show W.heap.size ≤ W.heap.size + 1; omega) _
  · have HOK := Lib.hid hokp
    have HK := Lib.hid hok
    have y0 : w3.cell? ⟨W.heap.size, 0, none⟩ = some (.slice a ss.length c) := (Lib.cell_of_heap Q1.out 0).trans rfl
    have y2 : w3.cell? ⟨W.heap.size, 2, none⟩ = some (.int .i64 wi) := (Lib.cell_of_heap Q1.out 2).trans rfl
    obtain ⟨w4, hw4⟩ : ∃ w4, w4 = w3.alloc (.cells #[nilS, .int .i64 wi] 25) := ⟨_, rfl⟩
    have hb4 : Below w3.heap.size w3 w4 := by rw [hw4]; exact (Below.refl _ _).alloc (Nat.le_refl _) _
    have hmk : Mk W w4 w3.heap.size (.slice a ss.length c) (.slice a2 cs.length c2) wi nilS (groups (unitl (ss.take 0))) (fun _ => nilS) :=
      ⟨HG3.out.below.trans (hb4.mono HG3.out.size), (hb4.block _ (by omega)).trans Q1.out, ⟨_, _, (hb4.block _ (by omega)).trans Q2.out⟩, by rw [hw4]; exact heap_new rfl, by omega,
        ⟨[], World.ownsRow_nil _ _ _ _, fun q hq => absurd hq (by simp [unitl, groups])⟩, fun q hq => absurd hq (by simp [unitl, groups]), fun q _ hq => absurd hq (by simp [unitl, groups])⟩
    have ya0 : w4.cell? ⟨W.heap.size, 0, none⟩ = some (.slice a ss.length c) := (hb4.cell (p := ⟨W.heap.size, 0, none⟩) (by show W.heap.size < _; omega)).trans y0
    have HMK := Lib.hid hmk
    have HW4 := Lib.hid hw4
    have hn8 : (ss.length : Int) ≤ 8 := by have := hokp.n8; omega
    have hR := hmk.lt
    generalize hRR : w3.heap.size = R at *
    rw [hok]
    clear hok hokp hmk hb4
    rw [HW4.out] at ya0
    clear hw4
    go_wp2_with fail
    rw [show w3.alloc (.cells #[.slice none 0 0, .int .i64 wi] 25) = w4 from HW4.out.symm]
    clear ya0 y0 y2 HG3 Q1 Q2 HW4
    go_loopw [36] (fun u wr => ∃ (i : Nat) (vs : Value) (vb : Nat → Value), u = .int .i64 i ∧ i ≤ ss.length ∧ Mk W wr R (.slice a ss.length c) (.slice a2 cs.length c2) wi vs (groups (unitl (ss.take i))) vb) (fun u _ => ss.length - (intOf u).toNat)
    case atStart => exact ⟨0, _, _, rfl, by omega, HMK.out⟩
    case round =>
      clear HMK
      obtain ⟨i, vs, vb, rfl, hi, hmk⟩ := hrel
      have HMK := Lib.hid hmk
      have hsz := hmk.bel.size
      have o0 : wr.cell? ⟨R, 0, none⟩ = some vs := (Lib.cell_of_heap hmk.ob 0).trans rfl
      have hRl := blk_lt hmk.ob
      by_cases hlt : i < ss.length
      · have hlt' : (i : Int) < (ss.length : Int) := by omega
        have hi0 : (0 : Int) ≤ (i : Int) := by omega
        obtain ⟨g, o, c', e, hgb, d0, d1, d2, d3, d4⟩ := Stps.at_ HS.out hlt
        obtain ⟨rfl, rfl⟩ : a = some ⟨g, o, none⟩ ∧ c = c' := by simpa using e
        have x0 := keep_cell' hmk.bel hgb d0
        have x1 := keep_cell' hmk.bel hgb d1
        have x2 := keep_cell' hmk.bel hgb d2
        have x3 := keep_cell' hmk.bel hgb d3
        have x4 := keep_cell' hmk.bel hgb d4
        obtain ⟨x, hx⟩ : ∃ x, ss[i] = x := ⟨_, rfl⟩
        rw [hx] at x0 x1 x2 x3 x4
        have HX := Lib.hid hx
        obtain ⟨wa, hwa⟩ : ∃ wa, wa = wr.alloc (.cells #[.int .u8 x.k, .int .u8 x.nm, .bool x.neg, .int .i64 x.lo, .int .i64 x.hi] 171) := ⟨_, rfl⟩
        have hma := hmk.alloc (.cells #[.int .u8 x.k, .int .u8 x.nm, .bool x.neg, .int .i64 x.lo, .int .i64 x.hi] 171)
        rw [← hwa] at hma
        have hza : wa.heap.size = wr.heap.size + 1 := by rw [hwa]; simp
        have PA := Lib.hid (show wa.heap[wr.heap.size]? = some (.cells #[.int .u8 x.k, .int .u8 x.nm, .bool x.neg, .int .i64 x.lo, .int .i64 x.hi] 171 (0, 0)) by rw [hwa]; exact heap_new rfl)
        have HMA := Lib.hid hma
        have HWA := Lib.hid hwa
        obtain ⟨xs, hrow, hpos⟩ := hma.row
        obtain ⟨vad, vcap, hvs⟩ := own_slice hrow
        subst hvs
        have hgl : (groups (unitl (ss.take i))).length ≤ i := by
          have := groups_len (unitl (ss.take i))
          simp only [unitl, List.length_map, List.length_take] at this ⊢; omega
        have HROW := Lib.hid hrow
        have HPOS := Lib.hid hpos
        have HGS := Lib.hid (show groups (unitl (ss.take (i + 1))) = pushG (groups (unitl (ss.take i))) (x, ()) by rw [unitl_take ss i hlt, groups_snoc, hx])
        clear e d0 d1 d2 d3 d4 hx hmk hwa hma hrow hpos
        cases hn : x.neg with
        | false =>
          have HN := Lib.hid hn
          rw [hn] at x2
          have hwn := HWA.out
          rw [hn] at hwn
          have HWN := Lib.hid hwn
          have PB := Lib.hid (show wa.heap[wr.heap.size]? = some (.cells #[.int .u8 x.k, .int .u8 x.nm, .bool false, .int .i64 x.lo, .int .i64 x.hi] 171 (0, 0)) by rw [PA.out, hn])
          have oa : wa.cell? ⟨R, 0, none⟩ = _ := (Lib.cell_of_heap HMA.out.ob 0).trans rfl
          clear hn hwn
          rw [HWN.out] at oa
          have hn8' := HOK.out.n8
          have hrw := HROW.out
          rw [HWN.out] at hrw
          have HRW := Lib.hid hrw
          clear hrw
          go_wp2_with (at_builtin; refine wpList_append_lies _ rfl (.tmp 44) (.tmp 52) 23 rfl W.heap.size 47 i0 _ 5 72 Tryd.underlying23 hp0 hz0 hz1 hz2 rfl (by decide) _ _ _ rfl (HRW.out.alloc _) ⟨wr.heap.size + 1, 0, none⟩ 1 1 [.int .u8 x.k, .int .i64 x.lo, .int .i64 x.hi, nilS, nilS] rfl rfl ?c1 ?c2 (by decide) ?c3 ?c4 ?c5 _ rfl ?_)
          case c1 =>
            intro j u hu
            have := new_cell wa #[.int .u8 x.k, .int .i64 x.lo, .int .i64 x.hi, nilS, nilS] 47 j u (by simpa using hu)
            rw [hza, HWN.out] at this
            exact this
          case c2 => intro u hu; simp only [List.mem_cons, List.not_mem_nil, or_false] at hu; rcases hu with rfl | rfl | rfl | rfl | rfl <;> rfl
          case c3 => unfold maxLen; omega
          case c4 => omega
          case c5 => simp; omega
          intro gn cap w5 hown hgrow _ _
          rw [← HWN.out] at hgrow
          have hob := heap_kept (heap_alloc (o' := .cells #[.int .u8 x.k, .int .i64 x.lo, .int .i64 x.hi, nilS, nilS] 47) HMA.out.ob) (HROW.out.alloc _) (by decide) hgrow
          have hm5 := Lib.hid ((HMA.out.alloc (.cells #[.int .u8 x.k, .int .i64 x.lo, .int .i64 x.hi, nilS, nilS] 47)).push x HPOS.out (HROW.out.alloc _) hgrow hown)
          have c0 : w5.cell? ⟨R, 0, none⟩ = some _ := (Lib.cell_of_heap hob 0).trans rfl
          have f0 : w5.frozen? ⟨R, 0, none⟩ = false := Lib.frozen_of_heap hob 0
          clear hown hgrow hob oa x0 x1 x2 x3 x4
          go_wp2_with fail
          go_roundw
          case rel =>
            have hm6 := hm5.out
            rw [← pushG_pos _ (x, ()) HN.out, ← HGS.out] at hm6
            exact ⟨i + 1, _, _, by go_num, by omega, hm6⟩
          case measure => simp [intOf]; omega
        | true =>
          have HN := Lib.hid hn
          rw [hn] at x2
          have hwn := HWA.out
          rw [hn] at hwn
          have HWN := Lib.hid hwn
          have PB := Lib.hid (show wa.heap[wr.heap.size]? = some (.cells #[.int .u8 x.k, .int .u8 x.nm, .bool true, .int .i64 x.lo, .int .i64 x.hi] 171 (0, 0)) by rw [PA.out, hn])
          have oa : wa.cell? ⟨R, 0, none⟩ = _ := (Lib.cell_of_heap HMA.out.ob 0).trans rfl
          have hi1 : i ≠ 0 := by
            have := (stepE_ok (HOK.out.st i hlt)).2.2.2.2.2.1
            rw [getElem!_pos ss i hlt, HX.out] at this
            exact (this hn).1
          have hgne : groups (unitl (ss.take i)) ≠ [] := by
            intro h0
            have h1 := flat_groups (unitl (ss.take i))
            rw [h0] at h1
            have := congrArg List.length h1
            simp [flat, unitl] at this
            omega
          obtain ⟨l, gl, hlg⟩ : ∃ l gl, groups (unitl (ss.take i)) = l ++ [gl] := ⟨_, _, (List.dropLast_concat_getLast hgne).symm⟩
          have HM2 := HMA.out
          have HR2 := HROW.out
          have HP2 := HPOS.out
          have HG2 := HGS.out
          simp only [hlg] at HM2 HR2 HP2 HG2 hgl oa
          rw [pushG_bar _ _ _ HN.out] at HG2
          have hll : (l ++ [gl]).length = l.length + 1 := by simp
          rw [hll] at HM2 HR2 hgl oa
          obtain ⟨gv, cv, hgv, _, hgvl, hcell⟩ := own_cells HR2 (by omega)
          obtain ⟨rfl, rfl⟩ : vad = some ⟨gv, 0, none⟩ ∧ vcap = cv := by simpa using hgv
          have hlast := HP2 l.length (by simp)
          have HM := Lib.hid HM2
          have HRW := Lib.hid HR2
          have HLG := Lib.hid hlg
          have HG := Lib.hid HG2
          have e4 := Lib.hid (hcell _ _ hlast.2.2.2.2)
          obtain ⟨ys, hyo, hyp⟩ := HM2.bars l.length (by simp)
          simp only [List.getElem_append_right (Nat.le_refl _), Nat.sub_self, List.getElem_cons_zero] at hyo hyp
          have HY := Lib.hid hyo
          have HYP := Lib.hid hyp
          rw [HWN.out] at oa
          have hl8 : (l.length : Int) + 1 ≤ 8 := by have := HOK.out.n8; omega
          clear hn hwn hi1 hgne hlg hgv hcell hlast hyo hyp HM2 HR2 HP2 HG2 HROW HPOS HGS HMA HMK PA HWA
          have hgb : gl.2.length + 1 ≤ i := by
            have h1 := congrArg List.length (flat_groups (unitl (ss.take i)))
            rw [HLG.out] at h1
            simp only [flat, List.flatMap_append, List.flatMap_cons, List.flatMap_nil, List.append_nil, List.length_append, List.length_cons, unitl, List.length_map, List.length_take] at h1
            omega
          have hn8' := HOK.out.n8
          have N1 : (vb l.length).ownBlock ≠ some gv := by
            rcases own_ne HY.out HRW.out (by decide) with h | h
            · rw [h]; simp
            · exact h
          have N2 : (vb l.length).ownBlock ≠ some wr.heap.size := by
            rcases own_ne_blk HY.out PB.out (by decide) with h | h
            · rw [h]; simp
            · exact h
          go_wp2_with fail
          rw [← HWN.out]
          refine Ord.append_order (h := 12) (t := 1) (floats := [(0, 62, .pointer (some ⟨gv, l.length * 5, none⟩)), (1, 63, .pointer (some ⟨gv, l.length * 5, none⟩)), (2, 64, .pointer (some ⟨gv, l.length * 5, none⟩)), (3, 65, .pointer (some ⟨gv, l.length * 5 + 4, none⟩)), (4, 66, vb l.length), (5, 67, .pointer (some ⟨wr.heap.size, 0, none⟩)), (6, 68, .int .u8 x.k), (7, 69, .agg #[.int .u8 x.k, nilS]), (10, 72, .pointer (some ⟨gv, l.length * 5, none⟩)), (11, 73, .pointer (some ⟨gv, l.length * 5 + 4, none⟩))]) (ib := 8) (sb := 70) (ip := 9) (sp := 71)
            (by kernel_rfl) rfl (by kernel_rfl) (by kernel_rfl) (by kernel_rfl) (by kernel_rfl) (show [0, 1, 2, 3, 4, 5, 6, 7, 10, 11, 8, 9].Nodup by decide) (show ∀ i, i < 12 → i ∈ [0, 1, 2, 3, 4, 5, 6, 7, 10, 11, 8, 9] by decide) (show ∀ i ∈ [0, 1, 2, 3, 4, 5, 6, 7, 10, 11, 8, 9], i < 12 by decide)
            (show [62, 63, 64, 65, 66, 67, 68, 69, 72, 73, 70, 71].Nodup by decide) (show ∀ s ∈ [62, 63, 64, 65, 66, 67, 68, 69, 72, 73, 70, 71], s < 184 by decide)
            W.heap.size 49 i1 _ 2 32 (vb l.length) gl.2.length ys [.int .u8 x.k, nilS] HY.out HM.out.bel.size ?_ 7 69 (.agg #[.int .u8 x.k, nilS])
            ⟨_, rfl, rfl, rfl, Ord.waits_of (by kernel_rfl), fun a w h => Ord.run_build (Ord.eval_tmp h) (build_b w x.k)⟩ (by simp) 66 4 45 ⟨_, rfl, rfl, rfl, rfl, Ord.waits_of (by kernel_rfl)⟩ (by simp)
            Tryd.underlying45 hp1 hz3 hz4 hz5 rfl (by decide) rfl ?_ (by unfold maxLen; omega) (by omega) ?_
          · intro i' s' x' hm
            simp only [List.mem_cons, List.not_mem_nil, or_false, Prod.mk.injEq] at hm
            rcases hm with ⟨rfl, rfl, rfl⟩ | ⟨rfl, rfl, rfl⟩ | ⟨rfl, rfl, rfl⟩ | ⟨rfl, rfl, rfl⟩ | ⟨rfl, rfl, rfl⟩ | ⟨rfl, rfl, rfl⟩ | ⟨rfl, rfl, rfl⟩ | ⟨rfl, rfl, rfl⟩ | ⟨rfl, rfl, rfl⟩ | ⟨rfl, rfl, rfl⟩
            · exact ⟨_, rfl, rfl, rfl, fun a w hs hk hB => Ord.run_move (Ord.eval_tmp ((hs.out 10 (show 10 ∉ [62, 63, 64, 65, 66, 67, 68, 69, 72, 73, 70, 71] by decide)).trans rfl))⟩
            · exact ⟨_, rfl, rfl, rfl, fun a w hs hk hB => Ord.run_move (Ord.eval_tmp ((hs.out 10 (show 10 ∉ [62, 63, 64, 65, 66, 67, 68, 69, 72, 73, 70, 71] by decide)).trans rfl))⟩
            · exact ⟨_, rfl, rfl, rfl, fun a w hs hk hB => run_nil (Ord.eval_tmp (hk 1 63 (.pointer (some ⟨gv, l.length * 5, none⟩)) (by simp) (Ord.waits_of (by kernel_rfl))))⟩
            · exact ⟨_, rfl, rfl, rfl, fun a w hs hk hB => Ord.run_fld (Ord.eval_tmp (hk 2 64 (.pointer (some ⟨gv, l.length * 5, none⟩)) (by simp) (Ord.waits_of (by kernel_rfl)))) (fld_pos4 w _ _)⟩
            · exact ⟨_, rfl, rfl, rfl, fun a w hs hk hB => Ord.run_load (Ord.eval_tmp (hk 3 65 (.pointer (some ⟨gv, l.length * 5 + 4, none⟩)) (by simp) (Ord.waits_of (by kernel_rfl)))) (load_bars ((World.cell?_of_block (hB gv (by omega) N1)).trans e4.out))⟩
            · exact ⟨_, rfl, rfl, rfl, fun a w hs hk hB => Ord.run_fld (Ord.eval_tmp ((hs.out 9 (show 9 ∉ [62, 63, 64, 65, 66, 67, 68, 69, 72, 73, 70, 71] by decide)).trans rfl)) (fld_step0 w _)⟩
            · exact ⟨_, rfl, rfl, rfl, fun a w hs hk hB => Ord.run_load (Ord.eval_tmp (hk 5 67 (.pointer (some ⟨wr.heap.size, 0, none⟩)) (by simp) (Ord.waits_of (by kernel_rfl)))) (load_u8 ((World.cell?_of_block (hB wr.heap.size (by omega) N2)).trans ((Lib.cell_of_heap PB.out 0).trans rfl)))⟩
            · exact ⟨_, rfl, rfl, rfl, fun a w hs hk hB => run_bar (Ord.eval_tmp (hk 6 68 (.int .u8 x.k) (by simp) (Ord.waits_of (by kernel_rfl))))⟩
            · exact ⟨_, rfl, rfl, rfl, fun a w hs hk hB => run_nil (Ord.eval_tmp (hk 0 62 (.pointer (some ⟨gv, l.length * 5, none⟩)) (by simp) (Ord.waits_of (by kernel_rfl))))⟩
            · exact ⟨_, rfl, rfl, rfl, fun a w hs hk hB => Ord.run_fld (Ord.eval_tmp (hk 10 72 (.pointer (some ⟨gv, l.length * 5, none⟩)) (by simp) (Ord.waits_of (by kernel_rfl)))) (fld_pos4 w _ _)⟩
          · intro u hu; simp only [List.mem_cons, List.not_mem_nil, or_false] at hu; rcases hu with rfl | rfl <;> rfl
          intro w5 gn cap hgr hown hgg _
          have hbd : Below wa.heap.size wa wa.drew := ⟨rfl, rfl, rfl, Nat.le_refl _, fun _ _ => rfl⟩
          have hm5 := Lib.hid (((HM.out.below hbd).alloc (.cells #[.int .u8 x.k, nilS] 49)).bar x HYP.out ((own_below HY.out hbd).alloc _) rfl hgr (hgg.imp id (fun e => by rw [e]; show (wa.heap.push _).size ≤ _; simp)) hown)
          obtain ⟨csv, hcsv⟩ := own_heap HRW.out
          have hc5 := heap_kept (heap_alloc (o' := .cells #[.int .u8 x.k, nilS] 49) (Go.Proofs.YtcojnojdgigmdaaDoor.Mem.heap_drew hcsv)) ((own_below HY.out hbd).alloc _) (by decide) hgr
          have c0 : w5.cell? ⟨gv, l.length * 5 + 4, none⟩ = some (vb l.length) := by
            rw [Lib.cell_of_heap hc5, ← Lib.cell_of_heap hcsv]; exact e4.out
          have f0 : w5.frozen? ⟨gv, l.length * 5 + 4, none⟩ = false := Lib.frozen_of_heap hc5 _
          simp only [Ord.puts, List.map_cons, List.map_nil, List.cons_append, List.nil_append]
          clear hown hgr hgg hbd hcsv hc5 oa x0 x1 x2 x3 x4 hp0 hp1 hp2 hp3
          go_wp2_with fail
          go_roundw
          case rel =>
            have hm6 := hm5.out
            rw [← HG.out] at hm6
            exact ⟨i + 1, _, _, by go_num, by omega, hm6⟩
          case measure => simp [intOf]; omega
      · obtain rfl : i = ss.length := by omega
        rw [List.take_length] at hmk
        obtain ⟨gs, hgs⟩ : ∃ gs, groups (unitl ss) = gs := ⟨_, rfl⟩
        rw [hgs] at hmk
        have hflat : (flat gs).map (·.1) = ss := by rw [← hgs, flat_groups]; unfold unitl; simp [Function.comp_def]
        have hfl : (flat gs).length = ss.length := by rw [← hflat]; simp
        have hok1 := HOK.out.n1
        have hok8 := HOK.out.n8
        have hgl : gs.length ≤ ss.length := by rw [← hgs]; have := groups_len (unitl ss); simpa [unitl] using this
        have hgl1 : 0 < gs.length := by
          rcases Nat.eq_zero_or_pos gs.length with h0 | h0
          · rw [List.length_eq_zero_iff.1 h0] at hfl; simp [flat] at hfl; omega
          · exact h0
        have HFLAT := Lib.hid hflat
        have HGSE := Lib.hid hgs
        obtain ⟨xs0, hrow0, _⟩ := hmk.row
        obtain ⟨gv, cv, rfl, _, _, _⟩ := own_cells hrow0 hgl1
        have HMK := Lib.hid hmk
        clear hlt hi hgs hflat hrow0 hmk
        go_wp2_with fail
        obtain ⟨w6, hw6⟩ : ∃ w6, w6 = wr := ⟨_, rfl⟩
        subst hw6
        have hgs8 : (gs.length : Int) ≤ 8 := by omega
        go_loopw [11, 78] (fun vo u wq => ∃ (q : Nat) (os : List Value), u = .int .i64 q ∧ q ≤ gs.length ∧ Below w6.heap.size w6 wq ∧ wq.ownsRow w6.heap.size 176 2 vo (startG gs q) os ∧ OfIs gs gv vb os (startG gs q)) (fun _ u _ => gs.length - (intOf u).toNat)
        case atStart => exact ⟨0, [], rfl, by omega, Below.refl _ _, by rw [startG_zero]; exact World.ownsRow_nil _ _ _ _, by rw [startG_zero]; exact fun k hk => absurd hk (by omega)⟩
        case round =>
          clear o0
          obtain ⟨q, os, rfl, hq, hbq, hoo, hof⟩ := hrel
          obtain ⟨oad, ocap, hos⟩ := own_slice hoo
          subst hos
          have HOO := Lib.hid hoo
          have HOF := Lib.hid hof
          have HBQ := Lib.hid hbq
          have HMQ := Lib.hid (HMK.out.below hbq)
          have hsq := hbq.size
          have o0 : wr.cell? ⟨R, 0, none⟩ = some (.slice (some ⟨gv, 0, none⟩) gs.length cv) := (Lib.cell_of_heap HMQ.out.ob 0).trans rfl
          clear hoo hof hbq
          by_cases hlt : q < gs.length
          · have hlt' : (q : Int) < (gs.length : Int) := by omega
            have hi0 : (0 : Int) ≤ (q : Int) := by omega
            have hsl := startG_lt gs q hlt
            have hss := startG_succ gs q hlt
            have hsl2 := startG_le gs (q + 1)
            have oa : (wr.alloc (.cells #[.int .i64 q, .pointer (some ⟨gv, q * 5 + 3, none⟩)] 176)).cell? ⟨R, 0, none⟩ = _ := (Lib.cell_of_heap (HMQ.out.alloc _).ob 0).trans rfl
            go_wp2_with (at_builtin; refine wpList_append_lies _ rfl (.tmp 81) (.tmp 89) 173 rfl w6.heap.size 176 i3 _ 2 16 Tryd.underlying173 hp3 hz9 hz10 hz11 rfl (by decide) _ _ _ rfl (HOO.out.alloc _) ⟨wr.heap.size, 0, none⟩ 1 1 [.int .i64 q, .pointer (some ⟨gv, q * 5 + 3, none⟩)] rfl rfl ?c1 ?c2 (by decide) ?c3 ?c4 ?c5 _ rfl ?_)
            case c1 =>
              intro j u hu
              exact new_cell wr #[.int .i64 q, .pointer (some ⟨gv, q * 5 + 3, none⟩)] 176 j u (by simpa using hu)
            case c2 => intro u hu; simp only [List.mem_cons, List.not_mem_nil, or_false] at hu; rcases hu with rfl | rfl <;> rfl
            case c3 => unfold maxLen; omega
            case c4 => omega
            case c5 => simp; omega
            intro gn cap w7 hown hgrow _ _
            have hb7 := Lib.hid (below_grown0 (HBQ.out.alloc hsq (.cells #[.int .i64 q, .pointer (some ⟨gv, q * 5 + 3, none⟩)] 176)) (HOO.out.alloc _) hgrow)
            have hof7 : Hid (OfIs gs gv vb (os ++ [.int .i64 q, .pointer (some ⟨gv, q * 5 + 3, none⟩)]) (startG gs q + 1)) := Lib.hid (by
              have := HOF.out.app HOO.out.1
              rw [locate_head gs q hlt, adr_head gs gv vb q hlt] at this
              exact this)
            have HOW7 := Lib.hid hown
            have HM7 := HMK.out.below hb7.out
            obtain ⟨_, _, _, _, _, _, _, v4⟩ := HM7.cells q hlt
            obtain ⟨ys, hys, _⟩ := HM7.bars q hlt
            obtain ⟨bad, bcap, hbv⟩ := own_slice hys
            rw [hbv] at v4
            have o7 : w7.cell? ⟨R, 0, none⟩ = some (.slice (some ⟨gv, 0, none⟩) gs.length cv) := (Lib.cell_of_heap HM7.ob 0).trans rfl
            have HBV := Lib.hid hbv
            clear oa o0 hown hgrow HM7 hys hbv HOO HOF HBQ HMQ
            generalize hos7 : os ++ [.int .i64 q, .pointer (some ⟨gv, q * 5 + 3, none⟩)] = os7 at *
            clear hos7
            go_wp2_with fail
            clear o7 v4
            go_loopw [11, 98] (fun vo u wz => ∃ (r : Nat) (zs : List Value), u = .int .i64 r ∧ r ≤ gs[q].2.length ∧ Below w6.heap.size w6 wz ∧ wz.ownsRow w6.heap.size 176 2 vo (startG gs q + 1 + r) zs ∧ OfIs gs gv vb zs (startG gs q + 1 + r)) (fun _ u _ => gs[q].2.length - (intOf u).toNat)
            case atStart => exact ⟨0, os7, rfl, by omega, hb7.out, HOW7.out, hof7.out⟩
            case round =>
              clear hb7 HOW7 hof7 hsq
              obtain ⟨r, zs, rfl, hr, hbz, hoo, hof⟩ := hrel
              obtain ⟨oad, ocap, hos⟩ := own_slice hoo
              subst hos
              have HOO := Lib.hid hoo
              have HOF := Lib.hid hof
              have HBQ := Lib.hid hbz
              have hsq := hbz.size
              have HM7 := HMK.out.below hbz
              obtain ⟨_, _, _, _, _, _, _, v4⟩ := HM7.cells q hlt
              rw [HBV.out] at v4
              have o0 : wr.cell? ⟨R, 0, none⟩ = some (.slice (some ⟨gv, 0, none⟩) gs.length cv) := (Lib.cell_of_heap HM7.ob 0).trans rfl
              have HM8 := Lib.hid HM7
              clear hoo hof hbz HM7
              by_cases hrl : r < gs[q].2.length
              · have hrl' : (r : Int) < (gs[q].2.length : Int) := by omega
                have hr0 : (0 : Int) ≤ (r : Int) := by omega
                have hbl := bar_lt gs q r hlt hrl
                obtain ⟨gb, cb, e1, _⟩ := HM8.out.barc q r hlt hrl
                rw [HBV.out] at e1
                obtain ⟨rfl, rfl⟩ : bad = some ⟨gb, 0, none⟩ ∧ bcap = cb := by simpa using e1
                clear e1
                go_wp2_with (at_builtin; refine wpList_append_lies _ rfl (.tmp 101) (.tmp 113) 173 rfl w6.heap.size 176 i3 _ 2 16 Tryd.underlying173 hp3 hz9 hz10 hz11 rfl (by decide) _ _ _ rfl (HOO.out.alloc _) ⟨wr.heap.size, 0, none⟩ 1 1 [.int .i64 q, .pointer (some ⟨gb, r * 2 + 1, none⟩)] rfl rfl ?c1 ?c2 (by decide) ?c3 ?c4 ?c5 _ rfl ?_)
                case c1 =>
                  intro j u hu
                  exact new_cell wr #[.int .i64 q, .pointer (some ⟨gb, r * 2 + 1, none⟩)] 176 j u (by simpa using hu)
                case c2 => intro u hu; simp only [List.mem_cons, List.not_mem_nil, or_false] at hu; rcases hu with rfl | rfl <;> rfl
                case c3 => unfold maxLen; omega
                case c4 => omega
                case c5 => simp; omega
                intro gn cap w8 hown hgrow _ _
                have hb8 := Lib.hid (below_grown0 (HBQ.out.alloc hsq (.cells #[.int .i64 q, .pointer (some ⟨gb, r * 2 + 1, none⟩)] 176)) (HOO.out.alloc _) hgrow)
                have hof8 : Hid (OfIs gs gv vb (zs ++ [.int .i64 q, .pointer (some ⟨gb, r * 2 + 1, none⟩)]) (startG gs q + 1 + r + 1)) := Lib.hid (by
                  have := HOF.out.app HOO.out.1
                  rw [locate_bar gs q r hlt hrl, adr_bar gs gv vb q r hlt hrl HBV.out] at this
                  exact this)
                have HOW8 := Lib.hid hown
                clear hown hgrow o0 v4 HOO HOF HBQ HM8
                go_wp2_with fail
                go_roundw
                case rel => exact ⟨r + 1, _, by go_num, by omega, hb8.out, HOW8.out, hof8.out⟩
                case measure => simp [intOf]; omega
              · obtain rfl : r = gs[q].2.length := by omega
                clear hrl hr
                go_wp2_with fail
                go_roundw
                case rel => exact ⟨q + 1, zs, by go_num, by omega, HBQ.out, by rw [hss]; exact HOO.out, by rw [hss]; exact HOF.out⟩
                case measure => simp [intOf]; omega
          · obtain rfl : q = gs.length := by omega
            rw [startG_end, hfl] at HOO HOF ⊢
            obtain ⟨go, co, hgo, _, hgol, hgoc⟩ := own_cells HOO.out (by omega)
            obtain ⟨rfl, rfl⟩ : oad = some ⟨go, 0, none⟩ ∧ ocap = co := by simpa using hgo
            have hgo2 : ∃ cs, wr.heap[go]? = some (.cells cs 176 (0, 0)) := own_heap HOO.out
            have p1 : wr.cell? ⟨W.heap.size, 1, none⟩ = some (.slice a2 cs.length c2) := (Lib.cell_of_heap HMQ.out.pb 1).trans rfl
            have hgood : goodG gs := by
              rw [← HGSE.out]
              have h0 := stepE_ok (HOK.out.st 0 (by omega))
              obtain ⟨x0, r0, hx0⟩ : ∃ x r, ss = x :: r := by
                cases hss : ss with
                | nil => rw [hss] at hok1; simp at hok1
                | cons x r => exact ⟨x, r, rfl⟩
              have h1 := h0.2.2.2.2.2.1
              rw [hx0] at h1 ⊢
              refine goodG_groups _ _ ?_
              cases hn : x0.neg with
              | false => rfl
              | true => exact absurd rfl (h1 hn).1
            have HGOOD := Lib.hid hgood
            have HGC := Lib.hid hgoc
            have HG2 := Lib.hid hgo2
            obtain ⟨w9, hw9⟩ : ∃ w9, w9 = wr := ⟨_, rfl⟩
            subst hw9
            have hc16 : (cs.length : Int) ≤ 16 := by have := HOK.out.c16; omega
            clear hlt hq hgo hgo2 hgoc hgood HBQ HMK hsq
            go_wp2_with fail
            clear p1
            go_loopw [120] (fun u wq => ∃ (j : Nat) (vt : Nat → Value), u = .int .i64 j ∧ j ≤ cs.length ∧ Fl W w9 wq ss.length (adrOf gs gv vb) vt (testsAt ss (cs.take j))) (fun u _ => cs.length - (intOf u).toNat)
            case atStart => exact ⟨0, _, rfl, by omega, by have := HMQ.out.fl; rw [hfl] at this; exact this⟩
            case round =>
              clear o0
              obtain ⟨j, vt, rfl, hj, hflr⟩ := hrel
              have HFLR := Lib.hid hflr
              have hszr := hflr.size
              have hno : ∀ k, k < ss.length → W.heap.size ≠ (adrOf gs gv vb k).block := fun k hk => HMQ.out.noBlk HMQ.out.pb (by decide) (by decide) k (by omega)
              have hpl := blk_lt HMQ.out.pb
              have y0 : wr.cell? ⟨W.heap.size, 0, none⟩ = some (.slice a ss.length c) := (hflr.old _ hpl (fun k hk e => hno k hk (by rw [← e]))).trans ((Lib.cell_of_heap HMQ.out.pb 0).trans rfl)
              have y1 : wr.cell? ⟨W.heap.size, 1, none⟩ = some (.slice a2 cs.length c2) := (hflr.old _ hpl (fun k hk e => hno k hk (by rw [← e]))).trans ((Lib.cell_of_heap HMQ.out.pb 1).trans rfl)
              have y2 : wr.cell? ⟨W.heap.size, 2, none⟩ = some (.int .i64 wi) := (hflr.old _ hpl (fun k hk e => hno k hk (by rw [← e]))).trans ((Lib.cell_of_heap HMQ.out.pb 2).trans rfl)
              by_cases hlt : j < cs.length
              · have hlt' : (j : Int) < (cs.length : Int) := by omega
                have hj0 : (0 : Int) ≤ (j : Int) := by omega
                obtain ⟨g, o, c', e, hgb, d0, d1, d2, d3⟩ := Cnds.at_ HC.out hlt
                obtain ⟨rfl, rfl⟩ : a2 = some ⟨g, o, none⟩ ∧ c2 = c' := by simpa using e
                have x0 := keep_cell' hflr.bel hgb d0
                have x1 := keep_cell' hflr.bel hgb d1
                have x2 := keep_cell' hflr.bel hgb d2
                have x3 := keep_cell' hflr.bel hgb d3
                obtain ⟨x, hx⟩ : ∃ x, cs[j] = x := ⟨_, rfl⟩
                rw [hx] at x0 x1 x2 x3
                have hcd := HOK.out.cd j hlt
                rw [getElem!_pos cs j hlt, hx] at hcd
                have HCD := Lib.hid hcd
                have HTK := Lib.hid (show cs.take (j + 1) = cs.take j ++ [x] by rw [List.take_add_one, List.getElem?_eq_getElem hlt, hx]; rfl)
                obtain ⟨wa, hwa⟩ : ∃ wa, wa = wr.alloc (.cells #[.int .u8 x.l, .int .i64 x.op, .int .u8 x.r, .int .i64 x.k] 179) := ⟨_, rfl⟩
                have hza : wa.heap.size = wr.heap.size + 1 := by rw [hwa]; simp
                have hfa := hflr.alloc (.cells #[.int .u8 x.l, .int .i64 x.op, .int .u8 x.r, .int .i64 x.k] 179)
                rw [← hwa] at hfa
                have PA := Lib.hid (show wa.heap[wr.heap.size]? = some (.cells #[.int .u8 x.l, .int .i64 x.op, .int .u8 x.r, .int .i64 x.k] 179 (0, 0)) by rw [hwa]; exact heap_new rfl)
                have ga : Grw wr wa := by rw [hwa]; exact (Grw.refl wr).alloc _
                have ya0 : ∀ n os, (grow (wa.drewN n) os).cell? ⟨W.heap.size, 0, none⟩ = some (.slice a ss.length c) := cell_grown (by show W.heap.size < _; omega) (ga.cell (by omega) y0)
                have ya1 : ∀ n os, (grow (wa.drewN n) os).cell? ⟨W.heap.size, 1, none⟩ = some (.slice (some ⟨g, o, none⟩) cs.length c2) := cell_grown (by show W.heap.size < _; omega) (ga.cell (by omega) y1)
                have ya2 : ∀ n os, (grow (wa.drewN n) os).cell? ⟨W.heap.size, 2, none⟩ = some (.int .i64 wi) := cell_grown (by show W.heap.size < _; omega) (ga.cell (by omega) y2)
                have z0 : ∀ n os, (grow (wa.drewN n) os).cell? ⟨wr.heap.size, 0, none⟩ = some (.int .u8 x.l) := cell_grown (by show wr.heap.size < _; omega) ((Lib.cell_of_heap PA.out 0).trans rfl)
                have z2 : ∀ n os, (grow (wa.drewN n) os).cell? ⟨wr.heap.size, 2, none⟩ = some (.int .u8 x.r) := cell_grown (by show wr.heap.size < _; omega) ((Lib.cell_of_heap PA.out 2).trans rfl)
                have hq : ∀ nm n os, Calls Tryd.prog 76 #[.agg #[.slice a ss.length c, .slice (some ⟨g, o, none⟩) cs.length c2, .int .i64 wi], .int .u8 nm] (grow (wa.drewN n) os) fun e w' => e = .returned (.int .i64 (findP ss nm)) ∧ Grw (grow (wa.drewN n) os) w' := fun nm n os => by
                  have hb : Below W.heap.size W (grow (wa.drewN n) os) := hfa.bel.trans ((show Grw wa (grow (wa.drewN n) os) from ⟨n, os, rfl⟩).below.mono hfa.bel.size)
                  exact find_any _ _ wi nm ss _ ((Sl.below HS.out hb).more hb.size) (by unfold maxLen; omega)
                have HQ := Lib.hid hq
                have HFA := Lib.hid hfa
                have HWA := Lib.hid hwa
                clear e d0 d1 d2 d3 hx hcd hwa hfa ga hq hno y0 y1 y2 hflr
                have mixed : Tryd.prog.follows .mixedOrders = true := by kernel_rfl
                go_wp2_with fail
                rw [← HWA.out]
                go_quiet_grown (first | (go_at_call 76; exact Grw.grown (HQ.out _ _ _)) | exact Grw.grown (HQ.out _ _ _))
                change Exit.then _ _ Exit.normal _ (grow (wa.drewN nq) osq)
                have ga : Grw wa (grow (wa.drewN nq) osq) := ⟨nq, osq, rfl⟩
                have hfb := Lib.hid (HFA.out.below ga.below)
                have z1 : (grow (wa.drewN nq) osq).cell? ⟨wr.heap.size, 1, none⟩ = some (.int .i64 x.op) := ga.cell (by omega) ((Lib.cell_of_heap PA.out 1).trans rfl)
                have z3 : (grow (wa.drewN nq) osq).cell? ⟨wr.heap.size, 3, none⟩ = some (.int .i64 x.k) := ga.cell (by omega) ((Lib.cell_of_heap PA.out 3).trans rfl)
                have z4 := z2 nq osq
                have hzb := ga.size
                clear ya0 ya1 ya2 z0 z2 HQ HFA HWA ga PA mixed
                generalize grow (wa.drewN nq) osq = w10 at *
                go_wp2_with fail
                have n1 : wr.heap.size ≠ w10.heap.size := by omega
                have n2 : w10.heap.size ≠ wr.heap.size := by omega
                go_region_held3 (fun w' => w'.cell? ⟨wr.heap.size, 1, none⟩ = some (.int .i64 x.op) ∧ w'.cell? ⟨wr.heap.size, 3, none⟩ = some (.int .i64 x.k)) (go_keep) (fail)
                have hb11 : Below w10.heap.size w10 (w10.alloc (.cells #[.int .i64 x.op, .int .i64 0, .int .i64 x.k, .bool false] 182)).drew := by
                  have := (Below.refl w10.heap.size w10).alloc (Nat.le_refl _) (.cells #[.int .i64 x.op, .int .i64 0, .int .i64 x.k, .bool false] 182)
                  exact ⟨this.os, this.tape, this.output, this.size, this.block⟩
                have hd11 : (w10.alloc (.cells #[.int .i64 x.op, .int .i64 0, .int .i64 x.k, .bool false] 182)).drew.heap[w10.heap.size]? = some (.cells #[.int .i64 x.op, .int .i64 0, .int .i64 x.k, .bool false] 182 (0, 0)) := heap_new (w := w10) rfl
                change Exit.then _ _ Exit.normal _ (w10.alloc (.cells #[.int .i64 x.op, .int .i64 0, .int .i64 x.k, .bool false] 182)).drew
                generalize (w10.alloc (.cells #[.int .i64 x.op, .int .i64 0, .int .i64 x.k, .bool false] 182)).drew = w11 at *
                have z11 : w11.cell? ⟨wr.heap.size, 2, none⟩ = some (.int .u8 x.r) := (hb11.cell (p := ⟨wr.heap.size, 2, none⟩) (by show wr.heap.size < _; omega)).trans z4
                have t1 : w11.cell? ⟨w10.heap.size, 1, none⟩ = some (.int .i64 0) := (Lib.cell_of_heap hd11 1).trans rfl
                have ft1 : w11.frozen? ⟨w10.heap.size, 1, none⟩ = false := Lib.frozen_of_heap hd11 1
                have HB11 := Lib.hid hb11
                have HD11 := Lib.hid hd11
                clear z1 z3 z4 n1 n2 hb11 hd11
                obtain ⟨_, _, ⟨p, hp, hpl'⟩, hrr⟩ := condE_ok HCD.out
                have hgs0 : ∀ k, k < ss.length → posTo ss (k + 1) = (locate gs k).1 + 1 := fun k hk => posTo_at gs ss HGOOD.out HFLAT.out k (by omega)
                have HPT := Lib.hid hgs0
                clear hgs0
                by_cases hd : x.r = 0
                · obtain ⟨t, ht⟩ : ∃ t : PT, t = ⟨x.op, -1, x.k, false⟩ := ⟨_, rfl⟩
                  have HTO : Hid (testOf ss x = (p, t)) := Lib.hid (by unfold testOf; rw [if_pos hd, hp, ht]; rfl)
                  rw [hd] at z11
                  rw [hp]
                  clear hp hrr
                  go_wp2_with fail
                  obtain ⟨at_, hat_⟩ : ∃ at_, at_ = p := ⟨_, rfl⟩
                  subst hat_
                  have hat := Lib.hid hpl'
                  obtain ⟨w12, hw12⟩ : ∃ w12, w12 = w11.setCell ⟨w10.heap.size, 1, none⟩ (.int .i64 (-1)) := ⟨_, rfl⟩
                  have hb12 : Hid (Below w10.heap.size w10 w12) := Lib.hid (by rw [hw12]; exact HB11.out.setCell (p := ⟨w10.heap.size, 1, none⟩) (Nat.le_refl _) _)
                  have HD : Hid (w12.heap[w10.heap.size]? = some (.cells (encT t).toArray 182 (0, 0))) := Lib.hid (by rw [hw12, ht]; exact blk_set HD11.out 1 _)
                  rw [← hw12]
                  clear hw12 HB11 HD11 t1 ft1 z11
                  have hsz12 := hb12.out.size
                  have hf12 := Lib.hid (hfb.out.below hb12.out)
                  obtain ⟨⟨ab, ao, ap⟩, hadr⟩ : ∃ z, adrOf gs gv vb at_ = z := ⟨_, rfl⟩
                  have hrg := hf12.out.rng at_ hat.out
                  have hcl := hf12.out.cell at_ hat.out
                  obtain ⟨_, _, hlit⟩ := lit_of_cell hcl
                  have hap : ap = none := by rw [hadr] at hlit; simp only [Addr.mk.injEq] at hlit; exact hlit.2.2
                  subst hap
                  clear hlit
                  rw [hadr] at hrg hcl
                  have HADR := Lib.hid hadr
                  have k2 := Lib.hid hcl
                  obtain ⟨_, hof2⟩ := HOF.out at_ hat.out
                  rw [hadr] at hof2
                  obtain ⟨_, hgo2⟩ := HG2.out
                  have hnb : ∀ k, k < ss.length → go ≠ (adrOf gs gv vb k).block := fun k hk => HMQ.out.noBlk hgo2 (by decide) (by decide) k (by omega)
                  have k1 := Lib.hid ((hf12.out.old ⟨go, at_ * 2 + 1, none⟩ hgol (fun k hk e => hnb k hk (by rw [← e]))).trans (HGC.out _ _ hof2))
                  have hrg3 : ab < w9.heap.size := hrg.2
                  have N0 : ∀ b, (vt at_).ownBlock = some b → w9.heap.size ≤ b ∧ b < w10.heap.size := fun b hb => own_lt (hfb.out.own at_ hat.out) b hb
                  have N1 : (vt at_).ownBlock ≠ some go := fun e => by have := N0 go e; omega
                  have N2 : (vt at_).ownBlock ≠ some ab := fun e => by have := N0 ab e; omega
                  have N3 : (vt at_).ownBlock ≠ some w10.heap.size := fun e => by have := N0 _ e; omega
                  have hDl := blk_lt HD.out
                  have hrg2 : ab < w12.heap.size := by have := hf12.out.size; omega
                  have hgol2 : go < w12.heap.size := by have := hf12.out.size; omega
                  have htl : (testsAt ss (cs.take j) at_).length ≤ 16 := by
                    have h1 : (testsAt ss (cs.take j) at_).length ≤ (cs.take j).length := List.length_filterMap_le _ _
                    have h2 := HOK.out.c16
                    simp only [List.length_take] at h1
                    omega
                  clear hadr hof2 hgo2 hnb hcl
                  refine Ord.append_order (h := 16) (t := 1) (floats := [(0, 166, .slice (some ⟨go, 0, none⟩) ss.length ocap), (1, 167, .int .i64 at_), (2, 168, .pointer (some ⟨go, at_ * 2, none⟩)), (3, 169, .pointer (some ⟨go, at_ * 2 + 1, none⟩)), (4, 170, .pointer (some ⟨ab, ao, none⟩)), (5, 171, .slice (some ⟨go, 0, none⟩) ss.length ocap), (6, 172, .int .i64 at_), (7, 173, .pointer (some ⟨go, at_ * 2, none⟩)), (8, 174, .pointer (some ⟨go, at_ * 2 + 1, none⟩)), (9, 175, .pointer (some ⟨ab, ao, none⟩)), (10, 176, .pointer (some ⟨ab, ao, none⟩)), (11, 177, vt at_), (12, 178, .agg (encT t).toArray), (15, 181, .pointer (some ⟨ab, ao, none⟩))]) (ib := 13) (sb := 179) (ip := 14) (sp := 180)
                    (by kernel_rfl) rfl (by kernel_rfl) (by kernel_rfl) (by kernel_rfl) (by kernel_rfl) (show [0, 1, 2, 3, 4, 5, 6, 7, 8, 9, 10, 11, 12, 15, 13, 14].Nodup by decide) (show ∀ i, i < 16 → i ∈ [0, 1, 2, 3, 4, 5, 6, 7, 8, 9, 10, 11, 12, 15, 13, 14] by decide) (show ∀ i ∈ [0, 1, 2, 3, 4, 5, 6, 7, 8, 9, 10, 11, 12, 15, 13, 14], i < 16 by decide)
                    (show [166, 167, 168, 169, 170, 171, 172, 173, 174, 175, 176, 177, 178, 181, 179, 180].Nodup by decide) (show ∀ s ∈ [166, 167, 168, 169, 170, 171, 172, 173, 174, 175, 176, 177, 178, 181, 179, 180], s < 184 by decide)
                    w9.heap.size 182 i2 _ 4 32 (vt at_) (testsAt ss (cs.take j) at_).length (cellsOf encT (testsAt ss (cs.take j) at_)) (encT t) (hf12.out.own at_ hat.out) (by omega) ?_ 12 178 (.agg (encT t).toArray)
                    ⟨_, rfl, rfl, rfl, Ord.waits_of (by kernel_rfl), fun a w h => Ord.run_build (Ord.eval_tmp h) (build_t w t)⟩ (by simp) 177 11 44 ⟨_, rfl, rfl, rfl, rfl, Ord.waits_of (by kernel_rfl)⟩ (by simp)
                    Tryd.underlying44 hp2 hz6 hz7 hz8 rfl (by decide) rfl (encT_one t) (by unfold maxLen; omega) (by omega) ?_
                  · intro i' s' x' hm
                    simp only [List.mem_cons, List.not_mem_nil, or_false, Prod.mk.injEq] at hm
                    rcases hm with ⟨rfl, rfl, rfl⟩ | ⟨rfl, rfl, rfl⟩ | ⟨rfl, rfl, rfl⟩ | ⟨rfl, rfl, rfl⟩ | ⟨rfl, rfl, rfl⟩ | ⟨rfl, rfl, rfl⟩ | ⟨rfl, rfl, rfl⟩ | ⟨rfl, rfl, rfl⟩ | ⟨rfl, rfl, rfl⟩ | ⟨rfl, rfl, rfl⟩ | ⟨rfl, rfl, rfl⟩ | ⟨rfl, rfl, rfl⟩ | ⟨rfl, rfl, rfl⟩ | ⟨rfl, rfl, rfl⟩
                    · exact ⟨_, rfl, rfl, rfl, fun a w hs hk hB => Ord.run_move (Ord.eval_tmp ((hs.out 11 (show 11 ∉ [166, 167, 168, 169, 170, 171, 172, 173, 174, 175, 176, 177, 178, 181, 179, 180] by decide)).trans rfl))⟩
                    · exact ⟨_, rfl, rfl, rfl, fun a w hs hk hB => Ord.run_move (Ord.eval_tmp ((hs.out 18 (show 18 ∉ [166, 167, 168, 169, 170, 171, 172, 173, 174, 175, 176, 177, 178, 181, 179, 180] by decide)).trans rfl))⟩
                    · exact ⟨_, rfl, rfl, rfl, fun a w hs hk hB => run_ix (Ord.eval_tmp (hk 0 166 (.slice (some ⟨go, 0, none⟩) ss.length ocap) (by simp) (Ord.waits_of (by kernel_rfl)))) (Ord.eval_tmp (hk 1 167 (.int .i64 at_) (by simp) (Ord.waits_of (by kernel_rfl)))) hat.out⟩
                    · exact ⟨_, rfl, rfl, rfl, fun a w hs hk hB => Ord.run_fld (Ord.eval_tmp (hk 2 168 (.pointer (some ⟨go, at_ * 2, none⟩)) (by simp) (Ord.waits_of (by kernel_rfl)))) (fld_tests1 w _ _)⟩
                    · exact ⟨_, rfl, rfl, rfl, fun a w hs hk hB => Ord.run_load (Ord.eval_tmp (hk 3 169 (.pointer (some ⟨go, at_ * 2 + 1, none⟩)) (by simp) (Ord.waits_of (by kernel_rfl)))) (load_ptr ((World.cell?_of_block (hB go (by omega) N1)).trans k1.out))⟩
                    · exact ⟨_, rfl, rfl, rfl, fun a w hs hk hB => Ord.run_move (Ord.eval_tmp ((hs.out 11 (show 11 ∉ [166, 167, 168, 169, 170, 171, 172, 173, 174, 175, 176, 177, 178, 181, 179, 180] by decide)).trans rfl))⟩
                    · exact ⟨_, rfl, rfl, rfl, fun a w hs hk hB => Ord.run_move (Ord.eval_tmp ((hs.out 18 (show 18 ∉ [166, 167, 168, 169, 170, 171, 172, 173, 174, 175, 176, 177, 178, 181, 179, 180] by decide)).trans rfl))⟩
                    · exact ⟨_, rfl, rfl, rfl, fun a w hs hk hB => run_ix (Ord.eval_tmp (hk 5 171 (.slice (some ⟨go, 0, none⟩) ss.length ocap) (by simp) (Ord.waits_of (by kernel_rfl)))) (Ord.eval_tmp (hk 6 172 (.int .i64 at_) (by simp) (Ord.waits_of (by kernel_rfl)))) hat.out⟩
                    · exact ⟨_, rfl, rfl, rfl, fun a w hs hk hB => Ord.run_fld (Ord.eval_tmp (hk 7 173 (.pointer (some ⟨go, at_ * 2, none⟩)) (by simp) (Ord.waits_of (by kernel_rfl)))) (fld_tests1 w _ _)⟩
                    · exact ⟨_, rfl, rfl, rfl, fun a w hs hk hB => Ord.run_load (Ord.eval_tmp (hk 8 174 (.pointer (some ⟨go, at_ * 2 + 1, none⟩)) (by simp) (Ord.waits_of (by kernel_rfl)))) (load_ptr ((World.cell?_of_block (hB go (by omega) N1)).trans k1.out))⟩
                    · exact ⟨_, rfl, rfl, rfl, fun a w hs hk hB => run_nil (Ord.eval_tmp (hk 9 175 (.pointer (some ⟨ab, ao, none⟩)) (by simp) (Ord.waits_of (by kernel_rfl))))⟩
                    · exact ⟨_, rfl, rfl, rfl, fun a w hs hk hB => Ord.run_load (Ord.eval_tmp (hk 10 176 (.pointer (some ⟨ab, ao, none⟩)) (by simp) (Ord.waits_of (by kernel_rfl)))) (load_tests ((World.cell?_of_block (hB ab (by omega) N2)).trans k2.out))⟩
                    · exact ⟨_, rfl, rfl, rfl, fun a w hs hk hB => Ord.run_load (Ord.eval_tmp ((hs.out 19 (show 19 ∉ [166, 167, 168, 169, 170, 171, 172, 173, 174, 175, 176, 177, 178, 181, 179, 180] by decide)).trans rfl)) (load_test ((hB w10.heap.size (by omega) N3).trans HD.out))⟩
                    · exact ⟨_, rfl, rfl, rfl, fun a w hs hk hB => run_nil (Ord.eval_tmp (hk 4 170 (.pointer (some ⟨ab, ao, none⟩)) (by simp) (Ord.waits_of (by kernel_rfl))))⟩
                  intro w13 gn cap hgr hown hgg _
                  have hbd : Below w12.heap.size w12 w12.drew := ⟨rfl, rfl, rfl, Nat.le_refl _, fun _ _ => rfl⟩
                  have hc13 : w13.cell? ⟨ab, ao, none⟩ = some (vt at_) := (World.cell?_of_block ((hgr.block ab (by show ab < (w12.heap.push _).size; simp; omega) (fun e => N2 e.symm)).trans (Below.heap_alloc w12.drew _ ab hrg2))).trans k2.out
                  have hz13 : w13.frozen? ⟨ab, ao, none⟩ = false := by
                    rw [World.frozen?_of_block ((hgr.block ab (by show ab < (w12.heap.push _).size; simp; omega) (fun e => N2 e.symm)).trans (Below.heap_alloc w12.drew _ ab hrg2))]
                    show w12.frozen? ⟨ab, ao, none⟩ = false
                    rw [hf12.out.fz ⟨ab, ao, none⟩ hrg3, ← HADR.out]
                    exact (HMQ.out.slot at_ (by have := hat.out; omega)).2.1
                  have hf13 := ((hf12.out.below hbd).alloc (.cells (encT t).toArray 182)).app at_ hat.out t hgr (hgg.imp id (fun e => by rw [e]; show (w12.heap.push _).size ≤ _; simp)) hown
                  rw [HADR.out] at hf13
                  have HF13 := Lib.hid hf13
                  simp only [Ord.puts, List.map_cons, List.map_nil, List.cons_append, List.nil_append]
                  clear hf13 hown hgr hgg hbd k1 N0 N1 N2 N3
                  go_wp2_with fail
                  go_roundw
                  case rel =>
                    have h := HF13.out
                    have ets : (fun i => if i = at_ then testsAt ss (cs.take j) at_ ++ [t] else testsAt ss (cs.take j) i) = testsAt ss (cs.take (j + 1)) := by
                      funext i
                      rw [HTK.out, testsAt_snoc, HTO.out]
                      by_cases e : i = at_
                      · subst e; simp
                      · have e' : ¬ at_ = i := fun h => e h.symm
                        simp [e, e']
                    rw [ets] at h
                    exact ⟨j + 1, _, by go_num, by omega, h⟩
                  case measure => simp [intOf]; omega
                obtain ⟨p', r, hp', hr, hpl2, hrl, _⟩ := hrr hd
                obtain rfl : p' = p := by omega
                clear hp' hpl2 hrr
                have hb1 : (x.r == 0) = false := by simp [hd]
                have hf11 := hfb.out.below HB11.out
                have hnumc : ∀ i, i < ss.length → w11.cell? ⟨go, i * 2, none⟩ = some (.int .i64 (locate gs i).1) := fun i hi => by
                  obtain ⟨_, hgo2⟩ := HG2.out
                  have hnb : ∀ k, k < ss.length → go ≠ (adrOf gs gv vb k).block := fun k hk => HMQ.out.noBlk hgo2 (by decide) (by decide) k (by omega)
                  exact (hf11.old ⟨go, i * 2, none⟩ hgol (fun k hk e => hnb k hk (by rw [← e]))).trans (HGC.out _ _ (HOF.out i hi).1)
                have HNUMC := Lib.hid hnumc
                have hgo10 : go ≠ w10.heap.size := by have := hfb.out.size; omega
                have hgo10' : w10.heap.size ≠ go := fun e => hgo10 e.symm
                have hpi : (p' : Int) < (ss.length : Int) := by omega
                have hri : (r : Int) < (ss.length : Int) := by omega
                clear hf11 hnumc
                by_cases hpr : p' = r
                · subst hpr
                  obtain ⟨t, ht⟩ : ∃ t : PT, t = ⟨x.op, -2, x.k, false⟩ := ⟨_, rfl⟩
                  have HTO : Hid (testOf ss x = (p', t)) := Lib.hid (by unfold testOf; rw [if_neg hd, if_pos (hp.trans hr.symm), hp, ht]; rfl)
                  rw [hp, hr]
                  clear hp hr hri hrl HNUMC hgo10 hgo10'
                  go_wp2_with fail
                  obtain ⟨at_, hat_⟩ : ∃ at_, at_ = p' := ⟨_, rfl⟩
                  subst hat_
                  have hat := Lib.hid hpl'
                  obtain ⟨w12, hw12⟩ : ∃ w12, w12 = w11.setCell ⟨w10.heap.size, 1, none⟩ (.int .i64 (-2)) := ⟨_, rfl⟩
                  have hb12 : Hid (Below w10.heap.size w10 w12) := Lib.hid (by rw [hw12]; exact HB11.out.setCell (p := ⟨w10.heap.size, 1, none⟩) (Nat.le_refl _) _)
                  have HD : Hid (w12.heap[w10.heap.size]? = some (.cells (encT t).toArray 182 (0, 0))) := Lib.hid (by rw [hw12, ht]; exact blk_set HD11.out 1 _)
                  rw [← hw12]
                  clear hw12 HB11 HD11 t1 ft1 z11
                  have hsz12 := hb12.out.size
                  have hf12 := Lib.hid (hfb.out.below hb12.out)
                  obtain ⟨⟨ab, ao, ap⟩, hadr⟩ : ∃ z, adrOf gs gv vb at_ = z := ⟨_, rfl⟩
                  have hrg := hf12.out.rng at_ hat.out
                  have hcl := hf12.out.cell at_ hat.out
                  obtain ⟨_, _, hlit⟩ := lit_of_cell hcl
                  have hap : ap = none := by rw [hadr] at hlit; simp only [Addr.mk.injEq] at hlit; exact hlit.2.2
                  subst hap
                  clear hlit
                  rw [hadr] at hrg hcl
                  have HADR := Lib.hid hadr
                  have k2 := Lib.hid hcl
                  obtain ⟨_, hof2⟩ := HOF.out at_ hat.out
                  rw [hadr] at hof2
                  obtain ⟨_, hgo2⟩ := HG2.out
                  have hnb : ∀ k, k < ss.length → go ≠ (adrOf gs gv vb k).block := fun k hk => HMQ.out.noBlk hgo2 (by decide) (by decide) k (by omega)
                  have k1 := Lib.hid ((hf12.out.old ⟨go, at_ * 2 + 1, none⟩ hgol (fun k hk e => hnb k hk (by rw [← e]))).trans (HGC.out _ _ hof2))
                  have hrg3 : ab < w9.heap.size := hrg.2
                  have N0 : ∀ b, (vt at_).ownBlock = some b → w9.heap.size ≤ b ∧ b < w10.heap.size := fun b hb => own_lt (hfb.out.own at_ hat.out) b hb
                  have N1 : (vt at_).ownBlock ≠ some go := fun e => by have := N0 go e; omega
                  have N2 : (vt at_).ownBlock ≠ some ab := fun e => by have := N0 ab e; omega
                  have N3 : (vt at_).ownBlock ≠ some w10.heap.size := fun e => by have := N0 _ e; omega
                  have hDl := blk_lt HD.out
                  have hrg2 : ab < w12.heap.size := by have := hf12.out.size; omega
                  have hgol2 : go < w12.heap.size := by have := hf12.out.size; omega
                  have htl : (testsAt ss (cs.take j) at_).length ≤ 16 := by
                    have h1 : (testsAt ss (cs.take j) at_).length ≤ (cs.take j).length := List.length_filterMap_le _ _
                    have h2 := HOK.out.c16
                    simp only [List.length_take] at h1
                    omega
                  clear hadr hof2 hgo2 hnb hcl
                  refine Ord.append_order (h := 16) (t := 1) (floats := [(0, 166, .slice (some ⟨go, 0, none⟩) ss.length ocap), (1, 167, .int .i64 at_), (2, 168, .pointer (some ⟨go, at_ * 2, none⟩)), (3, 169, .pointer (some ⟨go, at_ * 2 + 1, none⟩)), (4, 170, .pointer (some ⟨ab, ao, none⟩)), (5, 171, .slice (some ⟨go, 0, none⟩) ss.length ocap), (6, 172, .int .i64 at_), (7, 173, .pointer (some ⟨go, at_ * 2, none⟩)), (8, 174, .pointer (some ⟨go, at_ * 2 + 1, none⟩)), (9, 175, .pointer (some ⟨ab, ao, none⟩)), (10, 176, .pointer (some ⟨ab, ao, none⟩)), (11, 177, vt at_), (12, 178, .agg (encT t).toArray), (15, 181, .pointer (some ⟨ab, ao, none⟩))]) (ib := 13) (sb := 179) (ip := 14) (sp := 180)
                    (by kernel_rfl) rfl (by kernel_rfl) (by kernel_rfl) (by kernel_rfl) (by kernel_rfl) (show [0, 1, 2, 3, 4, 5, 6, 7, 8, 9, 10, 11, 12, 15, 13, 14].Nodup by decide) (show ∀ i, i < 16 → i ∈ [0, 1, 2, 3, 4, 5, 6, 7, 8, 9, 10, 11, 12, 15, 13, 14] by decide) (show ∀ i ∈ [0, 1, 2, 3, 4, 5, 6, 7, 8, 9, 10, 11, 12, 15, 13, 14], i < 16 by decide)
                    (show [166, 167, 168, 169, 170, 171, 172, 173, 174, 175, 176, 177, 178, 181, 179, 180].Nodup by decide) (show ∀ s ∈ [166, 167, 168, 169, 170, 171, 172, 173, 174, 175, 176, 177, 178, 181, 179, 180], s < 184 by decide)
                    w9.heap.size 182 i2 _ 4 32 (vt at_) (testsAt ss (cs.take j) at_).length (cellsOf encT (testsAt ss (cs.take j) at_)) (encT t) (hf12.out.own at_ hat.out) (by omega) ?_ 12 178 (.agg (encT t).toArray)
                    ⟨_, rfl, rfl, rfl, Ord.waits_of (by kernel_rfl), fun a w h => Ord.run_build (Ord.eval_tmp h) (build_t w t)⟩ (by simp) 177 11 44 ⟨_, rfl, rfl, rfl, rfl, Ord.waits_of (by kernel_rfl)⟩ (by simp)
                    Tryd.underlying44 hp2 hz6 hz7 hz8 rfl (by decide) rfl (encT_one t) (by unfold maxLen; omega) (by omega) ?_
                  · intro i' s' x' hm
                    simp only [List.mem_cons, List.not_mem_nil, or_false, Prod.mk.injEq] at hm
                    rcases hm with ⟨rfl, rfl, rfl⟩ | ⟨rfl, rfl, rfl⟩ | ⟨rfl, rfl, rfl⟩ | ⟨rfl, rfl, rfl⟩ | ⟨rfl, rfl, rfl⟩ | ⟨rfl, rfl, rfl⟩ | ⟨rfl, rfl, rfl⟩ | ⟨rfl, rfl, rfl⟩ | ⟨rfl, rfl, rfl⟩ | ⟨rfl, rfl, rfl⟩ | ⟨rfl, rfl, rfl⟩ | ⟨rfl, rfl, rfl⟩ | ⟨rfl, rfl, rfl⟩ | ⟨rfl, rfl, rfl⟩
                    · exact ⟨_, rfl, rfl, rfl, fun a w hs hk hB => Ord.run_move (Ord.eval_tmp ((hs.out 11 (show 11 ∉ [166, 167, 168, 169, 170, 171, 172, 173, 174, 175, 176, 177, 178, 181, 179, 180] by decide)).trans rfl))⟩
                    · exact ⟨_, rfl, rfl, rfl, fun a w hs hk hB => Ord.run_move (Ord.eval_tmp ((hs.out 18 (show 18 ∉ [166, 167, 168, 169, 170, 171, 172, 173, 174, 175, 176, 177, 178, 181, 179, 180] by decide)).trans rfl))⟩
                    · exact ⟨_, rfl, rfl, rfl, fun a w hs hk hB => run_ix (Ord.eval_tmp (hk 0 166 (.slice (some ⟨go, 0, none⟩) ss.length ocap) (by simp) (Ord.waits_of (by kernel_rfl)))) (Ord.eval_tmp (hk 1 167 (.int .i64 at_) (by simp) (Ord.waits_of (by kernel_rfl)))) hat.out⟩
                    · exact ⟨_, rfl, rfl, rfl, fun a w hs hk hB => Ord.run_fld (Ord.eval_tmp (hk 2 168 (.pointer (some ⟨go, at_ * 2, none⟩)) (by simp) (Ord.waits_of (by kernel_rfl)))) (fld_tests1 w _ _)⟩
                    · exact ⟨_, rfl, rfl, rfl, fun a w hs hk hB => Ord.run_load (Ord.eval_tmp (hk 3 169 (.pointer (some ⟨go, at_ * 2 + 1, none⟩)) (by simp) (Ord.waits_of (by kernel_rfl)))) (load_ptr ((World.cell?_of_block (hB go (by omega) N1)).trans k1.out))⟩
                    · exact ⟨_, rfl, rfl, rfl, fun a w hs hk hB => Ord.run_move (Ord.eval_tmp ((hs.out 11 (show 11 ∉ [166, 167, 168, 169, 170, 171, 172, 173, 174, 175, 176, 177, 178, 181, 179, 180] by decide)).trans rfl))⟩
                    · exact ⟨_, rfl, rfl, rfl, fun a w hs hk hB => Ord.run_move (Ord.eval_tmp ((hs.out 18 (show 18 ∉ [166, 167, 168, 169, 170, 171, 172, 173, 174, 175, 176, 177, 178, 181, 179, 180] by decide)).trans rfl))⟩
                    · exact ⟨_, rfl, rfl, rfl, fun a w hs hk hB => run_ix (Ord.eval_tmp (hk 5 171 (.slice (some ⟨go, 0, none⟩) ss.length ocap) (by simp) (Ord.waits_of (by kernel_rfl)))) (Ord.eval_tmp (hk 6 172 (.int .i64 at_) (by simp) (Ord.waits_of (by kernel_rfl)))) hat.out⟩
                    · exact ⟨_, rfl, rfl, rfl, fun a w hs hk hB => Ord.run_fld (Ord.eval_tmp (hk 7 173 (.pointer (some ⟨go, at_ * 2, none⟩)) (by simp) (Ord.waits_of (by kernel_rfl)))) (fld_tests1 w _ _)⟩
                    · exact ⟨_, rfl, rfl, rfl, fun a w hs hk hB => Ord.run_load (Ord.eval_tmp (hk 8 174 (.pointer (some ⟨go, at_ * 2 + 1, none⟩)) (by simp) (Ord.waits_of (by kernel_rfl)))) (load_ptr ((World.cell?_of_block (hB go (by omega) N1)).trans k1.out))⟩
                    · exact ⟨_, rfl, rfl, rfl, fun a w hs hk hB => run_nil (Ord.eval_tmp (hk 9 175 (.pointer (some ⟨ab, ao, none⟩)) (by simp) (Ord.waits_of (by kernel_rfl))))⟩
                    · exact ⟨_, rfl, rfl, rfl, fun a w hs hk hB => Ord.run_load (Ord.eval_tmp (hk 10 176 (.pointer (some ⟨ab, ao, none⟩)) (by simp) (Ord.waits_of (by kernel_rfl)))) (load_tests ((World.cell?_of_block (hB ab (by omega) N2)).trans k2.out))⟩
                    · exact ⟨_, rfl, rfl, rfl, fun a w hs hk hB => Ord.run_load (Ord.eval_tmp ((hs.out 19 (show 19 ∉ [166, 167, 168, 169, 170, 171, 172, 173, 174, 175, 176, 177, 178, 181, 179, 180] by decide)).trans rfl)) (load_test ((hB w10.heap.size (by omega) N3).trans HD.out))⟩
                    · exact ⟨_, rfl, rfl, rfl, fun a w hs hk hB => run_nil (Ord.eval_tmp (hk 4 170 (.pointer (some ⟨ab, ao, none⟩)) (by simp) (Ord.waits_of (by kernel_rfl))))⟩
                  intro w13 gn cap hgr hown hgg _
                  have hbd : Below w12.heap.size w12 w12.drew := ⟨rfl, rfl, rfl, Nat.le_refl _, fun _ _ => rfl⟩
                  have hc13 : w13.cell? ⟨ab, ao, none⟩ = some (vt at_) := (World.cell?_of_block ((hgr.block ab (by show ab < (w12.heap.push _).size; simp; omega) (fun e => N2 e.symm)).trans (Below.heap_alloc w12.drew _ ab hrg2))).trans k2.out
                  have hz13 : w13.frozen? ⟨ab, ao, none⟩ = false := by
                    rw [World.frozen?_of_block ((hgr.block ab (by show ab < (w12.heap.push _).size; simp; omega) (fun e => N2 e.symm)).trans (Below.heap_alloc w12.drew _ ab hrg2))]
                    show w12.frozen? ⟨ab, ao, none⟩ = false
                    rw [hf12.out.fz ⟨ab, ao, none⟩ hrg3, ← HADR.out]
                    exact (HMQ.out.slot at_ (by have := hat.out; omega)).2.1
                  have hf13 := ((hf12.out.below hbd).alloc (.cells (encT t).toArray 182)).app at_ hat.out t hgr (hgg.imp id (fun e => by rw [e]; show (w12.heap.push _).size ≤ _; simp)) hown
                  rw [HADR.out] at hf13
                  have HF13 := Lib.hid hf13
                  simp only [Ord.puts, List.map_cons, List.map_nil, List.cons_append, List.nil_append]
                  clear hf13 hown hgr hgg hbd k1 N0 N1 N2 N3
                  go_wp2_with fail
                  go_roundw
                  case rel =>
                    have h := HF13.out
                    have ets : (fun i => if i = at_ then testsAt ss (cs.take j) at_ ++ [t] else testsAt ss (cs.take j) i) = testsAt ss (cs.take (j + 1)) := by
                      funext i
                      rw [HTK.out, testsAt_snoc, HTO.out]
                      by_cases e : i = at_
                      · subst e; simp
                      · have e' : ¬ at_ = i := fun h => e h.symm
                        simp [e, e']
                    rw [ets] at h
                    exact ⟨j + 1, _, by go_num, by omega, h⟩
                  case measure => simp [intOf]; omega
                by_cases hlt2 : r < p'
                · obtain ⟨t, ht⟩ : ∃ t : PT, t = ⟨x.op, (locate gs r).1, x.k, false⟩ := ⟨_, rfl⟩
                  have HTO : Hid (testOf ss x = (p', t)) := Lib.hid (by
                    unfold testOf
                    rw [if_neg hd, hp, hr, if_neg (by omega), if_pos (by omega), ht]
                    have := HPT.out r hrl
                    simp only [Int.toNat_natCast, this]
                    simp)
                  have c35 := HNUMC.out r hrl
                  have hcmp : (r : Int) < (p' : Int) := by omega
                  have hcm2 : ((p' : Int) == (r : Int)) = false := by simp; omega
                  rw [hp, hr]
                  clear hp hr HNUMC
                  go_wp2_with fail
                  obtain ⟨at_, hat_⟩ : ∃ at_, at_ = p' := ⟨_, rfl⟩
                  subst hat_
                  have hat := Lib.hid hpl'
                  obtain ⟨w12, hw12⟩ : ∃ w12, w12 = w11.setCell ⟨w10.heap.size, 1, none⟩ (.int .i64 (locate gs r).1) := ⟨_, rfl⟩
                  have hb12 : Hid (Below w10.heap.size w10 w12) := Lib.hid (by rw [hw12]; exact HB11.out.setCell (p := ⟨w10.heap.size, 1, none⟩) (Nat.le_refl _) _)
                  have HD : Hid (w12.heap[w10.heap.size]? = some (.cells (encT t).toArray 182 (0, 0))) := Lib.hid (by rw [hw12, ht]; exact blk_set HD11.out 1 _)
                  rw [← hw12]
                  clear hw12 HB11 HD11 t1 ft1 z11
                  have hsz12 := hb12.out.size
                  have hf12 := Lib.hid (hfb.out.below hb12.out)
                  obtain ⟨⟨ab, ao, ap⟩, hadr⟩ : ∃ z, adrOf gs gv vb at_ = z := ⟨_, rfl⟩
                  have hrg := hf12.out.rng at_ hat.out
                  have hcl := hf12.out.cell at_ hat.out
                  obtain ⟨_, _, hlit⟩ := lit_of_cell hcl
                  have hap : ap = none := by rw [hadr] at hlit; simp only [Addr.mk.injEq] at hlit; exact hlit.2.2
                  subst hap
                  clear hlit
                  rw [hadr] at hrg hcl
                  have HADR := Lib.hid hadr
                  have k2 := Lib.hid hcl
                  obtain ⟨_, hof2⟩ := HOF.out at_ hat.out
                  rw [hadr] at hof2
                  obtain ⟨_, hgo2⟩ := HG2.out
                  have hnb : ∀ k, k < ss.length → go ≠ (adrOf gs gv vb k).block := fun k hk => HMQ.out.noBlk hgo2 (by decide) (by decide) k (by omega)
                  have k1 := Lib.hid ((hf12.out.old ⟨go, at_ * 2 + 1, none⟩ hgol (fun k hk e => hnb k hk (by rw [← e]))).trans (HGC.out _ _ hof2))
                  have hrg3 : ab < w9.heap.size := hrg.2
                  have N0 : ∀ b, (vt at_).ownBlock = some b → w9.heap.size ≤ b ∧ b < w10.heap.size := fun b hb => own_lt (hfb.out.own at_ hat.out) b hb
                  have N1 : (vt at_).ownBlock ≠ some go := fun e => by have := N0 go e; omega
                  have N2 : (vt at_).ownBlock ≠ some ab := fun e => by have := N0 ab e; omega
                  have N3 : (vt at_).ownBlock ≠ some w10.heap.size := fun e => by have := N0 _ e; omega
                  have hDl := blk_lt HD.out
                  have hrg2 : ab < w12.heap.size := by have := hf12.out.size; omega
                  have hgol2 : go < w12.heap.size := by have := hf12.out.size; omega
                  have htl : (testsAt ss (cs.take j) at_).length ≤ 16 := by
                    have h1 : (testsAt ss (cs.take j) at_).length ≤ (cs.take j).length := List.length_filterMap_le _ _
                    have h2 := HOK.out.c16
                    simp only [List.length_take] at h1
                    omega
                  clear hadr hof2 hgo2 hnb hcl
                  refine Ord.append_order (h := 16) (t := 1) (floats := [(0, 166, .slice (some ⟨go, 0, none⟩) ss.length ocap), (1, 167, .int .i64 at_), (2, 168, .pointer (some ⟨go, at_ * 2, none⟩)), (3, 169, .pointer (some ⟨go, at_ * 2 + 1, none⟩)), (4, 170, .pointer (some ⟨ab, ao, none⟩)), (5, 171, .slice (some ⟨go, 0, none⟩) ss.length ocap), (6, 172, .int .i64 at_), (7, 173, .pointer (some ⟨go, at_ * 2, none⟩)), (8, 174, .pointer (some ⟨go, at_ * 2 + 1, none⟩)), (9, 175, .pointer (some ⟨ab, ao, none⟩)), (10, 176, .pointer (some ⟨ab, ao, none⟩)), (11, 177, vt at_), (12, 178, .agg (encT t).toArray), (15, 181, .pointer (some ⟨ab, ao, none⟩))]) (ib := 13) (sb := 179) (ip := 14) (sp := 180)
                    (by kernel_rfl) rfl (by kernel_rfl) (by kernel_rfl) (by kernel_rfl) (by kernel_rfl) (show [0, 1, 2, 3, 4, 5, 6, 7, 8, 9, 10, 11, 12, 15, 13, 14].Nodup by decide) (show ∀ i, i < 16 → i ∈ [0, 1, 2, 3, 4, 5, 6, 7, 8, 9, 10, 11, 12, 15, 13, 14] by decide) (show ∀ i ∈ [0, 1, 2, 3, 4, 5, 6, 7, 8, 9, 10, 11, 12, 15, 13, 14], i < 16 by decide)
                    (show [166, 167, 168, 169, 170, 171, 172, 173, 174, 175, 176, 177, 178, 181, 179, 180].Nodup by decide) (show ∀ s ∈ [166, 167, 168, 169, 170, 171, 172, 173, 174, 175, 176, 177, 178, 181, 179, 180], s < 184 by decide)
                    w9.heap.size 182 i2 _ 4 32 (vt at_) (testsAt ss (cs.take j) at_).length (cellsOf encT (testsAt ss (cs.take j) at_)) (encT t) (hf12.out.own at_ hat.out) (by omega) ?_ 12 178 (.agg (encT t).toArray)
                    ⟨_, rfl, rfl, rfl, Ord.waits_of (by kernel_rfl), fun a w h => Ord.run_build (Ord.eval_tmp h) (build_t w t)⟩ (by simp) 177 11 44 ⟨_, rfl, rfl, rfl, rfl, Ord.waits_of (by kernel_rfl)⟩ (by simp)
                    Tryd.underlying44 hp2 hz6 hz7 hz8 rfl (by decide) rfl (encT_one t) (by unfold maxLen; omega) (by omega) ?_
                  · intro i' s' x' hm
                    simp only [List.mem_cons, List.not_mem_nil, or_false, Prod.mk.injEq] at hm
                    rcases hm with ⟨rfl, rfl, rfl⟩ | ⟨rfl, rfl, rfl⟩ | ⟨rfl, rfl, rfl⟩ | ⟨rfl, rfl, rfl⟩ | ⟨rfl, rfl, rfl⟩ | ⟨rfl, rfl, rfl⟩ | ⟨rfl, rfl, rfl⟩ | ⟨rfl, rfl, rfl⟩ | ⟨rfl, rfl, rfl⟩ | ⟨rfl, rfl, rfl⟩ | ⟨rfl, rfl, rfl⟩ | ⟨rfl, rfl, rfl⟩ | ⟨rfl, rfl, rfl⟩ | ⟨rfl, rfl, rfl⟩
                    · exact ⟨_, rfl, rfl, rfl, fun a w hs hk hB => Ord.run_move (Ord.eval_tmp ((hs.out 11 (show 11 ∉ [166, 167, 168, 169, 170, 171, 172, 173, 174, 175, 176, 177, 178, 181, 179, 180] by decide)).trans rfl))⟩
                    · exact ⟨_, rfl, rfl, rfl, fun a w hs hk hB => Ord.run_move (Ord.eval_tmp ((hs.out 18 (show 18 ∉ [166, 167, 168, 169, 170, 171, 172, 173, 174, 175, 176, 177, 178, 181, 179, 180] by decide)).trans rfl))⟩
                    · exact ⟨_, rfl, rfl, rfl, fun a w hs hk hB => run_ix (Ord.eval_tmp (hk 0 166 (.slice (some ⟨go, 0, none⟩) ss.length ocap) (by simp) (Ord.waits_of (by kernel_rfl)))) (Ord.eval_tmp (hk 1 167 (.int .i64 at_) (by simp) (Ord.waits_of (by kernel_rfl)))) hat.out⟩
                    · exact ⟨_, rfl, rfl, rfl, fun a w hs hk hB => Ord.run_fld (Ord.eval_tmp (hk 2 168 (.pointer (some ⟨go, at_ * 2, none⟩)) (by simp) (Ord.waits_of (by kernel_rfl)))) (fld_tests1 w _ _)⟩
                    · exact ⟨_, rfl, rfl, rfl, fun a w hs hk hB => Ord.run_load (Ord.eval_tmp (hk 3 169 (.pointer (some ⟨go, at_ * 2 + 1, none⟩)) (by simp) (Ord.waits_of (by kernel_rfl)))) (load_ptr ((World.cell?_of_block (hB go (by omega) N1)).trans k1.out))⟩
                    · exact ⟨_, rfl, rfl, rfl, fun a w hs hk hB => Ord.run_move (Ord.eval_tmp ((hs.out 11 (show 11 ∉ [166, 167, 168, 169, 170, 171, 172, 173, 174, 175, 176, 177, 178, 181, 179, 180] by decide)).trans rfl))⟩
                    · exact ⟨_, rfl, rfl, rfl, fun a w hs hk hB => Ord.run_move (Ord.eval_tmp ((hs.out 18 (show 18 ∉ [166, 167, 168, 169, 170, 171, 172, 173, 174, 175, 176, 177, 178, 181, 179, 180] by decide)).trans rfl))⟩
                    · exact ⟨_, rfl, rfl, rfl, fun a w hs hk hB => run_ix (Ord.eval_tmp (hk 5 171 (.slice (some ⟨go, 0, none⟩) ss.length ocap) (by simp) (Ord.waits_of (by kernel_rfl)))) (Ord.eval_tmp (hk 6 172 (.int .i64 at_) (by simp) (Ord.waits_of (by kernel_rfl)))) hat.out⟩
                    · exact ⟨_, rfl, rfl, rfl, fun a w hs hk hB => Ord.run_fld (Ord.eval_tmp (hk 7 173 (.pointer (some ⟨go, at_ * 2, none⟩)) (by simp) (Ord.waits_of (by kernel_rfl)))) (fld_tests1 w _ _)⟩
                    · exact ⟨_, rfl, rfl, rfl, fun a w hs hk hB => Ord.run_load (Ord.eval_tmp (hk 8 174 (.pointer (some ⟨go, at_ * 2 + 1, none⟩)) (by simp) (Ord.waits_of (by kernel_rfl)))) (load_ptr ((World.cell?_of_block (hB go (by omega) N1)).trans k1.out))⟩
                    · exact ⟨_, rfl, rfl, rfl, fun a w hs hk hB => run_nil (Ord.eval_tmp (hk 9 175 (.pointer (some ⟨ab, ao, none⟩)) (by simp) (Ord.waits_of (by kernel_rfl))))⟩
                    · exact ⟨_, rfl, rfl, rfl, fun a w hs hk hB => Ord.run_load (Ord.eval_tmp (hk 10 176 (.pointer (some ⟨ab, ao, none⟩)) (by simp) (Ord.waits_of (by kernel_rfl)))) (load_tests ((World.cell?_of_block (hB ab (by omega) N2)).trans k2.out))⟩
                    · exact ⟨_, rfl, rfl, rfl, fun a w hs hk hB => Ord.run_load (Ord.eval_tmp ((hs.out 19 (show 19 ∉ [166, 167, 168, 169, 170, 171, 172, 173, 174, 175, 176, 177, 178, 181, 179, 180] by decide)).trans rfl)) (load_test ((hB w10.heap.size (by omega) N3).trans HD.out))⟩
                    · exact ⟨_, rfl, rfl, rfl, fun a w hs hk hB => run_nil (Ord.eval_tmp (hk 4 170 (.pointer (some ⟨ab, ao, none⟩)) (by simp) (Ord.waits_of (by kernel_rfl))))⟩
                  intro w13 gn cap hgr hown hgg _
                  have hbd : Below w12.heap.size w12 w12.drew := ⟨rfl, rfl, rfl, Nat.le_refl _, fun _ _ => rfl⟩
                  have hc13 : w13.cell? ⟨ab, ao, none⟩ = some (vt at_) := (World.cell?_of_block ((hgr.block ab (by show ab < (w12.heap.push _).size; simp; omega) (fun e => N2 e.symm)).trans (Below.heap_alloc w12.drew _ ab hrg2))).trans k2.out
                  have hz13 : w13.frozen? ⟨ab, ao, none⟩ = false := by
                    rw [World.frozen?_of_block ((hgr.block ab (by show ab < (w12.heap.push _).size; simp; omega) (fun e => N2 e.symm)).trans (Below.heap_alloc w12.drew _ ab hrg2))]
                    show w12.frozen? ⟨ab, ao, none⟩ = false
                    rw [hf12.out.fz ⟨ab, ao, none⟩ hrg3, ← HADR.out]
                    exact (HMQ.out.slot at_ (by have := hat.out; omega)).2.1
                  have hf13 := ((hf12.out.below hbd).alloc (.cells (encT t).toArray 182)).app at_ hat.out t hgr (hgg.imp id (fun e => by rw [e]; show (w12.heap.push _).size ≤ _; simp)) hown
                  rw [HADR.out] at hf13
                  have HF13 := Lib.hid hf13
                  simp only [Ord.puts, List.map_cons, List.map_nil, List.cons_append, List.nil_append]
                  clear hf13 hown hgr hgg hbd k1 N0 N1 N2 N3
                  go_wp2_with fail
                  go_roundw
                  case rel =>
                    have h := HF13.out
                    have ets : (fun i => if i = at_ then testsAt ss (cs.take j) at_ ++ [t] else testsAt ss (cs.take j) i) = testsAt ss (cs.take (j + 1)) := by
                      funext i
                      rw [HTK.out, testsAt_snoc, HTO.out]
                      by_cases e : i = at_
                      · subst e; simp
                      · have e' : ¬ at_ = i := fun h => e h.symm
                        simp [e, e']
                    rw [ets] at h
                    exact ⟨j + 1, _, by go_num, by omega, h⟩
                  case measure => simp [intOf]; omega
                obtain ⟨t, ht⟩ : ∃ t : PT, t = ⟨x.op, (locate gs p').1, x.k, true⟩ := ⟨_, rfl⟩
                have HTO : Hid (testOf ss x = (r, t)) := Lib.hid (by
                  unfold testOf
                  rw [if_neg hd, hp, hr, if_neg (by omega), if_neg (by omega), ht]
                  have := HPT.out p' hpl'
                  simp only [Int.toNat_natCast, this]
                  simp)
                have c35 := HNUMC.out p' hpl'
                have hcmp : (p' : Int) ≤ (r : Int) := by omega
                have hcm2 : ((p' : Int) == (r : Int)) = false := by simp; omega
                have t3 : w11.cell? ⟨w10.heap.size, 3, none⟩ = some (.bool false) := (Lib.cell_of_heap HD11.out 3).trans rfl
                have ft3 : w11.frozen? ⟨w10.heap.size, 3, none⟩ = false := Lib.frozen_of_heap HD11.out 3
                rw [hp, hr]
                clear hp hr HNUMC
                go_wp2_with fail
                go_region_held3 (fun w' => w'.cell? ⟨go, p' * 2, none⟩ = some (.int .i64 (locate gs p').1)) (go_keep) (fail)
                obtain ⟨at_, hat_⟩ : ∃ at_, at_ = r := ⟨_, rfl⟩
                subst hat_
                have hat := Lib.hid hrl
                obtain ⟨w12, hw12⟩ : ∃ w12, w12 = ((w11.setCell ⟨w10.heap.size, 1, none⟩ (.int .i64 (locate gs p').1)).setCell ⟨w10.heap.size, 3, none⟩ (.bool true)).drew := ⟨_, rfl⟩
                have hb12 : Hid (Below w10.heap.size w10 w12) := Lib.hid (by rw [hw12]; exact (have h := (HB11.out.setCell (p := ⟨w10.heap.size, 1, none⟩) (Nat.le_refl _) (.int .i64 (locate gs p').1)).setCell (p := ⟨w10.heap.size, 3, none⟩) (Nat.le_refl _) (.bool true); ⟨h.os, h.tape, h.output, h.size, h.block⟩))
                have HD : Hid (w12.heap[w10.heap.size]? = some (.cells (encT t).toArray 182 (0, 0))) := Lib.hid (by rw [hw12, ht]; exact (blk_set (blk_set HD11.out 1 _) 3 _))
                change Exit.inBlock _ _ Exit.normal _ _
                rw [← hw12]
                clear hw12 HB11 HD11 t1 ft1 z11 t3 ft3
                go_wp2_with fail
                have hsz12 := hb12.out.size
                have hf12 := Lib.hid (hfb.out.below hb12.out)
                obtain ⟨⟨ab, ao, ap⟩, hadr⟩ : ∃ z, adrOf gs gv vb at_ = z := ⟨_, rfl⟩
                have hrg := hf12.out.rng at_ hat.out
                have hcl := hf12.out.cell at_ hat.out
                obtain ⟨_, _, hlit⟩ := lit_of_cell hcl
                have hap : ap = none := by rw [hadr] at hlit; simp only [Addr.mk.injEq] at hlit; exact hlit.2.2
                subst hap
                clear hlit
                rw [hadr] at hrg hcl
                have HADR := Lib.hid hadr
                have k2 := Lib.hid hcl
                obtain ⟨_, hof2⟩ := HOF.out at_ hat.out
                rw [hadr] at hof2
                obtain ⟨_, hgo2⟩ := HG2.out
                have hnb : ∀ k, k < ss.length → go ≠ (adrOf gs gv vb k).block := fun k hk => HMQ.out.noBlk hgo2 (by decide) (by decide) k (by omega)
                have k1 := Lib.hid ((hf12.out.old ⟨go, at_ * 2 + 1, none⟩ hgol (fun k hk e => hnb k hk (by rw [← e]))).trans (HGC.out _ _ hof2))
                have hrg3 : ab < w9.heap.size := hrg.2
                have N0 : ∀ b, (vt at_).ownBlock = some b → w9.heap.size ≤ b ∧ b < w10.heap.size := fun b hb => own_lt (hfb.out.own at_ hat.out) b hb
                have N1 : (vt at_).ownBlock ≠ some go := fun e => by have := N0 go e; omega
                have N2 : (vt at_).ownBlock ≠ some ab := fun e => by have := N0 ab e; omega
                have N3 : (vt at_).ownBlock ≠ some w10.heap.size := fun e => by have := N0 _ e; omega
                have hDl := blk_lt HD.out
                have hrg2 : ab < w12.heap.size := by have := hf12.out.size; omega
                have hgol2 : go < w12.heap.size := by have := hf12.out.size; omega
                have htl : (testsAt ss (cs.take j) at_).length ≤ 16 := by
                  have h1 : (testsAt ss (cs.take j) at_).length ≤ (cs.take j).length := List.length_filterMap_le _ _
                  have h2 := HOK.out.c16
                  simp only [List.length_take] at h1
                  omega
                clear hadr hof2 hgo2 hnb hcl
                refine Ord.append_order (h := 16) (t := 1) (floats := [(0, 166, .slice (some ⟨go, 0, none⟩) ss.length ocap), (1, 167, .int .i64 at_), (2, 168, .pointer (some ⟨go, at_ * 2, none⟩)), (3, 169, .pointer (some ⟨go, at_ * 2 + 1, none⟩)), (4, 170, .pointer (some ⟨ab, ao, none⟩)), (5, 171, .slice (some ⟨go, 0, none⟩) ss.length ocap), (6, 172, .int .i64 at_), (7, 173, .pointer (some ⟨go, at_ * 2, none⟩)), (8, 174, .pointer (some ⟨go, at_ * 2 + 1, none⟩)), (9, 175, .pointer (some ⟨ab, ao, none⟩)), (10, 176, .pointer (some ⟨ab, ao, none⟩)), (11, 177, vt at_), (12, 178, .agg (encT t).toArray), (15, 181, .pointer (some ⟨ab, ao, none⟩))]) (ib := 13) (sb := 179) (ip := 14) (sp := 180)
                  (by kernel_rfl) rfl (by kernel_rfl) (by kernel_rfl) (by kernel_rfl) (by kernel_rfl) (show [0, 1, 2, 3, 4, 5, 6, 7, 8, 9, 10, 11, 12, 15, 13, 14].Nodup by decide) (show ∀ i, i < 16 → i ∈ [0, 1, 2, 3, 4, 5, 6, 7, 8, 9, 10, 11, 12, 15, 13, 14] by decide) (show ∀ i ∈ [0, 1, 2, 3, 4, 5, 6, 7, 8, 9, 10, 11, 12, 15, 13, 14], i < 16 by decide)
                  (show [166, 167, 168, 169, 170, 171, 172, 173, 174, 175, 176, 177, 178, 181, 179, 180].Nodup by decide) (show ∀ s ∈ [166, 167, 168, 169, 170, 171, 172, 173, 174, 175, 176, 177, 178, 181, 179, 180], s < 184 by decide)
                  w9.heap.size 182 i2 _ 4 32 (vt at_) (testsAt ss (cs.take j) at_).length (cellsOf encT (testsAt ss (cs.take j) at_)) (encT t) (hf12.out.own at_ hat.out) (by omega) ?_ 12 178 (.agg (encT t).toArray)
                  ⟨_, rfl, rfl, rfl, Ord.waits_of (by kernel_rfl), fun a w h => Ord.run_build (Ord.eval_tmp h) (build_t w t)⟩ (by simp) 177 11 44 ⟨_, rfl, rfl, rfl, rfl, Ord.waits_of (by kernel_rfl)⟩ (by simp)
                  Tryd.underlying44 hp2 hz6 hz7 hz8 rfl (by decide) rfl (encT_one t) (by unfold maxLen; omega) (by omega) ?_
                · intro i' s' x' hm
                  simp only [List.mem_cons, List.not_mem_nil, or_false, Prod.mk.injEq] at hm
                  rcases hm with ⟨rfl, rfl, rfl⟩ | ⟨rfl, rfl, rfl⟩ | ⟨rfl, rfl, rfl⟩ | ⟨rfl, rfl, rfl⟩ | ⟨rfl, rfl, rfl⟩ | ⟨rfl, rfl, rfl⟩ | ⟨rfl, rfl, rfl⟩ | ⟨rfl, rfl, rfl⟩ | ⟨rfl, rfl, rfl⟩ | ⟨rfl, rfl, rfl⟩ | ⟨rfl, rfl, rfl⟩ | ⟨rfl, rfl, rfl⟩ | ⟨rfl, rfl, rfl⟩ | ⟨rfl, rfl, rfl⟩
                  · exact ⟨_, rfl, rfl, rfl, fun a w hs hk hB => Ord.run_move (Ord.eval_tmp ((hs.out 11 (show 11 ∉ [166, 167, 168, 169, 170, 171, 172, 173, 174, 175, 176, 177, 178, 181, 179, 180] by decide)).trans rfl))⟩
                  · exact ⟨_, rfl, rfl, rfl, fun a w hs hk hB => Ord.run_move (Ord.eval_tmp ((hs.out 18 (show 18 ∉ [166, 167, 168, 169, 170, 171, 172, 173, 174, 175, 176, 177, 178, 181, 179, 180] by decide)).trans rfl))⟩
                  · exact ⟨_, rfl, rfl, rfl, fun a w hs hk hB => run_ix (Ord.eval_tmp (hk 0 166 (.slice (some ⟨go, 0, none⟩) ss.length ocap) (by simp) (Ord.waits_of (by kernel_rfl)))) (Ord.eval_tmp (hk 1 167 (.int .i64 at_) (by simp) (Ord.waits_of (by kernel_rfl)))) hat.out⟩
                  · exact ⟨_, rfl, rfl, rfl, fun a w hs hk hB => Ord.run_fld (Ord.eval_tmp (hk 2 168 (.pointer (some ⟨go, at_ * 2, none⟩)) (by simp) (Ord.waits_of (by kernel_rfl)))) (fld_tests1 w _ _)⟩
                  · exact ⟨_, rfl, rfl, rfl, fun a w hs hk hB => Ord.run_load (Ord.eval_tmp (hk 3 169 (.pointer (some ⟨go, at_ * 2 + 1, none⟩)) (by simp) (Ord.waits_of (by kernel_rfl)))) (load_ptr ((World.cell?_of_block (hB go (by omega) N1)).trans k1.out))⟩
                  · exact ⟨_, rfl, rfl, rfl, fun a w hs hk hB => Ord.run_move (Ord.eval_tmp ((hs.out 11 (show 11 ∉ [166, 167, 168, 169, 170, 171, 172, 173, 174, 175, 176, 177, 178, 181, 179, 180] by decide)).trans rfl))⟩
                  · exact ⟨_, rfl, rfl, rfl, fun a w hs hk hB => Ord.run_move (Ord.eval_tmp ((hs.out 18 (show 18 ∉ [166, 167, 168, 169, 170, 171, 172, 173, 174, 175, 176, 177, 178, 181, 179, 180] by decide)).trans rfl))⟩
                  · exact ⟨_, rfl, rfl, rfl, fun a w hs hk hB => run_ix (Ord.eval_tmp (hk 5 171 (.slice (some ⟨go, 0, none⟩) ss.length ocap) (by simp) (Ord.waits_of (by kernel_rfl)))) (Ord.eval_tmp (hk 6 172 (.int .i64 at_) (by simp) (Ord.waits_of (by kernel_rfl)))) hat.out⟩
                  · exact ⟨_, rfl, rfl, rfl, fun a w hs hk hB => Ord.run_fld (Ord.eval_tmp (hk 7 173 (.pointer (some ⟨go, at_ * 2, none⟩)) (by simp) (Ord.waits_of (by kernel_rfl)))) (fld_tests1 w _ _)⟩
                  · exact ⟨_, rfl, rfl, rfl, fun a w hs hk hB => Ord.run_load (Ord.eval_tmp (hk 8 174 (.pointer (some ⟨go, at_ * 2 + 1, none⟩)) (by simp) (Ord.waits_of (by kernel_rfl)))) (load_ptr ((World.cell?_of_block (hB go (by omega) N1)).trans k1.out))⟩
                  · exact ⟨_, rfl, rfl, rfl, fun a w hs hk hB => run_nil (Ord.eval_tmp (hk 9 175 (.pointer (some ⟨ab, ao, none⟩)) (by simp) (Ord.waits_of (by kernel_rfl))))⟩
                  · exact ⟨_, rfl, rfl, rfl, fun a w hs hk hB => Ord.run_load (Ord.eval_tmp (hk 10 176 (.pointer (some ⟨ab, ao, none⟩)) (by simp) (Ord.waits_of (by kernel_rfl)))) (load_tests ((World.cell?_of_block (hB ab (by omega) N2)).trans k2.out))⟩
                  · exact ⟨_, rfl, rfl, rfl, fun a w hs hk hB => Ord.run_load (Ord.eval_tmp ((hs.out 19 (show 19 ∉ [166, 167, 168, 169, 170, 171, 172, 173, 174, 175, 176, 177, 178, 181, 179, 180] by decide)).trans rfl)) (load_test ((hB w10.heap.size (by omega) N3).trans HD.out))⟩
                  · exact ⟨_, rfl, rfl, rfl, fun a w hs hk hB => run_nil (Ord.eval_tmp (hk 4 170 (.pointer (some ⟨ab, ao, none⟩)) (by simp) (Ord.waits_of (by kernel_rfl))))⟩
                intro w13 gn cap hgr hown hgg _
                have hbd : Below w12.heap.size w12 w12.drew := ⟨rfl, rfl, rfl, Nat.le_refl _, fun _ _ => rfl⟩
                have hc13 : w13.cell? ⟨ab, ao, none⟩ = some (vt at_) := (World.cell?_of_block ((hgr.block ab (by show ab < (w12.heap.push _).size; simp; omega) (fun e => N2 e.symm)).trans (Below.heap_alloc w12.drew _ ab hrg2))).trans k2.out
                have hz13 : w13.frozen? ⟨ab, ao, none⟩ = false := by
                  rw [World.frozen?_of_block ((hgr.block ab (by show ab < (w12.heap.push _).size; simp; omega) (fun e => N2 e.symm)).trans (Below.heap_alloc w12.drew _ ab hrg2))]
                  show w12.frozen? ⟨ab, ao, none⟩ = false
                  rw [hf12.out.fz ⟨ab, ao, none⟩ hrg3, ← HADR.out]
                  exact (HMQ.out.slot at_ (by have := hat.out; omega)).2.1
                have hf13 := ((hf12.out.below hbd).alloc (.cells (encT t).toArray 182)).app at_ hat.out t hgr (hgg.imp id (fun e => by rw [e]; show (w12.heap.push _).size ≤ _; simp)) hown
                rw [HADR.out] at hf13
                have HF13 := Lib.hid hf13
                simp only [Ord.puts, List.map_cons, List.map_nil, List.cons_append, List.nil_append]
                clear hf13 hown hgr hgg hbd k1 N0 N1 N2 N3
                go_wp2_with fail
                go_roundw
                case rel =>
                  have h := HF13.out
                  have ets : (fun i => if i = at_ then testsAt ss (cs.take j) at_ ++ [t] else testsAt ss (cs.take j) i) = testsAt ss (cs.take (j + 1)) := by
                    funext i
                    rw [HTK.out, testsAt_snoc, HTO.out]
                    by_cases e : i = at_
                    · subst e; simp
                    · have e' : ¬ at_ = i := fun h => e h.symm
                      simp [e, e']
                  rw [ets] at h
                  exact ⟨j + 1, _, by go_num, by omega, h⟩
                case measure => simp [intOf]; omega
              · obtain rfl : j = cs.length := by omega
                rw [List.take_length] at hflr
                obtain ⟨rc0, rc1, hrb⟩ := HMQ.out.rb
                have hRl := blk_lt HMQ.out.ob
                have hBl := blk_lt hrb
                have hRb := HMQ.out.lt
                have hnR : ∀ k, k < ss.length → R ≠ (adrOf gs gv vb k).block := fun k hk => HMQ.out.noBlk HMQ.out.ob (by decide) (by decide) k (by omega)
                have hnB : ∀ k, k < ss.length → W.heap.size + 1 ≠ (adrOf gs gv vb k).block := fun k hk => HMQ.out.noBlk hrb (by decide) (by decide) k (by omega)
                have r0 : wr.cell? ⟨R, 0, none⟩ = some (.slice (some ⟨gv, 0, none⟩) gs.length cv) := (hflr.old _ hRl (fun k hk e => hnR k hk (by rw [← e]))).trans ((Lib.cell_of_heap HMQ.out.ob 0).trans rfl)
                have r1 : wr.cell? ⟨R, 1, none⟩ = some (.int .i64 wi) := (hflr.old _ hRl (fun k hk e => hnR k hk (by rw [← e]))).trans ((Lib.cell_of_heap HMQ.out.ob 1).trans rfl)
                have s9 : w9.cell? ⟨W.heap.size + 1, 0, none⟩ = some rc0 := (Lib.cell_of_heap hrb 0).trans rfl
                have t9 : w9.cell? ⟨W.heap.size + 1, 1, none⟩ = some rc1 := (Lib.cell_of_heap hrb 1).trans rfl
                have s0 : wr.cell? ⟨W.heap.size + 1, 0, none⟩ = some rc0 := (hflr.old _ hBl (fun k hk e => hnB k hk (by rw [← e]))).trans s9
                have s1 : wr.cell? ⟨W.heap.size + 1, 1, none⟩ = some rc1 := (hflr.old _ hBl (fun k hk e => hnB k hk (by rw [← e]))).trans t9
                have f0 : wr.frozen? ⟨W.heap.size + 1, 0, none⟩ = false := (hflr.fz _ hBl).trans (Lib.frozen_of_heap hrb 0)
                have f1 : wr.frozen? ⟨W.heap.size + 1, 1, none⟩ = false := (hflr.fz _ hBl).trans (Lib.frozen_of_heap hrb 1)
                have hfin := (hflr.res ⟨W.heap.size + 1, 0, none⟩ (.slice (some ⟨gv, 0, none⟩) gs.length cv) rc0 ⟨by show W.heap.size ≤ W.heap.size + 1; omega, hBl⟩ s9 hnB).res ⟨W.heap.size + 1, 1, none⟩ (.int .i64 wi) rc1 ⟨by show W.heap.size ≤ W.heap.size + 1; omega, by simpa using hBl⟩ (by rw [World.cell?_setCell_other _ _ _ _ (by simp)]; exact t9) hnB
                have hpa := Fl.plan (HMQ.out.res (.slice (some ⟨gv, 0, none⟩) gs.length cv) (.int .i64 wi)) (by rw [hfl]; exact hfin)
                have e1 := World.cell?_setCell_same (wr.setCell ⟨W.heap.size + 1, 0, none⟩ (.slice (some ⟨gv, 0, none⟩) gs.length cv)) ⟨W.heap.size + 1, 1, none⟩ (.int .i64 wi) (by rw [World.cell?_setCell_other _ _ _ _ (by simp)]; exact s1)
                have e0 : ((wr.setCell ⟨W.heap.size + 1, 0, none⟩ (.slice (some ⟨gv, 0, none⟩) gs.length cv)).setCell ⟨W.heap.size + 1, 1, none⟩ (.int .i64 wi)).cell? ⟨W.heap.size + 1, 0, none⟩ = some (.slice (some ⟨gv, 0, none⟩) gs.length cv) := by
                  rw [World.cell?_setCell_other _ _ _ _ (by simp)]
                  exact World.cell?_setCell_same _ _ _ s0
                have HPA := Lib.hid hpa
                have HFIN := Lib.hid hfin.bel
                have E0 := Lib.hid e0
                have E1 := Lib.hid e1
                clear hpa hfin e0 e1 hnR hnB s9 t9 hrb y0 y1 y2 hno hflr
                go_wp2_with fail
                refine bodyPost_ret (res_make2 rfl rfl rfl E0.out E1.out) rfl ?_
                exact ⟨HFIN.out, .inr ⟨HK.out, HOK.out, _, rfl, by rw [HGSE.out]; exact HPA.out⟩⟩
end Go.Proofs.YtcojnojdgigmdaaDoor.WL
