/- The walk of plan.check: what is wrong with a pattern, and where. -/
import Derived.Test.YtcfimponmioneaaWPlan3
namespace Go.Proofs.Ytcfimponmioneaa.WL
open Go Go.RowKit Go.Sort Go.Proofs.Ytcfimponmioneaa Go.Proofs.Ytcfimponmioneaa.PL Go.Proofs.Ytcfimponmioneaa.Mem

theorem stepE_ok {ss : List GS} {i : Nat} (h : stepE ss i = 0) : 65 ≤ (ss[i]!).k ∧ (ss[i]!).k ≤ 90 ∧ 97 ≤ (ss[i]!).nm ∧ (ss[i]!).nm ≤ 122 ∧ (i : Int) ≤ findP ss (ss[i]!).nm ∧ ((ss[i]!).neg = true → i ≠ 0 ∧ i + 1 ≠ ss.length ∧ (ss[i]!).lo = 1 ∧ (ss[i]!).hi = 1) ∧ 1 ≤ (ss[i]!).lo ∧ (ss[i]!).lo ≤ (ss[i]!).hi ∧ (ss[i]!).hi ≤ 4 := by
  unfold stepE at h
  simp only at h
  split at h
  · omega
  · split at h
    · omega
    · split at h
      · omega
      · split at h
        · omega
        · rename_i h1 h2 h3 h4
          cases hn : (ss[i]!).neg with
          | false =>
            simp only [hn, Bool.false_eq_true, false_and, false_or] at h4
            refine ⟨by omega, by omega, by omega, by omega, by omega, fun h => absurd h (by simp), by omega, by omega, by omega⟩
          | true =>
            simp only [hn, true_and] at h3 h4
            refine ⟨by omega, by omega, by omega, by omega, by omega, fun _ => ⟨by omega, by omega, by omega, by omega⟩, by omega, by omega, by omega⟩
theorem bindsTo_le {ss : List GS} {n : Nat} (h : ∀ j, j < n → stepE ss j = 0) : 0 ≤ bindsTo ss n ∧ bindsTo ss n ≤ 4 * n := by
  induction n with
  | zero => simp [bindsTo]
  | succ n ih =>
    obtain ⟨h1, h2⟩ := ih fun j hj => h j (by omega)
    obtain ⟨_, _, _, _, _, _, h3, h4, h5⟩ := stepE_ok (h n (by omega))
    unfold bindsTo
    split <;> omega
section
variable {ss : List GS} {cs : List GC} {wi : Int}
theorem checkP_many (h : ss.length < 1 ∨ 8 < ss.length ∨ 16 < cs.length) : checkP ss cs wi = (0, 24) := by unfold checkP; rw [if_pos h]
theorem checkP_arg (h : ¬ (ss.length < 1 ∨ 8 < ss.length ∨ 16 < cs.length)) (h2 : wi < 0 ∨ 9007199254740992 < wi) : checkP ss cs wi = (0, 2) := by unfold checkP; rw [if_neg h, if_pos h2]
theorem checkP_step (h : ¬ (ss.length < 1 ∨ 8 < ss.length ∨ 16 < cs.length)) (h2 : ¬ (wi < 0 ∨ 9007199254740992 < wi)) {i : Nat} (hi : i < ss.length) (he : stepE ss i ≠ 0) (hall : ∀ j, j < i → stepE ss j = 0) : checkP ss cs wi = ((i : Int), stepE ss i) := by
  unfold checkP; rw [if_neg h, if_neg h2, firstBad_some hi he hall]
theorem checkP_binds (h : ¬ (ss.length < 1 ∨ 8 < ss.length ∨ 16 < cs.length)) (h2 : ¬ (wi < 0 ∨ 9007199254740992 < wi)) (hall : ∀ j, j < ss.length → stepE ss j = 0) (h3 : 16 < bindsTo ss ss.length) : checkP ss cs wi = (0, 24) := by
  unfold checkP; rw [if_neg h, if_neg h2, firstBad_none hall]; simp only; rw [if_pos h3]
theorem checkP_cond (h : ¬ (ss.length < 1 ∨ 8 < ss.length ∨ 16 < cs.length)) (h2 : ¬ (wi < 0 ∨ 9007199254740992 < wi)) (hall : ∀ j, j < ss.length → stepE ss j = 0) (h3 : ¬ 16 < bindsTo ss ss.length)
    {i : Nat} (hi : i < cs.length) (he : condE ss cs[i]! ≠ 0) (hc : ∀ j, j < i → condE ss cs[j]! = 0) : checkP ss cs wi = ((ss.length : Int) + i, condE ss cs[i]!) := by
  unfold checkP; rw [if_neg h, if_neg h2, firstBad_none hall]; simp only; rw [if_neg h3, firstBad_some (f := fun i => condE ss cs[i]!) hi he hc]
theorem checkP_ok (h : ¬ (ss.length < 1 ∨ 8 < ss.length ∨ 16 < cs.length)) (h2 : ¬ (wi < 0 ∨ 9007199254740992 < wi)) (hall : ∀ j, j < ss.length → stepE ss j = 0) (h3 : ¬ 16 < bindsTo ss ss.length)
    (hc : ∀ j, j < cs.length → condE ss cs[j]! = 0) : checkP ss cs wi = (0, 0) := by
  unfold checkP; rw [if_neg h, if_neg h2, firstBad_none hall]; simp only; rw [if_neg h3, firstBad_none (f := fun i => condE ss cs[i]!) hc]
end

set_option maxRecDepth 100000 in
set_option maxHeartbeats 3200000 in
theorem check_any (sl cl : Value) (wi : Int) (ss : List GS) (cs : List GC) (w : World) (hs : Stps w w.heap.size sl ss) (hc : Cnds w w.heap.size cl cs) (hbig : ss.length ≤ maxLen) (hbig2 : cs.length ≤ maxLen) :
    Calls Try.prog 38 #[.agg #[sl, cl, .int .i64 wi]] w fun e w' => e = .returned (.tuple #[.int .i64 (checkP ss cs wi).1, .int .i64 (checkP ss cs wi).2]) ∧ Grw w w' := by
  have hbig' : ss.length ≤ 9223372036854775807 := hbig
  have hbig2' : cs.length ≤ 9223372036854775807 := hbig2
  obtain ⟨a, c, rfl⟩ := Sl.shape hs
  obtain ⟨a2, c2, rfl⟩ := Sl.shape hc
  obtain ⟨w1, hw1⟩ : ∃ w1, w1 = w.alloc (.cells #[.slice a ss.length c, .slice a2 cs.length c2, .int .i64 wi] 25) := ⟨_, rfl⟩
  have hz1 : w1.heap.size = w.heap.size + 1 := by rw [hw1]; simp
  have G1 : Grw w w1 := by rw [hw1]; exact (Grw.refl w).alloc _
  have HS := Lib.hid hs
  have HC := Lib.hid hc
  have HW1 := Lib.hid hw1
  have HG1 := Lib.hid G1
  have P1 := Lib.hid (show w1.heap[w.heap.size]? = some (.cells #[.slice a ss.length c, .slice a2 cs.length c2, .int .i64 wi] 25 (0, 0)) by rw [hw1]; exact heap_new rfl)
  have hst := fun (i : Nat) (hi : i < ss.length) (w' : World) (g' : Grw w w') => step_any (.slice a ss.length c) (.slice a2 cs.length c2) wi ss i w' ((Sl.below hs g'.below).more g'.size) hbig hi
  have hcd := fun (d : GC) (w' : World) (g' : Grw w w') => cond_any (.slice a ss.length c) (.slice a2 cs.length c2) wi ss d w' ((Sl.below hs g'.below).more g'.size) hbig
  have HST := Lib.hid hst
  have HCD := Lib.hid hcd
  clear hs hc hw1 G1 hst hcd hbig hbig2
  go_enter Try.func38, Try.ntmps38
  by_cases hm : ss.length < 1 ∨ 8 < ss.length ∨ 16 < cs.length
  case pos =>
    go_wp2_with fail
    all_goals
      go_ret2
      refine ⟨?_, by rw [← HW1.out]; exact HG1.out⟩
      rw [checkP_many hm]
      rfl
  have hm1 : ¬ ((ss.length : Int) < 1) := by omega
  have hm2 : ¬ (8 < (ss.length : Int)) := by omega
  have hm3 : ¬ (16 < (cs.length : Int)) := by omega
  by_cases ha : wi < 0 ∨ 9007199254740992 < wi
  case pos =>
    go_wp2_with fail
    all_goals
      go_ret2
      refine ⟨?_, by rw [← HW1.out]; exact HG1.out⟩
      rw [checkP_arg hm ha]
      rfl
  have HM := Lib.hid hm
  have HA := Lib.hid ha
  have ha1 : ¬ (wi < 0) := by omega
  have ha2 : ¬ (9007199254740992 < wi) := by omega
  clear hm ha
  go_wp2_with fail
  rw [← HW1.out]
  clear ha1 ha2
  go_loopw [4, 40] (fun b u wr => ∃ i : Nat, u = .int .i64 i ∧ i ≤ ss.length ∧ b = .int .i64 (bindsTo ss i) ∧ Grw w1 wr ∧ ∀ j, j < i → stepE ss j = 0) (fun _ u _ => ss.length - (intOf u).toNat)
  case atStart => exact ⟨0, rfl, by omega, rfl, Grw.refl _, fun j hj => absurd hj (by omega)⟩
  case round =>
    obtain ⟨i, rfl, hi, rfl, hg, hall⟩ := hrel
    have HG := Lib.hid hg
    have HALL := Lib.hid hall
    have hsz := hg.size
    have hbd := bindsTo_le hall
    have y0 : wr.cell? ⟨w.heap.size, 0, none⟩ = some (.slice a ss.length c) := hg.cell (by omega) ((Lib.cell_of_heap P1.out 0).trans rfl)
    have y1 : wr.cell? ⟨w.heap.size, 1, none⟩ = some (.slice a2 cs.length c2) := hg.cell (by omega) ((Lib.cell_of_heap P1.out 1).trans rfl)
    have y2 : wr.cell? ⟨w.heap.size, 2, none⟩ = some (.int .i64 wi) := hg.cell (by omega) ((Lib.cell_of_heap P1.out 2).trans rfl)
    clear hg hall
    by_cases hlt : i < ss.length
    · have hlt' : (i : Int) < (ss.length : Int) := by omega
      have hi0 : (0 : Int) ≤ (i : Int) := by omega
      obtain ⟨g, o, c', e, hgb, d0, d1, d2, d3, d4⟩ := Stps.at_ HS.out hlt
      obtain ⟨rfl, rfl⟩ : a = some ⟨g, o, none⟩ ∧ c = c' := by simpa using e
      have HGW := Lib.hid (HG1.out.trans HG.out)
      have x0 := HGW.out.cell hgb d0
      have x1 := HGW.out.cell hgb d1
      have x2 := HGW.out.cell hgb d2
      have x3 := HGW.out.cell hgb d3
      have x4 := HGW.out.cell hgb d4
      obtain ⟨x, hx⟩ : ∃ x, ss[i] = x := ⟨_, rfl⟩
      rw [hx] at x0 x1 x2 x3 x4
      have HX := Lib.hid hx
      obtain ⟨wa, hwa⟩ : ∃ wa, wa = wr.alloc (.cells #[.int .u8 x.k, .int .u8 x.nm, .bool x.neg, .int .i64 x.lo, .int .i64 x.hi] 76) := ⟨_, rfl⟩
      have ga : Grw wr wa := by rw [hwa]; exact (Grw.refl wr).alloc _
      have hza : wa.heap.size = wr.heap.size + 1 := by rw [hwa]; simp
      have ya0 : wa.cell? ⟨w.heap.size, 0, none⟩ = _ := ga.cell (by omega) y0
      have ya1 : wa.cell? ⟨w.heap.size, 1, none⟩ = _ := ga.cell (by omega) y1
      have ya2 : wa.cell? ⟨w.heap.size, 2, none⟩ = _ := ga.cell (by omega) y2
      have PA := Lib.hid (show wa.heap[wr.heap.size]? = some (.cells #[.int .u8 x.k, .int .u8 x.nm, .bool x.neg, .int .i64 x.lo, .int .i64 x.hi] 76 (0, 0)) by rw [hwa]; exact heap_new rfl)
      have HWA := Lib.hid hwa
      have HGA := Lib.hid ga
      clear e d0 d1 d2 d3 d4 hx hwa ga
      rw [HWA.out] at ya0 ya1 ya2
      go_wp2_with fail
      rw [← HWA.out]
      refine (HST.out i hlt wa (HGW.out.trans HGA.out)).mono ?_
      rintro e w' ⟨rfl, g'⟩
      have z2 : w'.cell? ⟨wr.heap.size, 2, none⟩ = some (.bool x.neg) := g'.cell (by omega) ((Lib.cell_of_heap PA.out 2).trans rfl)
      have z4 : w'.cell? ⟨wr.heap.size, 4, none⟩ = some (.int .i64 x.hi) := g'.cell (by omega) ((Lib.cell_of_heap PA.out 4).trans rfl)
      have HG' := Lib.hid (HG.out.trans (HGA.out.trans g'))
      clear g' x0 x1 x2 x3 x4 y0 y1 y2 ya0 ya1 ya2
      by_cases he : stepE ss i = 0
      · obtain ⟨_, _, _, _, _, _, hk1, hk2, hk3⟩ := stepE_ok he
        have hxi : ss[i]! = x := by rw [getElem!_pos ss i hlt]; exact HX.out
        rw [hxi] at hk1 hk2 hk3
        have HALL' := Lib.hid (show ∀ j, j < i + 1 → stepE ss j = 0 from fun j hj => by
          rcases Nat.lt_or_ge j i with hl | hl
          · exact HALL.out j hl
          · have : j = i := by omega
            rw [this]; exact he)
        have hbs : bindsTo ss (i + 1) = bindsTo ss i + if x.neg = true then 0 else x.hi := by
          show bindsTo ss i + (if (ss[i]!).neg = true then 0 else (ss[i]!).hi) = _
          rw [hxi]
        have HBS := Lib.hid hbs
        rw [he]
        clear he hxi hbs
        generalize bindsTo ss i = bi at *
        cases hn : x.neg with
        | true =>
          rw [hn] at z2
          have HN := Lib.hid hn
          clear hn
          go_wp2_with fail
          go_roundw
          case rel => exact ⟨i + 1, by go_num, by omega, by rw [HBS.out, if_pos HN.out]; simp, HG'.out, HALL'.out⟩
          case measure => simp [intOf]; omega
        | false =>
          rw [hn] at z2
          have HN := Lib.hid hn
          clear hn
          go_wp2_with fail
          go_roundw
          case rel => exact ⟨i + 1, by go_num, by omega, by rw [HBS.out, if_neg (by rw [HN.out]; simp)], HG'.out, HALL'.out⟩
          case measure => simp [intOf]; omega
      · have HE := Lib.hid he
        have he' : (stepE ss i != 0) = true := by simp [he]
        obtain ⟨ev, hev⟩ : ∃ ev, stepE ss i = ev := ⟨_, rfl⟩
        rw [hev] at he' ⊢
        have HEV := Lib.hid hev
        clear he hev
        go_wp2_with fail
        go_ret2
        refine ⟨?_, HG1.out.trans HG'.out⟩
        rw [checkP_step HM.out HA.out hlt HE.out HALL.out, HEV.out]
        rfl
    · obtain rfl : i = ss.length := by omega
      clear hlt hi
      by_cases hb : 16 < bindsTo ss ss.length
      · have HB := Lib.hid hb
        obtain ⟨bv, hbv⟩ : ∃ bv, bindsTo ss ss.length = bv := ⟨_, rfl⟩
        rw [hbv] at hb hbd ⊢
        clear hbv
        go_wp2_with fail
        go_ret2
        refine ⟨?_, HG1.out.trans HG.out⟩
        rw [checkP_binds HM.out HA.out HALL.out HB.out]
        rfl
      · have HB := Lib.hid hb
        obtain ⟨bv, hbv⟩ : ∃ bv, bindsTo ss ss.length = bv := ⟨_, rfl⟩
        rw [hbv] at hb hbd ⊢
        clear hbv
        go_wp2_with fail
        clear hb hbd y0 y1 y2 hm1 hm2 hm3
        go_loopw [65] (fun u wq => ∃ i : Nat, u = .int .i64 i ∧ i ≤ cs.length ∧ Grw w1 wq ∧ ∀ j, j < i → condE ss cs[j]! = 0) (fun u _ => cs.length - (intOf u).toNat)
        case atStart => exact ⟨0, rfl, by omega, HG.out, fun j hj => absurd hj (by omega)⟩
        case round =>
          clear HG hsz
          obtain ⟨i, rfl, hi, hg, hcall⟩ := hrel
          have HG := Lib.hid hg
          have HCALL := Lib.hid hcall
          have hsz := hg.size
          have y0 : wr.cell? ⟨w.heap.size, 0, none⟩ = some (.slice a ss.length c) := hg.cell (by omega) ((Lib.cell_of_heap P1.out 0).trans rfl)
          have y1 : wr.cell? ⟨w.heap.size, 1, none⟩ = some (.slice a2 cs.length c2) := hg.cell (by omega) ((Lib.cell_of_heap P1.out 1).trans rfl)
          have y2 : wr.cell? ⟨w.heap.size, 2, none⟩ = some (.int .i64 wi) := hg.cell (by omega) ((Lib.cell_of_heap P1.out 2).trans rfl)
          clear hg hcall
          by_cases hlt : i < cs.length
          · have hlt' : (i : Int) < (cs.length : Int) := by omega
            have hi0 : (0 : Int) ≤ (i : Int) := by omega
            have hM := HM.out
            have hs8 : (ss.length : Int) ≤ 8 := by omega
            have hc16 : (cs.length : Int) ≤ 16 := by omega
            clear hM
            obtain ⟨g, o, c', e, hgb, d0, d1, d2, d3⟩ := Cnds.at_ HC.out hlt
            obtain ⟨rfl, rfl⟩ : a2 = some ⟨g, o, none⟩ ∧ c2 = c' := by simpa using e
            have HGW := Lib.hid (HG1.out.trans HG.out)
            have x0 := HGW.out.cell hgb d0
            have x1 := HGW.out.cell hgb d1
            have x2 := HGW.out.cell hgb d2
            have x3 := HGW.out.cell hgb d3
            obtain ⟨x, hx⟩ : ∃ x, cs[i] = x := ⟨_, rfl⟩
            rw [hx] at x0 x1 x2 x3
            have HX := Lib.hid (show cs[i]! = x by rw [getElem!_pos cs i hlt]; exact hx)
            obtain ⟨wa, hwa⟩ : ∃ wa, wa = wr.alloc (.cells #[.int .u8 x.l, .int .i64 x.op, .int .u8 x.r, .int .i64 x.k] 78) := ⟨_, rfl⟩
            have ga : Grw wr wa := by rw [hwa]; exact (Grw.refl wr).alloc _
            have hza : wa.heap.size = wr.heap.size + 1 := by rw [hwa]; simp
            have ya0 : wa.cell? ⟨w.heap.size, 0, none⟩ = _ := ga.cell (by omega) y0
            have ya1 : wa.cell? ⟨w.heap.size, 1, none⟩ = _ := ga.cell (by omega) y1
            have ya2 : wa.cell? ⟨w.heap.size, 2, none⟩ = _ := ga.cell (by omega) y2
            have HWA := Lib.hid hwa
            have HGA := Lib.hid ga
            clear e d0 d1 d2 d3 hx hwa ga
            rw [HWA.out] at ya0 ya1 ya2
            go_wp2_with fail
            rw [← HWA.out]
            refine (HCD.out x wa (HGW.out.trans HGA.out)).mono ?_
            rintro e w' ⟨rfl, g'⟩
            have z0 : w'.cell? ⟨w.heap.size, 0, none⟩ = some (.slice a ss.length c) := g'.cell (by omega) (by rw [HWA.out]; exact ya0)
            have HG' := Lib.hid (HG.out.trans (HGA.out.trans g'))
            clear g' x0 x1 x2 x3 y0 y1 y2 ya0 ya1 ya2
            by_cases he : condE ss x = 0
            · have HC' := Lib.hid (show ∀ j, j < i + 1 → condE ss cs[j]! = 0 from fun j hj => by
                rcases Nat.lt_or_ge j i with hl | hl
                · exact HCALL.out j hl
                · have : j = i := by omega
                  rw [this, HX.out]; exact he)
              rw [he]
              clear he
              go_wp2_with fail
              go_roundw
              case rel => exact ⟨i + 1, by go_num, by omega, HG'.out, HC'.out⟩
              case measure => simp [intOf]; omega
            · have HE := Lib.hid he
              have he' : (condE ss x != 0) = true := by simp [he]
              obtain ⟨ev, hev⟩ : ∃ ev, condE ss x = ev := ⟨_, rfl⟩
              rw [hev] at he' ⊢
              have HEV := Lib.hid hev
              clear he hev
              go_wp2_with fail
              go_ret2
              refine ⟨?_, HG1.out.trans HG'.out⟩
              rw [checkP_cond HM.out HA.out HALL.out (Int.not_lt.2 HB.out) hlt (by rw [HX.out]; exact HE.out) HCALL.out, HX.out, HEV.out]
              rfl
          · obtain rfl : i = cs.length := by omega
            go_wp2_with fail
            go_ret2
            refine ⟨?_, HG1.out.trans HG.out⟩
            rw [checkP_ok HM.out HA.out HALL.out (Int.not_lt.2 HB.out) HCALL.out]
            rfl
end Go.Proofs.Ytcfimponmioneaa.WL
