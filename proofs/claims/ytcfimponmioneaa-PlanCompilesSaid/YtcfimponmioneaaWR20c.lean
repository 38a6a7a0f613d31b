/- The walk of oxbowref20.Check. -/
import Derived.Test.YtcfimponmioneaaWR20b
namespace Go.Proofs.Ytcfimponmioneaa.WL
open Go Go.RowKit Go.Sort Go.Proofs.Ytcfimponmioneaa Go.Proofs.Ytcfimponmioneaa.PL Go.Proofs.Ytcfimponmioneaa.Mem

set_option maxRecDepth 100000 in
set_option maxHeartbeats 3200000 in
theorem check20 (sl cl : Value) (wi : Int) (ss : List GS) (cs : List GC) (w : World) (hs : Stps w w.heap.size sl ss) (hc : Cnds w w.heap.size cl cs) (hbig : ss.length ≤ maxLen) (hbig2 : cs.length ≤ maxLen) :
    Calls Try.prog 20 #[.agg #[sl, cl, .int .i64 wi]] w fun e w' => e = .returned (.tuple #[.int .i64 (checkP ss cs wi).1, .int .i64 (checkP ss cs wi).2]) ∧ Grw w w' := by
  have hbig' : ss.length ≤ 9223372036854775807 := hbig
  have hbig2' : cs.length ≤ 9223372036854775807 := hbig2
  obtain ⟨a, c, rfl⟩ := Sl.shape hs
  obtain ⟨a2, c2, rfl⟩ := Sl.shape hc
  obtain ⟨w1, hw1⟩ : ∃ w1, w1 = w.alloc (.cells #[.slice a ss.length c, .slice a2 cs.length c2, .int .i64 wi] 32) := ⟨_, rfl⟩
  have hz1 : w1.heap.size = w.heap.size + 1 := by rw [hw1]; simp
  have G1 : Grw w w1 := by rw [hw1]; exact (Grw.refl w).alloc _
  have HS := Lib.hid hs
  have HC := Lib.hid hc
  have HW1 := Lib.hid hw1
  have HG1 := Lib.hid G1
  have P1 := Lib.hid (show w1.heap[w.heap.size]? = some (.cells #[.slice a ss.length c, .slice a2 cs.length c2, .int .i64 wi] 32 (0, 0)) by rw [hw1]; exact heap_new rfl)
  have hst := fun (i : Nat) (hi : i < ss.length) (w' : World) (g' : Grw w w') => step20 (.slice a ss.length c) (.slice a2 cs.length c2) wi ss i w' ((Sl.below hs g'.below).more g'.size) hbig hi
  have hcd := fun (d : GC) (w' : World) (g' : Grw w w') => cond20 (.slice a ss.length c) (.slice a2 cs.length c2) wi ss d w' ((Sl.below hs g'.below).more g'.size) hbig
  have HST := Lib.hid hst
  have HCD := Lib.hid hcd
  clear hs hc hw1 G1 hst hcd hbig hbig2
  go_enter Try.func20, Try.ntmps20
  by_cases hm : ss.length < 1 ∨ 8 < ss.length ∨ 16 < cs.length
  case pos =>
    by_cases h0 : ss.length = 0
    · have h0' : ((ss.length : Int) == 0) = true := by simp [h0]
      clear h0
      go_wp2_with fail
      all_goals
        go_ret2
        refine ⟨?_, by rw [← HW1.out]; exact HG1.out⟩
        rw [checkP_many hm]
        rfl
    have h0' : ((ss.length : Int) == 0) = false := beq_eq_false_iff_ne.2 (by omega)
    by_cases h8 : 8 < ss.length
    · have h8' : 8 < (ss.length : Int) := by omega
      go_wp2_with fail
      all_goals
        go_ret2
        refine ⟨?_, by rw [← HW1.out]; exact HG1.out⟩
        rw [checkP_many hm]
        rfl
    have h8' : ¬ 8 < (ss.length : Int) := by omega
    have h16 : 16 < (cs.length : Int) := by omega
    go_wp2_with fail
    all_goals
      go_ret2
      refine ⟨?_, by rw [← HW1.out]; exact HG1.out⟩
      rw [checkP_many hm]
      rfl
  have hm1 : ((ss.length : Int) == 0) = false := beq_eq_false_iff_ne.2 (by omega)
  have hm2 : ¬ (8 < (ss.length : Int)) := by omega
  have hm3 : ¬ (16 < (cs.length : Int)) := by omega
  by_cases ha : wi < 0 ∨ 9007199254740992 < wi
  case pos =>
    go_wp2_with fail
    all_goals
      go_ret2
      refine ⟨?_, by rw [← HW1.out]; exact HG1.out⟩
      rw [checkP_arg hm ha]
      rfl
  have HM := Lib.hid hm
  have HA := Lib.hid ha
  have ha1 : ¬ (wi < 0) := by omega
  have ha2 : ¬ (9007199254740992 < wi) := by omega
  clear hm ha
  go_wp2_with fail
  rw [← HW1.out]
  clear ha1 ha2 hm1
  go_loopw [5, 6] (fun b u wr => ∃ i : Nat, u = .int .i64 i ∧ i ≤ ss.length ∧ b = .int .i64 (bindsTo ss i) ∧ Grw w1 wr ∧ ∀ j, j < i → stepE ss j = 0) (fun _ u _ => ss.length - (intOf u).toNat)
  case atStart => exact ⟨0, rfl, by omega, rfl, Grw.refl _, fun j hj => absurd hj (by omega)⟩
  case round =>
    obtain ⟨i, rfl, hi, rfl, hg, hall⟩ := hrel
    have HG := Lib.hid hg
    have HALL := Lib.hid hall
    have hsz := hg.size
    have hbd := bindsTo_le hall
    have y0 : wr.cell? ⟨w.heap.size, 0, none⟩ = some (.slice a ss.length c) := hg.cell (by omega) ((Lib.cell_of_heap P1.out 0).trans rfl)
    have y1 : wr.cell? ⟨w.heap.size, 1, none⟩ = some (.slice a2 cs.length c2) := hg.cell (by omega) ((Lib.cell_of_heap P1.out 1).trans rfl)
    have y2 : wr.cell? ⟨w.heap.size, 2, none⟩ = some (.int .i64 wi) := hg.cell (by omega) ((Lib.cell_of_heap P1.out 2).trans rfl)
    clear hg hall
    by_cases hlt : i < ss.length
    · have hlt' : (i : Int) < (ss.length : Int) := by omega
      have hi0 : (0 : Int) ≤ (i : Int) := by omega
      obtain ⟨g, o, c', e, hgb, _, _, d2, _, d4⟩ := Stps.at_ HS.out hlt
      obtain ⟨rfl, rfl⟩ : a = some ⟨g, o, none⟩ ∧ c = c' := by simpa using e
      have HGW := Lib.hid (HG1.out.trans HG.out)
      obtain ⟨x, hx⟩ : ∃ x, ss[i] = x := ⟨_, rfl⟩
      rw [hx] at d2 d4
      have HX := Lib.hid hx
      have D2 := Lib.hid d2
      have D4 := Lib.hid d4
      clear e d2 d4 hx
      go_wp2_with fail
      refine (HST.out i hlt wr HGW.out).mono ?_
      rintro e w' ⟨rfl, g'⟩
      have z0 : w'.cell? ⟨w.heap.size, 0, none⟩ = some (.slice (some ⟨g, o, none⟩) ss.length c) := g'.cell (by omega) y0
      have z2 : w'.cell? ⟨g, o + i * 5 + 2, none⟩ = some (.bool x.neg) := (HGW.out.trans g').cell hgb D2.out
      have z4 : w'.cell? ⟨g, o + i * 5 + 4, none⟩ = some (.int .i64 x.hi) := (HGW.out.trans g').cell hgb D4.out
      have HG' := Lib.hid (HG.out.trans g')
      clear g' y0 y1 y2
      by_cases he : stepE ss i = 0
      · obtain ⟨_, _, _, _, _, _, hk1, hk2, hk3⟩ := stepE_ok he
        have hxi : ss[i]! = x := by rw [getElem!_pos ss i hlt]; exact HX.out
        rw [hxi] at hk1 hk2 hk3
        have HALL' := Lib.hid (show ∀ j, j < i + 1 → stepE ss j = 0 from fun j hj => by
          rcases Nat.lt_or_ge j i with hl | hl
          · exact HALL.out j hl
          · have : j = i := by omega
            rw [this]; exact he)
        have hbs : bindsTo ss (i + 1) = bindsTo ss i + if x.neg = true then 0 else x.hi := by
          show bindsTo ss i + (if (ss[i]!).neg = true then 0 else (ss[i]!).hi) = _
          rw [hxi]
        have HBS := Lib.hid hbs
        rw [he]
        clear he hxi hbs
        generalize bindsTo ss i = bi at *
        cases hn : x.neg with
        | true =>
          rw [hn] at z2
          have HN := Lib.hid hn
          clear hn
          go_wp2_with fail
          go_roundw
          case rel => exact ⟨i + 1, by go_num, by omega, by rw [HBS.out, if_pos HN.out]; simp, HG'.out, HALL'.out⟩
          case measure => simp [intOf]; omega
        | false =>
          rw [hn] at z2
          have HN := Lib.hid hn
          clear hn
          go_wp2_with fail
          go_roundw
          case rel => exact ⟨i + 1, by go_num, by omega, by rw [HBS.out, if_neg (by rw [HN.out]; simp)], HG'.out, HALL'.out⟩
          case measure => simp [intOf]; omega
      · have HE := Lib.hid he
        have he' : (stepE ss i != 0) = true := by simp [he]
        obtain ⟨ev, hev⟩ : ∃ ev, stepE ss i = ev := ⟨_, rfl⟩
        rw [hev] at he' ⊢
        have HEV := Lib.hid hev
        clear he hev
        go_wp2_with fail
        go_ret2
        refine ⟨?_, HG1.out.trans HG'.out⟩
        rw [checkP_step HM.out HA.out hlt HE.out HALL.out, HEV.out]
        rfl
    · obtain rfl : i = ss.length := by omega
      clear hlt hi
      by_cases hb : 16 < bindsTo ss ss.length
      · have HB := Lib.hid hb
        obtain ⟨bv, hbv⟩ : ∃ bv, bindsTo ss ss.length = bv := ⟨_, rfl⟩
        rw [hbv] at hb hbd ⊢
        clear hbv
        go_wp2_with fail
        go_ret2
        refine ⟨?_, HG1.out.trans HG.out⟩
        rw [checkP_binds HM.out HA.out HALL.out HB.out]
        rfl
      · have HB := Lib.hid hb
        obtain ⟨bv, hbv⟩ : ∃ bv, bindsTo ss ss.length = bv := ⟨_, rfl⟩
        rw [hbv] at hb hbd ⊢
        clear hbv
        go_wp2_with fail
        clear hb hbd y0 y1 y2 hm2 hm3
        go_loopw [8] (fun u wq => ∃ i : Nat, u = .int .i64 i ∧ i ≤ cs.length ∧ Grw w1 wq ∧ ∀ j, j < i → condE ss cs[j]! = 0) (fun u _ => cs.length - (intOf u).toNat)
        case atStart => exact ⟨0, rfl, by omega, HG.out, fun j hj => absurd hj (by omega)⟩
        case round =>
          clear HG hsz
          obtain ⟨i, rfl, hi, hg, hcall⟩ := hrel
          have HG := Lib.hid hg
          have HCALL := Lib.hid hcall
          have hsz := hg.size
          have y0 : wr.cell? ⟨w.heap.size, 0, none⟩ = some (.slice a ss.length c) := hg.cell (by omega) ((Lib.cell_of_heap P1.out 0).trans rfl)
          have y1 : wr.cell? ⟨w.heap.size, 1, none⟩ = some (.slice a2 cs.length c2) := hg.cell (by omega) ((Lib.cell_of_heap P1.out 1).trans rfl)
          have y2 : wr.cell? ⟨w.heap.size, 2, none⟩ = some (.int .i64 wi) := hg.cell (by omega) ((Lib.cell_of_heap P1.out 2).trans rfl)
          clear hg hcall
          by_cases hlt : i < cs.length
          · have hlt' : (i : Int) < (cs.length : Int) := by omega
            have hi0 : (0 : Int) ≤ (i : Int) := by omega
            have hM := HM.out
            have hs8 : (ss.length : Int) ≤ 8 := by omega
            have hc16 : (cs.length : Int) ≤ 16 := by omega
            clear hM
            obtain ⟨g, o, c', e, hgb, d0, d1, d2, d3⟩ := Cnds.at_ HC.out hlt
            obtain ⟨rfl, rfl⟩ : a2 = some ⟨g, o, none⟩ ∧ c2 = c' := by simpa using e
            have HGW := Lib.hid (HG1.out.trans HG.out)
            obtain ⟨x, hx⟩ : ∃ x, cs[i] = x := ⟨_, rfl⟩
            rw [hx] at d0 d1 d2 d3
            have HX := Lib.hid (show cs[i]! = x by rw [getElem!_pos cs i hlt]; exact hx)
            have hgw : g < wr.heap.size := by have := HGW.out.size; omega
            have hpw : w.heap.size < wr.heap.size := by omega
            have ya0 : ∀ n os, (grow (wr.drewN n) os).cell? ⟨w.heap.size, 0, none⟩ = some (.slice a ss.length c) := cell_grown hpw y0
            have ya1 : ∀ n os, (grow (wr.drewN n) os).cell? ⟨w.heap.size, 1, none⟩ = some (.slice (some ⟨g, o, none⟩) cs.length c2) := cell_grown hpw y1
            have ya2 : ∀ n os, (grow (wr.drewN n) os).cell? ⟨w.heap.size, 2, none⟩ = some (.int .i64 wi) := cell_grown hpw y2
            have x0 : ∀ n os, (grow (wr.drewN n) os).cell? ⟨g, o + i * 4, none⟩ = some (.int .u8 x.l) := cell_grown hgw (HGW.out.cell hgb d0)
            have x1 : ∀ n os, (grow (wr.drewN n) os).cell? ⟨g, o + i * 4 + 1, none⟩ = some (.int .i64 x.op) := cell_grown hgw (HGW.out.cell hgb d1)
            have x2 : ∀ n os, (grow (wr.drewN n) os).cell? ⟨g, o + i * 4 + 2, none⟩ = some (.int .u8 x.r) := cell_grown hgw (HGW.out.cell hgb d2)
            have x3 : ∀ n os, (grow (wr.drewN n) os).cell? ⟨g, o + i * 4 + 3, none⟩ = some (.int .i64 x.k) := cell_grown hgw (HGW.out.cell hgb d3)
            have hq : ∀ n os, Calls Try.prog 41 #[.agg #[.slice a ss.length c, .slice (some ⟨g, o, none⟩) cs.length c2, .int .i64 wi], .agg #[.int .u8 x.l, .int .i64 x.op, .int .u8 x.r, .int .i64 x.k]] (grow (wr.drewN n) os) fun e w' => e = .returned (.int .i64 (condE ss x)) ∧ Grw (grow (wr.drewN n) os) w' := fun n os => HCD.out x _ (HGW.out.trans ⟨n, os, rfl⟩)
            have HQ := Lib.hid hq
            clear e d0 d1 d2 d3 hx hq
            have mixed : Try.prog.follows .mixedOrders = true := by kernel_rfl
            go_wp2_with fail
            go_quiet_grown (first | (go_at_call 41; exact Grw.grown (HQ.out _ _)) | exact Grw.grown (HQ.out _ _))
            change Exit.then _ _ Exit.normal _ (grow (wr.drewN nq) osq)
            have gq : Grw wr (grow (wr.drewN nq) osq) := ⟨nq, osq, rfl⟩
            have z0 := ya0 nq osq
            have HG' := Lib.hid (HG.out.trans gq)
            clear gq x0 x1 x2 x3 y0 y1 y2 ya0 ya1 ya2 mixed HQ
            generalize grow (wr.drewN nq) osq = w' at *
            by_cases he : condE ss x = 0
            · have HC' := Lib.hid (show ∀ j, j < i + 1 → condE ss cs[j]! = 0 from fun j hj => by
                rcases Nat.lt_or_ge j i with hl | hl
                · exact HCALL.out j hl
                · have : j = i := by omega
                  rw [this, HX.out]; exact he)
              rw [he]
              clear he
              go_wp2_with fail
              go_roundw
              case rel => exact ⟨i + 1, by go_num, by omega, HG'.out, HC'.out⟩
              case measure => simp [intOf]; omega
            · have HE := Lib.hid he
              have he' : (condE ss x != 0) = true := by simp [he]
              obtain ⟨ev, hev⟩ : ∃ ev, condE ss x = ev := ⟨_, rfl⟩
              rw [hev] at he' ⊢
              have HEV := Lib.hid hev
              clear he hev
              go_wp2_with fail
              go_ret2
              refine ⟨?_, HG1.out.trans HG'.out⟩
              rw [checkP_cond HM.out HA.out HALL.out (Int.not_lt.2 HB.out) hlt (by rw [HX.out]; exact HE.out) HCALL.out, HX.out, HEV.out]
              rfl
          · obtain rfl : i = cs.length := by omega
            go_wp2_with fail
            go_ret2
            refine ⟨?_, HG1.out.trans HG.out⟩
            rw [checkP_ok HM.out HA.out HALL.out (Int.not_lt.2 HB.out) HCALL.out]
            rfl
end Go.Proofs.Ytcfimponmioneaa.WL
