/- The walk of oxbowref21.barred: does a bar of a step stand between the last event of a row and another one? -/
import Derived.Test.YtcojnojdgigmdaaGreatDoorWC21
set_option maxHeartbeats 3200000
set_option maxRecDepth 100000
namespace Go.Proofs.YtcojnojdgigmdaaGreatDoor.WR
open Go Go.RowKit Go.Sort Go.Proofs.YtcojnojdgigmdaaGreatDoor Go.Proofs.YtcojnojdgigmdaaGreatDoor.PL Go.Proofs.YtcojnojdgigmdaaGreatDoor.PR Go.Proofs.YtcojnojdgigmdaaGreatDoor.Mem Go.Proofs.YtcojnojdgigmdaaGreatDoor.WL

structure PlnOk (ss : List GS) (ts : Nat -> List PT) (p : RPlan) : Prop where
 n9 : ss.length <= 8
 plc : PlcOk ss ts (plc ss ss.length) p.steps
 ok : OkP p
theorem barB_none {p : RPlan} {l : List Ev} {m : Mt} {step i : Nat} (hs : step < p.steps.length) (h : ∀ r (hr : r < p.steps[step].bars.length), ((evAt l i).kind == p.steps[step].bars[r].kind && allP p.steps[step].bars[r].tests (pmM l m) step (evAt l i)) = false) : barB' p l m step i = false := by
 unfold barB'; rw [List.getElem?_eq_getElem hs]
 simp only []
 rw [List.any_eq_false]; intro b hb; obtain ⟨r, hr, rfl⟩ := List.mem_iff_getElem.1 hb; rw [h r hr]; decide
theorem barB_some {p : RPlan} {l : List Ev} {m : Mt} {step i r : Nat} (hs : step < p.steps.length) (hr : r < p.steps[step].bars.length) (h : ((evAt l i).kind == p.steps[step].bars[r].kind && allP p.steps[step].bars[r].tests (pmM l m) step (evAt l i)) = true) : barB' p l m step i = true := by
 unfold barB'; rw [List.getElem?_eq_getElem hs]
 simp only []
 rw [List.any_eq_true]; exact ⟨_, List.getElem_mem hr, h⟩
theorem barred_some {p : RPlan} {l : List Ev} {m : Mt} {step i up : Nat} (h1 : fromM m <= i) (h2 : i < up) (h : barB' p l m step i = true) : barredM p l m step up = true := by
 unfold barredM; rw [List.any_eq_true]; exact ⟨i, by rw [List.mem_range']; exact ⟨i - fromM m, by omega, by omega⟩, h⟩
theorem barred_no {p : RPlan} {l : List Ev} {m : Mt} {step up : Nat} (h : ∀ i, fromM m <= i -> i < up -> barB' p l m step i = false) : barredM p l m step up = false := by
 unfold barredM; rw [List.any_eq_false]; intro i hi; rw [List.mem_range'] at hi; obtain ⟨j, hj, rfl⟩ := hi; rw [h _ (by omega) (by omega)]; decide
theorem barred21 (p : RPlan) (qs lv mv : Value) (ss : List GS) (ts : Nat -> List PT) (L : Nat) (l : List Ev) (m : Mt) (step up : Nat) (w : World) (hd : DocAt w L w.heap.size qs ss ts) (hp : PlnOk ss ts p) (hst : step < p.steps.length) (hl : Evs w w.heap.size lv l) (hln : l.length <= 1000000) (hm : MtAt w w.heap.size mv m) (hne : m ≠ []) (hok : OkM l m) (hf : fromM m <= up) (hto : up <= l.length) (hs : SmE l) :
  Calls Tryz.prog 70 #[.agg #[qs, .int .i64 p.within], lv, mv, .int .i64 step, .int .i64 up] w fun e w' => e = .returned (.bool (barredM p l m step up)) /\ Below w.heap.size w w' := by
 have mixed : Tryz.prog.follows .mixedOrders = true := by kernel_rfl
 have HOM := Hyd hok; have HS := Hyd hs; have HP := Hyd hp; have HD := Hyd hd; have HMT := Hyd hm; have HLV := Hyd hl; have hss := hp.n9; obtain ⟨va, vs, rfl, hma, hms⟩ := hm; obtain ⟨aa, ac, rfl⟩ := hma.shape; obtain ⟨sa, sc, rfl⟩ := hms.shape; obtain ⟨la, lc, rfl⟩ := Sl.shape hl; obtain ⟨qa, qc, rfl, _⟩ := id hd; have hfew := hok.few; have hml : 0 < m.length := List.length_pos_iff.2 hne
 obtain ⟨w0, hw0⟩ : ∃ w0, w0 = (w.alloc (.cells #[.slice qa ss.length qc, .int .i64 p.within] 28)).alloc (.cells #[.slice aa m.length ac, .slice sa m.length sc] 84) := ⟨_, rfl⟩
 have hb0 : Below w.heap.size w w0 := by rw [hw0]; exact ((Below.refl _ _).alloc (Nat.le_refl _) _).alloc (by simp) _
 have HB0 := Hyd hb0; have HX := Hyd (show w0.heap[w.heap.size]? = some (.cells #[.slice qa ss.length qc, .int .i64 p.within] 28 (0, 0)) by rw [hw0]; exact heap_alloc (heap_new rfl)); have HY := Hyd (show w0.heap[w.heap.size + 1]? = some (.cells #[.slice aa m.length ac, .slice sa m.length sc] 84 (0, 0)) by rw [hw0]; exact heap_new (by simp)); have hz0 : w.heap.size < w0.heap.size := heap_lt HX.out; have hz1 : w.heap.size + 1 < w0.heap.size := heap_lt HY.out; have HW0 := Hyd hw0; have HST := Hyd (steps21 (.slice qa ss.length qc) p.within ss ts L w0 ((DocAt.keep hd fun a _ ha => hb0.cell ha).more (Nat.le_refl _) hb0.size) (by omega)); have p0 : w0.cell? ⟨w.heap.size, 0, none⟩ = some (.slice qa ss.length qc) := (Lib.cell_of_heap HX.out 0).trans rfl; have p1 : w0.cell? ⟨w.heap.size, 1, none⟩ = some (.int .i64 p.within) := (Lib.cell_of_heap HX.out 1).trans rfl
 obtain ⟨R, hR⟩ : ∃ R, barredM p l m step up = R := ⟨_, rfl⟩
 have HR := Hyd hR; rw [hR]; clear hd hp hms hl hok hs hb0 hw0 hR
 go_enter Tryz.func70, Tryz.ntmps70
 go_upto_region 1 with (fail)
 rw [<- HW0.out]; go_wp2_with fail; refine HST.out.mono ?_; rintro e w2 ⟨pv, rfl, hpo, hb2⟩; obtain ⟨pa, pc, rfl⟩ := (Sl.of_own hpo).shape; have HPO := Hyd (show Sl w2 w2.heap.size 1 (.slice pa (plc ss ss.length).length pc) (plc ss ss.length).length ((plc ss ss.length).map fun n => .int .i64 (n : Nat)) from Sl.of_own hpo); have HB2 := Hyd hb2; have HBW2 := Hyd (HB0.out.trans (hb2.mono HB0.out.size)); have q0 := (hb2.cell (p := ⟨w.heap.size + 1, 0, none⟩) hz1).trans ((Lib.cell_of_heap HY.out 0).trans rfl)
 have hl1 : m.length - 1 < m.length := by omega
 obtain ⟨b, o, c, hv, hb, x0⟩ := sl_at hma hl1
 obtain ⟨rfl, rfl⟩ : aa = some ⟨b, o, none⟩ /\ ac = c := by simpa using hv
 have hfrom : fromM m = m[m.length - 1].1 + 1 := by
  unfold fromM; rw [List.getLast?_eq_getElem?, List.getElem?_eq_getElem hl1]
 obtain ⟨la1, hla1⟩ : ∃ x, m[m.length - 1].1 = x := ⟨_, rfl⟩
 rw [hla1] at x0 hfrom; have z0 := (HBW2.out.cell (p := ⟨b, o + (m.length - 1), none⟩) hb).trans x0; have hwl : IntKind.i64.wrap ((m.length : Int) - 1) = (m.length : Int) - 1 := IntWalk.i64_in _ (by omega)
 have hli0 : (0 : Int) <= (m.length : Int) - 1 := by omega
 have hli1 : (m.length : Int) - 1 < (m.length : Int) := by omega
 have htn : ((m.length : Int) - 1).toNat = m.length - 1 := by omega
 have hl1n : 1 <= m.length := hml
 have hlab : la1 + 1 <= 1000000 := by omega
 have hla1i : (la1 : Int) + 1 = ((fromM m : Nat) : Int) := by rw [hfrom]; rfl
 have hsz2 := hb2.size; have HFR := Hyd hfrom; clear hpo hb2 hma hv x0 hla1 hfrom p0 p1 HST; go_wp2_with fail; clear q0 z0 hla1i
 go_loopw [13] (fun u wr => ∃ i : Nat, fromM m <= i /\ i <= up /\ u = .int .i64 (i : Nat) /\ (∀ j, fromM m <= j -> j < i -> barB' p l m step j = false) /\ Mem.Grw w2 wr) (fun u _ => up - (intOf u).toNat)
 case atStart => exact ⟨fromM m, Nat.le_refl _, hf, by rw [HFR.out], fun j h1 h2 => by omega, Mem.Grw.refl _⟩
 case round =>
  obtain ⟨i, hi1, hi2, rfl, hno, hg⟩ := hrel; have HG := Hyd hg; have HNO := Hyd hno; clear hg hno
  by_cases hlt : i < up
  ·have hil : i < l.length := by omega
   have hit : (i : Int) < (up : Int) := by omega
   have hii : (i : Int) < (l.length : Int) := by omega
   have hi0 : (0 : Int) <= (i : Int) := by omega
   have hsp : step < (plc ss ss.length).length := by have := HP.out.plc.len; omega
   have hspi : (step : Int) < ((plc ss ss.length).length : Int) := by omega
   have hs0 : (0 : Int) <= (step : Int) := by omega
   obtain ⟨b2, o2, c2, hv2, hb2, x1⟩ := sl_at HPO.out hsp
   obtain ⟨rfl, rfl⟩ : pa = some ⟨b2, o2, none⟩ /\ pc = c2 := by simpa using hv2
   have hat := HP.out.plc.at_ step hst hsp
   obtain ⟨P, hP⟩ : ∃ P, (plc ss ss.length)[step] = P := ⟨_, rfl⟩
   rw [hP] at hat x1; obtain ⟨hbl, _, _, _, _, hbr, hbe⟩ := hat; have HBR := Hyd hbr; have HBE := Hyd hbe; have z1 := HG.out.cell hb2 x1
   obtain ⟨nb, hnb⟩ : ∃ nb, p.steps[step].bars.length = nb := ⟨_, rfl⟩
   rw [hnb] at hbl; have HNB := Hyd hnb
   have hP8 : P + 1 + nb <= 8 := by omega
   obtain ⟨b3, o3, c3, hv3, hb3, e0, e1, e2, e3⟩ := Evs.at_ HLV.out hil
   obtain ⟨rfl, rfl⟩ : la = some ⟨b3, o3, none⟩ /\ lc = c3 := by simpa using hv3
   have HEV := Hyd (evAt_eq hil); have HSM := Hyd (HS.out _ (List.getElem_mem hil))
   obtain ⟨ev, hev⟩ : ∃ ev, l[i] = ev := ⟨_, rfl⟩
   rw [hev] at e0 e1 e2 e3 HEV HSM; have HE0 := Hyd e0; have HE1 := Hyd e1; have HE2 := Hyd e2; have HE3 := Hyd e3; clear hv2 hv3 x1 hP hbr hbe hnb e0 e1 e2 e3 hev; go_wp2_with fail; clear z1
   go_loopw [14] (fun u wq => ∃ r : Nat, r <= nb /\ u = .int .i64 ((P + 1 + r : Nat) : Int) /\ (∀ j (hj : j < p.steps[step].bars.length), j < r -> ((evAt l i).kind == p.steps[step].bars[j].kind && allP p.steps[step].bars[j].tests (pmM l m) step (evAt l i)) = false) /\ Mem.Grw w2 wq) (fun u _ => P + 1 + nb - (intOf u).toNat)
   case atStart => exact ⟨0, Nat.zero_le _, by go_num, fun j _ h => absurd h (Nat.not_lt_zero _), HG.out⟩
   case round =>
    clear HG; obtain ⟨r, hr, rfl, hno2, hg⟩ := hrel; have HG := Hyd hg; have HN2 := Hyd hno2; have HGW := Hyd (HBW2.out.trans (hg.below.mono HBW2.out.size)); have hgs := hg.size
    have hw2w : w.heap.size < wr.heap.size := by omega
    have y0 : wr.cell? ⟨w.heap.size, 0, none⟩ = some (.slice qa ss.length qc) := hg.cell (show w.heap.size < w2.heap.size by omega) ((HB2.out.cell (p := ⟨w.heap.size, 0, none⟩) hz0).trans ((Lib.cell_of_heap HX.out 0).trans rfl))
    obtain ⟨kk, hkk⟩ : ∃ kk, P + 1 + r = kk := ⟨_, rfl⟩
    rw [hkk]
    have hkb : kk <= 8 := by omega
    have hkk1 : P + 1 + r <= kk := by omega
    have hkk2 : kk <= P + 1 + r := by omega
    have HKK := Hyd hkk
    have hkk0 : (0 : Int) <= (kk : Int) := by omega
    clear hno2 hg hkk
    by_cases hlr : r < nb
    ·have hkl : kk < ss.length := by omega
     have hki : (kk : Int) < (ss.length : Int) := by omega
     obtain ⟨g, c4, e4, hgb, d0, d1, d2, d3, vt, d4, hvt⟩ := DocAt.cells HD.out hkl
     obtain ⟨rfl, rfl⟩ : qa = some ⟨g, 0, none⟩ /\ qc = c4 := by simpa using e4
     have hlr' : r < p.steps[step].bars.length := by rw [HNB.out]; exact hlr
     obtain ⟨f1, f2, f3⟩ := HBR.out r hlr'; rw [HKK.out] at f1 f2 f3; have HBO := Hyd ((HP.out.ok.bar _ (List.getElem_mem hst)).2 _ (List.getElem_mem hlr'))
     obtain ⟨bar, hbar⟩ : ∃ bar, p.steps[step].bars[r] = bar := ⟨_, rfl⟩
     rw [hbar] at f1 f3 HBO; have HBA := Hyd hbar; rw [f1] at d0; rw [f2] at d1; rw [f3] at hvt; obtain ⟨ta, tc, rfl⟩ := Sl.shape hvt
     have v0 : ∀ n os, (grow (wr.drewN n) os).cell? ⟨g, kk * 5, none⟩ = some (.int .u8 bar.kind) := cell_grown (show g < wr.heap.size by omega) ((HGW.out.cell (p := ⟨g, kk * 5, none⟩) hgb).trans d0)
     have v1 := (HGW.out.cell (p := ⟨g, kk * 5 + 1, none⟩) hgb).trans d1
     have v4 : ∀ n os, (grow (wr.drewN n) os).cell? ⟨g, kk * 5 + 4, none⟩ = some (.slice ta bar.tests.length tc) := cell_grown (show g < wr.heap.size by omega) ((HGW.out.cell (p := ⟨g, kk * 5 + 4, none⟩) hgb).trans d4)
     have ya0 : ∀ n os, (grow (wr.drewN n) os).cell? ⟨w.heap.size, 0, none⟩ = some (.slice (some ⟨g, 0, none⟩) ss.length qc) := cell_grown hw2w y0
     have ya1 : ∀ n os, (grow (wr.drewN n) os).cell? ⟨w.heap.size + 1, 0, none⟩ = some (.slice (some ⟨b, o, none⟩) m.length ac) := cell_grown (show w.heap.size + 1 < wr.heap.size by omega) (HG.out.cell (show w.heap.size + 1 < w2.heap.size by omega) ((HB2.out.cell (p := ⟨w.heap.size + 1, 0, none⟩) hz1).trans ((Lib.cell_of_heap HY.out 0).trans rfl)))
     have ya2 : ∀ n os, (grow (wr.drewN n) os).cell? ⟨w.heap.size + 1, 1, none⟩ = some (.slice sa m.length sc) := cell_grown (show w.heap.size + 1 < wr.heap.size by omega) (HG.out.cell (show w.heap.size + 1 < w2.heap.size by omega) ((HB2.out.cell (p := ⟨w.heap.size + 1, 1, none⟩) hz1).trans ((Lib.cell_of_heap HY.out 1).trans rfl)))
     have u0 : ∀ n os, (grow (wr.drewN n) os).cell? ⟨b3, o3 + i * 4, none⟩ = some (.int .i64 ev.id) := cell_grown (show b3 < wr.heap.size by omega) ((HGW.out.cell (p := ⟨b3, o3 + i * 4, none⟩) hb3).trans HE0.out)
     have u1 : ∀ n os, (grow (wr.drewN n) os).cell? ⟨b3, o3 + i * 4 + 1, none⟩ = some (.int .i64 ev.time) := cell_grown (show b3 < wr.heap.size by omega) ((HGW.out.cell (p := ⟨b3, o3 + i * 4 + 1, none⟩) hb3).trans HE1.out)
     have u2 : ∀ n os, (grow (wr.drewN n) os).cell? ⟨b3, o3 + i * 4 + 2, none⟩ = some (.int .u8 ev.kind) := cell_grown (show b3 < wr.heap.size by omega) ((HGW.out.cell (p := ⟨b3, o3 + i * 4 + 2, none⟩) hb3).trans HE2.out)
     have u3 : ∀ n os, (grow (wr.drewN n) os).cell? ⟨b3, o3 + i * 4 + 3, none⟩ = some (.int .i64 ev.val) := cell_grown (show b3 < wr.heap.size by omega) ((HGW.out.cell (p := ⟨b3, o3 + i * 4 + 3, none⟩) hb3).trans HE3.out)
     obtain ⟨A, hA⟩ : ∃ A, allP bar.tests (pmM l m) step ev = A := ⟨_, rfl⟩
     have HQ := Hyd (fun n os => all21 bar.tests (.slice ta bar.tests.length tc) (.agg #[.slice (some ⟨b, o, none⟩) m.length ac, .slice sa m.length sc]) (.slice (some ⟨b3, o3, none⟩) l.length lc) m l step w.heap.size ev (grow (wr.drewN n) os)
      (Sl.keep hvt fun a ha => (show Below w.heap.size w (grow (wr.drewN n) os) from HGW.out.trans ((show Mem.Grw wr (grow (wr.drewN n) os) from ⟨n, os, rfl⟩).below.mono (by omega))).cell ha) HBO.out.1 HBO.out.2
      (HMT.out.below (HGW.out.trans ((show Mem.Grw wr (grow (wr.drewN n) os) from ⟨n, os, rfl⟩).below.mono (by omega)))) (Sl.below HLV.out (HGW.out.trans ((show Mem.Grw wr (grow (wr.drewN n) os) from ⟨n, os, rfl⟩).below.mono (by omega))))
      (Nat.le_trans (Nat.le_of_lt hw2w) (show Mem.Grw wr (grow (wr.drewN n) os) from ⟨n, os, rfl⟩).size) HOM.out (by have := HP.out.ok.few; omega) HSM.out HS.out)
     rw [hA] at HQ; have HA := Hyd hA
     have hgw : g < wr.heap.size := by omega
     clear d0 d1 d2 d3 d4 e4 hvt f1 f2 f3 hbar hA; go_wp2_with fail
     go_quiet_grown (first | (go_at_call 45; exact Mem.Grw.grown (HQ.out _ _)) | exact Mem.Grw.grown (HQ.out _ _))
     have HGQ := Hyd (HG.out.trans (show Mem.Grw wr (grow (wr.drewN nq) osq) from ⟨nq, osq, rfl⟩)); have c0 := v0 nq osq; have c2 := u2 nq osq; have c1 := ya0 nq osq; change Exit.then _ _ Exit.normal _ (grow (wr.drewN nq) osq); clear v0 v4 ya0 ya1 ya2 u0 u1 u2 u3 HQ y0 v1; have hsq : wr.heap.size <= (grow (wr.drewN nq) osq).heap.size := (show Mem.Grw wr (grow (wr.drewN nq) osq) from ⟨nq, osq, rfl⟩).size; generalize grow (wr.drewN nq) osq = w5 at *
     have hgw5 : g < w5.heap.size := by omega
     have hbw5 : b3 < w5.heap.size := by omega
     have hkw5 : w.heap.size < w5.heap.size := by omega
     cases A with
     | false =>
      have HRL := Hyd (show ∀ j (hj : j < p.steps[step].bars.length), j < r + 1 -> ((evAt l i).kind == p.steps[step].bars[j].kind && allP p.steps[step].bars[j].tests (pmM l m) step (evAt l i)) = false from fun j hj hjr => by
       by_cases hjr2 : j < r
       ·exact HN2.out j hj hjr2
       ·have : j = r := (by omega); subst this
        rw [HBA.out, HEV.out, HA.out, Bool.and_false])
      go_wp2_with fail
      go_quiet (fail)
      go_wp2_with fail; go_roundw
      case rel => exact ⟨r + 1, by omega, by rw [<- HKK.out]; go_num, HRL.out, HGQ.out.drewN _⟩
      case measure => simp [intOf]; omega
     | true =>
      by_cases hkd : ev.kind = bar.kind
      ·have hkq : (ev.kind == bar.kind) = true := by simp [hkd]
       have HE := Hyd (show R = true by
        rw [<- HR.out]; refine barred_some hi1 hlt (barB_some hst hlr' ?_)
        rw [HBA.out, HEV.out, HA.out, hkq]; rfl)
       go_wp2_with fail
       go_quiet (fail)
       go_wp2_with fail; go_ret; exact ⟨by rw [HE.out]; rfl, HBW2.out.trans ((HGQ.out.drewN _).below.mono HBW2.out.size)⟩
      ·have hkq : (ev.kind == bar.kind) = false := by rw [beq_eq_false_iff_ne]; exact hkd
       have HRL := Hyd (show ∀ j (hj : j < p.steps[step].bars.length), j < r + 1 -> ((evAt l i).kind == p.steps[step].bars[j].kind && allP p.steps[step].bars[j].tests (pmM l m) step (evAt l i)) = false from fun j hj hjr => by
        by_cases hjr2 : j < r
        ·exact HN2.out j hj hjr2
        ·have : j = r := (by omega); subst this
         rw [HBA.out, HEV.out, hkq, Bool.false_and])
       go_wp2_with fail
       go_quiet (fail)
       go_wp2_with fail; go_roundw
       case rel => exact ⟨r + 1, by omega, by rw [<- HKK.out]; go_num, HRL.out, HGQ.out.drewN _⟩
       case measure => simp [intOf]; omega
    ·obtain rfl : r = nb := by omega
     have HRL := Hyd (show ∀ j, fromM m <= j -> j < i + 1 -> barB' p l m step j = false from fun j h1 h2 => by
      by_cases hji : j < i
      ·exact HNO.out j h1 hji
      ·have : j = i := (by omega); subst this
       exact barB_none hst fun q hq => HN2.out q hq (by rw [<- HNB.out]; exact hq))
     by_cases hkl : kk < ss.length
     ·have hki : (kk : Int) < (ss.length : Int) := by omega
      obtain ⟨g, c4, e4, hgb, d0, d1, _⟩ := DocAt.cells HD.out hkl
      obtain ⟨rfl, rfl⟩ : qa = some ⟨g, 0, none⟩ /\ qc = c4 := by simpa using e4
      have hbe := HBE.out; rw [HNB.out, HKK.out] at hbe; rw [hbe hkl] at d1; have v1 := (HGW.out.cell (p := ⟨g, kk * 5 + 1, none⟩) hgb).trans d1; clear e4 d0 d1 hbe; go_wp2_with fail; go_roundw
      case rel => exact ⟨i + 1, by omega, by omega, by go_num, HRL.out, HG.out⟩
      case measure => simp [intOf]; omega
     ·have hki : ¬ (kk : Int) < (ss.length : Int) := by omega
      go_wp2_with fail; go_roundw
      case rel => exact ⟨i + 1, by omega, by omega, by go_num, HRL.out, HG.out⟩
      case measure => simp [intOf]; omega
  ·obtain rfl : i = up := by omega
   have HE := Hyd (show R = false by rw [<- HR.out]; exact barred_no HNO.out); go_wp2_with fail; go_ret; exact ⟨by rw [HE.out]; rfl, HBW2.out.trans (HG.out.below.mono HBW2.out.size)⟩
end Go.Proofs.YtcojnojdgigmdaaGreatDoor.WR
