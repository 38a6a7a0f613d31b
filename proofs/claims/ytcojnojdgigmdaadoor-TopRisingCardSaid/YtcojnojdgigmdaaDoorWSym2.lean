/- The walk of slices.symMergeCmpFunc at events: two stretches in order become one. -/
import Derived.Test.YtcojnojdgigmdaaDoorWSym
import Derived.Shelf.SlSortCmp.QuietGrown
import Derived.Deep.CutBlock
import Derived.Deep.DeepCutAuto
namespace Go.Proofs.YtcojnojdgigmdaaDoor.ST
open Go Go.Shelf Go.Lib Go.RowKit Go.Sort Go.Proofs.YtcojnojdgigmdaaDoor Go.Proofs.YtcojnojdgigmdaaDoor.Mem

section
variable {W w : World} {g : Nat} {d0 d : Array Ev}
theorem SW.grown (S : SW W g d w) (n : Nat) (os : Array Obj) : SW W g d (grow (w.drewN n) os) := SWK.grown S n os
theorem SW.gat (S : SW W g d w) (R : RW W g d0) (hs : d.size = d0.size) {i : Nat} (hi : i < d.size) :
    (∀ n os, (grow (w.drewN n) os).cell? ⟨g, i * 4, none⟩ = some (.int .i64 d[i]!.id)) ∧ (∀ n os, (grow (w.drewN n) os).cell? ⟨g, i * 4 + 1, none⟩ = some (.int .i64 d[i]!.time)) ∧
    (∀ n os, (grow (w.drewN n) os).cell? ⟨g, i * 4 + 2, none⟩ = some (.int .u8 d[i]!.kind)) ∧ (∀ n os, (grow (w.drewN n) os).cell? ⟨g, i * 4 + 3, none⟩ = some (.int .i64 d[i]!.val)) :=
  ⟨fun n os => ((S.grown n os).at_ R hs hi).1, fun n os => ((S.grown n os).at_ R hs hi).2.1, fun n os => ((S.grown n os).at_ R hs hi).2.2.1, fun n os => ((S.grown n os).at_ R hs hi).2.2.2⟩
end
theorem evCmp_true {x y : Ev} (h : ltS x y = true) : evCmp x y < 0 := by
  rw [← evCmp_less] at h; exact of_decide_eq_true h
theorem evCmp_false {x y : Ev} (h : ltS x y = false) : ¬ evCmp x y < 0 := by
  rw [← evCmp_less] at h; exact of_decide_eq_false h
/-- What a merge leaves. -/
def SymPost (W : World) (g N : Nat) (A L R C : List Ev) (e : Ending) (w' : World) : Prop := e = .returned (.tuple #[]) ∧ ∃ d', d'.size = N ∧ MergeL A L R C d' ∧ SW W g d' w'
set_option maxRecDepth 100000 in
set_option maxHeartbeats 6400000 in
theorem sym_one {W w : World} {g cap a m b N : Nat} {d0 d : Array Ev} {A R C : List Ev} {x : Ev} (RR : RW W g d0) (hs : d.size = d0.size) (S : SW W g d w) (hd : d.toList = A ++ ([x] ++ (R ++ C))) (hR : Srt R) (ha : A.length = a) (hm : a + 1 = m) (hb : m + R.length = b) (hN : d.size = N) (hn : N ≤ 1000000) :
    Calls Tryd.prog 85 #[.slice (some ⟨g, 0, none⟩) N cap, .int .i64 a, .int .i64 m, .int .i64 b, cmpF] w (SymPost W g N A [x] R C) := by
  have mixed : Tryd.prog.follows .mixedOrders = true := by kernel_rfl
  have hbN : b ≤ N := by
    have := congrArg List.length hd
    simp only [Array.length_toList, List.length_append, List.length_singleton] at this
    omega
  have HR := Lib.hid RR; have HS := Lib.hid S; have HN := Lib.hid hN; have HN0 := Lib.hid hs
  have HM := Lib.hid (fun t (ht : t ≤ R.length) => merge_one hd hR t ht)
  rw [ha] at HM
  have HRL := Lib.hid (show m + R.length = b from hb)
  have hmb : m ≤ b := by omega
  have hma1 : (m : Int) - (a : Int) = 1 := by omega
  clear RR S hN hs hd hR ha hb
  generalize hPO : SymPost W g N A [x] R C = PO
  have HPO := Lib.hid hPO
  clear hPO
  go_enter Tryd.func85, Tryd.ntmps85
  go_wp2_with fail
  go_loopw [10, 11] (fun u v wr => ∃ i j : Nat, u = .int .i64 i ∧ v = .int .i64 j ∧ m ≤ i ∧ i ≤ j ∧ j ≤ b ∧ Hid (i = m ∨ ltS d[i - 1]! d[a]! = true) ∧ Hid (j = b ∨ ltS d[j]! d[a]! = false) ∧ Hid (SW W g d wr)) (fun u v _ => (intOf v).toNat - (intOf u).toNat)
  case atStart => exact ⟨m, b, rfl, rfl, Nat.le_refl _, hmb, Nat.le_refl _, Lib.hid (.inl rfl), Lib.hid (.inl rfl), HS⟩
  case round =>
    clear HS
    obtain ⟨i, j, rfl, rfl, hmi, hij, hjb, H1, H2, HS⟩ := hrel
    by_cases hlt : i < j
    · have hlti : (i : Int) < (j : Int) := by omega
      obtain ⟨h, hh⟩ : ∃ h, (i + j) / 2 = h := ⟨_, rfl⟩
      have hi1 : i ≤ h := by omega
      have hi2 : h < j := by omega
      have hh2 : ((i : Int) + (j : Int)) / 2 = (h : Int) := by omega
      have hPN : h < d.size := by have := HN.out; omega
      have hQN : a < d.size := by have := HN.out; omega
      obtain ⟨x0, x1, x2, x3⟩ := SW.gat HS.out HR.out HN0.out hPN
      obtain ⟨y0, y1, y2, y3⟩ := SW.gat HS.out HR.out HN0.out hQN
      obtain ⟨xp, hxp⟩ : ∃ x, d[h]! = x := ⟨_, rfl⟩
      obtain ⟨xq, hxq⟩ : ∃ x, d[a]! = x := ⟨_, rfl⟩
      rw [hxp] at x0 x1 x2 x3
      rw [hxq] at y0 y1 y2 y3
      have hPI : (h : Int) < (N : Int) := by have := HN.out; omega
      have hQI : (a : Int) < (N : Int) := by have := HN.out; omega
      have HC := Lib.hid (fun w => ecmp_any xp xq w)
      have HX := Lib.hid hxp; have HA := Lib.hid hxq
      clear hxp hxq hPN hQN
      cases hv : ltS xp xq with
      | true =>
        have hcv := evCmp_true hv
        have HV := Lib.hid hv
        clear hv
        go_wp2_with fail
        go_quiet_grown (first | (go_at_fn 33; exact Mem.Grw.grown (HC.out _)) | exact Mem.Grw.grown (HC.out _))
        have HS2 := Lib.hid (SW.grown HS.out nq osq)
        clear x0 x1 x2 x3 y0 y1 y2 y3
        generalize grow (wr.drewN nq) osq = w2 at HS2 ⊢
        go_wp2_with fail
        go_roundw
        case rel => exact ⟨h + 1, j, by go_num, by trivial, by omega, by omega, hjb, Lib.hid (.inr (by rw [Nat.add_sub_cancel, HX.out, HA.out]; exact HV.out)), H2, HS2⟩
        case measure => simp [intOf]; omega
      | false =>
        have hcv := evCmp_false hv
        have hcv2 : 0 ≤ evCmp xp xq := by omega
        have hcd : decide (evCmp xp xq < 0) = false := decide_eq_false hcv
        have hcd2 : (!decide (evCmp xp xq < 0)) = true := by rw [hcd]; rfl
        have hcd3 : decide (0 ≤ evCmp xp xq) = true := decide_eq_true hcv2
        have HV := Lib.hid hv
        clear hv
        go_wp2_with fail
        go_quiet_grown (first | (go_at_fn 33; exact Mem.Grw.grown (HC.out _)) | exact Mem.Grw.grown (HC.out _))
        have HS2 := Lib.hid (SW.grown HS.out nq osq)
        clear x0 x1 x2 x3 y0 y1 y2 y3
        generalize grow (wr.drewN nq) osq = w2 at HS2 ⊢
        go_wp2_with fail
        go_roundw
        case rel => exact ⟨i, h, by trivial, by trivial, hmi, hi1, by omega, H1, Lib.hid (.inr (by rw [HX.out, HA.out]; exact HV.out)), HS2⟩
        case measure => simp [intOf]; omega
    · have hlti : ¬ (i : Int) < (j : Int) := by omega
      obtain rfl : i = j := by omega
      obtain ⟨t, ht⟩ : ∃ t, i - m = t := ⟨_, rfl⟩
      obtain ⟨E, hE⟩ : ∃ E, i - 1 = E := ⟨_, rfl⟩
      have hEt : E = a + t := by omega
      have hEI : (i : Int) - 1 = (E : Int) := by omega
      have HMM := Lib.hid (HM.out t (by have := HRL.out; omega) (by
          rcases H1.out with e | e
          · left; omega
          · right; rw [← hEt, ← hE]; exact e) (by
          rcases H2.out with e | e
          · left; have := HRL.out; omega
          · right; rw [show a + 1 + t = i by omega]; exact e))
      have hEN : E < N := by omega
      have HES := Lib.hid hEt
      clear H1 H2 HM hij hE
      go_wp2_with fail
      go_loopw [13] (fun v wr => ∃ (k : Nat) (dk : Array Ev), v = .int .i64 k ∧ a ≤ k ∧ k ≤ E ∧ Hid (dk.size = N) ∧ Hid (SW W g dk wr) ∧ Hid (bubU k (E - k) dk = bubU a t d)) (fun v _ => E - (intOf v).toNat)
      case atStart => exact ⟨a, d, rfl, Nat.le_refl _, by omega, HN, HS, Lib.hid (by rw [show E - a = t by omega])⟩
      case round =>
        clear HS
        obtain ⟨k, dk, rfl, hak, hkE, HDN, HS, HQ⟩ := hrel
        by_cases hlt : k < E
        · have hltk : (k : Int) < (E : Int) := by omega
          obtain ⟨q, hq⟩ : ∃ q, k + 1 = q := ⟨_, rfl⟩
          have hwq : (k : Int) + 1 = (q : Int) := by omega
          have hwr : IntKind.i64.wrap ((k : Int) + 1) = (q : Int) := by rw [IntKind.wrap_i64]; omega
          have HQ2 := Lib.hid (show bubU q (E - q) (swp dk k q) = bubU a t d by
            rw [← HQ.out, show E - k = (E - q) + 1 by omega, bubU, ← hq])
          clear hEI hlti
          have hpd : k < dk.size := by have := HDN.out; omega
          have hqd : q < dk.size := by have := HDN.out; omega
          have hdk : dk.size = d0.size := by have := HDN.out; have := HN0.out; have := HN.out; omega
          obtain ⟨x0, x1, x2, x3⟩ := SW.at_ HS.out HR.out hdk hpd
          obtain ⟨y0, y1, y2, y3⟩ := SW.at_ HS.out HR.out hdk hqd
          obtain ⟨f0, f1, f2, f3⟩ := SW.fr HS.out HR.out hdk hpd
          obtain ⟨k0, k1, k2, k3⟩ := SW.fr HS.out HR.out hdk hqd
          have HSW := Lib.hid (SW.swapped HS.out HR.out hpd hqd)
          have HSZ := Lib.hid (show (swp dk k q).size = N by rw [size_swp]; exact HDN.out)
          have hp0 : (0 : Int) ≤ (k : Int) := by omega
          have hq0 : (0 : Int) ≤ (q : Int) := by omega
          have hpn : (k : Int) < (N : Int) := by have := HDN.out; omega
          have hqn : (q : Int) < (N : Int) := by have := HDN.out; omega
          generalize dk[k]! = x at *
          generalize dk[q]! = y at *
          have e00 : q * 4 ≠ k * 4 := by omega
          have e01 : q * 4 ≠ k * 4 + 1 := by omega
          have e02 : q * 4 ≠ k * 4 + 2 := by omega
          have e03 : q * 4 ≠ k * 4 + 3 := by omega
          have e10 : q * 4 + 1 ≠ k * 4 := by omega
          have e11 : q * 4 + 1 ≠ k * 4 + 1 := by omega
          have e12 : q * 4 + 1 ≠ k * 4 + 2 := by omega
          have e13 : q * 4 + 1 ≠ k * 4 + 3 := by omega
          have e20 : q * 4 + 2 ≠ k * 4 := by omega
          have e21 : q * 4 + 2 ≠ k * 4 + 1 := by omega
          have e22 : q * 4 + 2 ≠ k * 4 + 2 := by omega
          have e23 : q * 4 + 2 ≠ k * 4 + 3 := by omega
          have e30 : q * 4 + 3 ≠ k * 4 := by omega
          have e31 : q * 4 + 3 ≠ k * 4 + 1 := by omega
          have e32 : q * 4 + 3 ≠ k * 4 + 2 := by omega
          have e33 : q * 4 + 3 ≠ k * 4 + 3 := by omega
          clear hpd hqd hdk
          go_wp2_with fail
          go_big_region_o
          show Exit.inBlock _ _ _ _ (exch wr g k q x y)
          clear x0 x1 x2 x3 y0 y1 y2 y3 f0 f1 f2 f3 k0 k1 k2 k3 HS HDN
          generalize exch wr g k q x y = w2 at HSW ⊢
          go_wp2_with fail
          go_roundw
          case rel => exact ⟨q, _, by first | rfl | go_num, by omega, by omega, HSZ, HSW, HQ2⟩
          case measure => simp [intOf]; omega
        · obtain rfl : k = E := by omega
          have HP := Lib.hid (show SW W g (bubU a t d) wr by
            have h := HQ.out
            rw [Nat.sub_self, bubU] at h
            rw [← h]; exact HS.out)
          have HPP := Lib.hid (show PO (.returned (.tuple #[])) wr by
            rw [← HPO.out]
            exact ⟨rfl, _, by rw [bubU_size]; exact HN.out, HMM.out, HP.out⟩)
          go_wp2_with fail
          go_end0
          exact HPP.out
set_option maxRecDepth 100000 in
set_option maxHeartbeats 6400000 in
theorem sym_two {W w : World} {g cap a m b N : Nat} {d0 d : Array Ev} {A L C : List Ev} {y : Ev} (RR : RW W g d0) (hs : d.size = d0.size) (S : SW W g d w) (hd : d.toList = A ++ (L ++ ([y] ++ C))) (hL : Srt L) (h1l : L.length ≠ 1) (ha : A.length = a) (hm : a + L.length = m) (hb : m + 1 = b) (hN : d.size = N) (hn : N ≤ 1000000) :
    Calls Tryd.prog 85 #[.slice (some ⟨g, 0, none⟩) N cap, .int .i64 a, .int .i64 m, .int .i64 b, cmpF] w (SymPost W g N A L [y] C) := by
  have mixed : Tryd.prog.follows .mixedOrders = true := by kernel_rfl
  have hbN : b ≤ N := by
    have := congrArg List.length hd
    simp only [Array.length_toList, List.length_append, List.length_singleton] at this
    omega
  have HR := Lib.hid RR; have HS := Lib.hid S; have HN := Lib.hid hN; have HN0 := Lib.hid hs
  have HM := Lib.hid (fun t (ht : t ≤ L.length) => merge_two hd hL t ht)
  rw [ha, hm] at HM
  have HRL := Lib.hid (show a + L.length = m from hm)
  have hma : a ≤ m := by omega
  have hma1 : ((m : Int) - (a : Int) == 1) = false := by rw [beq_eq_false_iff_ne]; omega
  have hbm1 : (b : Int) - (m : Int) = 1 := by omega
  clear RR S hN hs hd hL ha hm h1l
  generalize hPO : SymPost W g N A L [y] C = PO
  have HPO := Lib.hid hPO
  clear hPO
  go_enter Tryd.func85, Tryd.ntmps85
  go_wp2_with fail
  go_loopw [14, 15] (fun u v wr => ∃ i j : Nat, u = .int .i64 i ∧ v = .int .i64 j ∧ a ≤ i ∧ i ≤ j ∧ j ≤ m ∧ Hid (i = a ∨ ltS d[m]! d[i - 1]! = false) ∧ Hid (j = m ∨ ltS d[m]! d[j]! = true) ∧ Hid (SW W g d wr)) (fun u v _ => (intOf v).toNat - (intOf u).toNat)
  case atStart => exact ⟨a, m, rfl, rfl, Nat.le_refl _, hma, Nat.le_refl _, Lib.hid (.inl rfl), Lib.hid (.inl rfl), HS⟩
  case round =>
    clear HS
    obtain ⟨i, j, rfl, rfl, hmi, hij, hjb, H1, H2, HS⟩ := hrel
    by_cases hlt : i < j
    · have hlti : (i : Int) < (j : Int) := by omega
      obtain ⟨h, hh⟩ : ∃ h, (i + j) / 2 = h := ⟨_, rfl⟩
      have hi1 : i ≤ h := by omega
      have hi2 : h < j := by omega
      have hh2 : ((i : Int) + (j : Int)) / 2 = (h : Int) := by omega
      have hPN : m < d.size := by have := HN.out; omega
      have hQN : h < d.size := by have := HN.out; omega
      obtain ⟨x0, x1, x2, x3⟩ := SW.gat HS.out HR.out HN0.out hPN
      obtain ⟨y0, y1, y2, y3⟩ := SW.gat HS.out HR.out HN0.out hQN
      obtain ⟨xp, hxp⟩ : ∃ x, d[m]! = x := ⟨_, rfl⟩
      obtain ⟨xq, hxq⟩ : ∃ x, d[h]! = x := ⟨_, rfl⟩
      rw [hxp] at x0 x1 x2 x3
      rw [hxq] at y0 y1 y2 y3
      have hPI : (m : Int) < (N : Int) := by have := HN.out; omega
      have hQI : (h : Int) < (N : Int) := by have := HN.out; omega
      have HC := Lib.hid (fun w => ecmp_any xp xq w)
      have HX := Lib.hid hxp; have HA := Lib.hid hxq
      clear hxp hxq hPN hQN
      cases hv : ltS xp xq with
      | true =>
        have hcv := evCmp_true hv
        have HV := Lib.hid hv
        clear hv
        go_wp2_with fail
        go_quiet_grown (first | (go_at_fn 33; exact Mem.Grw.grown (HC.out _)) | exact Mem.Grw.grown (HC.out _))
        have HS2 := Lib.hid (SW.grown HS.out nq osq)
        clear x0 x1 x2 x3 y0 y1 y2 y3
        generalize grow (wr.drewN nq) osq = w2 at HS2 ⊢
        go_wp2_with fail
        go_roundw
        case rel => exact ⟨i, h, by trivial, by trivial, hmi, hi1, by omega, H1, Lib.hid (.inr (by rw [HX.out, HA.out]; exact HV.out)), HS2⟩
        case measure => simp [intOf]; omega
      | false =>
        have hcv := evCmp_false hv
        have hcv2 : 0 ≤ evCmp xp xq := by omega
        have hcd : decide (evCmp xp xq < 0) = false := decide_eq_false hcv
        have hcd2 : (!decide (evCmp xp xq < 0)) = true := by rw [hcd]; rfl
        have hcd3 : decide (0 ≤ evCmp xp xq) = true := decide_eq_true hcv2
        have HV := Lib.hid hv
        clear hv
        go_wp2_with fail
        go_quiet_grown (first | (go_at_fn 33; exact Mem.Grw.grown (HC.out _)) | exact Mem.Grw.grown (HC.out _))
        have HS2 := Lib.hid (SW.grown HS.out nq osq)
        clear x0 x1 x2 x3 y0 y1 y2 y3
        generalize grow (wr.drewN nq) osq = w2 at HS2 ⊢
        go_wp2_with fail
        go_roundw
        case rel => exact ⟨h + 1, j, by go_num, by trivial, by omega, by omega, hjb, Lib.hid (.inr (by rw [Nat.add_sub_cancel, HX.out, HA.out]; exact HV.out)), H2, HS2⟩
        case measure => simp [intOf]; omega
    · have hlti : ¬ (i : Int) < (j : Int) := by omega
      obtain rfl : i = j := by omega
      obtain ⟨t, ht⟩ : ∃ t, i - a = t := ⟨_, rfl⟩
      obtain ⟨E, hE⟩ : ∃ E, L.length - t = E := ⟨_, rfl⟩
      have hEt : m - i = E := by have := HRL.out; omega
      have HMM := Lib.hid (HM.out t (by have := HRL.out; omega) (by
          rcases H1.out with e | e
          · left; omega
          · right; rw [show a + t - 1 = i - 1 by omega]; exact e) (by
          rcases H2.out with e | e
          · left; have := HRL.out; omega
          · right; rw [show a + t = i by omega]; exact e))
      rw [hE] at HMM
      clear H1 H2 HM hij hE
      go_wp2_with fail
      go_loopw [17] (fun v wr => ∃ (k : Nat) (dk : Array Ev), v = .int .i64 k ∧ i ≤ k ∧ k ≤ m ∧ Hid (dk.size = N) ∧ Hid (SW W g dk wr) ∧ Hid (bubD k (k - i) dk = bubD m E d)) (fun v _ => (intOf v).toNat)
      case atStart => exact ⟨m, d, rfl, by omega, Nat.le_refl _, HN, HS, Lib.hid (by rw [hEt])⟩
      case round =>
        clear HS
        obtain ⟨k, dk, rfl, hak, hkE, HDN, HS, HQ⟩ := hrel
        by_cases hlt : i < k
        · have hltk : (i : Int) < (k : Int) := by omega
          obtain ⟨q, hq⟩ : ∃ q, k - 1 = q := ⟨_, rfl⟩
          have hwq : (k : Int) - 1 = (q : Int) := by omega
          have hwr : IntKind.i64.wrap ((k : Int) - 1) = (q : Int) := by rw [IntKind.wrap_i64]; omega
          have HQ2 := Lib.hid (show bubD q (q - i) (swp dk k q) = bubD m E d by
            rw [← HQ.out, show k - i = (q - i) + 1 by omega, bubD, hq])
          clear hlti
          have hpd : k < dk.size := by have := HDN.out; omega
          have hqd : q < dk.size := by have := HDN.out; omega
          have hdk : dk.size = d0.size := by have := HDN.out; have := HN0.out; have := HN.out; omega
          obtain ⟨x0, x1, x2, x3⟩ := SW.at_ HS.out HR.out hdk hpd
          obtain ⟨y0, y1, y2, y3⟩ := SW.at_ HS.out HR.out hdk hqd
          obtain ⟨f0, f1, f2, f3⟩ := SW.fr HS.out HR.out hdk hpd
          obtain ⟨k0, k1, k2, k3⟩ := SW.fr HS.out HR.out hdk hqd
          have HSW := Lib.hid (SW.swapped HS.out HR.out hpd hqd)
          have HSZ := Lib.hid (show (swp dk k q).size = N by rw [size_swp]; exact HDN.out)
          have hp0 : (0 : Int) ≤ (k : Int) := by omega
          have hq0 : (0 : Int) ≤ (q : Int) := by omega
          have hpn : (k : Int) < (N : Int) := by have := HDN.out; omega
          have hqn : (q : Int) < (N : Int) := by have := HDN.out; omega
          generalize dk[k]! = x at *
          generalize dk[q]! = y at *
          have e00 : q * 4 ≠ k * 4 := by omega
          have e01 : q * 4 ≠ k * 4 + 1 := by omega
          have e02 : q * 4 ≠ k * 4 + 2 := by omega
          have e03 : q * 4 ≠ k * 4 + 3 := by omega
          have e10 : q * 4 + 1 ≠ k * 4 := by omega
          have e11 : q * 4 + 1 ≠ k * 4 + 1 := by omega
          have e12 : q * 4 + 1 ≠ k * 4 + 2 := by omega
          have e13 : q * 4 + 1 ≠ k * 4 + 3 := by omega
          have e20 : q * 4 + 2 ≠ k * 4 := by omega
          have e21 : q * 4 + 2 ≠ k * 4 + 1 := by omega
          have e22 : q * 4 + 2 ≠ k * 4 + 2 := by omega
          have e23 : q * 4 + 2 ≠ k * 4 + 3 := by omega
          have e30 : q * 4 + 3 ≠ k * 4 := by omega
          have e31 : q * 4 + 3 ≠ k * 4 + 1 := by omega
          have e32 : q * 4 + 3 ≠ k * 4 + 2 := by omega
          have e33 : q * 4 + 3 ≠ k * 4 + 3 := by omega
          clear hpd hqd hdk
          go_wp2_with fail
          go_big_region_o
          show Exit.inBlock _ _ _ _ (exch wr g k q x y)
          clear x0 x1 x2 x3 y0 y1 y2 y3 f0 f1 f2 f3 k0 k1 k2 k3 HS HDN
          generalize exch wr g k q x y = w2 at HSW ⊢
          go_wp2_with fail
          go_roundw
          case rel => exact ⟨q, _, by first | rfl | go_num, by omega, by omega, HSZ, HSW, HQ2⟩
          case measure => simp [intOf]; omega
        · obtain rfl : k = i := by omega
          have hltk : ¬ (k : Int) < (k : Int) := by omega
          have HP := Lib.hid (show SW W g (bubD m E d) wr by
            have h := HQ.out
            rw [Nat.sub_self, bubD] at h
            rw [← h]; exact HS.out)
          have HPP := Lib.hid (show PO (.returned (.tuple #[])) wr by
            rw [← HPO.out]
            exact ⟨rfl, _, by rw [bubD_size]; exact HN.out, HMM.out, HP.out⟩)
          go_wp2_with fail
          go_end0
          exact HPP.out
/-- What a call of the merge owes, at stretches shorter than so many. -/
def SymIH (W : World) (g cap N K : Nat) : Prop := ∀ (A L R C : List Ev) (d : Array Ev) (w : World) (a m b : Nat), b - a < K → SW W g d w → d.size = N → d.toList = A ++ (L ++ (R ++ C)) → L ≠ [] → R ≠ [] → Srt L → Srt R → A.length = a → a + L.length = m → m + R.length = b →
    Calls Tryd.prog 85 #[.slice (some ⟨g, 0, none⟩) N cap, .int .i64 a, .int .i64 m, .int .i64 b, cmpF] w (SymPost W g N A L R C)
set_option maxRecDepth 100000 in
set_option maxHeartbeats 12800000 in
theorem sym_rec {W w : World} {g cap a m b N s0 r0 : Nat} {d0 d : Array Ev} {A L R C : List Ev} (RR : RW W g d0) (hs : d.size = d0.size) (S : SW W g d w) (hd : d.toList = A ++ (L ++ (R ++ C))) (hL : Srt L) (hRs : Srt R) (h1l : 1 < L.length) (h1r : 1 < R.length) (ha : A.length = a) (hm : a + L.length = m) (hb : m + R.length = b) (hN : d.size = N) (hn : N ≤ 1000000)
    (ih : SymIH W g cap N (b - a)) (hcase : (a + b) / 2 < m ∧ s0 + b = (a + b) / 2 + m ∧ r0 = (a + b) / 2 ∨ m ≤ (a + b) / 2 ∧ s0 = a ∧ r0 = m) :
    Calls Tryd.prog 85 #[.slice (some ⟨g, 0, none⟩) N cap, .int .i64 a, .int .i64 m, .int .i64 b, cmpF] w (SymPost W g N A L R C) := by
  have mixed : Tryd.prog.follows .mixedOrders = true := by kernel_rfl
  have hbN : b ≤ N := by
    have := congrArg List.length hd
    simp only [Array.length_toList, List.length_append] at this
    omega
  obtain ⟨mid, hmid⟩ : ∃ mid, (a + b) / 2 = mid := ⟨_, rfl⟩
  rw [hmid] at hcase
  obtain ⟨n, hnn⟩ : ∃ n, mid + m = n := ⟨_, rfl⟩
  obtain ⟨p, hp⟩ : ∃ p, n - 1 = p := ⟨_, rfl⟩
  have hmI : ((a : Int) + (b : Int)) / 2 = (mid : Int) := by omega
  have hnI : (mid : Int) + (m : Int) = (n : Int) := by omega
  have hpI : (n : Int) - 1 = (p : Int) := by omega
  have hma1 : ((m : Int) - (a : Int) == 1) = false := by rw [beq_eq_false_iff_ne]; omega
  have hbm1 : ((b : Int) - (m : Int) == 1) = false := by rw [beq_eq_false_iff_ne]; omega
  have hsr : s0 ≤ r0 := by omega
  have has : a ≤ s0 := by omega
  have hrm : r0 ≤ m := by omega
  have hrmid : r0 ≤ mid := by omega
  have hs0b : n ≤ s0 + b := by omega
  have hr0m : m + r0 ≤ n := by omega
  have hcut0 := fun s e => sym_cut (s := s) (e := e) hd hL hRs
  simp only [ha, hm, hb] at hcut0
  have HCUT := Lib.hid hcut0
  clear hcut0
  have HE0 := Lib.hid (show s0 = a ∨ s0 + b = n by omega)
  have HE1 := Lib.hid (show r0 = m ∨ m + r0 = n by omega)
  have HR := Lib.hid RR; have HS := Lib.hid S; have HN := Lib.hid hN; have HN0 := Lib.hid hs
  have HDD := Lib.hid hd; have HL := Lib.hid hL; have HRS := Lib.hid hRs
  have HLA := Lib.hid ha; have HLL := Lib.hid hm; have HLR := Lib.hid hb; have HIH := Lib.hid ih
  have HMID := Lib.hid hmid
  have hma : a < m := by omega
  have hmb : m < b := by omega
  have ham : a < mid := by omega
  have hmidb : mid < b := by omega
  have HMI := Lib.hid hmI; have HNI := Lib.hid hnI; have HPI := Lib.hid hpI
  clear RR S hN hs hd hL hRs ha hm hb ih h1l h1r hmid
  generalize hPO : SymPost W g N A L R C = PO
  have HPO := Lib.hid hPO
  clear hPO
  have HCASE := Lib.hid hcase
  clear hcase
  go_enter Tryd.func85, Tryd.ntmps85
  go_upto_region 27 with (fail)
  clear hmI hnI
  go_upto_if 140 with (fail)
  go_cut [20, 21] (fun s20 s21 wx => s20 = .int .i64 (s0 : Nat) ∧ s21 = .int .i64 (r0 : Nat) ∧ wx = w)
  case first =>
    as_aux_lemma =>
      rcases HCASE.out with ⟨hc1, hc2, hc3⟩ | ⟨hc1, hc2, hc3⟩
      · have hc1i : (mid : Int) < (m : Int) := by omega
        have hc2i : (n : Int) - (b : Int) = (s0 : Int) := by omega
        have HC3 := Lib.hid hc3
        clear hc1 hc2 hc3
        go_wp2_with fail
        go_meet
        exact ⟨rfl, by rw [HC3.out], by trivial⟩
      · have hc1i : ¬ (mid : Int) < (m : Int) := by omega
        have HC3 := Lib.hid hc3; have HC2 := Lib.hid hc2
        clear hc1 hc2 hc3
        go_wp2_with fail
        go_meet
        exact ⟨by rw [HC2.out], by rw [HC3.out], by trivial⟩
  case rest =>
    obtain ⟨rfl, rfl, hwc⟩ := hcut
    obtain ⟨wB, hB⟩ : ∃ w' : World, w' = wc := ⟨_, rfl⟩
    rw [hwc]
    clear hwc hB wB
    go_wp2_with fail
    clear hpI
    go_loopw [20, 21] (fun u v wr => ∃ i j : Nat, u = .int .i64 i ∧ v = .int .i64 j ∧ s0 ≤ i ∧ i ≤ j ∧ j ≤ r0 ∧ Hid (i = s0 ∨ ltS d[n - i]! d[i - 1]! = false) ∧ Hid (j = r0 ∨ ltS d[p - j]! d[j]! = true) ∧ Hid (SW W g d wr)) (fun u v _ => (intOf v).toNat - (intOf u).toNat)
    case atStart => exact ⟨s0, r0, by trivial, by trivial, Nat.le_refl _, hsr, Nat.le_refl _, Lib.hid (.inl rfl), Lib.hid (.inl rfl), HS⟩
    case round =>
      clear HS
      obtain ⟨i, j, rfl, rfl, hsi, hij, hjr, H1, H2, HS⟩ := hrel
      by_cases hlt : i < j
      · have hlti : (i : Int) < (j : Int) := by omega
        obtain ⟨h, hh⟩ : ∃ h, (i + j) / 2 = h := ⟨_, rfl⟩
        have hi1 : i ≤ h := by omega
        have hi2 : h < j := by omega
        have hh2 : ((i : Int) + (j : Int)) / 2 = (h : Int) := by omega
        obtain ⟨q, hq⟩ : ∃ q, p - h = q := ⟨_, rfl⟩
        have hqI : (p : Int) - (h : Int) = (q : Int) := by omega
        have hqw : IntKind.i64.wrap (q : Int) = (q : Int) := by rw [IntKind.wrap_i64]; omega
        have hqh : q + h + 1 = n := by omega
        have hPN : q < d.size := by have := HN.out; omega
        have hQN : h < d.size := by have := HN.out; omega
        obtain ⟨x0, x1, x2, x3⟩ := SW.gat HS.out HR.out HN0.out hPN
        obtain ⟨y0, y1, y2, y3⟩ := SW.gat HS.out HR.out HN0.out hQN
        obtain ⟨xp, hxp⟩ : ∃ x, d[q]! = x := ⟨_, rfl⟩
        obtain ⟨xq, hxq⟩ : ∃ x, d[h]! = x := ⟨_, rfl⟩
        rw [hxp] at x0 x1 x2 x3
        rw [hxq] at y0 y1 y2 y3
        have hPI : (q : Int) < (N : Int) := by have := HN.out; omega
        have hQI : (h : Int) < (N : Int) := by have := HN.out; omega
        have HC := Lib.hid (fun w => ecmp_any xp xq w)
        have HX := Lib.hid hxp; have HA := Lib.hid hxq
        clear hxp hxq hPN hQN
        clear hq
        cases hv : ltS xp xq with
        | true =>
          as_aux_lemma =>
            have hcv := evCmp_true hv
            have HV := Lib.hid hv
            clear hv
            go_wp2_with fail
            go_quiet_grown (first | (go_at_fn 33; exact Mem.Grw.grown (HC.out _)) | exact Mem.Grw.grown (HC.out _))
            have HS2 := Lib.hid (SW.grown HS.out nq osq)
            clear x0 x1 x2 x3 y0 y1 y2 y3
            generalize grow (wr.drewN nq) osq = w2 at HS2 ⊢
            go_wp2_with fail
            go_roundw
            case rel => exact ⟨i, h, by trivial, by trivial, hsi, hi1, by omega, H1, Lib.hid (.inr (by rw [show p - h = q by omega, HX.out, HA.out]; exact HV.out)), HS2⟩
            case measure => simp [intOf]; omega
        | false =>
          as_aux_lemma =>
            have hcv := evCmp_false hv
            have hcv2 : 0 ≤ evCmp xp xq := by omega
            have hcd : decide (evCmp xp xq < 0) = false := decide_eq_false hcv
            have hcd2 : (!decide (evCmp xp xq < 0)) = true := by rw [hcd]; rfl
            have hcd3 : decide (0 ≤ evCmp xp xq) = true := decide_eq_true hcv2
            have HV := Lib.hid hv
            clear hv
            go_wp2_with fail
            go_quiet_grown (first | (go_at_fn 33; exact Mem.Grw.grown (HC.out _)) | exact Mem.Grw.grown (HC.out _))
            have HS2 := Lib.hid (SW.grown HS.out nq osq)
            clear x0 x1 x2 x3 y0 y1 y2 y3
            generalize grow (wr.drewN nq) osq = w2 at HS2 ⊢
            go_wp2_with fail
            go_roundw
            case rel => exact ⟨h + 1, j, by go_num, by trivial, by omega, by omega, hjr, Lib.hid (.inr (by rw [Nat.add_sub_cancel, show n - (h + 1) = q by omega, HX.out, HA.out]; exact HV.out)), H2, HS2⟩
            case measure => simp [intOf]; omega
      · have hlti : ¬ (i : Int) < (j : Int) := by omega
        obtain rfl : i = j := by omega
        obtain ⟨e, he⟩ : ∃ e, n - i = e := ⟨_, rfl⟩
        have heI : (n : Int) - (i : Int) = (e : Int) := by omega
        have hei : e + i = n := by omega
        have hme : m ≤ e := by omega
        have heb : e ≤ b := by omega
        have hmide : mid ≤ e := by omega
        obtain ⟨L1, L2, R1, R2, rfl, rfl, k1, k2, k3, k4⟩ := HCUT.out i e (by omega) (by omega) hme heb (by
            rcases H1.out with q | q
            · rcases HE0.out with z | z
              · left; omega
              · right; left; omega
            · right; right; rw [← he]; exact q) (by
            rcases H2.out with q | q
            · rcases HE1.out with z | z
              · left; omega
              · right; left; omega
            · right; right; rw [show e - 1 = p - i by omega]; exact q)
        have k5 := HLL.out
        have k6 := HLR.out
        rw [List.length_append] at k5 k6
        have HK3 := Lib.hid k3; have HK4 := Lib.hid k4
        have HK1 := Lib.hid k1; have HK2 := Lib.hid k2; have HK5 := Lib.hid k5; have HK6 := Lib.hid k6
        have hil : i ≤ mid := by omega
        have hai : a ≤ i := by omega
        have him : i ≤ m := by omega
        clear k1 k2 k3 k4 k5 k6 H1 H2 HE0 HE1 HCUT he hij hsi hjr hlt hlti
        have heI2 := heI
        obtain ⟨B1, hB1⟩ : ∃ B1, decide (i < m ∧ m < e) = B1 := ⟨_, rfl⟩
        have HB1 := Lib.hid hB1
        clear hB1
        go_upto_region 39 with (fail)
        go_cut [185] (fun sx wx => sx = .bool B1 ∧ wx = wr)
        case first =>
          as_aux_lemma =>
            rcases (show m ≤ i ∨ (i < m ∧ e ≤ m) ∨ (i < m ∧ m < e) by omega) with q | ⟨q1, q2⟩ | ⟨q1, q2⟩
            · have q1i : ¬ (i : Int) < (m : Int) := by omega
              have HBV := Lib.hid (show false = B1 by rw [← HB1.out]; exact (decide_eq_false (by omega)).symm)
              go_wp2_with fail
              first | done | (go_meet; exact ⟨by rw [HBV.out], by trivial⟩)
            · have q1i : (i : Int) < (m : Int) := by omega
              have q2i : ¬ (m : Int) < (e : Int) := by omega
              have HBV := Lib.hid (show false = B1 by rw [← HB1.out]; exact (decide_eq_false (by omega)).symm)
              go_wp2_with fail
              first | done | (go_meet; exact ⟨by rw [HBV.out], by trivial⟩)
            · have q1i : (i : Int) < (m : Int) := by omega
              have q2i : (m : Int) < (e : Int) := by omega
              have HBV := Lib.hid (show true = B1 by rw [← HB1.out]; exact (decide_eq_true (by omega)).symm)
              go_wp2_with fail
              first | done | (go_meet; exact ⟨by rw [HBV.out], by trivial⟩)
        case rest =>
          obtain ⟨rfl, hwc⟩ := hcut
          obtain ⟨wB1, hB1⟩ : ∃ w' : World, w' = wc := ⟨_, rfl⟩
          rw [hwc]
          clear hwc hB1 wB1
          go_upto_if 185 with (fail)
          go_cut [185] (fun sx wx => sx = .bool B1 ∧ ∃ d1 : Array Ev, d1.size = N ∧ d1.toList = A ++ (L1 ++ (R1 ++ (L2 ++ (R2 ++ C)))) ∧ SW W g d1 wx)
          case first =>
            as_aux_lemma =>
              have HNO := Lib.hid (fun (h : L2 = [] ∨ R1 = []) => (show ∃ d1 : Array Ev, d1.size = N ∧ d1.toList = A ++ (L1 ++ (R1 ++ (L2 ++ (R2 ++ C)))) ∧ SW W g d1 wr from ⟨d, HN.out, by rw [HDD.out]; rcases h with rfl | rfl <;> simp, HS.out⟩))
              cases B1 with
              | false =>
                as_aux_lemma =>
                  have HP := Lib.hid (HNO.out (by
                    have h0 := of_decide_eq_false HB1.out
                    rcases (show m ≤ i ∨ e ≤ m by omega) with q | q
                    · exact .inl (List.eq_nil_of_length_eq_zero (by have := HK1.out; have := HK5.out; omega))
                    · exact .inr (List.eq_nil_of_length_eq_zero (by have := HK2.out; omega))))
                  clear HNO
                  go_wp2_with fail
                  go_meet
                  exact ⟨rfl, HP.out⟩
              | true =>
                as_aux_lemma =>
                  obtain ⟨q1, q2⟩ := of_decide_eq_true HB1.out
                  have hF : Rot m (A ++ (L1 ++ (R1 ++ (L2 ++ (R2 ++ C))))) (m - i) (e - m) d := ⟨A ++ L1, L2, R1, R2 ++ C, by rw [HDD.out]; simp, by simp, by have := HK1.out; have := HLA.out; rw [List.length_append]; omega, by have := HK1.out; have := HK5.out; omega, by have := HK2.out; omega, by omega, by omega⟩
                  have HC := Lib.hid (rotate_any (cap := cap) HR.out HN0.out HS.out q1 q2 hF (by have := HN.out; omega) (by have := HN.out; omega))
                  rw [HN.out] at HC
                  clear HNO hF
                  go_wp2_with fail
                  refine HC.out.mono ?_
                  rintro en w' ⟨rfl, hp1⟩
                  have HP := Lib.hid hp1
                  clear hp1 HC
                  go_wp2_with fail
                  go_meet
                  exact ⟨rfl, HP.out⟩
          case rest =>
            clear HS
            obtain ⟨rfl, d1, z1, z2, z3⟩ := hcut
            have HZ1 := Lib.hid z1; have HD1 := Lib.hid z2; have HS := Lib.hid z3
            obtain ⟨wb, rfl⟩ : ∃ w' : World, w' = wc := ⟨_, rfl⟩
            clear z1 z2 z3
            obtain ⟨B2, hB2⟩ : ∃ B2, decide (a < i ∧ i < mid) = B2 := ⟨_, rfl⟩
            have HB2 := Lib.hid hB2
            clear hB2
            go_upto_region 41 with (fail)
            go_cut [199] (fun sx wx => sx = .bool B2 ∧ wx = wb)
            case first =>
              as_aux_lemma =>
                rcases (show i ≤ a ∨ (a < i ∧ mid ≤ i) ∨ (a < i ∧ i < mid) by omega) with q | ⟨q1, q2⟩ | ⟨q1, q2⟩
                · have q1i : ¬ (a : Int) < (i : Int) := by omega
                  have HBV := Lib.hid (show false = B2 by rw [← HB2.out]; exact (decide_eq_false (by omega)).symm)
                  go_wp2_with fail
                  first | done | (go_meet; exact ⟨by rw [HBV.out], by trivial⟩)
                · have q1i : (a : Int) < (i : Int) := by omega
                  have q2i : ¬ (i : Int) < (mid : Int) := by omega
                  have HBV := Lib.hid (show false = B2 by rw [← HB2.out]; exact (decide_eq_false (by omega)).symm)
                  go_wp2_with fail
                  first | done | (go_meet; exact ⟨by rw [HBV.out], by trivial⟩)
                · have q1i : (a : Int) < (i : Int) := by omega
                  have q2i : (i : Int) < (mid : Int) := by omega
                  have HBV := Lib.hid (show true = B2 by rw [← HB2.out]; exact (decide_eq_true (by omega)).symm)
                  go_wp2_with fail
                  first | done | (go_meet; exact ⟨by rw [HBV.out], by trivial⟩)
            case rest =>
              obtain ⟨rfl, hwc⟩ := hcut
              obtain ⟨wB2, hB2⟩ : ∃ w' : World, w' = wc := ⟨_, rfl⟩
              rw [hwc]
              clear hwc hB2 wB2
              go_upto_if 199 with (fail)
              go_cut [199] (fun sx wx => sx = .bool B2 ∧ ∃ d2 : Array Ev, d2.size = N ∧ MergeL A L1 R1 (L2 ++ (R2 ++ C)) d2 ∧ SW W g d2 wx)
              case first =>
                as_aux_lemma =>
                  have HNO := Lib.hid (fun (h : L1 = [] ∨ R1 = []) => (show ∃ d2 : Array Ev, d2.size = N ∧ MergeL A L1 R1 (L2 ++ (R2 ++ C)) d2 ∧ SW W g d2 wb from ⟨d1, HZ1.out, merge_triv HD1.out h (srt_left HL.out) (srt_left HRS.out), HS.out⟩))
                  cases B2 with
                  | false =>
                    as_aux_lemma =>
                      have HP := Lib.hid (HNO.out (by
                        have h0 := of_decide_eq_false HB2.out
                        rcases (show i ≤ a ∨ mid ≤ i by omega) with q | q
                        · exact .inl (List.eq_nil_of_length_eq_zero (by have := HK1.out; omega))
                        · exact .inr (List.eq_nil_of_length_eq_zero (by have := HK2.out; omega))))
                      clear HNO
                      go_wp2_with fail
                      go_meet
                      exact ⟨rfl, HP.out⟩
                  | true =>
                    as_aux_lemma =>
                      obtain ⟨q1, q2⟩ := of_decide_eq_true HB2.out
                      have HC := Lib.hid (HIH.out A L1 R1 (L2 ++ (R2 ++ C)) d1 wb a i mid (by omega) HS.out HZ1.out HD1.out (by intro h; have := HK1.out; rw [h, List.length_nil] at this; omega) (by intro h; have := HK2.out; rw [h, List.length_nil] at this; omega) (srt_left HL.out) (srt_left HRS.out) HLA.out HK1.out (by have := HK2.out; omega))
                      clear HNO
                      go_wp2_with fail
                      refine HC.out.mono ?_
                      rintro en w' ⟨rfl, hp1⟩
                      have HP := Lib.hid hp1
                      clear hp1 HC
                      go_wp2_with fail
                      go_meet
                      exact ⟨rfl, HP.out⟩
              case rest =>
                clear HS HD1 HZ1
                obtain ⟨rfl, d2, z1, ⟨M1, z2, z4, z5⟩, z3⟩ := hcut
                have hml : M1.length = L1.length + R1.length := by rw [z5.perm.length_eq, List.length_append]
                have HML := Lib.hid hml
                have HZ1 := Lib.hid z1; have HD1 := Lib.hid (show d2.toList = (A ++ M1) ++ (L2 ++ (R2 ++ C)) by rw [z2]; simp); have HS := Lib.hid z3
                have HJ := Lib.hid (fun (d3 : Array Ev) (h : MergeL (A ++ M1) L2 R2 C d3) => merge_join (d3 := d3) HK3.out HK4.out HL.out HRS.out z4 z5 h)
                obtain ⟨wd, rfl⟩ : ∃ w' : World, w' = wc := ⟨_, rfl⟩
                clear z1 z2 z3 z4 z5 hml
                have HNO := Lib.hid (fun (h : L2 = [] ∨ R2 = []) => (show PO (.returned (.tuple #[])) wd by
                  rw [← HPO.out]
                  exact ⟨rfl, d2, HZ1.out, HJ.out d2 (merge_triv HD1.out h (srt_right HL.out) (srt_right HRS.out)), HS.out⟩))
                obtain ⟨B3, hB3⟩ : ∃ B3, decide (mid < e ∧ e < b) = B3 := ⟨_, rfl⟩
                have HB3 := Lib.hid hB3
                clear hB3
                go_upto_region 43 with (fail)
                go_cut [213] (fun sx wx => sx = .bool B3 ∧ wx = wd)
                case first =>
                  as_aux_lemma =>
                    rcases (show e ≤ mid ∨ (mid < e ∧ b ≤ e) ∨ (mid < e ∧ e < b) by omega) with q | ⟨q1, q2⟩ | ⟨q1, q2⟩
                    · have q1i : ¬ (mid : Int) < (e : Int) := by omega
                      have HBV := Lib.hid (show false = B3 by rw [← HB3.out]; exact (decide_eq_false (by omega)).symm)
                      go_wp2_with fail
                      first | done | (go_meet; exact ⟨by rw [HBV.out], by trivial⟩)
                    · have q1i : (mid : Int) < (e : Int) := by omega
                      have q2i : ¬ (e : Int) < (b : Int) := by omega
                      have HBV := Lib.hid (show false = B3 by rw [← HB3.out]; exact (decide_eq_false (by omega)).symm)
                      go_wp2_with fail
                      first | done | (go_meet; exact ⟨by rw [HBV.out], by trivial⟩)
                    · have q1i : (mid : Int) < (e : Int) := by omega
                      have q2i : (e : Int) < (b : Int) := by omega
                      have HBV := Lib.hid (show true = B3 by rw [← HB3.out]; exact (decide_eq_true (by omega)).symm)
                      go_wp2_with fail
                      first | done | (go_meet; exact ⟨by rw [HBV.out], by trivial⟩)
                case rest =>
                  obtain ⟨rfl, hwc⟩ := hcut
                  obtain ⟨wB3, hB3⟩ : ∃ w' : World, w' = wc := ⟨_, rfl⟩
                  rw [hwc]
                  clear hwc hB3 wB3
                  cases B3 with
                  | false =>
                    as_aux_lemma =>
                      have HP := Lib.hid (HNO.out (by
                        have h0 := of_decide_eq_false HB3.out
                        rcases (show e ≤ mid ∨ b ≤ e by omega) with q | q
                        · exact .inl (List.eq_nil_of_length_eq_zero (by have := HK1.out; have := HK5.out; omega))
                        · exact .inr (List.eq_nil_of_length_eq_zero (by have := HK2.out; have := HK6.out; omega))))
                      clear HNO
                      go_wp2_with fail
                      go_end0
                      exact HP.out
                  | true =>
                    as_aux_lemma =>
                      obtain ⟨q1, q2⟩ := of_decide_eq_true HB3.out
                      have HC := Lib.hid (HIH.out (A ++ M1) L2 R2 C d2 wd mid e b (by omega) HS.out HZ1.out HD1.out (by intro h; have := HK1.out; have := HK5.out; rw [h, List.length_nil] at this; omega) (by intro h; have := HK2.out; have := HK6.out; rw [h, List.length_nil] at this; omega) (srt_right HL.out) (srt_right HRS.out) (by rw [List.length_append, HML.out]; have := HK1.out; have := HK2.out; have := HLA.out; omega) (by have := HK1.out; have := HK5.out; omega) (by have := HK2.out; have := HK6.out; omega))
                      clear HNO
                      go_wp2_with fail
                      refine HC.out.mono ?_
                      rintro en w' ⟨rfl, d3, y1, y2, y3⟩
                      have HP := Lib.hid (show PO (.returned (.tuple #[])) w' by
                        rw [← HPO.out]
                        exact ⟨rfl, d3, y1, HJ.out d3 y2, y3⟩)
                      clear y1 y2 y3 HC
                      go_wp2_with fail
                      go_end0
                      exact HP.out
  end Go.Proofs.YtcojnojdgigmdaaDoor.ST
