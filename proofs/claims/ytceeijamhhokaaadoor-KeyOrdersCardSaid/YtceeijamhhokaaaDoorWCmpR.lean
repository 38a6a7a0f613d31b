/- The walks of the document's texts, parts and Compare (layer 2). -/
import Derived.Test.YtceeijamhhokaaaDoorWCmp
namespace Go.Proofs.YtceeijamhhokaaaDoor.WK
open Go Go.RowKit Go.Sort Go.Proofs.YtceeijamhhokaaaDoor Go.Proofs.YtceeijamhhokaaaDoor.PK Go.Proofs.YtceeijamhhokaaaDoor.Mem

theorem cB_step {a b : List UInt8} {i : Nat} {x y : UInt8} (ha : a[i]? = some x) (hb : b[i]? = some y) : Lib.compareBytes (a.drop i) (b.drop i) = if x < y then -1 else if y < x then 1 else Lib.compareBytes (a.drop (i + 1)) (b.drop (i + 1)) := by
  obtain ⟨h1, rfl⟩ := List.getElem?_eq_some_iff.1 ha
  obtain ⟨h2, rfl⟩ := List.getElem?_eq_some_iff.1 hb
  rw [List.drop_eq_getElem_cons h1, List.drop_eq_getElem_cons h2]
  rfl
theorem cB_short {a b : List UInt8} {i : Nat} (ha : a.length ≤ i) (hb : i < b.length) : Lib.compareBytes (a.drop i) (b.drop i) = -1 := by
  rw [List.drop_eq_getElem_cons hb, List.drop_eq_nil_of_le ha]; rfl
theorem cB_long {a b : List UInt8} {i : Nat} (ha : i < a.length) (hb : b.length ≤ i) : Lib.compareBytes (a.drop i) (b.drop i) = 1 := by
  rw [List.drop_eq_getElem_cons ha, List.drop_eq_nil_of_le hb]; rfl
theorem cB_end {a b : List UInt8} {i : Nat} (ha : a.length ≤ i) (hb : b.length ≤ i) : Lib.compareBytes (a.drop i) (b.drop i) = 0 := by
  rw [List.drop_eq_nil_of_le ha, List.drop_eq_nil_of_le hb]; rfl

set_option maxRecDepth 100000 in
set_option maxHeartbeats 3200000 in
theorem texts_any (a b : ByteArray) (W : World) (hla : a.size ≤ 9223372036854775807) (hlb : b.size ≤ 9223372036854775807) :
    Calls Tryd.prog 48 #[.string a, .string b] W fun e w' => e = .returned (.int .i64 (Lib.compareBytes a.data.toList b.data.toList)) ∧ Grw W w' := by
  have hla' : (a.size : Int) ≤ 9223372036854775807 := by omega
  have hlb' : (b.size : Int) ≤ 9223372036854775807 := by omega
  have ea : a.data.toList.length = a.size := Array.length_toList
  have eb : b.data.toList.length = b.size := Array.length_toList
  have EA := Lib.hid ea; have EB := Lib.hid eb
  clear ea eb
  obtain ⟨r, HR⟩ : ∃ r : Int, Hid (Lib.compareBytes a.data.toList b.data.toList = r) := ⟨_, Lib.hid rfl⟩
  rw [HR.out]
  go_enter Tryd.func48, Tryd.ntmps48
  go_wp2_with fail
  go_loopw [5] (fun u wr => ∃ i : Nat, u = .int .i64 i ∧ i ≤ a.size ∧ i ≤ b.size ∧ Lib.compareBytes a.data.toList b.data.toList = Lib.compareBytes (a.data.toList.drop i) (b.data.toList.drop i) ∧ Grw W wr) (fun u _ => a.size - (intOf u).toNat)
  case atStart => exact ⟨0, rfl, by omega, by omega, rfl, Grw.refl _⟩
  case round =>
    obtain ⟨i, rfl, hia, hib, hc, hgr⟩ := hrel
    have HC := Lib.hid hc; have HGR := Lib.hid hgr
    clear hc hgr
    by_cases hlt : i < a.size
    · have hlt' : (i : Int) < (a.size : Int) := by omega
      have hi0 : (0 : Int) ≤ (i : Int) := by omega
      by_cases hlt2 : i < b.size
      · have hlt2' : (i : Int) < (b.size : Int) := by omega
        have HGA : Hid (a.data.toList[i]? = some a[i]) := Lib.hid (by rw [List.getElem?_eq_getElem (by rw [Array.length_toList]; exact hlt)]; rfl)
        have HGB : Hid (b.data.toList[i]? = some b[i]) := Lib.hid (by rw [List.getElem?_eq_getElem (by rw [Array.length_toList]; exact hlt2)]; rfl)
        have HS := Lib.hid (cB_step HGA.out HGB.out)
        rcases Nat.lt_trichotomy a[i].toNat b[i].toNat with h | h | h
        · have h' : (a[i].toNat : Int) < (b[i].toNat : Int) := by omega
          have HN := Lib.hid (show r = -1 by rw [← HR.out, HC.out, HS.out, if_pos (UInt8.lt_iff_toNat_lt.2 h)])
          go_wp2_with fail
          go_quiet (fail)
          go_wp2_with fail
          go_ret
          exact ⟨by rw [HN.out]; rfl, HGR.out.drewN _⟩
        · have h' : ¬ (a[i].toNat : Int) < (b[i].toNat : Int) := by omega
          have h'' : ¬ (b[i].toNat : Int) < (a[i].toNat : Int) := by omega
          have HN := Lib.hid (show Lib.compareBytes a.data.toList b.data.toList = Lib.compareBytes (a.data.toList.drop (i + 1)) (b.data.toList.drop (i + 1)) by
            rw [HC.out, HS.out, if_neg (fun e => by have := UInt8.lt_iff_toNat_lt.1 e; omega), if_neg (fun e => by have := UInt8.lt_iff_toNat_lt.1 e; omega)])
          clear h
          go_wp2_with fail
          go_quiet (fail)
          go_wp2_with fail
          go_quiet (fail)
          go_wp2_with fail
          go_roundw
          case rel => exact ⟨i + 1, by go_num, by omega, by omega, HN.out, HGR.out.drewN _⟩
          case measure => simp [intOf]; omega
        · have h' : ¬ (a[i].toNat : Int) < (b[i].toNat : Int) := by omega
          have h'' : (b[i].toNat : Int) < (a[i].toNat : Int) := by omega
          have HN := Lib.hid (show r = 1 by rw [← HR.out, HC.out, HS.out, if_neg (fun e => by have := UInt8.lt_iff_toNat_lt.1 e; omega), if_pos (UInt8.lt_iff_toNat_lt.2 h)])
          clear h
          go_wp2_with fail
          go_quiet (fail)
          go_wp2_with fail
          go_quiet (fail)
          go_wp2_with fail
          go_ret
          exact ⟨by rw [HN.out]; rfl, (HGR.out.drewN _).drewN _⟩
      · obtain rfl : i = b.size := by omega
        have hn1 : ¬ (a.size : Int) < (b.size : Int) := by omega
        have HN := Lib.hid (show r = 1 by rw [← HR.out, HC.out, cB_long (by rw [EA.out]; exact hlt) (by rw [EB.out]; exact Nat.le_refl _)])
        go_wp2_with fail
        go_ret
        exact ⟨by rw [HN.out]; rfl, HGR.out⟩
    · obtain rfl : i = a.size := by omega
      by_cases hlt2 : a.size < b.size
      · have hlt2' : (a.size : Int) < (b.size : Int) := by omega
        have HN := Lib.hid (show r = -1 by rw [← HR.out, HC.out, cB_short (by rw [EA.out]; exact Nat.le_refl _) (by rw [EB.out]; exact hlt2)])
        go_wp2_with fail
        go_ret
        exact ⟨by rw [HN.out]; rfl, HGR.out⟩
      · have hn1 : ¬ (a.size : Int) < (b.size : Int) := by omega
        have hn2 : ¬ (b.size : Int) < (a.size : Int) := by omega
        have HN := Lib.hid (show r = 0 by rw [← HR.out, HC.out, cB_end (by rw [EA.out]; exact Nat.le_refl _) (by rw [EB.out]; omega)])
        go_wp2_with fail
        go_ret
        exact ⟨by rw [HN.out]; rfl, HGR.out⟩

set_option maxRecDepth 100000 in
set_option maxHeartbeats 1600000 in
theorem parts_any (p q : KP) (w : World) (hp : p.s.size ≤ 9223372036854775807) (hq : q.s.size ≤ 9223372036854775807) : Calls Tryd.prog 40 #[partV p, partV q] w fun e w' => e = .returned (.int .i64 (cmpK p q)) ∧ Grw w w' := by
  obtain ⟨w2, hw2⟩ : ∃ w2, w2 = (w.alloc (.cells #[.bool p.txt, .int .i64 p.n, .string p.s] 62)).alloc (.cells #[.bool q.txt, .int .i64 q.n, .string q.s] 62) := ⟨_, rfl⟩
  have G := Lib.hid (show Grw w w2 by rw [hw2]; exact ((Grw.refl w).alloc _).alloc _)
  have HS := Lib.hid (texts_any p.s q.s w2 hp hq)
  have HW := Lib.hid hw2
  clear hw2 hp hq
  obtain ⟨r, HR⟩ : ∃ r : Int, Hid (cmpK p q = r) := ⟨_, Lib.hid rfl⟩
  rw [HR.out]
  obtain ⟨pt, pn, ps⟩ := p
  obtain ⟨qt, qn, qs⟩ := q
  unfold cmpK at HR
  simp only at HS HW HR ⊢
  go_enter Tryd.func40, Tryd.ntmps40
  cases pt <;> cases qt
  · rcases Int.lt_trichotomy pn qn with h | h | h
    · have HN := Lib.hid (show r = -1 by rw [← HR.out, if_neg (by decide), if_neg (by decide)]; unfold cmpI; rw [if_pos h])
      go_wp2_with fail
      rw [← HW.out]
      go_ret
      exact ⟨by rw [HN.out]; rfl, G.out⟩
    · subst h
      have HN := Lib.hid (show r = 0 by rw [← HR.out, if_neg (by decide), if_neg (by decide)]; unfold cmpI; rw [if_neg (by omega), if_neg (by omega)])
      go_wp2_with fail
      rw [← HW.out]
      go_ret
      exact ⟨by rw [HN.out]; rfl, G.out⟩
    · have h' : ¬ pn < qn := by omega
      have HN := Lib.hid (show r = 1 by rw [← HR.out, if_neg (by decide), if_neg (by decide)]; unfold cmpI; rw [if_neg h', if_pos h])
      go_wp2_with fail
      rw [← HW.out]
      go_ret
      exact ⟨by rw [HN.out]; rfl, G.out⟩
  · have HN := Lib.hid (show r = -1 by rw [← HR.out, if_neg (by decide), if_pos rfl])
    go_wp2_with fail
    rw [← HW.out]
    go_ret
    exact ⟨by rw [HN.out]; rfl, G.out⟩
  · have HN := Lib.hid (show r = 1 by rw [← HR.out, if_pos rfl, if_neg (by decide)])
    go_wp2_with fail
    rw [← HW.out]
    go_ret
    exact ⟨by rw [HN.out]; rfl, G.out⟩
  · have HN := Lib.hid (show Lib.compareBytes ps.data.toList qs.data.toList = r by rw [← HR.out, if_pos rfl, if_pos rfl])
    go_wp2_with fail
    rw [← HW.out]
    refine HS.out.mono ?_
    rintro e w3 ⟨rfl, hg⟩
    rw [HN.out]
    go_wp2_with fail
    go_ret
    exact ⟨rfl, G.out.trans hg⟩

set_option maxRecDepth 100000 in
set_option maxHeartbeats 3200000 in
theorem refcmp_any (a b : List KP) (va vb : Value) (W : World) (ha : Prts W W.heap.size va a) (hb : Prts W W.heap.size vb b) (hla : a.length ≤ maxLen) (hlb : b.length ≤ maxLen) (hsa : ∀ p ∈ a, p.s.size ≤ 9223372036854775807) (hsb : ∀ p ∈ b, p.s.size ≤ 9223372036854775807) :
    Calls Tryd.prog 25 #[va, vb] W fun e w' => e = .returned (.int .i64 (cmpL a b)) ∧ Grw W w' := by
  obtain ⟨a1, c1, rfl⟩ := Sl.shape ha
  obtain ⟨a2, c2, rfl⟩ := Sl.shape hb
  have HA := Lib.hid ha; have HB := Lib.hid hb; have HSA := Lib.hid hsa; have HSB := Lib.hid hsb
  have hla' : (a.length : Int) ≤ 9223372036854775807 := by unfold maxLen at hla; omega
  have hlb' : (b.length : Int) ≤ 9223372036854775807 := by unfold maxLen at hlb; omega
  have mixed : Tryd.prog.follows .mixedOrders = true := by kernel_rfl
  clear ha hb hsa hsb
  obtain ⟨r, HR⟩ : ∃ r : Int, Hid (cmpL a b = r) := ⟨_, Lib.hid rfl⟩
  rw [HR.out]
  go_enter Tryd.func25, Tryd.ntmps25
  go_wp2_with fail
  go_loopw [5] (fun u wr => ∃ i : Nat, u = .int .i64 i ∧ i ≤ a.length ∧ i ≤ b.length ∧ cmpL a b = cmpL (a.drop i) (b.drop i) ∧ Grw W wr) (fun u _ => a.length - (intOf u).toNat)
  case atStart => exact ⟨0, rfl, by omega, by omega, rfl, Grw.refl _⟩
  case round =>
    obtain ⟨i, rfl, hia, hib, hc, hgr⟩ := hrel
    have HC := Lib.hid hc; have HGR := Lib.hid hgr
    have hsz := hgr.size
    clear hc hgr
    by_cases hlt : i < a.length
    · have hlt' : (i : Int) < (a.length : Int) := by omega
      have hi0 : (0 : Int) ≤ (i : Int) := by omega
      by_cases hlt2 : i < b.length
      · have hlt2' : (i : Int) < (b.length : Int) := by omega
        obtain ⟨g1, o1, q1, e1, hb1, x0, x1, x2⟩ := HA.out.at_ hlt
        obtain ⟨rfl, rfl⟩ : a1 = some ⟨g1, o1, none⟩ ∧ c1 = q1 := by simpa using e1
        obtain ⟨g2, o2, q2, e2, hb2, z0, z1, z2⟩ := HB.out.at_ hlt2
        obtain ⟨rfl, rfl⟩ : a2 = some ⟨g2, o2, none⟩ ∧ c2 = q2 := by simpa using e2
        have HD := Lib.hid (cmpL_drop hlt hlt2)
        have hsp := HSA.out a[i] (List.getElem_mem hlt)
        have hsq := HSB.out b[i] (List.getElem_mem hlt2)
        obtain ⟨p, hp⟩ : ∃ p, a[i] = p := ⟨_, rfl⟩
        obtain ⟨q, hq⟩ : ∃ q, b[i] = q := ⟨_, rfl⟩
        rw [hp] at x0 x1 x2 hsp
        rw [hq] at z0 z1 z2 hsq
        rw [hp, hq] at HD
        have y0 := Grw.cellG (show g1 < wr.heap.size by omega) (HGR.out.cell hb1 x0)
        have y1 := Grw.cellG (show g1 < wr.heap.size by omega) (HGR.out.cell hb1 x1)
        have y2 := Grw.cellG (show g1 < wr.heap.size by omega) (HGR.out.cell hb1 x2)
        have y3 := Grw.cellG (show g2 < wr.heap.size by omega) (HGR.out.cell hb2 z0)
        have y4 := Grw.cellG (show g2 < wr.heap.size by omega) (HGR.out.cell hb2 z1)
        have y5 := Grw.cellG (show g2 < wr.heap.size by omega) (HGR.out.cell hb2 z2)
        have HCM := Lib.hid (fun n os => parts_any p q (grow (wr.drewN n) os) hsp hsq)
        obtain ⟨c, hce⟩ : ∃ c, cmpK p q = c := ⟨_, rfl⟩
        rw [hce] at HD
        simp only [hce] at HCM
        clear x0 x1 x2 z0 z1 z2 e1 e2 hp hq hsp hsq hce
        go_wp2_with fail
        go_quiet_grown (first | (go_at_call 40; exact Grw.grown (HCM.out _ _)) | exact Grw.grown (HCM.out _ _))
        change Exit.then _ _ Exit.normal _ (grow (wr.drewN nq) osq)
        have HGQ := Lib.hid (HGR.out.trans (show Grw wr (grow (wr.drewN nq) osq) from ⟨nq, osq, rfl⟩))
        clear y0 y1 y2 y3 y4 y5 HCM
        generalize grow (wr.drewN nq) osq = w7 at *
        by_cases hz : c = 0
        · subst hz
          have HN := Lib.hid (show cmpL a b = cmpL (a.drop (i + 1)) (b.drop (i + 1)) by rw [HC.out, HD.out]; rfl)
          go_wp2_with fail
          go_roundw
          case rel => exact ⟨i + 1, by go_num, by omega, by omega, HN.out, HGQ.out⟩
          case measure => simp [intOf]; omega
        · have hz' : (c != 0) = true := by simpa using hz
          have HN := Lib.hid (show r = c by rw [← HR.out, HC.out, HD.out, if_pos hz])
          go_wp2_with fail
          go_ret
          exact ⟨by rw [HN.out]; rfl, HGQ.out⟩
      · obtain rfl : i = b.length := by omega
        have hn1 : ¬ (a.length : Int) < (b.length : Int) := by omega
        have HN := Lib.hid (show r = 1 by rw [← HR.out, HC.out, cmpL_long hlt (Nat.le_refl _)])
        go_wp2_with fail
        go_ret
        exact ⟨by rw [HN.out]; rfl, HGR.out⟩
    · obtain rfl : i = a.length := by omega
      by_cases hlt2 : a.length < b.length
      · have hlt2' : (a.length : Int) < (b.length : Int) := by omega
        have HN := Lib.hid (show r = -1 by rw [← HR.out, HC.out, cmpL_short (Nat.le_refl _) hlt2])
        go_wp2_with fail
        go_ret
        exact ⟨by rw [HN.out]; rfl, HGR.out⟩
      · have hn1 : ¬ (a.length : Int) < (b.length : Int) := by omega
        have hn2 : ¬ (b.length : Int) < (a.length : Int) := by omega
        have HN := Lib.hid (show r = 0 by rw [← HR.out, HC.out, cmpL_end (Nat.le_refl _) (by omega)])
        go_wp2_with fail
        go_ret
        exact ⟨by rw [HN.out]; rfl, HGR.out⟩
end Go.Proofs.YtceeijamhhokaaaDoor.WK
