/- PlanMakes: the law's walk. -/
import Derived.Test.YtcfimponmioneaaWake20
import Derived.Test.YtcfimponmioneaaPats
import Derived.Test.YtcfimponmioneaaPOk
import Derived.Test.YtcfimponmioneaaWR20d
namespace Go.Proofs.Ytcfimponmioneaa.WL
open Go Go.RowKit Go.Sort Go.Proofs.Ytcfimponmioneaa Go.Proofs.Ytcfimponmioneaa.PL Go.Proofs.Ytcfimponmioneaa.Mem Go.Proofs.Ytcfimponmioneaa.WP

theorem Sl.own_more {w w' : World} {b s n : Nat} {e : TypeId} {v : Value} {xs : List Value} (h : w.ownsRow b e s v n xs) (hb : Below w.heap.size w w') : Sl w' w'.heap.size s v n xs :=
  Sl.more (Sl.below (Sl.of_own h) hb) hb.size

set_option maxRecDepth 100000 in
set_option maxHeartbeats 3200000 in
theorem makes_law (vs vc : Value) (wi : Int) (ss : List GS) (cs : List GC) (W : World) (h1 : Stps W W.heap.size vs ss) (h2 : Cnds W W.heap.size vc cs) (hl1 : ss.length * 24 ≤ 140737488351232) (hl2 : cs.length * 32 ≤ 140737488351232) :
    Calls Try.prog 7 #[.agg #[vs, vc, .int .i64 wi]] W fun e w' => e = .returned (.bool true) ∧ Below W.heap.size W w' := by
  obtain ⟨a1, c1, rfl⟩ := Sl.shape h1
  obtain ⟨a2, c2, rfl⟩ := Sl.shape h2
  obtain ⟨w1, hw1⟩ : ∃ w1, w1 = W.alloc (.cells #[.slice a1 ss.length c1, .slice a2 cs.length c2, .int .i64 wi] 46) := ⟨_, rfl⟩
  have hb1 : Below W.heap.size W w1 := by rw [hw1]; exact (Below.refl _ _).alloc (Nat.le_refl _) _
  have hz1 : w1.heap.size = W.heap.size + 1 := by rw [hw1]; simp
  have HPT := Lib.hid (pats_any _ _ wi ss cs w1 (Sl.more (Sl.below h1 hb1) hb1.size) (Sl.more (Sl.below h2 hb1) hb1.size) hl1 hl2)
  have HW1 := Lib.hid hw1
  have HB1 := Lib.hid hb1
  have hss : ss.length ≤ maxLen := by unfold maxLen; omega
  have hcs : cs.length ≤ maxLen := by unfold maxLen; omega
  clear h1 h2 hw1 hb1
  go_enter Try.func7, Try.ntmps7
  go_wp2_with fail
  rw [← HW1.out]
  refine HPT.out.mono ?_
  rintro e w2 ⟨sa, ca, sb, cb, rfl, hb2, o1, o2, o3, o4⟩
  obtain ⟨sad, scap, rfl⟩ := own_slice o1
  obtain ⟨sbd, sbcap, rfl⟩ := own_slice o2
  obtain ⟨cad, ccap, rfl⟩ := own_slice o3
  obtain ⟨cbd, cbcap, rfl⟩ := own_slice o4
  obtain ⟨w3, hw3⟩ : ∃ w3, w3 = (w2.alloc (.cells #[.slice sad ss.length scap, .slice cad cs.length ccap, .int .i64 wi] 25)).alloc (.cells #[.slice sbd ss.length sbcap, .slice cbd cs.length cbcap, .int .i64 wi] 32) := ⟨_, rfl⟩
  have hb23 : Below w2.heap.size w2 w3 := by rw [hw3]; exact ((Below.refl _ _).alloc (Nat.le_refl _) _).alloc (by simp) _
  have hz3 : w3.heap.size = w2.heap.size + 2 := by rw [hw3]; simp
  have X3 := Lib.hid (show w3.heap[w2.heap.size]? = some (.cells #[.slice sad ss.length scap, .slice cad cs.length ccap, .int .i64 wi] 25 (0, 0)) by rw [hw3]; exact heap_alloc (heap_new rfl))
  have X4 := Lib.hid (show w3.heap[w2.heap.size + 1]? = some (.cells #[.slice sbd ss.length sbcap, .slice cbd cs.length cbcap, .int .i64 wi] 32 (0, 0)) by rw [hw3]; exact heap_new (by simp))
  have HMK := Lib.hid (make_any _ _ wi ss cs w3 (Sl.own_more o1 hb23) (Sl.own_more o3 hb23) hss hcs)
  have HS2 := Lib.hid (show Stps w3 w3.heap.size (.slice sbd ss.length sbcap) ss from Sl.own_more o2 hb23)
  have HC2 := Lib.hid (show Cnds w3 w3.heap.size (.slice cbd cs.length cbcap) cs from Sl.own_more o4 hb23)
  have hsz2 := hb2.size
  have HB3 := Lib.hid (HB1.out.trans ((hb2.mono (by omega)).trans (hb23.mono (by omega))))
  have HW3 := Lib.hid hw3
  clear hb2 o1 o2 o3 o4 hw3 hb23 HPT
  go_wp2_with fail
  rw [← HW3.out]
  refine HMK.out.mono ?_
  rintro e w4 ⟨hb4, hpost⟩
  obtain ⟨ck1, hk1⟩ : ∃ x, (checkP ss cs wi).1 = x := ⟨_, rfl⟩
  obtain ⟨ck2, hk2⟩ : ∃ x, (checkP ss cs wi).2 = x := ⟨_, rfl⟩
  have hpost' : ∃ pad pn pc wv, e = .returned (.tuple #[.agg #[.slice pad pn pc, .int .i64 wv], .int .i64 ck1, .int .i64 ck2]) ∧ ((ck2 ≠ 0 ∧ pn = 0 ∧ wv = 0) ∨ (ck1 = 0 ∧ ck2 = 0 ∧ OKP ss cs wi ∧ wv = wi ∧ PlanAt w4 w3.heap.size w4.heap.size (.slice pad pn pc) (groups (unitl ss)) (testsAt ss cs))) := by
    rw [hk1, hk2] at hpost
    rcases hpost with ⟨hbad, rfl⟩ | ⟨hck, hok, vs, rfl, hpl⟩
    · exact ⟨_, _, _, _, rfl, .inl ⟨hbad, rfl, rfl⟩⟩
    · rw [hck] at hk1 hk2
      obtain ⟨ad, c, e, hq⟩ := hpl
      subst e
      subst hk1 hk2
      exact ⟨ad, _, c, _, rfl, .inr ⟨rfl, rfl, hok, rfl, ad, c, rfl, hq⟩⟩
  obtain ⟨pad, pn, pc, wv, rfl, hcase⟩ := hpost'
  have hb34 := Lib.hid hb4
  have hsz4 := hb4.size
  have HCA := Lib.hid hcase
  have HK1 := Lib.hid hk1; have HK2 := Lib.hid hk2
  clear hpost hb4 HMK hcase hk1 hk2
  obtain ⟨b3, hb3⟩ : ∃ b, w2.heap.size = b := ⟨_, rfl⟩
  rw [hb3] at X3 X4 hz3 hsz2 ⊢
  clear hb3
  obtain ⟨b4, hb4⟩ : ∃ b, b3 + 1 = b := ⟨_, rfl⟩
  rw [hb4] at X4 ⊢
  have hlt3 : b3 < b4 := by omega
  have hlt4 : b4 < w3.heap.size := by omega
  clear hb4
  obtain ⟨w5, hw5⟩ : ∃ w5, w5 = w4.alloc (.cells #[.slice pad pn pc, .int .i64 wv] 51) := ⟨_, rfl⟩
  have hb45 : Below w4.heap.size w4 w5 := by rw [hw5]; exact (Below.refl _ _).alloc (Nat.le_refl _) _
  have hz5 : w5.heap.size = w4.heap.size + 1 := by rw [hw5]; simp
  have hb35 : Below w3.heap.size w3 w5 := hb34.out.trans (hb45.mono hsz4)
  have Y4 := Lib.hid ((hb35.block b4 (by omega)).trans X4.out)
  have Y5 := Lib.hid (show w5.heap[w4.heap.size]? = some (.cells #[.slice pad pn pc, .int .i64 wv] 51 (0, 0)) by rw [hw5]; exact heap_new rfl)
  have HCK := Lib.hid (check20 _ _ wi ss cs w5 (Sl.more (Sl.below HS2.out hb35) hb35.size) (Sl.more (Sl.below HC2.out hb35) hb35.size) hss hcs)
  rw [HK1.out, HK2.out] at HCK
  have HW5 := Lib.hid hw5
  have HB45 := Lib.hid hb45; have HB35 := Lib.hid hb35
  have Z4 := Lib.hid ((hb34.out.block b4 (by omega)).trans X4.out)
  have y0 : w4.cell? ⟨b4, 0, none⟩ = some (.slice sbd ss.length sbcap) := (Lib.cell_of_heap Z4.out 0).trans rfl
  have y1 : w4.cell? ⟨b4, 1, none⟩ = some (.slice cbd cs.length cbcap) := (Lib.cell_of_heap Z4.out 1).trans rfl
  have y2 : w4.cell? ⟨b4, 2, none⟩ = some (.int .i64 wi) := (Lib.cell_of_heap Z4.out 2).trans rfl
  have hne4 : b4 ≠ w4.heap.size := by omega
  have hlt44 : b4 < w4.heap.size := by omega
  clear hw5 hb45 hb35
  go_wp2_with fail
  rw [← HW5.out]
  refine HCK.out.mono ?_
  rintro e w6 ⟨rfl, hg6⟩
  have hb56 := hg6.below
  have HWK := Lib.hid (wakes20_any w6)
  have hsz6 := hg6.size
  have HB56 := Lib.hid hb56
  clear HCK y0 y1 y2 hg6 hb56
  go_wp2_with fail
  refine HWK.out.mono ?_
  rintro e w7 ⟨rfl, hb67⟩
  have hb57 := HB56.out.trans (hb67.mono hsz6)
  have hsz7 := hb57.size
  have HB57 := Lib.hid hb57
  clear hb67 HWK hb57
  rcases HCA.out with ⟨hbad, hpn, hwv⟩ | ⟨hk1, hk2, hok, hwv, hpl⟩
  · have hbad' : (ck2 != 0) = true := by simpa using hbad
    have hbad'' : (ck2 == 0) = false := by simpa using hbad
    obtain rfl := hpn
    obtain rfl := hwv
    have Z5 := Lib.hid ((HB57.out.block w4.heap.size (by omega)).trans Y5.out)
    have z0 : w7.cell? ⟨w4.heap.size, 0, none⟩ = some (.slice pad 0 pc) := (Lib.cell_of_heap Z5.out 0).trans rfl
    have z1 : w7.cell? ⟨w4.heap.size, 1, none⟩ = some (.int .i64 0) := (Lib.cell_of_heap Z5.out 1).trans rfl
    clear HCA hbad
    go_wp2_with fail
    go_ret
    exact ⟨rfl, HB3.out.trans ((HB35.out.trans (HB57.out.mono (by omega))).mono (by omega))⟩
  · obtain rfl := hk1
    obtain rfl := hk2
    obtain rfl := hwv
    have HOK := Lib.hid hok
    have HPL := Lib.hid hpl
    clear hok hpl HCA
    have Z5 := Lib.hid ((HB57.out.block w4.heap.size (by omega)).trans Y5.out)
    have Z6 := Lib.hid ((HB57.out.block b4 (by omega)).trans Y4.out)
    have z0 : w7.cell? ⟨w4.heap.size, 0, none⟩ = some (.slice pad pn pc) := (Lib.cell_of_heap Z5.out 0).trans rfl
    have z1 : w7.cell? ⟨w4.heap.size, 1, none⟩ = some (.int .i64 wv) := (Lib.cell_of_heap Z5.out 1).trans rfl
    have z2 : w7.cell? ⟨b4, 0, none⟩ = some (.slice sbd ss.length sbcap) := (Lib.cell_of_heap Z6.out 0).trans rfl
    have z3 : w7.cell? ⟨b4, 1, none⟩ = some (.slice cbd cs.length cbcap) := (Lib.cell_of_heap Z6.out 1).trans rfl
    have z4 : w7.cell? ⟨b4, 2, none⟩ = some (.int .i64 wv) := (Lib.cell_of_heap Z6.out 2).trans rfl
    have hb37 := HB35.out.trans (HB57.out.mono (by omega))
    have hs7 : Stps w7.drew w7.drew.heap.size (.slice sbd ss.length sbcap) ss := Sl.drew (Sl.more (Sl.below HS2.out hb37) hb37.size)
    have hc7 : Cnds w7.drew w7.drew.heap.size (.slice cbd cs.length cbcap) cs := Sl.drew (Sl.more (Sl.below HC2.out hb37) hb37.size)
    have HM7 := Lib.hid (make20 _ _ wv ss cs w7.drew hs7 hc7 HOK.out)
    have HSM : ∀ (w8 : World) (qs : Value), Below w7.drew.heap.size w7.drew w8 → DocAt w8 w7.drew.heap.size w8.heap.size qs ss (testsAt ss cs) → Calls Try.prog 22 #[.agg #[.slice pad pn pc, .int .i64 wv], .agg #[qs, .int .i64 wv]] w8 fun e w' => e = .returned (.bool true) ∧ Grw w8 w' := fun w8 qs hb hd => by
      have hz : w7.heap.size ≤ w8.heap.size := hb.size
      refine same20 _ qs wv ss (groups (unitl ss)) (testsAt ss cs) w8 w3.heap.size ((HPL.out.keep fun p _ h2 => ?_).more (Nat.le_refl _) (by omega)) (hd.more (show w3.heap.size ≤ w7.heap.size by omega) (Nat.le_refl _)) (flat_fst ss) HOK.out.good HOK.out.n8 HOK.out.tests
      rw [World.cell?_of_block (hb.block p.block (show p.block < w7.heap.size by omega))]
      exact World.cell?_of_block ((HB45.out.trans (HB57.out.mono (by omega))).block p.block h2)
    have HSM' := Lib.hid HSM
    have B7 := Lib.hid (HB3.out.trans (hb37.mono (by omega)))
    clear hb37 hs7 hc7 HSM
    go_wp2_with fail
    go_region_held3 (fun w' => w'.cell? ⟨w4.heap.size, 0, none⟩ = some (.slice pad pn pc) ∧ w'.cell? ⟨w4.heap.size, 1, none⟩ = some (.int .i64 wv) ∧ w'.cell? ⟨b4, 0, none⟩ = some (.slice sbd ss.length sbcap) ∧ w'.cell? ⟨b4, 1, none⟩ = some (.slice cbd cs.length cbcap) ∧ w'.cell? ⟨b4, 2, none⟩ = some (.int .i64 wv)) (go_keep)
      (first
        | (go_at_call 23; refine HM7.out.mono ?_; rintro e w8 ⟨hb8, qs, rfl, hd8⟩; have H8 := Lib.hid (HSM'.out w8 qs hb8 hd8); have B8 := Lib.hid hb8; have k0 := (hb8.cell (p := ⟨w4.heap.size, 0, none⟩) (show w4.heap.size < w7.heap.size by omega)).trans z0; have k1 := (hb8.cell (p := ⟨w4.heap.size, 1, none⟩) (show w4.heap.size < w7.heap.size by omega)).trans z1; have k2 := (hb8.cell (p := ⟨b4, 0, none⟩) (show b4 < w7.heap.size by omega)).trans z2; have k3 := (hb8.cell (p := ⟨b4, 1, none⟩) (show b4 < w7.heap.size by omega)).trans z3; have k4 := (hb8.cell (p := ⟨b4, 2, none⟩) (show b4 < w7.heap.size by omega)).trans z4; clear hb8 hd8)
        | (go_at_call 22; refine H8.out.mono ?_; rintro e w9 ⟨rfl, hg9⟩; have B9 := Lib.hid hg9.below; have hz8 := B8.out.size; have hl8 : w4.heap.size < w8.heap.size := Nat.lt_of_lt_of_le (show w4.heap.size < w7.heap.size by omega) hz8; have hl9 : b4 < w8.heap.size := Nat.lt_trans hlt44 hl8; have j0 := hg9.cell hl8 k0; have j1 := hg9.cell hl8 k1; have j2 := hg9.cell hl9 k2; have j3 := hg9.cell hl9 k3; have j4 := hg9.cell hl9 k4; clear hg9))
    go_wp2_with fail
    go_ret
    exact ⟨rfl, B7.out.drew.trans ((B8.out.trans (B9.out.mono B8.out.size)).mono B7.out.size)⟩
end Go.Proofs.Ytcfimponmioneaa.WL
