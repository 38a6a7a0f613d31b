/- PlanCompiles: the law's walk. -/
import Derived.Test.YtcfimponmioneaaWake20
import Derived.Test.YtcfimponmioneaaPOk
import Derived.Test.YtcfimponmioneaaWR20d
import Derived.Test.YtcfimponmioneaaWR19e
namespace Go.Proofs.Ytcfimponmioneaa.WL
open Go Go.RowKit Go.Sort Go.Proofs.Ytcfimponmioneaa Go.Proofs.Ytcfimponmioneaa.PL Go.Proofs.Ytcfimponmioneaa.PP Go.Proofs.Ytcfimponmioneaa.Mem Go.Proofs.Ytcfimponmioneaa.WP

theorem Stps.of_own {w w' : World} {b : Nat} {e : TypeId} {v : Value} {l : List Stp} (h : w.ownsRow b e 5 v l.length (cellsOf encS l)) (hb : Below w.heap.size w w') : Stps w' w'.heap.size v (l.map gS) := by
  have h := Sl.more (Sl.below (Sl.of_own h) hb) hb.size
  rw [cells_gS] at h
  unfold Stps
  rw [List.length_map]
  exact h
theorem Cnds.of_own {w w' : World} {b : Nat} {e : TypeId} {v : Value} {l : List Cnd} (h : w.ownsRow b e 4 v l.length (cellsOf encC l)) (hb : Below w.heap.size w w') : Cnds w' w'.heap.size v (l.map gC) := by
  have h := Sl.more (Sl.below (Sl.of_own h) hb) hb.size
  rw [cells_gC] at h
  unfold Cnds
  rw [List.length_map]
  exact h

set_option maxRecDepth 100000 in
set_option maxHeartbeats 3200000 in
/-- A text that the reader refuses. -/
theorem compiles_bad (s : ByteArray) (W : World) (k : Nat) (er : Int) (hp : pParse s.data.toList = .inl (k, er)) :
    Calls Try.prog 8 #[.string s] W fun e w' => e = .returned (.bool true) ∧ Below W.heap.size W w' := by
  have her : (er != 0) = true := by simp [parse_nz hp]
  have her' : (er == 0) = false := by simp [parse_nz hp]
  have hc := compile_any s W
  rw [hp] at hc
  have HC := Lib.hid hc
  have HP := Lib.hid hp
  clear hc hp
  go_enter Try.func8, Try.ntmps8
  go_wp2_with fail
  refine HC.out.mono ?_
  rintro e w1 ⟨hb1, rfl⟩
  obtain ⟨w2, hw2⟩ : ∃ w2, w2 = w1.alloc (.cells #[nilS, .int .i64 0] 51) := ⟨_, rfl⟩
  have hb12 : Below w1.heap.size w1 w2 := by rw [hw2]; exact (Below.refl _ _).alloc (Nat.le_refl _) _
  have h9 := parse9 s w2
  rw [HP.out] at h9
  have H9 := Lib.hid h9
  have hsz1 := hb1.size
  have B2 := Lib.hid (hb1.trans (hb12.mono hb1.size))
  have HW2 := Lib.hid hw2
  clear h9 hb1 hb12 hw2 HC
  go_wp2_with fail
  rw [← HW2.out]
  refine H9.out.mono ?_
  rintro e w3 ⟨hb3, rfl⟩
  obtain ⟨w4, hw4⟩ : ∃ w4, w4 = w3.alloc (.cells #[.slice none 0 0, .slice none 0 0, .int .i64 0] 32) := ⟨_, rfl⟩
  have hb34 : Below w3.heap.size w3 w4 := by rw [hw4]; exact (Below.refl _ _).alloc (Nat.le_refl _) _
  have HWK := Lib.hid (wakes20_any w4)
  have B4 := Lib.hid (B2.out.trans ((hb3.mono B2.out.size).trans (hb34.mono (Nat.le_trans B2.out.size hb3.size))))
  have HW4 := Lib.hid hw4
  clear hb3 hb34 hw4 H9
  go_wp2_with fail
  rw [← HW4.out]
  refine HWK.out.mono ?_
  rintro e w5 ⟨rfl, hb5⟩
  have B5 := Lib.hid (B4.out.trans (hb5.mono B4.out.size))
  clear hb5 HWK
  go_wp2_with fail
  go_quiet (fail)
  go_wp2_with fail
  go_ret
  exact ⟨rfl, below_drewN B5.out _⟩

set_option maxRecDepth 100000 in
set_option maxHeartbeats 3200000 in
/-- A text that is read. -/
theorem compiles_good (s : ByteArray) (W : World) (p : Ptn) (hp : pParse s.data.toList = .inr p) :
    Calls Try.prog 8 #[.string s] W fun e w' => e = .returned (.bool true) ∧ Below W.heap.size W w' := by
  obtain ⟨hl1, hl2⟩ := PLen.parse_len hp
  have hc := compile_any s W
  rw [hp] at hc
  have HC := Lib.hid hc
  have HP := Lib.hid hp
  have hss : (p.ss.map gS).length ≤ maxLen := by rw [List.length_map]; unfold maxLen; omega
  have hcs : (p.cs.map gC).length ≤ maxLen := by rw [List.length_map]; unfold maxLen; omega
  clear hc hp
  go_enter Try.func8, Try.ntmps8
  go_wp2_with fail
  refine HC.out.mono ?_
  rintro e w1 ⟨hb1, hpost⟩
  obtain ⟨ck1, hk1⟩ : ∃ x, (checkP (p.ss.map gS) (p.cs.map gC) p.wi).1 = x := ⟨_, rfl⟩
  obtain ⟨ck2, hk2⟩ : ∃ x, (checkP (p.ss.map gS) (p.cs.map gC) p.wi).2 = x := ⟨_, rfl⟩
  have hpost' : ∃ pad pn pc wv, e = .returned (.tuple #[.agg #[.slice pad pn pc, .int .i64 wv], .int .i64 ck2]) ∧ (ck2 ≠ 0 ∨ (ck2 = 0 ∧ OKP (p.ss.map gS) (p.cs.map gC) p.wi ∧ wv = p.wi ∧ PlanAt w1 W.heap.size w1.heap.size (.slice pad pn pc) (groups (unitl (p.ss.map gS))) (testsAt (p.ss.map gS) (p.cs.map gC)))) := by
    dsimp only at hpost
    rw [hk2] at hpost
    rcases hpost with ⟨hbad, rfl⟩ | ⟨hck, hok, vs, rfl, hpl⟩
    · exact ⟨_, _, _, _, rfl, .inl hbad⟩
    · rw [hck] at hk1 hk2
      obtain ⟨ad, c, e, hq⟩ := hpl
      subst e
      subst hk1 hk2
      exact ⟨ad, _, c, _, rfl, .inr ⟨rfl, hok, rfl, ad, c, rfl, hq⟩⟩
  obtain ⟨pad, pn, pc, wv, rfl, hcase⟩ := hpost'
  have HCA := Lib.hid hcase
  have HK1 := Lib.hid hk1; have HK2 := Lib.hid hk2
  obtain ⟨w2, hw2⟩ : ∃ w2, w2 = w1.alloc (.cells #[.slice pad pn pc, .int .i64 wv] 51) := ⟨_, rfl⟩
  have hb12 : Below w1.heap.size w1 w2 := by rw [hw2]; exact (Below.refl _ _).alloc (Nat.le_refl _) _
  have hz2 : w2.heap.size = w1.heap.size + 1 := by rw [hw2]; simp
  have X3 := Lib.hid (show w2.heap[w1.heap.size]? = some (.cells #[.slice pad pn pc, .int .i64 wv] 51 (0, 0)) by rw [hw2]; exact heap_new rfl)
  have h9 := parse9 s w2
  rw [HP.out] at h9
  have H9 := Lib.hid h9
  have hsz1 := hb1.size
  have B1 := Lib.hid hb1
  have B12 := Lib.hid hb12
  have HW2 := Lib.hid hw2
  clear h9 hb1 hb12 hw2 HC hpost hcase hk1 hk2
  go_wp2_with fail
  rw [← HW2.out]
  refine H9.out.mono ?_
  rintro e w3 ⟨hb3, sb, cb, rfl, o1, o2⟩
  obtain ⟨sbd, sbcap, rfl⟩ := own_slice o1
  obtain ⟨cbd, cbcap, rfl⟩ := own_slice o2
  obtain ⟨w4, hw4⟩ : ∃ w4, w4 = w3.alloc (.cells #[.slice sbd p.ss.length sbcap, .slice cbd p.cs.length cbcap, .int .i64 p.wi] 32) := ⟨_, rfl⟩
  have hb34 : Below w3.heap.size w3 w4 := by rw [hw4]; exact (Below.refl _ _).alloc (Nat.le_refl _) _
  have hz4 : w4.heap.size = w3.heap.size + 1 := by rw [hw4]; simp
  have hsz3 := hb3.size
  have X4 := Lib.hid (show w4.heap[w3.heap.size]? = some (.cells #[.slice sbd p.ss.length sbcap, .slice cbd p.cs.length cbcap, .int .i64 p.wi] 32 (0, 0)) by rw [hw4]; exact heap_new rfl)
  have B24 := Lib.hid (hb3.trans (hb34.mono hb3.size))
  have X3' := Lib.hid ((B24.out.block w1.heap.size (by omega)).trans X3.out)
  have HS4 := Lib.hid (Stps.of_own o1 hb34)
  have HC4 := Lib.hid (Cnds.of_own o2 hb34)
  have HCK := Lib.hid (check20 _ _ p.wi _ _ w4 HS4.out HC4.out hss hcs)
  rw [HK1.out, HK2.out] at HCK
  have HW4 := Lib.hid hw4
  clear hb3 hb34 hw4 H9 o1 o2 X3
  go_wp2_with fail
  rw [← HW4.out]
  refine HCK.out.mono ?_
  rintro e w6 ⟨rfl, hg6⟩
  have hb46 := hg6.below
  have HWK := Lib.hid (wakes20_any w6)
  have hsz6 := hg6.size
  have HB46 := Lib.hid hb46
  clear HCK hg6 hb46
  go_wp2_with fail
  refine HWK.out.mono ?_
  rintro e w7 ⟨rfl, hb67⟩
  have hb47 := HB46.out.trans (hb67.mono hsz6)
  have hsz7 := hb47.size
  have HB47 := Lib.hid hb47
  have hb27 := B24.out.trans (hb47.mono (by omega))
  have hb17 := B12.out.trans (hb27.mono (by omega))
  have B7 := Lib.hid (B1.out.trans (hb17.mono hsz1))
  have B17 := Lib.hid hb17
  clear hb67 HWK hb47 hb27 hb17
  rcases HCA.out with hbad | ⟨hk2, hok, hwv, hpl⟩
  · have hbad' : (ck2 != 0) = true := by simpa using hbad
    have hbad'' : (ck2 == 0) = false := by simpa using hbad
    clear HCA hbad
    go_wp2_with fail
    go_quiet (fail)
    go_wp2_with fail
    go_ret
    exact ⟨rfl, below_drewN B7.out _⟩
  · obtain rfl := hk2
    obtain rfl := hwv
    have HOK := Lib.hid hok
    have HPL := Lib.hid hpl
    clear hok hpl HCA
    have Z5 := Lib.hid ((HB47.out.block w1.heap.size (by omega)).trans X3'.out)
    have Z6 := Lib.hid ((HB47.out.block w3.heap.size (by omega)).trans X4.out)
    have hl3 : w3.heap.size < w7.heap.size := by omega
    have hl1' : w1.heap.size < w7.heap.size := by omega
    have z0 : w7.cell? ⟨w1.heap.size, 0, none⟩ = some (.slice pad pn pc) := (Lib.cell_of_heap Z5.out 0).trans rfl
    have z1 : w7.cell? ⟨w1.heap.size, 1, none⟩ = some (.int .i64 p.wi) := (Lib.cell_of_heap Z5.out 1).trans rfl
    have z2 : w7.cell? ⟨w3.heap.size, 0, none⟩ = some (.slice sbd p.ss.length sbcap) := (Lib.cell_of_heap Z6.out 0).trans rfl
    have z3 : w7.cell? ⟨w3.heap.size, 1, none⟩ = some (.slice cbd p.cs.length cbcap) := (Lib.cell_of_heap Z6.out 1).trans rfl
    have z4 : w7.cell? ⟨w3.heap.size, 2, none⟩ = some (.int .i64 p.wi) := (Lib.cell_of_heap Z6.out 2).trans rfl
    have hs7 : Stps w7.drew w7.drew.heap.size (.slice sbd p.ss.length sbcap) (p.ss.map gS) := Sl.drew (Sl.more (Sl.below HS4.out HB47.out) hsz7)
    have hc7 : Cnds w7.drew w7.drew.heap.size (.slice cbd p.cs.length cbcap) (p.cs.map gC) := Sl.drew (Sl.more (Sl.below HC4.out HB47.out) hsz7)
    have HM7 := Lib.hid (make20 _ _ p.wi _ _ w7.drew hs7 hc7 HOK.out)
    have HSM : ∀ (w8 : World) (qs : Value), Below w7.drew.heap.size w7.drew w8 → DocAt w8 w7.drew.heap.size w8.heap.size qs (p.ss.map gS) (testsAt (p.ss.map gS) (p.cs.map gC)) → Calls Try.prog 22 #[.agg #[.slice pad pn pc, .int .i64 p.wi], .agg #[qs, .int .i64 p.wi]] w8 fun e w' => e = .returned (.bool true) ∧ Grw w8 w' := fun w8 qs hb hd => by
      have hz : w7.heap.size ≤ w8.heap.size := hb.size
      refine same20 _ qs p.wi _ _ _ w8 W.heap.size ((HPL.out.keep fun q _ h2 => ?_).more (Nat.le_refl _) (by omega)) (hd.more (show W.heap.size ≤ w7.heap.size by omega) (Nat.le_refl _)) (flat_fst _) HOK.out.good HOK.out.n8 HOK.out.tests
      rw [World.cell?_of_block (hb.block q.block (show q.block < w7.heap.size by omega))]
      exact World.cell?_of_block (B17.out.block q.block h2)
    have HSM' := Lib.hid HSM
    clear hs7 hc7 HSM
    go_wp2_with fail
    go_region_held3 (fun w' => w'.cell? ⟨w1.heap.size, 0, none⟩ = some (.slice pad pn pc) ∧ w'.cell? ⟨w1.heap.size, 1, none⟩ = some (.int .i64 p.wi) ∧ w'.cell? ⟨w3.heap.size, 0, none⟩ = some (.slice sbd p.ss.length sbcap) ∧ w'.cell? ⟨w3.heap.size, 1, none⟩ = some (.slice cbd p.cs.length cbcap) ∧ w'.cell? ⟨w3.heap.size, 2, none⟩ = some (.int .i64 p.wi)) (go_keep)
      (first
        | (go_at_call 23; refine HM7.out.mono ?_; rintro e w8 ⟨hb8, qs, rfl, hd8⟩; have H8 := Lib.hid (HSM'.out w8 qs hb8 hd8); have B8 := Lib.hid hb8; have k0 := (hb8.cell (p := ⟨w1.heap.size, 0, none⟩) hl1').trans z0; have k1 := (hb8.cell (p := ⟨w1.heap.size, 1, none⟩) hl1').trans z1; have k2 := (hb8.cell (p := ⟨w3.heap.size, 0, none⟩) hl3).trans z2; have k3 := (hb8.cell (p := ⟨w3.heap.size, 1, none⟩) hl3).trans z3; have k4 := (hb8.cell (p := ⟨w3.heap.size, 2, none⟩) hl3).trans z4; clear hb8 hd8)
        | (go_at_call 22; refine H8.out.mono ?_; rintro e w9 ⟨rfl, hg9⟩; have B9 := Lib.hid hg9.below; have hz8 := B8.out.size; have hl8 : w1.heap.size < w8.heap.size := Nat.lt_of_lt_of_le hl1' hz8; have hl9 : w3.heap.size < w8.heap.size := Nat.lt_of_lt_of_le hl3 hz8; have j0 := hg9.cell hl8 k0; have j1 := hg9.cell hl8 k1; have j2 := hg9.cell hl9 k2; have j3 := hg9.cell hl9 k3; have j4 := hg9.cell hl9 k4; clear hg9))
    go_wp2_with fail
    go_ret
    exact ⟨rfl, B7.out.drew.trans ((B8.out.trans (B9.out.mono B8.out.size)).mono B7.out.size)⟩

theorem compiles_law (s : ByteArray) (W : World) : Calls Try.prog 8 #[.string s] W fun e w' => e = .returned (.bool true) ∧ Below W.heap.size W w' := by
  cases hp : pParse s.data.toList with
  | inl f => exact compiles_bad s W f.1 f.2 hp
  | inr p => exact compiles_good s W p hp
end Go.Proofs.Ytcfimponmioneaa.WL
