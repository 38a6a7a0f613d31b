/- EventKeys: the law's walk. -/
import Derived.Test.YtceeijamhhokaaaDoorLawEv
import Derived.Test.YtceeijamhhokaaaDoorWECmp
import Derived.Deep.RegionHeld3
import Derived.Deep.DeepCutAuto
import Derived.Lib.QuietBelow
namespace Go.Proofs.YtceeijamhhokaaaDoor.WK
open Go Go.RowKit Go.Sort Go.Proofs.YtceeijamhhokaaaDoor Go.Proofs.YtceeijamhhokaaaDoor.PK Go.Proofs.YtceeijamhhokaaaDoor.Mem

theorem key_small (t i : Int) : (((⟨(evKey [t, i]).toArray⟩ : ByteArray).size : Nat) : Int) ≤ 64 := by
  have h : (⟨(evKey [t, i]).toArray⟩ : ByteArray).size = (evKey [t, i]).length := rfl
  rw [h, key_len]; decide

set_option maxRecDepth 100000 in
set_option maxHeartbeats 6400000 in
theorem keys_law (x y : Ev) (W : World) (hx : x.fits) (hy : y.fits) (hm : MaxLen W) (hg : 0 < W.heap.size) :
    Calls Tryd.prog 10 #[WE.evV x, WE.evV y] W fun e w' => e = .returned (.bool true) ∧ Below W.heap.size W w' := by
  have HWK := Lib.hid (fun w => L18.wakes_any w)
  have HK := Lib.hid (fun w hm hg => ekey_any x w hm hg hx)
  have HK2 := Lib.hid (fun w hm hg => ekey_any y w hm hg hy)
  have HG := Lib.hid (fun w => WE.good_any x w)
  have HG2 := Lib.hid (fun w => WE.good_any y w)
  have HL := Lib.hid (fun w => (eless_any x y w).mono fun _ _ ⟨h1, h2⟩ => And.intro h1 h2.below)
  have hbl : Op.bytesLess (⟨(evKey [x.time, x.id]).toArray⟩ : ByteArray).toList (⟨(evKey [y.time, y.id]).toArray⟩ : ByteArray).toList = lessE x y := by rw [toL, toL]; exact keys_less hx hy
  have hsm := key_small x.time x.id
  have r1 := goodN_two x
  have r2 := goodN_two y
  obtain ⟨g, hgd⟩ : ∃ g, WE.goodN x = g := ⟨_, rfl⟩
  obtain ⟨g2, hgd2⟩ : ∃ g, WE.goodN y = g := ⟨_, rfl⟩
  obtain ⟨s, hs⟩ : ∃ s, lessE x y = s := ⟨_, rfl⟩
  obtain ⟨k, hk⟩ : ∃ k, (⟨(evKey [x.time, x.id]).toArray⟩ : ByteArray) = k := ⟨_, rfl⟩
  obtain ⟨k2, hk2⟩ : ∃ k, (⟨(evKey [y.time, y.id]).toArray⟩ : ByteArray) = k := ⟨_, rfl⟩
  rw [hgd] at HG r1
  rw [hgd2] at HG2 r2
  rw [hs] at HL hbl
  rw [hk] at HK hbl hsm
  rw [hk2] at HK2 hbl
  clear hgd hgd2 hs hk hk2
  have mixed : Tryd.prog.follows .mixedOrders = true := by kernel_rfl
  unfold WE.evV at HK HK2 HG HG2 HL ⊢
  obtain ⟨w2, hw2⟩ : ∃ w2, w2 = (W.alloc (.cells #[.int .i64 x.id, .int .i64 x.time, .int .u8 x.kind, .int .i64 x.val] 43)).alloc (.cells #[.int .i64 y.id, .int .i64 y.time, .int .u8 y.kind, .int .i64 y.val] 43) := ⟨_, rfl⟩
  have hz2 : w2.heap.size = W.heap.size + 2 := by rw [hw2]; simp
  have B2 := Lib.hid (show Below W.heap.size W w2 by rw [hw2]; exact ((Below.refl _ _).alloc (Nat.le_refl _) _).alloc (by simp) _)
  have P0 := Lib.hid (show w2.heap[W.heap.size]? = some (.cells #[.int .i64 x.id, .int .i64 x.time, .int .u8 x.kind, .int .i64 x.val] 43 (0, 0)) by rw [hw2]; exact heap_alloc (heap_new rfl))
  have P1 := Lib.hid (show w2.heap[W.heap.size + 1]? = some (.cells #[.int .i64 y.id, .int .i64 y.time, .int .u8 y.kind, .int .i64 y.val] 43 (0, 0)) by rw [hw2]; exact heap_new (by simp))
  have HW2 := Lib.hid hw2
  clear hw2
  go_enter Tryd.func10, Tryd.ntmps10
  go_wp2_with fail
  rw [← HW2.out]
  have x0 : w2.cell? ⟨W.heap.size, 0, none⟩ = some (.int .i64 x.id) := (Lib.cell_of_heap P0.out 0).trans rfl
  have x1 : w2.cell? ⟨W.heap.size, 1, none⟩ = some (.int .i64 x.time) := (Lib.cell_of_heap P0.out 1).trans rfl
  have x2 : w2.cell? ⟨W.heap.size, 2, none⟩ = some (.int .u8 x.kind) := (Lib.cell_of_heap P0.out 2).trans rfl
  have x3 : w2.cell? ⟨W.heap.size, 3, none⟩ = some (.int .i64 x.val) := (Lib.cell_of_heap P0.out 3).trans rfl
  have y0 : w2.cell? ⟨W.heap.size + 1, 0, none⟩ = some (.int .i64 y.id) := (Lib.cell_of_heap P1.out 0).trans rfl
  have y1 : w2.cell? ⟨W.heap.size + 1, 1, none⟩ = some (.int .i64 y.time) := (Lib.cell_of_heap P1.out 1).trans rfl
  have y2 : w2.cell? ⟨W.heap.size + 1, 2, none⟩ = some (.int .u8 y.kind) := (Lib.cell_of_heap P1.out 2).trans rfl
  have y3 : w2.cell? ⟨W.heap.size + 1, 3, none⟩ = some (.int .i64 y.val) := (Lib.cell_of_heap P1.out 3).trans rfl
  go_cut [5, 6] (fun s1 s2 wx => ∃ b1 b2 : Nat, s1 = .pointer (some ⟨b1, 0, none⟩) ∧ s2 = .pointer (some ⟨b2, 0, none⟩) ∧ wx.heap[b1]? = some (.cells #[.int .i64 x.id, .int .i64 x.time, .int .u8 x.kind, .int .i64 x.val] 47 (0, 0)) ∧ wx.heap[b2]? = some (.cells #[.int .i64 y.id, .int .i64 y.time, .int .u8 y.kind, .int .i64 y.val] 47 (0, 0)) ∧ Below w2.heap.size w2 wx)
  case first =>
    go_region_held3 (fun w' => w'.cell? ⟨W.heap.size, 0, none⟩ = some (.int .i64 x.id) ∧ w'.cell? ⟨W.heap.size, 1, none⟩ = some (.int .i64 x.time) ∧ w'.cell? ⟨W.heap.size, 2, none⟩ = some (.int .u8 x.kind) ∧ w'.cell? ⟨W.heap.size, 3, none⟩ = some (.int .i64 x.val) ∧ w'.cell? ⟨W.heap.size + 1, 0, none⟩ = some (.int .i64 y.id) ∧ w'.cell? ⟨W.heap.size + 1, 1, none⟩ = some (.int .i64 y.time) ∧ w'.cell? ⟨W.heap.size + 1, 2, none⟩ = some (.int .u8 y.kind) ∧ w'.cell? ⟨W.heap.size + 1, 3, none⟩ = some (.int .i64 y.val)) (go_keep) (fail)
    all_goals (go_wp2_with fail; go_meet)
    · exact ⟨_, _, rfl, rfl, Mem.heap_drew (heap_alloc (heap_new hz2.symm)), Mem.heap_drew (heap_new (by simp [hz2])), show Below w2.heap.size w2 (World.drew _) from (((Below.refl w2.heap.size w2).alloc (Nat.le_refl _) _).alloc (by simp) _).drew⟩
    · exact ⟨_, _, rfl, rfl, Mem.heap_drew (heap_new (by simp [hz2])), Mem.heap_drew (heap_alloc (heap_new hz2.symm)), show Below w2.heap.size w2 (World.drew _) from (((Below.refl w2.heap.size w2).alloc (Nat.le_refl _) _).alloc (by simp) _).drew⟩
  case rest =>
    obtain ⟨b1, b2, rfl, rfl, hx1, hx2, hbc⟩ := hcut
    have hbc : Below w2.heap.size w2 wc := hbc
    have HB := Lib.hid (B2.out.trans (hbc.mono B2.out.size))
    have HX1 := Lib.hid hx1; have HX2 := Lib.hid hx2
    clear hbc x0 x1 x2 x3 y0 y1 y2 y3 HW2 P0 P1 B2 hx1 hx2
    go_wp2_with fail
    refine (HWK.out _).mono ?_
    rintro e w3 ⟨rfl, hb3⟩
    have HB3 := Lib.hid (HB.out.trans (hb3.mono HB.out.size))
    have HX13 := Lib.hid ((hb3.block _ (heap_lt HX1.out)).trans HX1.out)
    have HX23 := Lib.hid ((hb3.block _ (heap_lt HX2.out)).trans HX2.out)
    have x0 := (Lib.cell_of_heap HX13.out 0).trans rfl
    have x1 := (Lib.cell_of_heap HX13.out 1).trans rfl
    have x2 := (Lib.cell_of_heap HX13.out 2).trans rfl
    have x3 := (Lib.cell_of_heap HX13.out 3).trans rfl
    clear hb3 HX1 HX2 HB
    go_wp2_with fail
    refine (HG.out _).mono ?_
    rintro e w4 ⟨rfl, hb4⟩
    have HB4 := Lib.hid (HB3.out.trans (hb4.mono HB3.out.size))
    have HX1 := Lib.hid ((hb4.block _ (heap_lt HX13.out)).trans HX13.out)
    have HX2 := Lib.hid ((hb4.block _ (heap_lt HX23.out)).trans HX23.out)
    have y0 := (Lib.cell_of_heap HX2.out 0).trans rfl
    have y1 := (Lib.cell_of_heap HX2.out 1).trans rfl
    have y2 := (Lib.cell_of_heap HX2.out 2).trans rfl
    have y3 := (Lib.cell_of_heap HX2.out 3).trans rfl
    clear hb4 HX13 HX23 HB3 x0 x1 x2 x3
    rcases r1 with rfl | rfl
    · go_wp2_with fail
      refine (HG2.out _).mono ?_
      rintro e w5 ⟨rfl, hb5⟩
      have HB5 := Lib.hid (HB4.out.trans (hb5.mono HB4.out.size))
      have HX13 := Lib.hid ((hb5.block _ (heap_lt HX1.out)).trans HX1.out)
      have HX23 := Lib.hid ((hb5.block _ (heap_lt HX2.out)).trans HX2.out)
      clear hb5 HX1 HX2 HB4 y0 y1 y2 y3
      rcases r2 with rfl | rfl
      · have a0 := fun d os => cell_regrown (w := w5) ((Lib.cell_of_heap HX13.out 0).trans rfl) d os
        have a1 := fun d os => cell_regrown (w := w5) ((Lib.cell_of_heap HX13.out 1).trans rfl) d os
        have a2 := fun d os => cell_regrown (w := w5) ((Lib.cell_of_heap HX13.out 2).trans rfl) d os
        have a3 := fun d os => cell_regrown (w := w5) ((Lib.cell_of_heap HX13.out 3).trans rfl) d os
        have c0 := fun d os => cell_regrown (w := w5) ((Lib.cell_of_heap HX23.out 0).trans rfl) d os
        have c1 := fun d os => cell_regrown (w := w5) ((Lib.cell_of_heap HX23.out 1).trans rfl) d os
        have c2 := fun d os => cell_regrown (w := w5) ((Lib.cell_of_heap HX23.out 2).trans rfl) d os
        have c3 := fun d os => cell_regrown (w := w5) ((Lib.cell_of_heap HX23.out 3).trans rfl) d os
        have HKW := Lib.hid (fun d os => HK.out (grow (redrawn w5 d) os) (hm.below (HB5.out.trans ((below_regrown w5 d os).mono HB5.out.size)) hg) (Nat.lt_of_lt_of_le hg (Nat.le_trans HB5.out.size (below_regrown w5 d os).size)))
        have HKW2 := Lib.hid (fun d os => HK2.out (grow (redrawn w5 d) os) (hm.below (HB5.out.trans ((below_regrown w5 d os).mono HB5.out.size)) hg) (Nat.lt_of_lt_of_le hg (Nat.le_trans HB5.out.size (below_regrown w5 d os).size)))
        clear HX13 HX23
        go_wp2_with fail
        refine wp_region_quiet_below (by assumption) (by kernel_rfl) ?_
        repeat (quiet_step (first
          | (go_at_call 27; exact Calls.regrown_of (HL.out _))
          | (go_at_call 21; exact Calls.regrown_of (HKW.out _ _))
          | (go_at_call 21; exact Calls.regrown_of (HKW2.out _ _))))
        refine wpQuiet_nil ?_
        intro _ hw'
        obtain ⟨⟨nq, osq⟩, hw''⟩ := hw'
        subst hw''
        have HBQ := Lib.hid (HB5.out.trans ((below_regrown w5 nq osq).mono HB5.out.size))
        clear a0 a1 a2 a3 c0 c1 c2 c3
        go_wp2_with fail
        go_ret
        exact ⟨rfl, HBQ.out⟩
      · go_wp2_with fail
        refine (HWK.out _).mono ?_
        rintro e w6 ⟨rfl, hb6⟩
        have HB6 := Lib.hid (HB5.out.trans (hb6.mono HB5.out.size))
        go_wp2_with fail
        go_ret
        exact ⟨rfl, HB6.out⟩
    · go_wp2_with fail
      refine (HWK.out _).mono ?_
      rintro e w6 ⟨rfl, hb6⟩
      have HB6 := Lib.hid (HB4.out.trans (hb6.mono HB4.out.size))
      go_wp2_with fail
      go_ret
      exact ⟨rfl, HB6.out⟩
end Go.Proofs.YtceeijamhhokaaaDoor.WK
