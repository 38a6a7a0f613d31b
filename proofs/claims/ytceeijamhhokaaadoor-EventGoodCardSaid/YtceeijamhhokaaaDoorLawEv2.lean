/- EventGood: the law's walk. -/
import Derived.Test.YtceeijamhhokaaaDoorLawEv
import Derived.Test.YtceeijamhhokaaaDoorWECmp
import Derived.Deep.RegionHeld3
import Derived.Deep.DeepCutAuto
import Derived.Lib.QuietBelow
namespace Go.Proofs.YtceeijamhhokaaaDoor.WK
open Go Go.RowKit Go.Sort Go.Proofs.YtceeijamhhokaaaDoor Go.Proofs.YtceeijamhhokaaaDoor.PK Go.Proofs.YtceeijamhhokaaaDoor.Mem

set_option maxRecDepth 100000 in
set_option maxHeartbeats 6400000 in
theorem good_law (x y : Ev) (W : World) (hx : x.fits) (_hy : y.fits) (hm : MaxLen W) (hg : 0 < W.heap.size) :
    Calls Tryd.prog 9 #[WE.evV x, WE.evV y] W fun e w' => e = .returned (.bool true) ∧ Below W.heap.size W w' := by
  have HWK := Lib.hid (fun w => L18.wakes_any w)
  have HK := Lib.hid (fun w hm hg => ekey_any x w hm hg hx)
  have HRK := Lib.hid (fun w => rkey_any x w hx)
  have HG := Lib.hid (fun w => WE.good_any x w)
  have HRG := Lib.hid (fun w => WE.rgood_any x w)
  have HL := Lib.hid (fun w => (eless_any x y w).mono fun _ _ ⟨h1, h2⟩ => And.intro h1 h2.below)
  have HRL := Lib.hid (fun w => (rless_any x y w).mono fun _ _ ⟨h1, h2⟩ => And.intro h1 h2.below)
  obtain ⟨g, hgd⟩ : ∃ g, WE.goodN x = g := ⟨_, rfl⟩
  obtain ⟨s, hs⟩ : ∃ s, lessE x y = s := ⟨_, rfl⟩
  obtain ⟨k, hk⟩ : ∃ k, (⟨(evKey [x.time, x.id]).toArray⟩ : ByteArray) = k := ⟨_, rfl⟩
  rw [hgd] at HG HRG
  rw [hs] at HL HRL
  rw [hk] at HK HRK
  clear hgd hs hk
  have mixed : Tryd.prog.follows .mixedOrders = true := by kernel_rfl
  unfold WE.evV at HK HRK HG HRG HL HRL ⊢
  obtain ⟨w2, hw2⟩ : ∃ w2, w2 = (W.alloc (.cells #[.int .i64 x.id, .int .i64 x.time, .int .u8 x.kind, .int .i64 x.val] 43)).alloc (.cells #[.int .i64 y.id, .int .i64 y.time, .int .u8 y.kind, .int .i64 y.val] 43) := ⟨_, rfl⟩
  have hz2 : w2.heap.size = W.heap.size + 2 := by rw [hw2]; simp
  have B2 := Lib.hid (show Below W.heap.size W w2 by rw [hw2]; exact ((Below.refl _ _).alloc (Nat.le_refl _) _).alloc (by simp) _)
  have P0 := Lib.hid (show w2.heap[W.heap.size]? = some (.cells #[.int .i64 x.id, .int .i64 x.time, .int .u8 x.kind, .int .i64 x.val] 43 (0, 0)) by rw [hw2]; exact heap_alloc (heap_new rfl))
  have P1 := Lib.hid (show w2.heap[W.heap.size + 1]? = some (.cells #[.int .i64 y.id, .int .i64 y.time, .int .u8 y.kind, .int .i64 y.val] 43 (0, 0)) by rw [hw2]; exact heap_new (by simp))
  have HW2 := Lib.hid hw2
  clear hw2
  go_enter Tryd.func9, Tryd.ntmps9
  go_wp2_with fail
  rw [← HW2.out]
  have x0 : w2.cell? ⟨W.heap.size, 0, none⟩ = some (.int .i64 x.id) := (Lib.cell_of_heap P0.out 0).trans rfl
  have x1 : w2.cell? ⟨W.heap.size, 1, none⟩ = some (.int .i64 x.time) := (Lib.cell_of_heap P0.out 1).trans rfl
  have x2 : w2.cell? ⟨W.heap.size, 2, none⟩ = some (.int .u8 x.kind) := (Lib.cell_of_heap P0.out 2).trans rfl
  have x3 : w2.cell? ⟨W.heap.size, 3, none⟩ = some (.int .i64 x.val) := (Lib.cell_of_heap P0.out 3).trans rfl
  go_cut [5, 6] (fun s1 s2 wx => ∃ b1 b2 : Nat, s1 = .pointer (some ⟨b1, 0, none⟩) ∧ s2 = .pointer (some ⟨b2, 0, none⟩) ∧ wx.heap[b1]? = some (.cells #[.int .i64 x.id, .int .i64 x.time, .int .u8 x.kind, .int .i64 x.val] 47 (0, 0)) ∧ wx.heap[b2]? = some (.cells #[.int .i64 x.id, .int .i64 x.time, .int .u8 x.kind, .int .i64 x.val] 56 (0, 0)) ∧ Below w2.heap.size w2 wx)
  case first =>
    go_region_held3 (fun w' => w'.cell? ⟨W.heap.size, 0, none⟩ = some (.int .i64 x.id) ∧ w'.cell? ⟨W.heap.size, 1, none⟩ = some (.int .i64 x.time) ∧ w'.cell? ⟨W.heap.size, 2, none⟩ = some (.int .u8 x.kind) ∧ w'.cell? ⟨W.heap.size, 3, none⟩ = some (.int .i64 x.val)) (go_keep) (fail)
    all_goals (go_wp2_with fail; go_meet)
    · exact ⟨_, _, rfl, rfl, Mem.heap_drew (heap_alloc (heap_new hz2.symm)), Mem.heap_drew (heap_new (by simp [hz2])), show Below w2.heap.size w2 (World.drew _) from (((Below.refl w2.heap.size w2).alloc (Nat.le_refl _) _).alloc (by simp) _).drew⟩
    · exact ⟨_, _, rfl, rfl, Mem.heap_drew (heap_new (by simp [hz2])), Mem.heap_drew (heap_alloc (heap_new hz2.symm)), show Below w2.heap.size w2 (World.drew _) from (((Below.refl w2.heap.size w2).alloc (Nat.le_refl _) _).alloc (by simp) _).drew⟩
  case rest =>
    obtain ⟨b1, b2, rfl, rfl, hx1, hx2, hbc⟩ := hcut
    have hbc : Below w2.heap.size w2 wc := hbc
    have HB := Lib.hid (B2.out.trans (hbc.mono B2.out.size))
    have P1c := Lib.hid ((hbc.block _ (heap_lt P1.out)).trans P1.out)
    clear hbc x0 x1 x2 x3 HW2 P0 P1 B2
    have a0 := fun d os => cell_regrown (w := wc) ((Lib.cell_of_heap hx1 0).trans rfl) d os
    have a1 := fun d os => cell_regrown (w := wc) ((Lib.cell_of_heap hx1 1).trans rfl) d os
    have a2 := fun d os => cell_regrown (w := wc) ((Lib.cell_of_heap hx1 2).trans rfl) d os
    have a3 := fun d os => cell_regrown (w := wc) ((Lib.cell_of_heap hx1 3).trans rfl) d os
    have c0 := fun d os => cell_regrown (w := wc) ((Lib.cell_of_heap hx2 0).trans rfl) d os
    have c1 := fun d os => cell_regrown (w := wc) ((Lib.cell_of_heap hx2 1).trans rfl) d os
    have c2 := fun d os => cell_regrown (w := wc) ((Lib.cell_of_heap hx2 2).trans rfl) d os
    have c3 := fun d os => cell_regrown (w := wc) ((Lib.cell_of_heap hx2 3).trans rfl) d os
    have y0 := fun d os => cell_regrown (w := wc) ((Lib.cell_of_heap P1c.out 0).trans rfl) d os
    have y1 := fun d os => cell_regrown (w := wc) ((Lib.cell_of_heap P1c.out 1).trans rfl) d os
    have y2 := fun d os => cell_regrown (w := wc) ((Lib.cell_of_heap P1c.out 2).trans rfl) d os
    have y3 := fun d os => cell_regrown (w := wc) ((Lib.cell_of_heap P1c.out 3).trans rfl) d os
    have HKW := Lib.hid (fun d os => HK.out (grow (redrawn wc d) os) (hm.below (HB.out.trans ((below_regrown wc d os).mono HB.out.size)) hg) (Nat.lt_of_lt_of_le hg (Nat.le_trans HB.out.size (below_regrown wc d os).size)))
    clear hx1 hx2
    go_wp2_with fail
    refine wp_region_quiet_below (by assumption) (by kernel_rfl) ?_
    repeat (quiet_step (first
      | (go_at_call 20; exact Calls.regrown_of (HWK.out _))
      | (go_at_call 22; exact Calls.regrown_of (HG.out _))
      | (go_at_call 26; exact Calls.regrown_of (HRG.out _))
      | (go_at_call 27; exact Calls.regrown_of (HL.out _))
      | (go_at_call 28; exact Calls.regrown_of (HRL.out _))
      | (go_at_call 21; exact Calls.regrown_of (HKW.out _ _))
      | (go_at_call 29; exact Calls.regrown_of (HRK.out _))))
    refine wpQuiet_nil ?_
    intro _ hw'
    obtain ⟨⟨nq, osq⟩, hw''⟩ := hw'
    subst hw''
    have HBQ := Lib.hid (HB.out.trans ((below_regrown wc nq osq).mono HB.out.size))
    clear a0 a1 a2 a3 c0 c1 c2 c3 y0 y1 y2 y3
    go_wp2_with fail
    go_ret
    exact ⟨rfl, HBQ.out⟩
end Go.Proofs.YtceeijamhhokaaaDoor.WK
