/- PatternShows: the law's walk. -/
import Derived.Test.YtcfimponmioneaaDoorWRShow
import Derived.Test.YtcfimponmioneaaDoorPats19
import Derived.Test.YtcfimponmioneaaDoorWake
import Derived.Deep.RegionHeld3
namespace Go.Proofs.YtcfimponmioneaaDoor.WS
open Go Go.RowKit Go.Sort Go.Proofs.YtcfimponmioneaaDoor Go.Proofs.YtcfimponmioneaaDoor.PL Go.Proofs.YtcfimponmioneaaDoor.PS Go.Proofs.YtcfimponmioneaaDoor.Mem Go.Proofs.YtcfimponmioneaaDoor.WL Go.Proofs.YtcfimponmioneaaDoor.WP

theorem Stps.own {w w' : World} {b : Nat} {e : TypeId} {v : Value} {l : List GS} (h : w.ownsRow b e 5 v l.length (cellsOf encG l)) (hb : Below w.heap.size w w') : Stps w' w'.heap.size v l := Sl.more (Sl.below (Sl.of_own h) hb) hb.size
theorem Cnds.own {w w' : World} {b : Nat} {e : TypeId} {v : Value} {l : List GC} (h : w.ownsRow b e 4 v l.length (cellsOf encD l)) (hb : Below w.heap.size w w') : Cnds w' w'.heap.size v l := Sl.more (Sl.below (Sl.of_own h) hb) hb.size

set_option maxRecDepth 100000 in
set_option maxHeartbeats 6400000 in
theorem shows_law (sv cv : Value) (wi : Int) (ss : List GS) (cs : List GC) (W : World) (h1 : Stps W W.heap.size sv ss) (h2 : Cnds W W.heap.size cv cs) (hn1 : ss.length ≤ 1048576) (hn2 : cs.length ≤ 1048576) (hf1 : ∀ s ∈ ss, fitS s) (hf2 : ∀ c ∈ cs, fitC c)
    (hw0 : -9223372036854775808 ≤ wi) (hw1 : wi ≤ 9223372036854775807) (ht : Tab W) (hg : 1 < W.heap.size) (hs : Signs W) :
    Calls Tryd.prog 3 #[.agg #[sv, cv, .int .i64 wi]] W fun e w' => e = .returned (.bool true) ∧ Below W.heap.size W w' := by
  have mixed : Tryd.prog.follows .mixedOrders = true := by kernel_rfl
  obtain ⟨w0, hw0'⟩ : ∃ w0, w0 = W.alloc (.cells #[sv, cv, .int .i64 wi] 25) := ⟨_, rfl⟩
  have B0 := Lib.hid (show Below W.heap.size W w0 by rw [hw0']; exact (Below.refl _ _).alloc (Nat.le_refl _) _)
  have HP := Lib.hid (pats_any sv cv wi ss cs w0 (Sl.more (Sl.below h1 B0.out) B0.out.size) (Sl.more (Sl.below h2 B0.out) B0.out.size) (by omega) (by omega))
  have hgs := hs.lt
  have HT := Lib.hid (fun (w : World) (hb : Below W.heap.size W w) => ht.below hb hg)
  have HS := Lib.hid (fun (w : World) (hb : Below W.heap.size W w) => hs.below hb hgs)
  have HF := Lib.hid (And.intro hf1 hf2)
  have HW0 := Lib.hid hw0'
  obtain ⟨⟨a1, c1, rfl⟩, ⟨a2, c2, rfl⟩⟩ := And.intro (Sl.shape h1) (Sl.shape h2)
  clear h1 h2 ht hs hf1 hf2 hw0'
  go_enter Tryd.func3, Tryd.ntmps3
  go_wp2_with fail
  rw [← HW0.out]
  refine HP.out.mono ?_
  rintro e w1 ⟨sa, ca, sb, cb, rfl, hb1, o1, o2, o3, o4⟩
  obtain ⟨d1, k1, rfl⟩ := (Sl.of_own o1).shape
  obtain ⟨d2, k2, rfl⟩ := (Sl.of_own o2).shape
  obtain ⟨d3, k3, rfl⟩ := (Sl.of_own o3).shape
  obtain ⟨d4, k4, rfl⟩ := (Sl.of_own o4).shape
  have HB1 := Lib.hid (B0.out.trans (hb1.mono B0.out.size))
  have HO := Lib.hid (And.intro (And.intro o1 o2) (And.intro o3 o4))
  obtain ⟨w2, hw2⟩ : ∃ w2, w2 = (w1.alloc (.cells #[.slice d1 ss.length k1, .slice d3 cs.length k3, .int .i64 wi] 29)).alloc (.cells #[.slice d2 ss.length k2, .slice d4 cs.length k4, .int .i64 wi] 33) := ⟨_, rfl⟩
  have hz2 : w2.heap.size = w1.heap.size + 2 := by rw [hw2]; simp
  have hb12 : Below w1.heap.size w1 w2 := by rw [hw2]; exact ((Below.refl _ _).alloc (Nat.le_refl _) _).alloc (by simp) _
  have X3 := Lib.hid (show w2.heap[w1.heap.size]? = some (.cells #[.slice d1 ss.length k1, .slice d3 cs.length k3, .int .i64 wi] 29 (0, 0)) by rw [hw2]; exact heap_alloc (heap_new rfl))
  have X4 := Lib.hid (show w2.heap[w1.heap.size + 1]? = some (.cells #[.slice d2 ss.length k2, .slice d4 cs.length k4, .int .i64 wi] 33 (0, 0)) by rw [hw2]; exact heap_new (by simp))
  have HB2 := Lib.hid (show Below W.heap.size W w2.drew from (HB1.out.trans (hb12.mono HB1.out.size)).drew)
  have HB12 := Lib.hid (show Below w1.heap.size w1 w2.drew from hb12.drew)
  have HW2 := Lib.hid hw2
  have hlt3 : w1.heap.size < w2.heap.size := by omega
  have hlt4 : w1.heap.size + 1 < w2.heap.size := by omega
  have HSW := Lib.hid (fun (w : World) (hb : Below w2.drew.heap.size w2.drew w) => show_any (.slice d1 ss.length k1) (.slice d3 cs.length k3) wi ss cs w (Stps.own HO.out.1.1 (HB12.out.trans (hb.mono HB12.out.size))) (Cnds.own HO.out.2.1 (HB12.out.trans (hb.mono HB12.out.size))) hn1 hn2 HF.out.1 HF.out.2 hw0 hw1
    (HT.out w (HB2.out.trans (hb.mono HB2.out.size))) (Nat.lt_of_lt_of_le hg (Nat.le_trans HB2.out.size hb.size)) (HS.out w (HB2.out.trans (hb.mono HB2.out.size))))
  have HRW := Lib.hid (fun (w : World) (hb : Below w2.drew.heap.size w2.drew w) => rshow_any (.slice d2 ss.length k2) (.slice d4 cs.length k4) wi ss cs w (Stps.own HO.out.1.2 (HB12.out.trans (hb.mono HB12.out.size))) (Cnds.own HO.out.2.2 (HB12.out.trans (hb.mono HB12.out.size))) hn1 hn2 HF.out.1 HF.out.2 hw0 hw1)
  have HWK := Lib.hid (wakes_any w2.drew)
  obtain ⟨R, hR⟩ : ∃ R : ByteArray, (⟨(showP ss cs wi).toArray⟩ : ByteArray) = R := ⟨_, rfl⟩
  rw [hR] at HSW HRW
  have y0 : w2.cell? ⟨w1.heap.size, 0, none⟩ = some (.slice d1 ss.length k1) := (Lib.cell_of_heap X3.out 0).trans rfl
  have y1 : w2.cell? ⟨w1.heap.size, 1, none⟩ = some (.slice d3 cs.length k3) := (Lib.cell_of_heap X3.out 1).trans rfl
  have y2 : w2.cell? ⟨w1.heap.size, 2, none⟩ = some (.int .i64 wi) := (Lib.cell_of_heap X3.out 2).trans rfl
  have y3 : w2.cell? ⟨w1.heap.size + 1, 0, none⟩ = some (.slice d2 ss.length k2) := (Lib.cell_of_heap X4.out 0).trans rfl
  have y4 : w2.cell? ⟨w1.heap.size + 1, 1, none⟩ = some (.slice d4 cs.length k4) := (Lib.cell_of_heap X4.out 1).trans rfl
  have y5 : w2.cell? ⟨w1.heap.size + 1, 2, none⟩ = some (.int .i64 wi) := (Lib.cell_of_heap X4.out 2).trans rfl
  obtain ⟨b3, hb3⟩ : ∃ b, w1.heap.size = b := ⟨_, rfl⟩
  rw [hb3] at y0 y1 y2 y3 y4 y5 hlt3 hlt4 X3 X4 hz2
  clear hb1 o1 o2 o3 o4 hb12 hR HP B0 hw2
  go_wp2_with fail
  rw [← HW2.out]
  go_region_held3 (fun w' => w'.cell? ⟨b3, 0, none⟩ = some (.slice d1 ss.length k1) ∧ w'.cell? ⟨b3, 1, none⟩ = some (.slice d3 cs.length k3) ∧ w'.cell? ⟨b3, 2, none⟩ = some (.int .i64 wi) ∧ w'.cell? ⟨b3 + 1, 0, none⟩ = some (.slice d2 ss.length k2) ∧ w'.cell? ⟨b3 + 1, 1, none⟩ = some (.slice d4 cs.length k4) ∧ w'.cell? ⟨b3 + 1, 2, none⟩ = some (.int .i64 wi)) (go_keep)
    (first
      | (go_at_call 6; refine HWK.out.mono ?_; rintro e w3 ⟨rfl, hb3⟩; have k0 := (hb3.cell (p := ⟨b3, 0, none⟩) (show b3 < w2.heap.size by omega)).trans y0; have k1 := (hb3.cell (p := ⟨b3, 1, none⟩) (show b3 < w2.heap.size by omega)).trans y1; have k2 := (hb3.cell (p := ⟨b3, 2, none⟩) (show b3 < w2.heap.size by omega)).trans y2; have k3 := (hb3.cell (p := ⟨b3 + 1, 0, none⟩) (show b3 + 1 < w2.heap.size by omega)).trans y3; have k4 := (hb3.cell (p := ⟨b3 + 1, 1, none⟩) (show b3 + 1 < w2.heap.size by omega)).trans y4; have k5 := (hb3.cell (p := ⟨b3 + 1, 2, none⟩) (show b3 + 1 < w2.heap.size by omega)).trans y5; have B3 := Lib.hid hb3; have B3s := hb3.size; clear hb3)
      | (go_at_call 7; refine (HSW.out _ B3.out).mono ?_; rintro e w4 ⟨rfl, hb4⟩; have hl3 : b3 < w3.heap.size := Nat.lt_of_lt_of_le hlt3 B3s; have hl4 : b3 + 1 < w3.heap.size := Nat.lt_of_lt_of_le hlt4 B3s; have j0 := (hb4.cell (p := ⟨b3, 0, none⟩) (show b3 < w3.heap.size from hl3)).trans k0; have j1 := (hb4.cell (p := ⟨b3, 1, none⟩) (show b3 < w3.heap.size from hl3)).trans k1; have j2 := (hb4.cell (p := ⟨b3, 2, none⟩) (show b3 < w3.heap.size from hl3)).trans k2; have j3 := (hb4.cell (p := ⟨b3 + 1, 0, none⟩) (show b3 + 1 < w3.heap.size from hl4)).trans k3; have j4 := (hb4.cell (p := ⟨b3 + 1, 1, none⟩) (show b3 + 1 < w3.heap.size from hl4)).trans k4; have j5 := (hb4.cell (p := ⟨b3 + 1, 2, none⟩) (show b3 + 1 < w3.heap.size from hl4)).trans k5; have B4 := Lib.hid (B3.out.trans (hb4.mono B3s)); clear hb4)
      | (go_at_call 8; refine (HRW.out _ B4.out).mono ?_; rintro e w5 ⟨rfl, hb5⟩; have B4s := B4.out.size; have hm3 : b3 < w4.heap.size := Nat.lt_of_lt_of_le hlt3 B4s; have hm4 : b3 + 1 < w4.heap.size := Nat.lt_of_lt_of_le hlt4 B4s; have i0 := (hb5.cell (p := ⟨b3, 0, none⟩) (show b3 < w4.heap.size from hm3)).trans j0; have i1 := (hb5.cell (p := ⟨b3, 1, none⟩) (show b3 < w4.heap.size from hm3)).trans j1; have i2 := (hb5.cell (p := ⟨b3, 2, none⟩) (show b3 < w4.heap.size from hm3)).trans j2; have i3 := (hb5.cell (p := ⟨b3 + 1, 0, none⟩) (show b3 + 1 < w4.heap.size from hm4)).trans j3; have i4 := (hb5.cell (p := ⟨b3 + 1, 1, none⟩) (show b3 + 1 < w4.heap.size from hm4)).trans j4; have i5 := (hb5.cell (p := ⟨b3 + 1, 2, none⟩) (show b3 + 1 < w4.heap.size from hm4)).trans j5; have B5 := Lib.hid (B4.out.trans (hb5.mono B4s)); clear hb5))
  go_wp2_with fail
  go_ret
  exact ⟨rfl, HB2.out.trans (B5.out.mono HB2.out.size)⟩
end Go.Proofs.YtcfimponmioneaaDoor.WS
