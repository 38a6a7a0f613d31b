/- PatternBack: the law's walk. -/
import Derived.Test.YtcfimponmioneaaDoorLawShows
import Derived.Test.YtcfimponmioneaaDoorWPlain
import Derived.Test.YtcfimponmioneaaDoorSame19
import Derived.Test.YtcfimponmioneaaDoorPNz
namespace Go.Proofs.YtcfimponmioneaaDoor.WS
open Go Go.RowKit Go.Sort Go.Proofs.YtcfimponmioneaaDoor Go.Proofs.YtcfimponmioneaaDoor.PL Go.Proofs.YtcfimponmioneaaDoor.PP Go.Proofs.YtcfimponmioneaaDoor.PS Go.Proofs.YtcfimponmioneaaDoor.Mem Go.Proofs.YtcfimponmioneaaDoor.WL Go.Proofs.YtcfimponmioneaaDoor.WP

theorem enc_toS (ss : List Stp) : cellsOf encG (ss.map toS) = cellsOf encS ss := by
  induction ss with
  | nil => rfl
  | cons s r ih => exact congrArg (encS s ++ ·) ih
theorem enc_toC (cs : List Cnd) : cellsOf encD (cs.map toC) = cellsOf encC cs := by
  induction cs with
  | nil => rfl
  | cons s r ih => exact congrArg (encC s ++ ·) ih
theorem Stps.own_p {w w' : World} {b : Nat} {e : TypeId} {v : Value} {l : List Stp} (h : w.ownsRow b e 5 v l.length (cellsOf encS l)) (hb : Below w.heap.size w w') : Stps w' w'.heap.size v (l.map toS) := by
  refine Stps.own (w := w) (b := b) (e := e) ?_ hb
  rw [enc_toS, List.length_map]
  exact h
theorem Cnds.own_p {w w' : World} {b : Nat} {e : TypeId} {v : Value} {l : List Cnd} (h : w.ownsRow b e 4 v l.length (cellsOf encC l)) (hb : Below w.heap.size w w') : Cnds w' w'.heap.size v (l.map toC) := by
  refine Cnds.own (w := w) (b := b) (e := e) ?_ hb
  rw [enc_toC, List.length_map]
  exact h
/-- The text of a pattern that was read. -/
theorem show_read {T : ByteArray} {p : Ptn} (hp : pParse T.data.toList = .inr p) (sl cl : Value) (w : World) (h1 : Stps w w.heap.size sl (p.ss.map toS)) (h2 : Cnds w w.heap.size cl (p.cs.map toC)) (ht : Tab w) (hg : 1 < w.heap.size) (hs : Signs w) :
    Calls Tryd.prog 7 #[.agg #[sl, cl, .int .i64 p.wi]] w fun e w' => e = .returned (.string T) ∧ Below w.heap.size w w' := by
  obtain ⟨e1, e2, e3⟩ := parse_show hp
  obtain ⟨⟨n1, n2⟩, ⟨n3, n4⟩, n5⟩ := parse_num hp
  have h := show_any sl cl (p.wi : Int) (p.ss.map toS) (p.cs.map toC) w h1 h2 (by rw [List.length_map]; omega) (by rw [List.length_map]; omega)
    (fun s hs => by obtain ⟨x, hx, rfl⟩ := List.mem_map.1 hs; exact fit_toS (e2 x hx) (n1 x hx)) (fun c hc => by obtain ⟨x, hx, rfl⟩ := List.mem_map.1 hc; exact fit_toC (e3 x hx) (n3 x hx)) (by omega) (by omega) ht hg hs
  rw [e1] at h
  exact h

set_option maxRecDepth 100000 in
set_option maxHeartbeats 12800000 in
theorem back_law (s : ByteArray) (sv cv : Value) (wi : Int) (ss : List GS) (cs : List GC) (W : World) (h1 : Stps W W.heap.size sv ss) (h2 : Cnds W W.heap.size cv cs) (hn1 : ss.length ≤ 1048576) (hn2 : cs.length ≤ 1048576) (hf1 : ∀ s ∈ ss, fitS s) (hf2 : ∀ c ∈ cs, fitC c)
    (hw0 : -9223372036854775808 ≤ wi) (hw1 : wi ≤ 9223372036854775807) (ht : Tab W) (hg : 1 < W.heap.size) (hs : Signs W) :
    Calls Tryd.prog 4 #[.string s, .agg #[sv, cv, .int .i64 wi]] W fun e w' => e = .returned (.bool true) ∧ Below W.heap.size W w' := by
  have mixed : Tryd.prog.follows .mixedOrders = true := by kernel_rfl
  obtain ⟨w0, hw0'⟩ : ∃ w0, w0 = W.alloc (.cells #[sv, cv, .int .i64 wi] 25) := ⟨_, rfl⟩
  have B0 := Lib.hid (show Below W.heap.size W w0 by rw [hw0']; exact (Below.refl _ _).alloc (Nat.le_refl _) _)
  have X0 := Lib.hid (show w0.heap[W.heap.size]? = some (.cells #[sv, cv, .int .i64 wi] 25 (0, 0)) by rw [hw0']; exact heap_new rfl)
  have hz0 : W.heap.size < w0.heap.size := by rw [hw0']; simp
  have HST := Lib.hid (And.intro h1 h2)
  have hgs := hs.lt
  have HT := Lib.hid (fun (w : World) (hb : Below W.heap.size W w) => ht.below hb hg)
  have HS := Lib.hid (fun (w : World) (hb : Below W.heap.size W w) => hs.below hb hgs)
  have HF := Lib.hid (And.intro hf1 hf2)
  have HW0 := Lib.hid hw0'
  have HPS := Lib.hid (parse_any s w0)
  obtain ⟨⟨a1, c1, rfl⟩, ⟨a2, c2, rfl⟩⟩ := And.intro (Sl.shape h1) (Sl.shape h2)
  clear h1 h2 ht hs hf1 hf2 hw0'
  go_enter Tryd.func4, Tryd.ntmps4
  go_wp2_with fail
  rw [← HW0.out]
  obtain ⟨r, hr⟩ : ∃ r, pParse s.data.toList = r := ⟨_, rfl⟩
  refine HPS.out.mono ?_
  rw [hr]
  cases r with
  | inl f =>
    obtain ⟨k, er⟩ := f
    have hz := parse_nz hr
    rintro e w1 ⟨hb1, rfl⟩
    have hne0 : (er == 0) = false := by rw [beq_eq_false_iff_ne]; exact hz
    have HB1 := Lib.hid (B0.out.trans (hb1.mono B0.out.size))
    have X1 := Lib.hid ((hb1.block _ hz0).trans X0.out)
    have hz1 : W.heap.size < w1.heap.size := by have := hb1.size; omega
    obtain ⟨w2, hw2⟩ : ∃ w2, w2 = w1.alloc (.cells #[.slice none 0 0, .slice none 0 0, .int .i64 0] 29) := ⟨_, rfl⟩
    have hb12 : Below w1.heap.size w1 w2 := by rw [hw2]; exact (Below.refl _ _).alloc (Nat.le_refl _) _
    have HW2 := Lib.hid hw2
    have HWK := Lib.hid (wakes_any w2)
    have HB2 := Lib.hid (HB1.out.trans (hb12.mono HB1.out.size))
    have X2 := Lib.hid ((hb12.block _ hz1).trans X1.out)
    have hz2 : W.heap.size < w2.heap.size := by have := hb12.size; omega
    clear hz hr hb1 hw2 hb12 HPS
    go_wp2_with fail
    rw [← HW2.out]
    refine HWK.out.mono ?_
    rintro e wt ⟨rfl, hbt⟩
    have HBT := Lib.hid (HB2.out.trans (hbt.mono HB2.out.size))
    have HXT := Lib.hid ((hbt.block _ hz2).trans X2.out)
    clear hbt HWK
    have HP := Lib.hid (pats_any (.slice a1 ss.length c1) (.slice a2 cs.length c2) wi ss cs wt (Sl.more (Sl.below HST.out.1 HBT.out) HBT.out.size) (Sl.more (Sl.below HST.out.2 HBT.out) HBT.out.size) (by omega) (by omega))
    have x0 : wt.cell? ⟨W.heap.size, 0, none⟩ = some (.slice a1 ss.length c1) := (Lib.cell_of_heap HXT.out 0).trans rfl
    have x1 : wt.cell? ⟨W.heap.size, 1, none⟩ = some (.slice a2 cs.length c2) := (Lib.cell_of_heap HXT.out 1).trans rfl
    have x2 : wt.cell? ⟨W.heap.size, 2, none⟩ = some (.int .i64 wi) := (Lib.cell_of_heap HXT.out 2).trans rfl
    go_wp2_with fail
    refine HP.out.mono ?_
    rintro e w4 ⟨sa, ca, sb, cb, rfl, hb4, o1, o2, o3, o4⟩
    obtain ⟨d1, k1, rfl⟩ := (Sl.of_own o1).shape
    obtain ⟨d2, k2, rfl⟩ := (Sl.of_own o2).shape
    obtain ⟨d3, k3, rfl⟩ := (Sl.of_own o3).shape
    obtain ⟨d4, k4, rfl⟩ := (Sl.of_own o4).shape
    have HB4 := Lib.hid (HBT.out.trans (hb4.mono HBT.out.size))
    have HO := Lib.hid (And.intro (And.intro o1 o2) (And.intro o3 o4))
    obtain ⟨w5, hw5⟩ : ∃ w5, w5 = (w4.alloc (.cells #[.slice d1 ss.length k1, .slice d3 cs.length k3, .int .i64 wi] 29)).alloc (.cells #[.slice d2 ss.length k2, .slice d4 cs.length k4, .int .i64 wi] 33) := ⟨_, rfl⟩
    have hz5 : w5.heap.size = w4.heap.size + 2 := by rw [hw5]; simp
    have hb45 : Below w4.heap.size w4 w5 := by rw [hw5]; exact ((Below.refl _ _).alloc (Nat.le_refl _) _).alloc (by simp) _
    have X3 := Lib.hid (show w5.heap[w4.heap.size]? = some (.cells #[.slice d1 ss.length k1, .slice d3 cs.length k3, .int .i64 wi] 29 (0, 0)) by rw [hw5]; exact heap_alloc (heap_new rfl))
    have X4 := Lib.hid (show w5.heap[w4.heap.size + 1]? = some (.cells #[.slice d2 ss.length k2, .slice d4 cs.length k4, .int .i64 wi] 33 (0, 0)) by rw [hw5]; exact heap_new (by simp))
    have HB45 := Lib.hid hb45
    have HB5 := Lib.hid (HB4.out.trans (hb45.mono HB4.out.size))
    have HW5 := Lib.hid hw5
    have hlt3 : w4.heap.size < w5.heap.size := by omega
    have hlt4 : w4.heap.size + 1 < w5.heap.size := by omega
    obtain ⟨T, hT⟩ : ∃ T : ByteArray, (⟨(showP ss cs wi).toArray⟩ : ByteArray) = T := ⟨_, rfl⟩
    have HSA := Lib.hid (fun (w : World) (hb : Below w5.heap.size w5 w) => show_any (.slice d1 ss.length k1) (.slice d3 cs.length k3) wi ss cs w (Stps.own HO.out.1.1 (HB45.out.trans (hb.mono HB45.out.size))) (Cnds.own HO.out.2.1 (HB45.out.trans (hb.mono HB45.out.size))) hn1 hn2 HF.out.1 HF.out.2 hw0 hw1
      (HT.out w (HB5.out.trans (hb.mono HB5.out.size))) (Nat.lt_of_lt_of_le hg (Nat.le_trans HB5.out.size hb.size)) (HS.out w (HB5.out.trans (hb.mono HB5.out.size))))
    have HPL := Lib.hid (fun (w : World) (hb : Below w5.heap.size w5 w) => plain_any (.slice d1 ss.length k1) (.slice d3 cs.length k3) wi ss cs w (Stps.own HO.out.1.1 (HB45.out.trans (hb.mono HB45.out.size))) (Cnds.own HO.out.2.1 (HB45.out.trans (hb.mono HB45.out.size))) hn1 hn2)
    have HTL := Lib.hid (show showP ss cs wi = T.data.toList by rw [← hT])
    rw [hT] at HSA
    have HSA1 := Lib.hid (HSA.out w5 (Below.refl _ _))
    obtain ⟨b3, hb3⟩ : ∃ b, w4.heap.size = b := ⟨_, rfl⟩
    rw [hb3] at hlt3 hlt4 X3 X4 hz5
    have y0 : w5.cell? ⟨b3, 0, none⟩ = some (.slice d1 ss.length k1) := (Lib.cell_of_heap X3.out 0).trans rfl
    have y1 : w5.cell? ⟨b3, 1, none⟩ = some (.slice d3 cs.length k3) := (Lib.cell_of_heap X3.out 1).trans rfl
    have y2 : w5.cell? ⟨b3, 2, none⟩ = some (.int .i64 wi) := (Lib.cell_of_heap X3.out 2).trans rfl
    have HB3 := Lib.hid hb3
    clear hb4 o1 o2 o3 o4 hb45 hT HP x0 x1 x2 hw5
    go_wp2_with fail
    rw [← HW5.out]
    refine HSA1.out.mono ?_
    rintro e w6 ⟨rfl, hb6⟩
    have HB56 := Lib.hid hb6
    have HPT := Lib.hid (parse_any T w6)
    clear hb6 HSA1 y0 y1 y2 hb3
    go_wp2_with fail
    obtain ⟨q, hq⟩ : ∃ q, pParse T.data.toList = q := ⟨_, rfl⟩
    refine HPT.out.mono ?_
    rw [hq]
    cases q with
    | inl f =>
      obtain ⟨k, er⟩ := f
      have hz := parse_nz hq
      rintro e w7 ⟨hb7, rfl⟩
      have hne : (er != 0) = true := by rw [bne_iff_ne]; exact hz
      have HB7 := Lib.hid (HB5.out.trans ((HB56.out.trans (hb7.mono HB56.out.size)).mono HB5.out.size))
      clear hz hq hb7 HPT
      go_wp2_with fail
      go_quiet (fail)
      go_wp2_with fail
      go_ret
      exact ⟨rfl, below_drewN (HB7.out.alloc HB7.out.size _) _⟩
    | inr p =>
      rintro e w7 ⟨hb7, sl, cl, rfl, o5, o6⟩
      obtain ⟨d5, k5, rfl⟩ := own_slice o5
      obtain ⟨d6, k6, rfl⟩ := own_slice o6
      have HQ := Lib.hid hq
      have HB57 := Lib.hid (HB56.out.trans (hb7.mono HB56.out.size))
      have HO2 := Lib.hid (And.intro o5 o6)
      obtain ⟨w8, hw8⟩ : ∃ w8, w8 = w7.alloc (.cells #[.slice d5 p.ss.length k5, .slice d6 p.cs.length k6, .int .i64 p.wi] 29) := ⟨_, rfl⟩
      have hb78 : Below w7.heap.size w7 w8 := by rw [hw8]; exact (Below.refl _ _).alloc (Nat.le_refl _) _
      have X8 := Lib.hid (show w8.heap[w7.heap.size]? = some (.cells #[.slice d5 p.ss.length k5, .slice d6 p.cs.length k6, .int .i64 p.wi] 29 (0, 0)) by rw [hw8]; exact heap_new rfl)
      have hz8 : w8.heap.size = w7.heap.size + 1 := by rw [hw8]; simp
      have HB78 := Lib.hid (show Below w7.heap.size w7 w8.drew from hb78.drew)
      have HB58 := Lib.hid (show Below w5.heap.size w5 w8.drew from (HB57.out.trans (hb78.mono HB57.out.size)).drew)
      have HB8 := Lib.hid (HB5.out.trans (HB58.out.mono HB5.out.size))
      have HW8 := Lib.hid hw8
      have h58 : w5.heap.size ≤ w7.heap.size := HB57.out.size
      have HSR := Lib.hid (fun (w : World) (hb : Below w8.drew.heap.size w8.drew w) => show_read HQ.out (.slice d5 p.ss.length k5) (.slice d6 p.cs.length k6) w (Stps.own_p HO2.out.1 (HB78.out.trans (hb.mono HB78.out.size))) (Cnds.own_p HO2.out.2 (HB78.out.trans (hb.mono HB78.out.size)))
        (HT.out w (HB8.out.trans (hb.mono HB8.out.size))) (Nat.lt_of_lt_of_le hg (Nat.le_trans HB8.out.size hb.size)) (HS.out w (HB8.out.trans (hb.mono HB8.out.size))))
      have HSA2 := Lib.hid (fun (w : World) (hb : Below w8.drew.heap.size w8.drew w) => HSA.out w (HB58.out.trans (hb.mono HB58.out.size)))
      have HPL2 := Lib.hid (fun (w : World) (hb : Below w8.drew.heap.size w8.drew w) => HPL.out w (HB58.out.trans (hb.mono HB58.out.size)))
      have y0 : w8.cell? ⟨b3, 0, none⟩ = some (.slice d1 ss.length k1) := (HB58.out.cell (p := ⟨b3, 0, none⟩) (show b3 < w5.heap.size by omega)).trans ((Lib.cell_of_heap X3.out 0).trans rfl)
      have y1 : w8.cell? ⟨b3, 1, none⟩ = some (.slice d3 cs.length k3) := (HB58.out.cell (p := ⟨b3, 1, none⟩) (show b3 < w5.heap.size by omega)).trans ((Lib.cell_of_heap X3.out 1).trans rfl)
      have y2 : w8.cell? ⟨b3, 2, none⟩ = some (.int .i64 wi) := (HB58.out.cell (p := ⟨b3, 2, none⟩) (show b3 < w5.heap.size by omega)).trans ((Lib.cell_of_heap X3.out 2).trans rfl)
      have y3 : w8.cell? ⟨b3 + 1, 0, none⟩ = some (.slice d2 ss.length k2) := (HB58.out.cell (p := ⟨b3 + 1, 0, none⟩) (show b3 + 1 < w5.heap.size by omega)).trans ((Lib.cell_of_heap X4.out 0).trans rfl)
      have y4 : w8.cell? ⟨b3 + 1, 1, none⟩ = some (.slice d4 cs.length k4) := (HB58.out.cell (p := ⟨b3 + 1, 1, none⟩) (show b3 + 1 < w5.heap.size by omega)).trans ((Lib.cell_of_heap X4.out 1).trans rfl)
      have y5 : w8.cell? ⟨b3 + 1, 2, none⟩ = some (.int .i64 wi) := (HB58.out.cell (p := ⟨b3 + 1, 2, none⟩) (show b3 + 1 < w5.heap.size by omega)).trans ((Lib.cell_of_heap X4.out 2).trans rfl)
      have hl3 : b3 < w8.heap.size := by omega
      have hl4 : b3 + 1 < w8.heap.size := by omega
      obtain ⟨b8, hb8⟩ : ∃ b, w7.heap.size = b := ⟨_, rfl⟩
      rw [hb8] at X8 hz8
      have y6 : w8.cell? ⟨b8, 0, none⟩ = some (.slice d5 p.ss.length k5) := (Lib.cell_of_heap X8.out 0).trans rfl
      have y7 : w8.cell? ⟨b8, 1, none⟩ = some (.slice d6 p.cs.length k6) := (Lib.cell_of_heap X8.out 1).trans rfl
      have y8 : w8.cell? ⟨b8, 2, none⟩ = some (.int .i64 p.wi) := (Lib.cell_of_heap X8.out 2).trans rfl
      have hl8 : b8 < w8.heap.size := by omega
      have HB88 := Lib.hid hb8
      have HBK := Lib.hid (fun (hp : plainB ss cs = true) => read_back (wi := wi) (of_decide_eq_true hp).1 (of_decide_eq_true hp).2 (by rw [HTL.out]; exact HQ.out))
      clear hb7 hq o5 o6 hb78 HPT hw8 hb8
      obtain ⟨pl, hpl⟩ : ∃ pl, plainB ss cs = pl := ⟨_, rfl⟩
      rw [hpl] at HPL2 HBK
      clear hpl
      cases pl with
      | false =>
        clear HBK
        have HSR0 := Lib.hid (HSR.out w8.drew (Below.refl _ _))
        go_wp2_with fail
        rw [← HW8.out]
        rw [HB88.out]
        go_region_with (first | (go_at_call 7; (with_reducible refine HSR0.out.mono ?_); rintro e w9 ⟨rfl, hb9⟩; have k0 := (hb9.cell (p := ⟨b3, 0, none⟩) (show b3 < w8.heap.size by omega)).trans y0; have k1 := (hb9.cell (p := ⟨b3, 1, none⟩) (show b3 < w8.heap.size by omega)).trans y1; have k2 := (hb9.cell (p := ⟨b3, 2, none⟩) (show b3 < w8.heap.size by omega)).trans y2; have k3 := (hb9.cell (p := ⟨b3 + 1, 0, none⟩) (show b3 + 1 < w8.heap.size by omega)).trans y3; have k4 := (hb9.cell (p := ⟨b3 + 1, 1, none⟩) (show b3 + 1 < w8.heap.size by omega)).trans y4; have k5 := (hb9.cell (p := ⟨b3 + 1, 2, none⟩) (show b3 + 1 < w8.heap.size by omega)).trans y5; have k6 := (hb9.cell (p := ⟨b8, 0, none⟩) (show b8 < w8.heap.size by omega)).trans y6; have k7 := (hb9.cell (p := ⟨b8, 1, none⟩) (show b8 < w8.heap.size by omega)).trans y7; have k8 := (hb9.cell (p := ⟨b8, 2, none⟩) (show b8 < w8.heap.size by omega)).trans y8; have B9 := Lib.hid hb9; have B9s := hb9.size; clear hb9) | (go_at_call 7; (with_reducible refine (HSA2.out _ B9.out).mono ?_); rintro e w10 ⟨rfl, hb10⟩; have m3 : b3 < w9.heap.size := Nat.lt_of_lt_of_le hl3 B9s; have m4 : b3 + 1 < w9.heap.size := Nat.lt_of_lt_of_le hl4 B9s; have m8 : b8 < w9.heap.size := Nat.lt_of_lt_of_le hl8 B9s; have j0 := (hb10.cell (p := ⟨b3, 0, none⟩) (show b3 < w9.heap.size from m3)).trans k0; have j1 := (hb10.cell (p := ⟨b3, 1, none⟩) (show b3 < w9.heap.size from m3)).trans k1; have j2 := (hb10.cell (p := ⟨b3, 2, none⟩) (show b3 < w9.heap.size from m3)).trans k2; have j3 := (hb10.cell (p := ⟨b3 + 1, 0, none⟩) (show b3 + 1 < w9.heap.size from m4)).trans k3; have j4 := (hb10.cell (p := ⟨b3 + 1, 1, none⟩) (show b3 + 1 < w9.heap.size from m4)).trans k4; have j5 := (hb10.cell (p := ⟨b3 + 1, 2, none⟩) (show b3 + 1 < w9.heap.size from m4)).trans k5; have j6 := (hb10.cell (p := ⟨b8, 0, none⟩) (show b8 < w9.heap.size from m8)).trans k6; have j7 := (hb10.cell (p := ⟨b8, 1, none⟩) (show b8 < w9.heap.size from m8)).trans k7; have j8 := (hb10.cell (p := ⟨b8, 2, none⟩) (show b8 < w9.heap.size from m8)).trans k8; have B10 := Lib.hid (B9.out.trans (hb10.mono B9s)); have B10s := B10.out.size; clear hb10) | (go_at_call 10; (with_reducible refine (HPL2.out _ B10.out).mono ?_); rintro e w11 ⟨rfl, hb11⟩; have n3 : b3 < w10.heap.size := Nat.lt_of_lt_of_le hl3 B10s; have n4 : b3 + 1 < w10.heap.size := Nat.lt_of_lt_of_le hl4 B10s; have n8 : b8 < w10.heap.size := Nat.lt_of_lt_of_le hl8 B10s; have i0 := (hb11.cell (p := ⟨b3, 0, none⟩) (show b3 < w10.heap.size from n3)).trans j0; have i1 := (hb11.cell (p := ⟨b3, 1, none⟩) (show b3 < w10.heap.size from n3)).trans j1; have i2 := (hb11.cell (p := ⟨b3, 2, none⟩) (show b3 < w10.heap.size from n3)).trans j2; have i3 := (hb11.cell (p := ⟨b3 + 1, 0, none⟩) (show b3 + 1 < w10.heap.size from n4)).trans j3; have i4 := (hb11.cell (p := ⟨b3 + 1, 1, none⟩) (show b3 + 1 < w10.heap.size from n4)).trans j4; have i5 := (hb11.cell (p := ⟨b3 + 1, 2, none⟩) (show b3 + 1 < w10.heap.size from n4)).trans j5; have i6 := (hb11.cell (p := ⟨b8, 0, none⟩) (show b8 < w10.heap.size from n8)).trans j6; have i7 := (hb11.cell (p := ⟨b8, 1, none⟩) (show b8 < w10.heap.size from n8)).trans j7; have i8 := (hb11.cell (p := ⟨b8, 2, none⟩) (show b8 < w10.heap.size from n8)).trans j8; have B11 := Lib.hid (B10.out.trans (hb11.mono B10s)); have B11s := B11.out.size; clear hb11))
        all_goals (go_wp2_with fail)
        all_goals go_ret
        all_goals exact ⟨rfl, HB8.out.trans (B11.out.mono HB8.out.size)⟩
      | true =>
        obtain ⟨e1, e2, e3⟩ := HBK.out rfl
        have HSM := Lib.hid (fun (w : World) (hb : Below w8.drew.heap.size w8.drew w) => same_any w (.slice d5 p.ss.length k5) (.slice d6 p.cs.length k6) (.slice d2 ss.length k2) (.slice d4 cs.length k4) p.ss p.cs (p.wi : Int) 0
          (own_base (own_below HO2.out.1 (HB78.out.trans (hb.mono HB78.out.size))) (Nat.zero_le _)) (own_base (by have h := own_below HO.out.1.2 (HB45.out.trans ((HB58.out.trans (hb.mono HB58.out.size)).mono HB45.out.size)); rw [e1, enc_toS, List.length_map] at h; rw [e1, List.length_map]; exact h) (Nat.zero_le _))
          (own_base (own_below HO2.out.2 (HB78.out.trans (hb.mono HB78.out.size))) (Nat.zero_le _)) (own_base (by have h := own_below HO.out.2.2 (HB45.out.trans ((HB58.out.trans (hb.mono HB58.out.size)).mono HB45.out.size)); rw [e2, enc_toC, List.length_map] at h; rw [e2, List.length_map]; exact h) (Nat.zero_le _))
          (by have := (parse_num HQ.out).1.2; omega) (by have := (parse_num HQ.out).2.1.2; omega))
        rw [← e3] at HSM HSR y8
        clear HBK e1 e2 e3
        have HSR0 := Lib.hid (HSR.out w8.drew (Below.refl _ _))
        go_wp2_with fail
        rw [← HW8.out]
        rw [HB88.out]
        go_region_held3 (fun w' => w'.cell? ⟨b3, 0, none⟩ = some (.slice d1 ss.length k1) ∧ w'.cell? ⟨b3, 1, none⟩ = some (.slice d3 cs.length k3) ∧ w'.cell? ⟨b3, 2, none⟩ = some (.int .i64 wi) ∧ w'.cell? ⟨b3 + 1, 0, none⟩ = some (.slice d2 ss.length k2) ∧ w'.cell? ⟨b3 + 1, 1, none⟩ = some (.slice d4 cs.length k4) ∧ w'.cell? ⟨b3 + 1, 2, none⟩ = some (.int .i64 wi) ∧ w'.cell? ⟨b8, 0, none⟩ = some (.slice d5 p.ss.length k5) ∧ w'.cell? ⟨b8, 1, none⟩ = some (.slice d6 p.cs.length k6) ∧ w'.cell? ⟨b8, 2, none⟩ = some (.int .i64 wi)) (go_keep)
          (first
            | (go_at_call 7; (with_reducible refine HSR0.out.mono ?_); rintro e w9 ⟨rfl, hb9⟩; have k0 := (hb9.cell (p := ⟨b3, 0, none⟩) (show b3 < w8.heap.size by omega)).trans y0; have k1 := (hb9.cell (p := ⟨b3, 1, none⟩) (show b3 < w8.heap.size by omega)).trans y1; have k2 := (hb9.cell (p := ⟨b3, 2, none⟩) (show b3 < w8.heap.size by omega)).trans y2; have k3 := (hb9.cell (p := ⟨b3 + 1, 0, none⟩) (show b3 + 1 < w8.heap.size by omega)).trans y3; have k4 := (hb9.cell (p := ⟨b3 + 1, 1, none⟩) (show b3 + 1 < w8.heap.size by omega)).trans y4; have k5 := (hb9.cell (p := ⟨b3 + 1, 2, none⟩) (show b3 + 1 < w8.heap.size by omega)).trans y5; have k6 := (hb9.cell (p := ⟨b8, 0, none⟩) (show b8 < w8.heap.size by omega)).trans y6; have k7 := (hb9.cell (p := ⟨b8, 1, none⟩) (show b8 < w8.heap.size by omega)).trans y7; have k8 := (hb9.cell (p := ⟨b8, 2, none⟩) (show b8 < w8.heap.size by omega)).trans y8; have B9 := Lib.hid hb9; have B9s := hb9.size; clear hb9)
            | (go_at_call 7; (with_reducible refine (HSA2.out _ B9.out).mono ?_); rintro e w10 ⟨rfl, hb10⟩; have m3 : b3 < w9.heap.size := Nat.lt_of_lt_of_le hl3 B9s; have m4 : b3 + 1 < w9.heap.size := Nat.lt_of_lt_of_le hl4 B9s; have m8 : b8 < w9.heap.size := Nat.lt_of_lt_of_le hl8 B9s; have j0 := (hb10.cell (p := ⟨b3, 0, none⟩) (show b3 < w9.heap.size from m3)).trans k0; have j1 := (hb10.cell (p := ⟨b3, 1, none⟩) (show b3 < w9.heap.size from m3)).trans k1; have j2 := (hb10.cell (p := ⟨b3, 2, none⟩) (show b3 < w9.heap.size from m3)).trans k2; have j3 := (hb10.cell (p := ⟨b3 + 1, 0, none⟩) (show b3 + 1 < w9.heap.size from m4)).trans k3; have j4 := (hb10.cell (p := ⟨b3 + 1, 1, none⟩) (show b3 + 1 < w9.heap.size from m4)).trans k4; have j5 := (hb10.cell (p := ⟨b3 + 1, 2, none⟩) (show b3 + 1 < w9.heap.size from m4)).trans k5; have j6 := (hb10.cell (p := ⟨b8, 0, none⟩) (show b8 < w9.heap.size from m8)).trans k6; have j7 := (hb10.cell (p := ⟨b8, 1, none⟩) (show b8 < w9.heap.size from m8)).trans k7; have j8 := (hb10.cell (p := ⟨b8, 2, none⟩) (show b8 < w9.heap.size from m8)).trans k8; have B10 := Lib.hid (B9.out.trans (hb10.mono B9s)); have B10s := B10.out.size; clear hb10)
            | (go_at_call 10; (with_reducible refine (HPL2.out _ B10.out).mono ?_); rintro e w11 ⟨rfl, hb11⟩; have n3 : b3 < w10.heap.size := Nat.lt_of_lt_of_le hl3 B10s; have n4 : b3 + 1 < w10.heap.size := Nat.lt_of_lt_of_le hl4 B10s; have n8 : b8 < w10.heap.size := Nat.lt_of_lt_of_le hl8 B10s; have i0 := (hb11.cell (p := ⟨b3, 0, none⟩) (show b3 < w10.heap.size from n3)).trans j0; have i1 := (hb11.cell (p := ⟨b3, 1, none⟩) (show b3 < w10.heap.size from n3)).trans j1; have i2 := (hb11.cell (p := ⟨b3, 2, none⟩) (show b3 < w10.heap.size from n3)).trans j2; have i3 := (hb11.cell (p := ⟨b3 + 1, 0, none⟩) (show b3 + 1 < w10.heap.size from n4)).trans j3; have i4 := (hb11.cell (p := ⟨b3 + 1, 1, none⟩) (show b3 + 1 < w10.heap.size from n4)).trans j4; have i5 := (hb11.cell (p := ⟨b3 + 1, 2, none⟩) (show b3 + 1 < w10.heap.size from n4)).trans j5; have i6 := (hb11.cell (p := ⟨b8, 0, none⟩) (show b8 < w10.heap.size from n8)).trans j6; have i7 := (hb11.cell (p := ⟨b8, 1, none⟩) (show b8 < w10.heap.size from n8)).trans j7; have i8 := (hb11.cell (p := ⟨b8, 2, none⟩) (show b8 < w10.heap.size from n8)).trans j8; have B11 := Lib.hid (B10.out.trans (hb11.mono B10s)); have B11s := B11.out.size; clear hb11)
            | (go_at_call 11; (with_reducible refine (HSM.out _ B11.out).mono ?_); rintro e w12 ⟨rfl, hb12⟩; have o3 : b3 < w11.heap.size := Nat.lt_of_lt_of_le hl3 B11s; have o4 : b3 + 1 < w11.heap.size := Nat.lt_of_lt_of_le hl4 B11s; have o8 : b8 < w11.heap.size := Nat.lt_of_lt_of_le hl8 B11s; have h0 := (hb12.cell (p := ⟨b3, 0, none⟩) (show b3 < w11.heap.size from o3)).trans i0; have h1 := (hb12.cell (p := ⟨b3, 1, none⟩) (show b3 < w11.heap.size from o3)).trans i1; have h2 := (hb12.cell (p := ⟨b3, 2, none⟩) (show b3 < w11.heap.size from o3)).trans i2; have h3 := (hb12.cell (p := ⟨b3 + 1, 0, none⟩) (show b3 + 1 < w11.heap.size from o4)).trans i3; have h4 := (hb12.cell (p := ⟨b3 + 1, 1, none⟩) (show b3 + 1 < w11.heap.size from o4)).trans i4; have h5 := (hb12.cell (p := ⟨b3 + 1, 2, none⟩) (show b3 + 1 < w11.heap.size from o4)).trans i5; have h6 := (hb12.cell (p := ⟨b8, 0, none⟩) (show b8 < w11.heap.size from o8)).trans i6; have h7 := (hb12.cell (p := ⟨b8, 1, none⟩) (show b8 < w11.heap.size from o8)).trans i7; have h8 := (hb12.cell (p := ⟨b8, 2, none⟩) (show b8 < w11.heap.size from o8)).trans i8; have B12 := Lib.hid (B11.out.trans (hb12.mono B11s)); clear hb12))
        go_wp2_with fail
        go_ret
        exact ⟨rfl, HB8.out.trans (B12.out.mono HB8.out.size)⟩
  | inr p0 =>
    rintro e w1 ⟨hb1, sl, cl, rfl, o5, o6⟩
    obtain ⟨e5, f5, rfl⟩ := own_slice o5
    obtain ⟨e6, f6, rfl⟩ := own_slice o6
    have HB1 := Lib.hid (B0.out.trans (hb1.mono B0.out.size))
    have X1 := Lib.hid ((hb1.block _ hz0).trans X0.out)
    have hz1 : W.heap.size < w1.heap.size := by have := hb1.size; omega
    obtain ⟨w2, hw2⟩ : ∃ w2, w2 = w1.alloc (.cells #[.slice e5 p0.ss.length f5, .slice e6 p0.cs.length f6, .int .i64 p0.wi] 29) := ⟨_, rfl⟩
    have hb12 : Below w1.heap.size w1 w2 := by rw [hw2]; exact (Below.refl _ _).alloc (Nat.le_refl _) _
    have HB12 := Lib.hid hb12
    have HW2 := Lib.hid hw2
    have HWK := Lib.hid (wakes_any w2)
    have HB2 := Lib.hid (HB1.out.trans (hb12.mono HB1.out.size))
    have X2 := Lib.hid ((hb12.block _ hz1).trans X1.out)
    have hz2 : W.heap.size < w2.heap.size := by have := hb12.size; omega
    have Q2 := Lib.hid (show w2.heap[w1.heap.size]? = some (.cells #[.slice e5 p0.ss.length f5, .slice e6 p0.cs.length f6, .int .i64 p0.wi] 29 (0, 0)) by rw [hw2]; exact heap_new rfl)
    have hlq : w1.heap.size < w2.heap.size := by rw [hw2]; simp
    have HOQ := Lib.hid (And.intro o5 o6)
    have HR := Lib.hid hr
    clear hr hb1 hw2 hb12 HPS o5 o6
    go_wp2_with fail
    rw [← HW2.out]
    refine HWK.out.mono ?_
    rintro e w3 ⟨rfl, hb3⟩
    have HB3 := Lib.hid (HB2.out.trans (hb3.mono HB2.out.size))
    have X3 := Lib.hid ((hb3.block _ hz2).trans X2.out)
    have hz3 : W.heap.size < w3.heap.size := by have := hb3.size; omega
    have Q3 := Lib.hid ((hb3.block _ hlq).trans Q2.out)
    have b13 := HB12.out.trans (hb3.mono HB12.out.size)
    have HSQ := Lib.hid (show_read HR.out (.slice e5 p0.ss.length f5) (.slice e6 p0.cs.length f6) w3 (Stps.own_p HOQ.out.1 b13) (Cnds.own_p HOQ.out.2 b13) (HT.out w3 HB3.out) (Nat.lt_of_lt_of_le hg HB3.out.size) (HS.out w3 HB3.out))
    have q0 : w3.cell? ⟨w1.heap.size, 0, none⟩ = some (.slice e5 p0.ss.length f5) := (Lib.cell_of_heap Q3.out 0).trans rfl
    have q1 : w3.cell? ⟨w1.heap.size, 1, none⟩ = some (.slice e6 p0.cs.length f6) := (Lib.cell_of_heap Q3.out 1).trans rfl
    have q2 : w3.cell? ⟨w1.heap.size, 2, none⟩ = some (.int .i64 p0.wi) := (Lib.cell_of_heap Q3.out 2).trans rfl
    clear hb3 HWK b13
    go_wp2_with fail
    refine HSQ.out.mono ?_
    rintro e wt ⟨rfl, hbt⟩
    have HBT := Lib.hid (HB3.out.trans (hbt.mono HB3.out.size))
    have HXT := Lib.hid ((hbt.block _ hz3).trans X3.out)
    clear hbt HSQ q0 q1 q2 HB3 HB1 HB2 X1 X2 X3 Q2 Q3 HB12 HW2 HR HOQ hz1 hz2 hz3 hlq
    have HP := Lib.hid (pats_any (.slice a1 ss.length c1) (.slice a2 cs.length c2) wi ss cs wt (Sl.more (Sl.below HST.out.1 HBT.out) HBT.out.size) (Sl.more (Sl.below HST.out.2 HBT.out) HBT.out.size) (by omega) (by omega))
    have x0 : wt.cell? ⟨W.heap.size, 0, none⟩ = some (.slice a1 ss.length c1) := (Lib.cell_of_heap HXT.out 0).trans rfl
    have x1 : wt.cell? ⟨W.heap.size, 1, none⟩ = some (.slice a2 cs.length c2) := (Lib.cell_of_heap HXT.out 1).trans rfl
    have x2 : wt.cell? ⟨W.heap.size, 2, none⟩ = some (.int .i64 wi) := (Lib.cell_of_heap HXT.out 2).trans rfl
    go_wp2_with fail
    refine HP.out.mono ?_
    rintro e w4 ⟨sa, ca, sb, cb, rfl, hb4, o1, o2, o3, o4⟩
    obtain ⟨d1, k1, rfl⟩ := (Sl.of_own o1).shape
    obtain ⟨d2, k2, rfl⟩ := (Sl.of_own o2).shape
    obtain ⟨d3, k3, rfl⟩ := (Sl.of_own o3).shape
    obtain ⟨d4, k4, rfl⟩ := (Sl.of_own o4).shape
    have HB4 := Lib.hid (HBT.out.trans (hb4.mono HBT.out.size))
    have HO := Lib.hid (And.intro (And.intro o1 o2) (And.intro o3 o4))
    obtain ⟨w5, hw5⟩ : ∃ w5, w5 = (w4.alloc (.cells #[.slice d1 ss.length k1, .slice d3 cs.length k3, .int .i64 wi] 29)).alloc (.cells #[.slice d2 ss.length k2, .slice d4 cs.length k4, .int .i64 wi] 33) := ⟨_, rfl⟩
    have hz5 : w5.heap.size = w4.heap.size + 2 := by rw [hw5]; simp
    have hb45 : Below w4.heap.size w4 w5 := by rw [hw5]; exact ((Below.refl _ _).alloc (Nat.le_refl _) _).alloc (by simp) _
    have X3 := Lib.hid (show w5.heap[w4.heap.size]? = some (.cells #[.slice d1 ss.length k1, .slice d3 cs.length k3, .int .i64 wi] 29 (0, 0)) by rw [hw5]; exact heap_alloc (heap_new rfl))
    have X4 := Lib.hid (show w5.heap[w4.heap.size + 1]? = some (.cells #[.slice d2 ss.length k2, .slice d4 cs.length k4, .int .i64 wi] 33 (0, 0)) by rw [hw5]; exact heap_new (by simp))
    have HB45 := Lib.hid hb45
    have HB5 := Lib.hid (HB4.out.trans (hb45.mono HB4.out.size))
    have HW5 := Lib.hid hw5
    have hlt3 : w4.heap.size < w5.heap.size := by omega
    have hlt4 : w4.heap.size + 1 < w5.heap.size := by omega
    obtain ⟨T, hT⟩ : ∃ T : ByteArray, (⟨(showP ss cs wi).toArray⟩ : ByteArray) = T := ⟨_, rfl⟩
    have HSA := Lib.hid (fun (w : World) (hb : Below w5.heap.size w5 w) => show_any (.slice d1 ss.length k1) (.slice d3 cs.length k3) wi ss cs w (Stps.own HO.out.1.1 (HB45.out.trans (hb.mono HB45.out.size))) (Cnds.own HO.out.2.1 (HB45.out.trans (hb.mono HB45.out.size))) hn1 hn2 HF.out.1 HF.out.2 hw0 hw1
      (HT.out w (HB5.out.trans (hb.mono HB5.out.size))) (Nat.lt_of_lt_of_le hg (Nat.le_trans HB5.out.size hb.size)) (HS.out w (HB5.out.trans (hb.mono HB5.out.size))))
    have HPL := Lib.hid (fun (w : World) (hb : Below w5.heap.size w5 w) => plain_any (.slice d1 ss.length k1) (.slice d3 cs.length k3) wi ss cs w (Stps.own HO.out.1.1 (HB45.out.trans (hb.mono HB45.out.size))) (Cnds.own HO.out.2.1 (HB45.out.trans (hb.mono HB45.out.size))) hn1 hn2)
    have HTL := Lib.hid (show showP ss cs wi = T.data.toList by rw [← hT])
    rw [hT] at HSA
    have HSA1 := Lib.hid (HSA.out w5 (Below.refl _ _))
    obtain ⟨b3, hb3⟩ : ∃ b, w4.heap.size = b := ⟨_, rfl⟩
    rw [hb3] at hlt3 hlt4 X3 X4 hz5
    have y0 : w5.cell? ⟨b3, 0, none⟩ = some (.slice d1 ss.length k1) := (Lib.cell_of_heap X3.out 0).trans rfl
    have y1 : w5.cell? ⟨b3, 1, none⟩ = some (.slice d3 cs.length k3) := (Lib.cell_of_heap X3.out 1).trans rfl
    have y2 : w5.cell? ⟨b3, 2, none⟩ = some (.int .i64 wi) := (Lib.cell_of_heap X3.out 2).trans rfl
    have HB3 := Lib.hid hb3
    clear hb4 o1 o2 o3 o4 hb45 hT HP x0 x1 x2 hw5
    go_wp2_with fail
    rw [← HW5.out]
    refine HSA1.out.mono ?_
    rintro e w6 ⟨rfl, hb6⟩
    have HB56 := Lib.hid hb6
    have HPT := Lib.hid (parse_any T w6)
    clear hb6 HSA1 y0 y1 y2 hb3
    go_wp2_with fail
    obtain ⟨q, hq⟩ : ∃ q, pParse T.data.toList = q := ⟨_, rfl⟩
    refine HPT.out.mono ?_
    rw [hq]
    cases q with
    | inl f =>
      obtain ⟨k, er⟩ := f
      have hz := parse_nz hq
      rintro e w7 ⟨hb7, rfl⟩
      have hne : (er != 0) = true := by rw [bne_iff_ne]; exact hz
      have HB7 := Lib.hid (HB5.out.trans ((HB56.out.trans (hb7.mono HB56.out.size)).mono HB5.out.size))
      clear hz hq hb7 HPT
      go_wp2_with fail
      go_quiet (fail)
      go_wp2_with fail
      go_ret
      exact ⟨rfl, below_drewN (HB7.out.alloc HB7.out.size _) _⟩
    | inr p =>
      rintro e w7 ⟨hb7, sl, cl, rfl, o5, o6⟩
      obtain ⟨d5, k5, rfl⟩ := own_slice o5
      obtain ⟨d6, k6, rfl⟩ := own_slice o6
      have HQ := Lib.hid hq
      have HB57 := Lib.hid (HB56.out.trans (hb7.mono HB56.out.size))
      have HO2 := Lib.hid (And.intro o5 o6)
      obtain ⟨w8, hw8⟩ : ∃ w8, w8 = w7.alloc (.cells #[.slice d5 p.ss.length k5, .slice d6 p.cs.length k6, .int .i64 p.wi] 29) := ⟨_, rfl⟩
      have hb78 : Below w7.heap.size w7 w8 := by rw [hw8]; exact (Below.refl _ _).alloc (Nat.le_refl _) _
      have X8 := Lib.hid (show w8.heap[w7.heap.size]? = some (.cells #[.slice d5 p.ss.length k5, .slice d6 p.cs.length k6, .int .i64 p.wi] 29 (0, 0)) by rw [hw8]; exact heap_new rfl)
      have hz8 : w8.heap.size = w7.heap.size + 1 := by rw [hw8]; simp
      have HB78 := Lib.hid (show Below w7.heap.size w7 w8.drew from hb78.drew)
      have HB58 := Lib.hid (show Below w5.heap.size w5 w8.drew from (HB57.out.trans (hb78.mono HB57.out.size)).drew)
      have HB8 := Lib.hid (HB5.out.trans (HB58.out.mono HB5.out.size))
      have HW8 := Lib.hid hw8
      have h58 : w5.heap.size ≤ w7.heap.size := HB57.out.size
      have HSR := Lib.hid (fun (w : World) (hb : Below w8.drew.heap.size w8.drew w) => show_read HQ.out (.slice d5 p.ss.length k5) (.slice d6 p.cs.length k6) w (Stps.own_p HO2.out.1 (HB78.out.trans (hb.mono HB78.out.size))) (Cnds.own_p HO2.out.2 (HB78.out.trans (hb.mono HB78.out.size)))
        (HT.out w (HB8.out.trans (hb.mono HB8.out.size))) (Nat.lt_of_lt_of_le hg (Nat.le_trans HB8.out.size hb.size)) (HS.out w (HB8.out.trans (hb.mono HB8.out.size))))
      have HSA2 := Lib.hid (fun (w : World) (hb : Below w8.drew.heap.size w8.drew w) => HSA.out w (HB58.out.trans (hb.mono HB58.out.size)))
      have HPL2 := Lib.hid (fun (w : World) (hb : Below w8.drew.heap.size w8.drew w) => HPL.out w (HB58.out.trans (hb.mono HB58.out.size)))
      have y0 : w8.cell? ⟨b3, 0, none⟩ = some (.slice d1 ss.length k1) := (HB58.out.cell (p := ⟨b3, 0, none⟩) (show b3 < w5.heap.size by omega)).trans ((Lib.cell_of_heap X3.out 0).trans rfl)
      have y1 : w8.cell? ⟨b3, 1, none⟩ = some (.slice d3 cs.length k3) := (HB58.out.cell (p := ⟨b3, 1, none⟩) (show b3 < w5.heap.size by omega)).trans ((Lib.cell_of_heap X3.out 1).trans rfl)
      have y2 : w8.cell? ⟨b3, 2, none⟩ = some (.int .i64 wi) := (HB58.out.cell (p := ⟨b3, 2, none⟩) (show b3 < w5.heap.size by omega)).trans ((Lib.cell_of_heap X3.out 2).trans rfl)
      have y3 : w8.cell? ⟨b3 + 1, 0, none⟩ = some (.slice d2 ss.length k2) := (HB58.out.cell (p := ⟨b3 + 1, 0, none⟩) (show b3 + 1 < w5.heap.size by omega)).trans ((Lib.cell_of_heap X4.out 0).trans rfl)
      have y4 : w8.cell? ⟨b3 + 1, 1, none⟩ = some (.slice d4 cs.length k4) := (HB58.out.cell (p := ⟨b3 + 1, 1, none⟩) (show b3 + 1 < w5.heap.size by omega)).trans ((Lib.cell_of_heap X4.out 1).trans rfl)
      have y5 : w8.cell? ⟨b3 + 1, 2, none⟩ = some (.int .i64 wi) := (HB58.out.cell (p := ⟨b3 + 1, 2, none⟩) (show b3 + 1 < w5.heap.size by omega)).trans ((Lib.cell_of_heap X4.out 2).trans rfl)
      have hl3 : b3 < w8.heap.size := by omega
      have hl4 : b3 + 1 < w8.heap.size := by omega
      obtain ⟨b8, hb8⟩ : ∃ b, w7.heap.size = b := ⟨_, rfl⟩
      rw [hb8] at X8 hz8
      have y6 : w8.cell? ⟨b8, 0, none⟩ = some (.slice d5 p.ss.length k5) := (Lib.cell_of_heap X8.out 0).trans rfl
      have y7 : w8.cell? ⟨b8, 1, none⟩ = some (.slice d6 p.cs.length k6) := (Lib.cell_of_heap X8.out 1).trans rfl
      have y8 : w8.cell? ⟨b8, 2, none⟩ = some (.int .i64 p.wi) := (Lib.cell_of_heap X8.out 2).trans rfl
      have hl8 : b8 < w8.heap.size := by omega
      have HB88 := Lib.hid hb8
      have HBK := Lib.hid (fun (hp : plainB ss cs = true) => read_back (wi := wi) (of_decide_eq_true hp).1 (of_decide_eq_true hp).2 (by rw [HTL.out]; exact HQ.out))
      clear hb7 hq o5 o6 hb78 HPT hw8 hb8
      obtain ⟨pl, hpl⟩ : ∃ pl, plainB ss cs = pl := ⟨_, rfl⟩
      rw [hpl] at HPL2 HBK
      clear hpl
      cases pl with
      | false =>
        clear HBK
        have HSR0 := Lib.hid (HSR.out w8.drew (Below.refl _ _))
        go_wp2_with fail
        rw [← HW8.out]
        rw [HB88.out]
        go_region_with (first | (go_at_call 7; (with_reducible refine HSR0.out.mono ?_); rintro e w9 ⟨rfl, hb9⟩; have k0 := (hb9.cell (p := ⟨b3, 0, none⟩) (show b3 < w8.heap.size by omega)).trans y0; have k1 := (hb9.cell (p := ⟨b3, 1, none⟩) (show b3 < w8.heap.size by omega)).trans y1; have k2 := (hb9.cell (p := ⟨b3, 2, none⟩) (show b3 < w8.heap.size by omega)).trans y2; have k3 := (hb9.cell (p := ⟨b3 + 1, 0, none⟩) (show b3 + 1 < w8.heap.size by omega)).trans y3; have k4 := (hb9.cell (p := ⟨b3 + 1, 1, none⟩) (show b3 + 1 < w8.heap.size by omega)).trans y4; have k5 := (hb9.cell (p := ⟨b3 + 1, 2, none⟩) (show b3 + 1 < w8.heap.size by omega)).trans y5; have k6 := (hb9.cell (p := ⟨b8, 0, none⟩) (show b8 < w8.heap.size by omega)).trans y6; have k7 := (hb9.cell (p := ⟨b8, 1, none⟩) (show b8 < w8.heap.size by omega)).trans y7; have k8 := (hb9.cell (p := ⟨b8, 2, none⟩) (show b8 < w8.heap.size by omega)).trans y8; have B9 := Lib.hid hb9; have B9s := hb9.size; clear hb9) | (go_at_call 7; (with_reducible refine (HSA2.out _ B9.out).mono ?_); rintro e w10 ⟨rfl, hb10⟩; have m3 : b3 < w9.heap.size := Nat.lt_of_lt_of_le hl3 B9s; have m4 : b3 + 1 < w9.heap.size := Nat.lt_of_lt_of_le hl4 B9s; have m8 : b8 < w9.heap.size := Nat.lt_of_lt_of_le hl8 B9s; have j0 := (hb10.cell (p := ⟨b3, 0, none⟩) (show b3 < w9.heap.size from m3)).trans k0; have j1 := (hb10.cell (p := ⟨b3, 1, none⟩) (show b3 < w9.heap.size from m3)).trans k1; have j2 := (hb10.cell (p := ⟨b3, 2, none⟩) (show b3 < w9.heap.size from m3)).trans k2; have j3 := (hb10.cell (p := ⟨b3 + 1, 0, none⟩) (show b3 + 1 < w9.heap.size from m4)).trans k3; have j4 := (hb10.cell (p := ⟨b3 + 1, 1, none⟩) (show b3 + 1 < w9.heap.size from m4)).trans k4; have j5 := (hb10.cell (p := ⟨b3 + 1, 2, none⟩) (show b3 + 1 < w9.heap.size from m4)).trans k5; have j6 := (hb10.cell (p := ⟨b8, 0, none⟩) (show b8 < w9.heap.size from m8)).trans k6; have j7 := (hb10.cell (p := ⟨b8, 1, none⟩) (show b8 < w9.heap.size from m8)).trans k7; have j8 := (hb10.cell (p := ⟨b8, 2, none⟩) (show b8 < w9.heap.size from m8)).trans k8; have B10 := Lib.hid (B9.out.trans (hb10.mono B9s)); have B10s := B10.out.size; clear hb10) | (go_at_call 10; (with_reducible refine (HPL2.out _ B10.out).mono ?_); rintro e w11 ⟨rfl, hb11⟩; have n3 : b3 < w10.heap.size := Nat.lt_of_lt_of_le hl3 B10s; have n4 : b3 + 1 < w10.heap.size := Nat.lt_of_lt_of_le hl4 B10s; have n8 : b8 < w10.heap.size := Nat.lt_of_lt_of_le hl8 B10s; have i0 := (hb11.cell (p := ⟨b3, 0, none⟩) (show b3 < w10.heap.size from n3)).trans j0; have i1 := (hb11.cell (p := ⟨b3, 1, none⟩) (show b3 < w10.heap.size from n3)).trans j1; have i2 := (hb11.cell (p := ⟨b3, 2, none⟩) (show b3 < w10.heap.size from n3)).trans j2; have i3 := (hb11.cell (p := ⟨b3 + 1, 0, none⟩) (show b3 + 1 < w10.heap.size from n4)).trans j3; have i4 := (hb11.cell (p := ⟨b3 + 1, 1, none⟩) (show b3 + 1 < w10.heap.size from n4)).trans j4; have i5 := (hb11.cell (p := ⟨b3 + 1, 2, none⟩) (show b3 + 1 < w10.heap.size from n4)).trans j5; have i6 := (hb11.cell (p := ⟨b8, 0, none⟩) (show b8 < w10.heap.size from n8)).trans j6; have i7 := (hb11.cell (p := ⟨b8, 1, none⟩) (show b8 < w10.heap.size from n8)).trans j7; have i8 := (hb11.cell (p := ⟨b8, 2, none⟩) (show b8 < w10.heap.size from n8)).trans j8; have B11 := Lib.hid (B10.out.trans (hb11.mono B10s)); have B11s := B11.out.size; clear hb11))
        all_goals (go_wp2_with fail)
        all_goals go_ret
        all_goals exact ⟨rfl, HB8.out.trans (B11.out.mono HB8.out.size)⟩
      | true =>
        obtain ⟨e1, e2, e3⟩ := HBK.out rfl
        have HSM := Lib.hid (fun (w : World) (hb : Below w8.drew.heap.size w8.drew w) => same_any w (.slice d5 p.ss.length k5) (.slice d6 p.cs.length k6) (.slice d2 ss.length k2) (.slice d4 cs.length k4) p.ss p.cs (p.wi : Int) 0
          (own_base (own_below HO2.out.1 (HB78.out.trans (hb.mono HB78.out.size))) (Nat.zero_le _)) (own_base (by have h := own_below HO.out.1.2 (HB45.out.trans ((HB58.out.trans (hb.mono HB58.out.size)).mono HB45.out.size)); rw [e1, enc_toS, List.length_map] at h; rw [e1, List.length_map]; exact h) (Nat.zero_le _))
          (own_base (own_below HO2.out.2 (HB78.out.trans (hb.mono HB78.out.size))) (Nat.zero_le _)) (own_base (by have h := own_below HO.out.2.2 (HB45.out.trans ((HB58.out.trans (hb.mono HB58.out.size)).mono HB45.out.size)); rw [e2, enc_toC, List.length_map] at h; rw [e2, List.length_map]; exact h) (Nat.zero_le _))
          (by have := (parse_num HQ.out).1.2; omega) (by have := (parse_num HQ.out).2.1.2; omega))
        rw [← e3] at HSM HSR y8
        clear HBK e1 e2 e3
        have HSR0 := Lib.hid (HSR.out w8.drew (Below.refl _ _))
        go_wp2_with fail
        rw [← HW8.out]
        rw [HB88.out]
        go_region_held3 (fun w' => w'.cell? ⟨b3, 0, none⟩ = some (.slice d1 ss.length k1) ∧ w'.cell? ⟨b3, 1, none⟩ = some (.slice d3 cs.length k3) ∧ w'.cell? ⟨b3, 2, none⟩ = some (.int .i64 wi) ∧ w'.cell? ⟨b3 + 1, 0, none⟩ = some (.slice d2 ss.length k2) ∧ w'.cell? ⟨b3 + 1, 1, none⟩ = some (.slice d4 cs.length k4) ∧ w'.cell? ⟨b3 + 1, 2, none⟩ = some (.int .i64 wi) ∧ w'.cell? ⟨b8, 0, none⟩ = some (.slice d5 p.ss.length k5) ∧ w'.cell? ⟨b8, 1, none⟩ = some (.slice d6 p.cs.length k6) ∧ w'.cell? ⟨b8, 2, none⟩ = some (.int .i64 wi)) (go_keep)
          (first
            | (go_at_call 7; (with_reducible refine HSR0.out.mono ?_); rintro e w9 ⟨rfl, hb9⟩; have k0 := (hb9.cell (p := ⟨b3, 0, none⟩) (show b3 < w8.heap.size by omega)).trans y0; have k1 := (hb9.cell (p := ⟨b3, 1, none⟩) (show b3 < w8.heap.size by omega)).trans y1; have k2 := (hb9.cell (p := ⟨b3, 2, none⟩) (show b3 < w8.heap.size by omega)).trans y2; have k3 := (hb9.cell (p := ⟨b3 + 1, 0, none⟩) (show b3 + 1 < w8.heap.size by omega)).trans y3; have k4 := (hb9.cell (p := ⟨b3 + 1, 1, none⟩) (show b3 + 1 < w8.heap.size by omega)).trans y4; have k5 := (hb9.cell (p := ⟨b3 + 1, 2, none⟩) (show b3 + 1 < w8.heap.size by omega)).trans y5; have k6 := (hb9.cell (p := ⟨b8, 0, none⟩) (show b8 < w8.heap.size by omega)).trans y6; have k7 := (hb9.cell (p := ⟨b8, 1, none⟩) (show b8 < w8.heap.size by omega)).trans y7; have k8 := (hb9.cell (p := ⟨b8, 2, none⟩) (show b8 < w8.heap.size by omega)).trans y8; have B9 := Lib.hid hb9; have B9s := hb9.size; clear hb9)
            | (go_at_call 7; (with_reducible refine (HSA2.out _ B9.out).mono ?_); rintro e w10 ⟨rfl, hb10⟩; have m3 : b3 < w9.heap.size := Nat.lt_of_lt_of_le hl3 B9s; have m4 : b3 + 1 < w9.heap.size := Nat.lt_of_lt_of_le hl4 B9s; have m8 : b8 < w9.heap.size := Nat.lt_of_lt_of_le hl8 B9s; have j0 := (hb10.cell (p := ⟨b3, 0, none⟩) (show b3 < w9.heap.size from m3)).trans k0; have j1 := (hb10.cell (p := ⟨b3, 1, none⟩) (show b3 < w9.heap.size from m3)).trans k1; have j2 := (hb10.cell (p := ⟨b3, 2, none⟩) (show b3 < w9.heap.size from m3)).trans k2; have j3 := (hb10.cell (p := ⟨b3 + 1, 0, none⟩) (show b3 + 1 < w9.heap.size from m4)).trans k3; have j4 := (hb10.cell (p := ⟨b3 + 1, 1, none⟩) (show b3 + 1 < w9.heap.size from m4)).trans k4; have j5 := (hb10.cell (p := ⟨b3 + 1, 2, none⟩) (show b3 + 1 < w9.heap.size from m4)).trans k5; have j6 := (hb10.cell (p := ⟨b8, 0, none⟩) (show b8 < w9.heap.size from m8)).trans k6; have j7 := (hb10.cell (p := ⟨b8, 1, none⟩) (show b8 < w9.heap.size from m8)).trans k7; have j8 := (hb10.cell (p := ⟨b8, 2, none⟩) (show b8 < w9.heap.size from m8)).trans k8; have B10 := Lib.hid (B9.out.trans (hb10.mono B9s)); have B10s := B10.out.size; clear hb10)
            | (go_at_call 10; (with_reducible refine (HPL2.out _ B10.out).mono ?_); rintro e w11 ⟨rfl, hb11⟩; have n3 : b3 < w10.heap.size := Nat.lt_of_lt_of_le hl3 B10s; have n4 : b3 + 1 < w10.heap.size := Nat.lt_of_lt_of_le hl4 B10s; have n8 : b8 < w10.heap.size := Nat.lt_of_lt_of_le hl8 B10s; have i0 := (hb11.cell (p := ⟨b3, 0, none⟩) (show b3 < w10.heap.size from n3)).trans j0; have i1 := (hb11.cell (p := ⟨b3, 1, none⟩) (show b3 < w10.heap.size from n3)).trans j1; have i2 := (hb11.cell (p := ⟨b3, 2, none⟩) (show b3 < w10.heap.size from n3)).trans j2; have i3 := (hb11.cell (p := ⟨b3 + 1, 0, none⟩) (show b3 + 1 < w10.heap.size from n4)).trans j3; have i4 := (hb11.cell (p := ⟨b3 + 1, 1, none⟩) (show b3 + 1 < w10.heap.size from n4)).trans j4; have i5 := (hb11.cell (p := ⟨b3 + 1, 2, none⟩) (show b3 + 1 < w10.heap.size from n4)).trans j5; have i6 := (hb11.cell (p := ⟨b8, 0, none⟩) (show b8 < w10.heap.size from n8)).trans j6; have i7 := (hb11.cell (p := ⟨b8, 1, none⟩) (show b8 < w10.heap.size from n8)).trans j7; have i8 := (hb11.cell (p := ⟨b8, 2, none⟩) (show b8 < w10.heap.size from n8)).trans j8; have B11 := Lib.hid (B10.out.trans (hb11.mono B10s)); have B11s := B11.out.size; clear hb11)
            | (go_at_call 11; (with_reducible refine (HSM.out _ B11.out).mono ?_); rintro e w12 ⟨rfl, hb12⟩; have o3 : b3 < w11.heap.size := Nat.lt_of_lt_of_le hl3 B11s; have o4 : b3 + 1 < w11.heap.size := Nat.lt_of_lt_of_le hl4 B11s; have o8 : b8 < w11.heap.size := Nat.lt_of_lt_of_le hl8 B11s; have h0 := (hb12.cell (p := ⟨b3, 0, none⟩) (show b3 < w11.heap.size from o3)).trans i0; have h1 := (hb12.cell (p := ⟨b3, 1, none⟩) (show b3 < w11.heap.size from o3)).trans i1; have h2 := (hb12.cell (p := ⟨b3, 2, none⟩) (show b3 < w11.heap.size from o3)).trans i2; have h3 := (hb12.cell (p := ⟨b3 + 1, 0, none⟩) (show b3 + 1 < w11.heap.size from o4)).trans i3; have h4 := (hb12.cell (p := ⟨b3 + 1, 1, none⟩) (show b3 + 1 < w11.heap.size from o4)).trans i4; have h5 := (hb12.cell (p := ⟨b3 + 1, 2, none⟩) (show b3 + 1 < w11.heap.size from o4)).trans i5; have h6 := (hb12.cell (p := ⟨b8, 0, none⟩) (show b8 < w11.heap.size from o8)).trans i6; have h7 := (hb12.cell (p := ⟨b8, 1, none⟩) (show b8 < w11.heap.size from o8)).trans i7; have h8 := (hb12.cell (p := ⟨b8, 2, none⟩) (show b8 < w11.heap.size from o8)).trans i8; have B12 := Lib.hid (B11.out.trans (hb12.mono B11s)); clear hb12))
        go_wp2_with fail
        go_ret
        exact ⟨rfl, HB8.out.trans (B12.out.mono HB8.out.size)⟩
end Go.Proofs.YtcfimponmioneaaDoor.WS
