/- The walk of oxbowlaw21.RunWindow: all matches of a shorter window are, in order, among those of a longer one. -/
import Derived.Test.YtcojnojdgigmdaaDoorLawTurn
import Derived.Test.YtcojnojdgigmdaaDoorPWin
namespace Go.Proofs.YtcojnojdgigmdaaDoor.WR
open Go Go.RowKit Go.Sort Go.Proofs.YtcojnojdgigmdaaDoor Go.Proofs.YtcojnojdgigmdaaDoor.PL Go.Proofs.YtcojnojdgigmdaaDoor.PR Go.Proofs.YtcojnojdgigmdaaDoor.Mem Go.Proofs.YtcojnojdgigmdaaDoor.WS Go.Proofs.YtcojnojdgigmdaaDoor.WL

theorem fld_plan1 (w : World) (g : Nat) : (Instr.fieldAt 25 (.pointer (some ⟨g, 0, none⟩)) 1).run Tryd.prog w = .ok (.pointer (some ⟨g, 1, none⟩)) w := by go_simp
theorem win_ok {p : RPlan} {w : Int} (h : OkP p) (hw : Sm w) : OkP (winR p w) := ⟨h.few, h.cnt, h.tst, h.bar, hw⟩
/-- All, at such a plan with another window. -/
theorem all_callW {ss : List GS} {cs : List GC} {wi w' : Int} {pa : Option Addr} {n pc B : Nat} (hok : OKP ss cs wi) (hw' : Sm w') (hn : n = (planR ss cs wi).steps.length) (v : Value) (E : List Ev) (w0 : World) (hpl : PlnAt w0 B (.slice pa n pc) (planR ss cs wi).steps) (hB : B ≤ w0.heap.size) {b : Nat} (ho : w0.ownsRow b 37 4 v E.length (cellsOf encE E)) (hE : ∀ e ∈ E, OkEv e) (hn19 : E.length ≤ 19) (ht : Tab w0) (hg : 0 < w0.heap.size) :
    Calls Tryd.prog 14 #[.agg #[.slice pa n pc, .int .i64 w'], v] w0 fun en w2 => ∃ v ls, en = .returned v ∧ ls.Perm E ∧ SortedE ls ∧ w2.ownsRow w0.heap.size 9 1 v (runA (winR (planR ss cs wi) w') ls).2.length ((runA (winR (planR ss cs wi) w') ls).2.map strV) ∧ Below w0.heap.size w0 w2 := by
  subst hn
  exact runAll_any (winR (planR ss cs wi) w') _ v E B w0 (win_ok (planR_ok hok).1 hw') (by have := (planR_ok hok).2; show (planR ss cs wi).steps.length ≤ 1000; omega) hpl hB (Sl.of_own ho |>.more (Nat.le_refl _)) (Lit.of_own ho) hn19 hE ht hg
/-- What is behind the first of a slice. -/
theorem sl_tail {w : World} {B b o n c : Nat} {x : Value} {xs : List Value} (h : Sl w B 1 (.slice (some ⟨b, o, none⟩) (n + 1) c) (n + 1) (x :: xs)) : Sl w B 1 (.slice (if c = 1 then some ⟨b, o, none⟩ else some ⟨b, o + 1, none⟩) n (c - 1)) n xs := by
  obtain ⟨h1, A, c', hv, hc, hr⟩ := h
  obtain ⟨rfl, rfl⟩ : A = some ⟨b, o, none⟩ ∧ c' = c := by
    injection hv with e1 _ e3
    exact ⟨e1.symm, e3.symm⟩
  have hl : xs.length = n * 1 := by simp at h1 ⊢; omega
  refine ⟨hl, _, _, rfl, by omega, fun h0 => ?_⟩
  obtain ⟨b2, o2, e, hb, hx⟩ := hr (by omega)
  obtain ⟨rfl, rfl⟩ : b = b2 ∧ o = o2 := by simpa using e
  rw [if_neg (by omega)]
  refine ⟨b, o + 1, rfl, hb, fun j u hu => ?_⟩
  rw [Nat.add_assoc, Nat.add_comm 1 j]
  exact hx (j + 1) u (by simpa using hu)
/-- The short list, under way. -/
def WinR (T : List (List UInt8)) (w7 : World) (vs i : Value) (wr : World) : Prop := ∃ k s', k ≤ T.length ∧ i = .int .i64 (k : Nat) ∧ wr = w7 ∧ s'.length ≤ 65536 ∧ Sl w7 w7.heap.size 1 vs s'.length (s'.map strV) ∧ eat s' (T.drop k) = []
set_option maxRecDepth 100000 in
set_option maxHeartbeats 3200000 in
theorem window_law (s : ByteArray) (v : Value) (l : List Ev) (by' : Int) (W : World) (hv : Evs W W.heap.size v l) (hf : ∀ x ∈ l, x.fits) (hby : -9223372036854775808 ≤ by' ∧ by' ≤ 9223372036854775807) (ht : Tab W) (hg : 0 < W.heap.size) :
    Calls Tryd.prog 5 #[.string s, v, .int .i64 by'] W fun e w' => e = .returned (.bool true) ∧ Below W.heap.size W w' := by
  obtain ⟨A, c, rfl⟩ := Sl.shape hv
  have HP := Lib.hid (planned_any s W)
  have HV := Lib.hid hv; have HF := Lib.hid hf; have HT := Lib.hid ht
  obtain ⟨hby0, hby1⟩ := hby
  clear hv hf ht
  go_enter Tryd.func5, Tryd.ntmps5
  go_wp2_with fail
  refine HP.out.mono ?_
  rintro e w1 ⟨hb1, pa, qa, n0, pc, qn, qc, wi, wj, ok, rfl, hok⟩
  obtain ⟨w2, hw2⟩ : ∃ w2, w2 = (w1.alloc (.cells #[.slice pa n0 pc, .int .i64 wi] 25)).alloc (.cells #[.slice qa qn qc, .int .i64 wj] 28) := ⟨_, rfl⟩
  have hb12 : Below w1.heap.size w1 w2 := by rw [hw2]; exact ((Below.refl _ _).alloc (Nat.le_refl _) _).alloc (by simp) _
  have hbW2 : Below W.heap.size W w2 := hb1.trans (hb12.mono hb1.size)
  have HB2 := Lib.hid (show w2.heap[w1.heap.size]? = some (.cells #[.slice pa n0 pc, .int .i64 wi] 25 (0, 0)) by rw [hw2]; exact heap_alloc (heap_new rfl))
  have hg2 : 0 < w2.heap.size := by have := hbW2.size; omega
  have HK2 := Lib.hid (wakes_any w2 (Tab.of_eq HT.out (hbW2.block _ hg)) hg2)
  have HBW2 := Lib.hid hbW2; have HB12 := Lib.hid hb12; have HW2 := Lib.hid hw2; have HOKK := Lib.hid hok
  obtain ⟨X, hX⟩ : ∃ X, w1.heap.size = X := ⟨_, rfl⟩
  rw [hX] at HB2
  have hWX : W.heap.size ≤ X := by rw [← hX]; exact hb1.size
  have HX := Lib.hid hX
  clear hb1 hb12 hbW2 hw2 hok hX
  go_upto_region 2 with (fail)
  rw [← HW2.out, HX.out]
  go_wp2_with fail
  refine HK2.out.mono ?_
  rintro e w3 ⟨rfl, hb3⟩
  have HBW3 := Lib.hid (HBW2.out.trans (hb3.mono HBW2.out.size))
  have HB23 := Lib.hid hb3
  have hg3 : 0 < w3.heap.size := by have := hb3.size; omega
  have HK3 := Lib.hid (wakes_any w3 (Tab.of_eq HT.out (HBW3.out.block _ hg)) hg3)
  clear hb3
  cases ok with
  | false =>
    go_wp2_with fail
    refine HK3.out.mono ?_
    rintro e w4 ⟨rfl, hb4⟩
    have HB4 := Lib.hid (HBW3.out.trans (hb4.mono HBW3.out.size))
    clear hb4
    go_wp2_with fail
    go_ret
    exact ⟨rfl, HB4.out⟩
  | true =>
    obtain ⟨ss, cs, hokp, _, hn0, hpl, _⟩ := HOKK.out rfl
    have HOK := Lib.hid hokp; have HN0 := Lib.hid hn0
    have HPL3 := Lib.hid (show PlnAt w3 w1.heap.size (.slice pa n0 pc) (planR ss cs wi).steps from PlnAt.keep (PlnAt.keep hpl fun a ha => HB12.out.cell ha) fun a ha => HB23.out.cell (Nat.lt_of_lt_of_le ha HB12.out.size))
    have HB3X := Lib.hid ((HB23.out.block _ (heap_lt HB2.out)).trans HB2.out)
    have hz13 : w1.heap.size ≤ w3.heap.size := Nat.le_trans HB12.out.size HB23.out.size
    have HEV := Lib.hid (events_any (.slice A l.length c) l w3 ((Sl.below HV.out HBW3.out).more HBW3.out.size) HF.out)
    clear hokp hn0 hpl
    go_wp2_with fail
    refine HEV.out.mono ?_
    rintro e w4 ⟨va, vb, rfl, hoa, _, hb4⟩
    obtain ⟨n, hn⟩ : ∃ n, min l.length 8 = n := ⟨_, rfl⟩
    rw [hn] at hoa
    have hn8 : n ≤ 8 := by omega
    have hnl : n ≤ l.length := by omega
    obtain ⟨aa, ac, rfl⟩ := (Sl.of_own hoa).shape
    obtain ⟨E, hE⟩ : ∃ E, evsK l n = E := ⟨_, rfl⟩
    have hEl : E.length = n := by rw [← hE, evsK_len]
    have HEO := Lib.hid (show ∀ e ∈ E, OkEv e by rw [← hE]; exact evsK_ok l n (by omega))
    have HED := Lib.hid (show DistE E by rw [← hE]; exact evsK_dist l n)
    rw [hE, ← hEl] at hoa
    rw [← hEl] at hn8 ⊢
    have HOA := Lib.hid hoa
    have HB4 := Lib.hid (HBW3.out.trans (hb4.mono HBW3.out.size))
    have HB34 := Lib.hid hb4
    have HPL4 := Lib.hid (PlnAt.keep HPL3.out fun a ha => hb4.cell (Nat.lt_of_lt_of_le ha hz13))
    have HB4X := Lib.hid ((hb4.block _ (heap_lt HB3X.out)).trans HB3X.out)
    have hz14 : w1.heap.size ≤ w4.heap.size := Nat.le_trans hz13 hb4.size
    clear hb4 hoa hE hEl hn hnl
    have hg4 : 0 < w4.heap.size := by have := HB34.out.size; omega
    have HT4 := Lib.hid (show Tab w4 from Tab.of_eq HT.out (HB4.out.block _ hg))
    have HSH := Lib.hid (all_call HOK.out HN0.out (.slice aa E.length ac) E w4 w4 HPL4.out hz14 HOA.out HEO.out (by omega) HT4.out hg4 (Below.refl _ _))
    have p0 : w4.cell? ⟨X, 0, none⟩ = some (.slice pa n0 pc) := (Lib.cell_of_heap HB4X.out 0).trans rfl
    have p1 : w4.cell? ⟨X, 1, none⟩ = some (.int .i64 wi) := (Lib.cell_of_heap HB4X.out 1).trans rfl
    go_wp2_with fail
    refine HSH.out.mono ?_
    rintro e w5 ⟨sv, ls, rfl, hp, hs, ho, hb5⟩
    have HX5 := Lib.hid ((hb5.block _ (heap_lt HB4X.out)).trans HB4X.out)
    have HPS := Lib.hid hp; have HSS := Lib.hid hs; have HOS := Lib.hid ho; have HB5 := Lib.hid hb5
    have HPLX := Lib.hid (show PlnAt w4 X (.slice pa n0 pc) (planR ss cs wi).steps by rw [← HX.out]; exact HPL4.out)
    have hX4 : X < w4.heap.size := heap_lt HB4X.out
    have hnr := nearI_in by' 90 (by omega)
    have hwi0 := HOK.out.w0
    have hwim := HOK.out.wm
    have HWS := Lib.hid (show IntKind.i64.wrap (wi + nearI by' 90) = wi + nearI by' 90 from IntWalk.i64_in _ (by omega))
    obtain ⟨w9, hw9⟩ : ∃ w9, min 9007199254740992 (wi + nearI by' 90) = w9 := ⟨_, rfl⟩
    have HW9 := Lib.hid hw9
    have h9a : wi ≤ w9 := by omega
    have h9b : w9 ≤ 9007199254740992 := by omega
    clear hp hs ho hb5 p0 p1 hw9
    go_wp2_with fail
    refine Reg.stand_order (W := w5) (h := 7) (t := 1)
      [⟨0, 36, [], 99, [], none, fun v _ => v = .pointer (some ⟨X, 1, none⟩)⟩,
       ⟨1, 37, [], 99, [], none, fun v _ => v = .int .i64 wi⟩,
       ⟨2, 38, [], 99, [], none, fun v _ => v = .int .i64 by'⟩,
       ⟨3, 39, [], 99, [], none, fun v _ => v = .int .i64 (nearI by' 90)⟩,
       ⟨4, 40, [], 99, [], none, fun v _ => v = .int .i64 (wi + nearI by' 90)⟩,
       ⟨5, 41, [], 99, [], none, fun v _ => v = .int .i64 w9⟩,
       ⟨6, 42, [], 99, [], none, fun v _ => v = .pointer (some ⟨X, 1, none⟩)⟩]
      []
      (by kernel_rfl) rfl (by kernel_rfl) (by kernel_rfl) (by kernel_rfl) (show [0, 1, 2, 3, 4, 5, 6].Nodup by decide) (show ∀ i, i < 7 → i ∈ [0, 1, 2, 3, 4, 5, 6] by decide) ?_ (show [36, 37, 38, 39, 40, 41, 42].Nodup by decide) (show ∀ s ∈ [36, 37, 38, 39, 40, 41, 42], s < 67 by decide) (by kernel_rfl) ?_ ?_ (Below.refl _ _) ?_ ?_ ?_
    · intro f hf
      simp only [List.mem_cons, List.not_mem_nil, or_false] at hf
      rcases hf with rfl | rfl | rfl | rfl | rfl | rfl | rfl <;> simp
    · intro f hf v w1 w2 hk hF
      simp only [List.mem_cons, List.not_mem_nil, or_false] at hf
      rcases hf with rfl | rfl | rfl | rfl | rfl | rfl | rfl
      · exact hF
      · exact hF
      · exact hF
      · exact hF
      · exact hF
      · exact hF
      · exact hF
    · intro f hf; cases hf
    · intro f hf; cases hf
    · intro f hf a w1 hs hg' hst
      have hx := (hs.below.block _ (heap_lt HX5.out)).trans HX5.out
      have t7 : a.eval (.tmp 7) = .pointer (some ⟨X, 0, none⟩) := Reg.eval_tmp ((hs.out 7 (show 7 ∉ [36, 37, 38, 39, 40, 41, 42] by decide)).trans rfl)
      have t2 : a.eval (.tmp 2) = .int .i64 by' := Reg.eval_tmp ((hs.out 2 (show 2 ∉ [36, 37, 38, 39, 40, 41, 42] by decide)).trans rfl)
      simp only [List.mem_cons, List.not_mem_nil, or_false] at hf
      rcases hf with rfl | rfl | rfl | rfl | rfl | rfl | rfl
      · exact Reg.step_val rfl rfl rfl (Ord.run_fld t7 (fld_plan1 w1 _)) rfl hs.below (fun e => Reg.Keeps.refl e _)
      · obtain ⟨v1, hv1, rfl⟩ : ∃ v, a.tmps[36]? = some v ∧ v = .pointer (some ⟨X, 1, none⟩) := hg' _ (Reg.at_fact 0 rfl) (by kernel_rfl) (by simp [Reg.okTil])
        exact Reg.step_val rfl rfl rfl (Reg.run_load (Reg.eval_tmp hv1) (load_i64 ((Lib.cell_of_heap hx 1).trans rfl))) rfl hs.below (fun e => Reg.Keeps.refl e _)
      · exact Reg.step_val rfl rfl rfl (Reg.run_move t2) rfl hs.below (fun e => Reg.Keeps.refl e _)
      · obtain ⟨v1, hv1, rfl⟩ : ∃ v, a.tmps[38]? = some v ∧ v = .int .i64 by' := hg' _ (Reg.at_fact 2 rfl) (by kernel_rfl) (by simp [Reg.okTil])
        have u1 := Reg.eval_tmp hv1
        refine Reg.step_call (f := 15) (args := #[.int .i64 by', .int .i64 90]) rfl rfl rfl (by go_simp) hs.below ((near_any by' 90 w1 ⟨hby0, hby1⟩ (by omega)).mono ?_)
        rintro en w2 ⟨rfl, rfl⟩
        exact ⟨_, rfl, rfl, Below.refl _ _⟩
      · obtain ⟨v1, hv1, rfl⟩ : ∃ v, a.tmps[37]? = some v ∧ v = .int .i64 wi := hg' _ (Reg.at_fact 1 rfl) (by kernel_rfl) (by simp [Reg.okTil])
        obtain ⟨v2, hv2, rfl⟩ : ∃ v, a.tmps[39]? = some v ∧ v = .int .i64 (nearI by' 90) := hg' _ (Reg.at_fact 3 rfl) (by kernel_rfl) (by simp [Reg.okTil])
        have u1 := Reg.eval_tmp hv1; have u2 := Reg.eval_tmp hv2
        have hw1 := HWS.out
        exact Reg.step_val rfl rfl rfl (w' := w1) (v := .int .i64 (wi + nearI by' 90)) (by go_simp) rfl hs.below (fun e => Reg.Keeps.refl e _)
      · obtain ⟨v1, hv1, rfl⟩ : ∃ v, a.tmps[40]? = some v ∧ v = .int .i64 (wi + nearI by' 90) := hg' _ (Reg.at_fact 4 rfl) (by kernel_rfl) (by simp [Reg.okTil])
        have u1 := Reg.eval_tmp hv1
        have hw9 := HW9.out
        exact Reg.step_val rfl rfl rfl (w' := w1) (v := .int .i64 w9) (by go_simp) rfl hs.below (fun e => Reg.Keeps.refl e _)
      · exact Reg.step_val rfl rfl rfl (Ord.run_fld t7 (fld_plan1 w1 _)) rfl hs.below (fun e => Reg.Keeps.refl e _)
    · intro vals w1 hF hfx hb1
      have e41 : vals 41 = .int .i64 w9 := hF _ (Reg.at_fact 5 rfl) (show (7 + 1 : Nat) ≤ 99 by decide)
      have e42 : vals 42 = .pointer (some ⟨X, 1, none⟩) := hF _ (Reg.at_fact 6 rfl) (show (7 + 1 : Nat) ≤ 99 by decide)
      simp only [List.map_cons, List.map_nil, e41, e42]
      generalize vals 36 = q36
      generalize vals 37 = q37
      generalize vals 38 = q38
      generalize vals 39 = q39
      generalize vals 40 = q40
      have HB1 := Lib.hid hb1
      have HX1 := Lib.hid ((hb1.block _ (heap_lt HX5.out)).trans HX5.out)
      have z1 := (Lib.cell_of_heap HX1.out 1).trans rfl
      have f1 := frozen_of_row w1 _ 1 _ _ HX1.out
      clear hF hfx e41 e42 hb1
      unfold Reg.puts Reg.puts Reg.puts Reg.puts Reg.puts Reg.puts Reg.puts Reg.puts
      go_upto_region 7 with (fail)
      obtain ⟨w6, hw6⟩ : ∃ w6, w6 = w1.setCell ⟨X, 1, none⟩ (.int .i64 w9) := ⟨_, rfl⟩
      have HX6 := Lib.hid (show w6.heap[X]? = some (.cells #[.slice pa n0 pc, .int .i64 w9] 25 (0, 0)) by rw [hw6]; exact (blk_setc HX1.out 1 _).trans rfl)
      have HK6 := Lib.hid (fun (t : TypeId) (ht : t ≠ 25) => (show Reg.Keeps t w1 w6 by rw [hw6]; exact Keeps.set HX1.out ht))
      have HC6 := Lib.hid (fun (p : Addr) (hp : p.block ≠ X) => (show w6.cell? p = w1.cell? p by rw [hw6]; exact World.cell?_of_block (heap_setCell_other w1 ⟨X, 1, none⟩ _ _ hp)))
      have HH6 := Lib.hid (fun (k : Nat) (hk : k ≠ X) => (show w6.heap[k]? = w1.heap[k]? by rw [hw6]; exact heap_setCell_other w1 ⟨X, 1, none⟩ _ _ hk))
      have hz6 : w6.heap.size = w1.heap.size := by rw [hw6]; simp
      have HW6 := Lib.hid hw6
      rw [← hw6]
      clear hw6 z1 f1
      have hb15 := HB1.out.size
      have hb45 := HB5.out.size
      have HPL6 := Lib.hid (show PlnAt w6 X (.slice pa n0 pc) (planR ss cs wi).steps from PlnAt.keep (PlnAt.keep (PlnAt.keep HPLX.out fun a ha => HB5.out.cell (Nat.lt_trans ha hX4)) fun a ha => HB1.out.cell (by omega)) fun a ha => HC6.out a (by omega))
      have HOA6 := Lib.hid ((HK6.out 37 (by decide)).1 _ _ _ _ _ (own_below (own_below HOA.out HB5.out) HB1.out))
      have HOS6 := Lib.hid ((HK6.out 9 (by decide)).1 _ _ _ _ _ (own_below HOS.out HB1.out))
      have hgX : 0 ≠ X := by omega
      have HT6 := Lib.hid (show Tab w6 from Tab.of_eq HT4.out (((HH6.out _ hgX).trans (HB1.out.block _ (by omega))).trans (HB5.out.block _ hg4)))
      have HAL := Lib.hid (all_callW HOK.out (w' := w9) ⟨by omega, by omega⟩ HN0.out (.slice aa E.length ac) E w6 HPL6.out (by omega) HOA6.out HEO.out (by omega) HT6.out (by omega))
      have y0 := (Lib.cell_of_heap HX6.out 0).trans rfl
      have y1 := (Lib.cell_of_heap HX6.out 1).trans rfl
      go_wp2_with fail
      refine HAL.out.mono ?_
      rintro e w7 ⟨tv, ls2, rfl, hp, hs, ho, hb7⟩
      have els : ls2 = ls := sort_eq hp HPS.out hs HSS.out HED.out
      rw [els] at ho
      have HOS7 := own_below HOS6.out hb7
      have HBF := Lib.hid (show Below W.heap.size W w7 from by
        have h1 := HB4.out.trans (HB5.out.mono HB4.out.size)
        have h2 := h1.trans (HB1.out.mono h1.size)
        have h3 : Below W.heap.size W w6 := by rw [HW6.out]; exact h2.setCell (p := ⟨X, 1, none⟩) hWX _
        exact h3.trans (hb7.mono h3.size))
      have hEls : ∀ e ∈ ls, OkEv e := fun e he => HEO.out e (HPS.out.mem_iff.1 he)
      have hlsn : ls.length ≤ 8 := by rw [HPS.out.length_eq]; exact hn8
      have hpow : 4 ^ ls.length ≤ 4 ^ 8 := Nat.pow_le_pow_right (by omega) hlsn
      have hS0 := (runA_ok (planR ss cs wi) OkEv ls hEls).2.2
      have hT0 := (runA_ok (winR (planR ss cs wi) w9) OkEv ls hEls).2.2
      obtain ⟨S, hS⟩ : ∃ S, (runA (planR ss cs wi) ls).2 = S := ⟨_, rfl⟩
      obtain ⟨Tt, hT⟩ : ∃ T, (runA (winR (planR ss cs wi) w9) ls).2 = T := ⟨_, rfl⟩
      have HEAT := Lib.hid (show eat S Tt = [] by rw [← hS, ← hT]; exact eat_sub _ _ (run_win (planR ss cs wi) w9 h9a ls))
      rw [hS] at HOS7 hS0
      rw [hT] at ho hT0
      have h48 : 4 ^ 8 = 65536 := by decide
      have hSl : S.length ≤ 65536 := by omega
      have hTl : Tt.length ≤ 65536 := by omega
      have HS7 := Lib.hid (Sl.of_own HOS7)
      have HT7 := Lib.hid (Sl.of_own ho)
      obtain ⟨x1, y1, rfl⟩ := HS7.out.shape
      obtain ⟨x2, y2, rfl⟩ := HT7.out.shape
      clear els hp hs ho hb7 HOS7 hS hT hS0 hT0 hpow h48 hEls hlsn
      go_wp2_with fail
      go_loopw [12, 47] (fun vs i wr => WinR Tt w7 vs i wr) (fun _ i _ => Tt.length - (intOf i).toNat)
      case atStart => exact ⟨0, S, Nat.zero_le _, rfl, rfl, hSl, HS7.out, HEAT.out⟩
      case round =>
        obtain ⟨k, s', hk, rfl, rfl, hl', hs', he⟩ := hrel
        by_cases hlt : k < Tt.length
        · have hki : (k : Int) < (Tt.length : Int) := by omega
          have hk0 : (0 : Int) ≤ (k : Int) := by omega
          obtain ⟨b, o, c', hc', hbl, x0⟩ := str_at HT7.out hlt
          obtain ⟨rfl, rfl⟩ : x2 = some ⟨b, o, none⟩ ∧ y2 = c' := by simpa using hc'
          have hdr : Tt.drop k = Tt[k] :: Tt.drop (k + 1) := List.drop_eq_getElem_cons hlt
          obtain ⟨mm, hmm⟩ : ∃ m, Tt[k] = m := ⟨_, rfl⟩
          rw [hmm] at x0 hdr
          rw [hdr] at he
          cases s' with
          | nil =>
            obtain ⟨a1, c1, rfl⟩ := hs'.shape
            have HRL := Lib.hid (show WinR Tt wr (.slice a1 0 c1) (.int .i64 ((k : Int) + 1)) wr from ⟨k + 1, [], by omega, by go_num, rfl, by simp, hs', eat_nil _⟩)
            clear hs' he hc' hdr hmm
            go_wp2_with fail
            go_roundw
            case rel => exact HRL.out
            case measure => simp [intOf]; omega
          | cons x r =>
            obtain ⟨b2, o2, c2, rfl, hb2, z0⟩ := str_at hs' (i := 0) (by simp)
            simp only [List.getElem_cons_zero, Nat.add_zero] at z0
            have hrl : (r.length : Int) + 1 ≤ (c2 : Int) := by
              obtain ⟨_, A', c'', hA, hle, _⟩ := hs'
              have : c2 = c'' := by simpa using congrArg (fun v => match v with | .slice _ _ c => c | _ => 0) hA
              simp at hle
              omega
            have hr0 : (0 : Int) < (r.length : Int) + 1 := by omega
            have hr9 : r.length ≤ 65536 := by simp at hl'; omega
            by_cases hx : x = mm
            · subst hx
              have he' : eat r (Tt.drop (k + 1)) = [] := by
                unfold eat at he
                rwa [if_pos rfl] at he
              have HS' := Lib.hid hs'; have HE' := Lib.hid he'
              obtain ⟨sx, hsx⟩ : ∃ sx : ByteArray, (⟨x.toArray⟩ : ByteArray) = sx := ⟨_, rfl⟩
              rw [hsx] at x0 z0
              have hq2 : (sx.toList == sx.toList) = true := by simp
              clear hs' he he' hc' hdr hmm hsx
              simp only [List.length_cons] at *
              go_wp2_with fail
              go_roundw
              case rel => exact ⟨k + 1, r, by omega, by go_num, rfl, hr9, sl_tail HS'.out, HE'.out⟩
              case measure => simp [intOf]; omega
            · have he' : eat (x :: r) (Tt.drop (k + 1)) = [] := by
                unfold eat at he
                rwa [if_neg hx] at he
              have HRL := Lib.hid (show WinR Tt wr (.slice (some ⟨b2, o2, none⟩) (x :: r).length c2) (.int .i64 ((k : Int) + 1)) wr from ⟨k + 1, x :: r, by omega, by go_num, rfl, hl', hs', he'⟩)
              have hq2 : ((⟨x.toArray⟩ : ByteArray).toList == (⟨mm.toArray⟩ : ByteArray).toList) = false := by
                rw [Lib.toList_data, Lib.toList_data]; simpa using hx
              obtain ⟨sx, hsx⟩ : ∃ sx : ByteArray, (⟨x.toArray⟩ : ByteArray) = sx := ⟨_, rfl⟩
              obtain ⟨sy, hsy⟩ : ∃ sy : ByteArray, (⟨mm.toArray⟩ : ByteArray) = sy := ⟨_, rfl⟩
              rw [hsx] at z0 hq2
              rw [hsy] at x0 hq2
              clear hs' he he' hc' hdr hmm hsx hsy
              simp only [List.length_cons] at *
              go_wp2_with fail
              go_roundw
              case rel => exact HRL.out
              case measure => simp [intOf]; omega
        · obtain rfl : k = Tt.length := by omega
          rw [List.drop_length] at he
          have hs0 : s' = [] := by cases s' with | nil => rfl | cons x r => simp [eat] at he
          subst hs0
          obtain ⟨a1, c1, rfl⟩ := hs'.shape
          clear hs' he
          go_wp2_with fail
          go_ret
          exact ⟨rfl, HBF.out⟩
end Go.Proofs.YtcojnojdgigmdaaDoor.WR
