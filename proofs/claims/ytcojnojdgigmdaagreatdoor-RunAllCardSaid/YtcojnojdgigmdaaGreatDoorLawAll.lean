/- The walk of oxbowlaw21.RunAll: of every pattern, and every events, the matches are the document's. -/
import Derived.Test.YtcojnojdgigmdaaGreatDoorLawZ
import Derived.Test.YtcojnojdgigmdaaGreatDoorWA21
import Derived.Test.YtcojnojdgigmdaaGreatDoorPPlc
set_option maxHeartbeats 3200000
set_option maxRecDepth 100000
namespace Go.Proofs.YtcojnojdgigmdaaGreatDoor.WR
open Go Go.RowKit Go.Sort Go.Proofs.YtcojnojdgigmdaaGreatDoor Go.Proofs.YtcojnojdgigmdaaGreatDoor.PL Go.Proofs.YtcojnojdgigmdaaGreatDoor.PR Go.Proofs.YtcojnojdgigmdaaGreatDoor.Mem Go.Proofs.YtcojnojdgigmdaaGreatDoor.WS Go.Proofs.YtcojnojdgigmdaaGreatDoor.WL

theorem load_plan20 {w : World} {g : Nat} {c0 c1 : Value} (h : w.heap[g]? = some (.cells #[c0, c1] 28 (0, 0))) :
  (Instr.loadAt 28 (.pointer (some ⟨g, 0, none⟩))).run Tryz.prog w = .ok (.agg #[c0, c1]) w := by
 have e0 : w.cell? ⟨g, 0, none⟩ = some c0 := (Lib.cell_of_heap h 0).trans rfl; have e1 : w.cell? ⟨g, 1, none⟩ = some c1 := (Lib.cell_of_heap h 1).trans rfl
 go_simp
theorem plan_pos {ss : List GS} {cs : List GC} {wi : Int} (h : OKP ss cs wi) : 0 < (planR ss cs wi).steps.length := by
 show 0 < (stepsOf _ _).length
 rw [stepsOf_len]
 rcases hg : groups (unitl ss) with _ | ⟨x, r⟩
 ·have := groups_flat_len ss; rw [hg] at this; have := h.n1
  simp [flat] at *
  omega
 ·simp
theorem all_law (s : ByteArray) (v : Value) (l : List Ev) (W : World) (hv : Evs W W.heap.size v l) (hf : ∀ x ∈ l, x.fits) (ht : Tab W) (hg : 0 < W.heap.size) :
  Calls Tryz.prog 3 #[.string s, v] W fun e w' => e = .returned (.bool true) /\ Below W.heap.size W w' := by
 obtain ⟨A, c, rfl⟩ := Sl.shape hv; have HP := Hyd (planned_any s W); have HV := Hyd hv; have HF := Hyd hf; have HT := Hyd ht; clear hv hf ht
 go_enter Tryz.func3, Tryz.ntmps3
 go_wp2_with fail; refine HP.out.mono ?_; rintro e w1 ⟨hb1, pa, qa, n0, pc, qn, qc, wi, wj, ok, rfl, hok⟩
 obtain ⟨w2, hw2⟩ : ∃ w2, w2 = (w1.alloc (.cells #[.slice pa n0 pc, .int .i64 wi] 25)).alloc (.cells #[.slice qa qn qc, .int .i64 wj] 28) := ⟨_, rfl⟩
 have hb12 : Below w1.heap.size w1 w2 := by rw [hw2]; exact ((Below.refl _ _).alloc (Nat.le_refl _) _).alloc (by simp) _
 have hbW2 : Below W.heap.size W w2 := hb1.trans (hb12.mono hb1.size); have HQ2 := Hyd (show w2.heap[w1.heap.size + 1]? = some (.cells #[.slice qa qn qc, .int .i64 wj] 28 (0, 0)) by rw [hw2]; exact heap_new (by simp)); have HB2 := Hyd (show w2.heap[w1.heap.size]? = some (.cells #[.slice pa n0 pc, .int .i64 wi] 25 (0, 0)) by rw [hw2]; exact heap_alloc (heap_new rfl))
 have hg2 : 0 < w2.heap.size := by have := hbW2.size; omega
 have HK2 := Hyd (wakes_any w2 (Tab.of_eq HT.out (hbW2.block _ hg)) hg2); have HBW2 := Hyd hbW2; have HB12 := Hyd hb12; have HW2 := Hyd hw2; have HOKK := Hyd hok
 obtain ⟨X, hX⟩ : ∃ X, w1.heap.size = X := ⟨_, rfl⟩
 rw [hX] at HB2 HQ2; have HX := Hyd hX; clear hb1 hb12 hbW2 hw2 hok hX
 go_upto_region 2 with (fail)
 rw [<- HW2.out, HX.out]; go_wp2_with fail; refine HK2.out.mono ?_; rintro e w3 ⟨rfl, hb3⟩; have HBW3 := Hyd (HBW2.out.trans (hb3.mono HBW2.out.size)); have HB23 := Hyd hb3
 have hg3 : 0 < w3.heap.size := by have := hb3.size; omega
 have HK3 := Hyd (wakes_any w3 (Tab.of_eq HT.out (HBW3.out.block _ hg)) hg3); clear hb3
 cases ok with
 | false =>
  go_wp2_with fail; refine HK3.out.mono ?_; rintro e w4 ⟨rfl, hb4⟩; have HB4 := Hyd (HBW3.out.trans (hb4.mono HBW3.out.size)); clear hb4; go_wp2_with fail; go_ret; exact ⟨rfl, HB4.out⟩
 | true =>
  obtain ⟨ss, cs, hokp, hwj, hn0, hpl, hdo⟩ := HOKK.out rfl; have HWJ := Hyd hwj; have HOK := Hyd hokp; have HN0 := Hyd hn0; have HPL3 := Hyd (show PlnAt w3 w1.heap.size (.slice pa n0 pc) (planR ss cs wi).steps from PlnAt.keep (PlnAt.keep hpl fun a ha => HB12.out.cell ha) fun a ha => HB23.out.cell (Nat.lt_of_lt_of_le ha HB12.out.size)); have HDO3 := Hyd (show DocAt w3 W.heap.size w1.heap.size (.slice qa qn qc) ss (testsAt ss cs) from DocAt.keep (DocAt.keep hdo fun a _ ha => HB12.out.cell ha) fun a _ ha => HB23.out.cell (Nat.lt_of_lt_of_le ha HB12.out.size)); have HQ3X := Hyd ((HB23.out.block _ (heap_lt HQ2.out)).trans HQ2.out); have HB3X := Hyd ((HB23.out.block _ (heap_lt HB2.out)).trans HB2.out); have hz13 : w1.heap.size <= w3.heap.size := Nat.le_trans HB12.out.size HB23.out.size; have HEV := Hyd (events_any (.slice A l.length c) l w3 ((Sl.below HV.out HBW3.out).more HBW3.out.size) HF.out)
  clear hokp hn0 hpl hdo hwj; go_wp2_with fail; refine HEV.out.mono ?_; rintro e w4 ⟨va, vb, rfl, hoa, hob, hb4⟩
  obtain ⟨n, hn⟩ : ∃ n, min l.length 8 = n := ⟨_, rfl⟩
  rw [hn] at hoa hob
  have hn8 : n <= 8 := by omega
  have hnl : n <= l.length := by omega
  obtain ⟨aa, ac, rfl⟩ := (Sl.of_own hoa).shape; obtain ⟨ba, bc, rfl⟩ := (Sl.of_own hob).shape
  obtain ⟨E, hE⟩ : ∃ E, evsK l n = E := ⟨_, rfl⟩
  have hEl : E.length = n := by rw [<- hE, evsK_len]
  have HEO := Hyd (show ∀ e ∈ E, OkEv e by rw [<- hE]; exact evsK_ok l n (by omega)); have HED := Hyd (show DistE E by rw [<- hE]; exact evsK_dist l n); rw [hE, <- hEl] at hoa hob; rw [<- hEl] at hn8 ⊢; have HOA := Hyd hoa; have HOBB := Hyd hob; have HB4 := Hyd (HBW3.out.trans (hb4.mono HBW3.out.size)); have HB34 := Hyd hb4; have HPL4 := Hyd (PlnAt.keep HPL3.out fun a ha => hb4.cell (Nat.lt_of_lt_of_le ha hz13)); have HDO4 := Hyd (DocAt.keep HDO3.out fun a _ ha => hb4.cell (Nat.lt_of_lt_of_le ha hz13)); have HQ4X := Hyd ((hb4.block _ (heap_lt HQ3X.out)).trans HQ3X.out); have HB4X := Hyd ((hb4.block _ (heap_lt HB3X.out)).trans HB3X.out); have hz14 : w1.heap.size <= w4.heap.size := Nat.le_trans hz13 hb4.size; clear hb4 hoa hob hE hEl hn hnl
  have hg4 : 0 < w4.heap.size := by have := HB34.out.size; omega
  have HT4 := Hyd (show Tab w4 from Tab.of_eq HT.out (HB4.out.block _ hg)); have HPO := Hyd (show PlnOk ss (testsAt ss cs) (planR ss cs wi) from ⟨HOK.out.n8, plc_ok HOK.out, (planR_ok HOK.out).1⟩); have HMIN := Hyd (plan_min HOK.out); have HPOS := Hyd (show 0 < (planR ss cs wi).steps.length from plan_pos HOK.out); have HCA := Hyd (fun w1' (hbb : Below w4.heap.size w4 w1') => all_call HOK.out HN0.out (.slice aa E.length ac) E w4 w1' HPL4.out hz14 HOA.out HEO.out (by omega) HT4.out hg4 hbb); have HCB := Hyd (fun w1' (hbb : Below w4.heap.size w4 w1') => all_21 (planR ss cs wi) ss (testsAt ss cs) W.heap.size w1.heap.size (.slice qa qn qc) (.slice ba E.length bc) E w1' HPO.out HPOS.out HMIN.out (DocAt.keep HDO4.out fun a _ ha => hbb.cell (Nat.lt_of_lt_of_le ha hz14)) (Sl.of_own (own_below HOBB.out hbb)) (Nat.le_trans hz14 hbb.size) hn8 HEO.out)
  have HEQ := Hyd (fun (ls1 ls2 : List Ev) (h1 : ls1.Perm E) (s1 : SortedE ls1) (h2 : ls2.Perm E) (s2 : SortedE ls2) => (show (runA (planR ss cs wi) ls1).2 = (sortM (growM (planR ss cs wi) ls2 (ls2.length + 1) [])).map (textM ls2) by
   rw [sort_eq h1 h2 s1 s2 HED.out]; exact all_rows HMIN.out ls2))
  have HLN := Hyd (fun (ls : List Ev) (h : ls.Perm E) => runA_len ss cs wi E ls HEO.out (by omega) h); have HLN2 := Hyd (fun (ls : List Ev) (h : ls.Perm E) => (show ((sortM (growM (planR ss cs wi) ls (ls.length + 1) [])).map (textM ls)).length <= 9223372036854775807 by rw [<- all_rows HMIN.out ls]; exact runA_len ss cs wi E ls HEO.out (by omega) h)); go_wp2_with fail; rw [HWJ.out] at HQ4X
  refine Reg.stand_order (W := w4) (h := 7) (t := 1)
   [⟨0, 28, [], 99, [], none, fun v _ => v = .agg #[.slice pa n0 pc, .int .i64 wi]⟩,
    ⟨1, 29, [], 99, [], none, fun v _ => v = .slice aa E.length ac⟩,
    ⟨2, 30, [9], 99, [], none, fun v w' => ∃ ls, ls.Perm E /\ SortedE ls /\ w'.ownsRow w4.heap.size 9 1 v (runA (planR ss cs wi) ls).2.length ((runA (planR ss cs wi) ls).2.map strV)⟩,
    ⟨3, 31, [], 99, [], none, fun v _ => v = .agg #[.slice qa qn qc, .int .i64 wi]⟩,
    ⟨4, 32, [], 99, [], none, fun v _ => v = .slice ba E.length bc⟩,
    ⟨5, 33, [9], 99, [], none, fun v w' => ∃ ls, ls.Perm E /\ SortedE ls /\ w'.ownsRow w4.heap.size 9 1 v (sortM (growM (planR ss cs wi) ls (ls.length + 1) [])).length (((sortM (growM (planR ss cs wi) ls (ls.length + 1) [])).map (textM ls)).map strV)⟩,
    ⟨6, 34, [], 99, [], none, fun v _ => v = .bool true⟩]
   []
   (by kernel_rfl) rfl (by kernel_rfl) (by kernel_rfl) (by kernel_rfl) (show [0, 1, 2, 3, 4, 5, 6].Nodup by decide) (show ∀ i, i < 7 -> i ∈ [0, 1, 2, 3, 4, 5, 6] by decide) ?_ (show [28, 29, 30, 31, 32, 33, 34].Nodup by decide) (show ∀ s ∈ [28, 29, 30, 31, 32, 33, 34], s < 35 by decide) (by kernel_rfl) ?_ ?_ (Below.refl _ _) ?_ ?_ ?_
  ·intro f hf
   simp only [List.mem_cons, List.not_mem_nil, or_false] at hf
   rcases hf with rfl | rfl | rfl | rfl | rfl | rfl | rfl <;> simp
  ·intro f hf v w1 w2 hk hF
   simp only [List.mem_cons, List.not_mem_nil, or_false] at hf
   rcases hf with rfl | rfl | rfl | rfl | rfl | rfl | rfl
   ·exact hF
   ·exact hF
   ·obtain ⟨ls, h1, h2, h3⟩ := hF; exact ⟨ls, h1, h2, (hk 9 (by simp)).1 _ _ _ _ _ h3⟩
   ·exact hF
   ·exact hF
   ·obtain ⟨ls, h1, h2, h3⟩ := hF; exact ⟨ls, h1, h2, (hk 9 (by simp)).1 _ _ _ _ _ h3⟩
   ·exact hF
  ·intro f hf; cases hf
  ·intro f hf; cases hf
  ·intro f hf a w1' hs hg' hst; have tbox : a.eval (.tmp 5) = .pointer (some ⟨X, 0, none⟩) := Reg.eval_tmp ((hs.out 5 (show 5 ∉ [28, 29, 30, 31, 32, 33, 34] by decide)).trans rfl); have qbox : a.eval (.tmp 6) = .pointer (some ⟨X + 1, 0, none⟩) := Reg.eval_tmp ((hs.out 6 (show 6 ∉ [28, 29, 30, 31, 32, 33, 34] by decide)).trans rfl); have ta : a.eval (.tmp 8) = .slice aa E.length ac := Reg.eval_tmp ((hs.out 8 (show 8 ∉ [28, 29, 30, 31, 32, 33, 34] by decide)).trans rfl); have tb : a.eval (.tmp 9) = .slice ba E.length bc := Reg.eval_tmp ((hs.out 9 (show 9 ∉ [28, 29, 30, 31, 32, 33, 34] by decide)).trans rfl)
   simp only [List.mem_cons, List.not_mem_nil, or_false] at hf
   rcases hf with rfl | rfl | rfl | rfl | rfl | rfl | rfl
   ·exact Reg.step_val rfl rfl rfl (Reg.run_load tbox (load_plan ((hs.below.block _ (heap_lt HB4X.out)).trans HB4X.out))) rfl hs.below (fun e => Reg.Keeps.refl e _)
   ·exact Reg.step_val rfl rfl rfl (Reg.run_move ta) rfl hs.below (fun e => Reg.Keeps.refl e _)
   ·obtain ⟨v1, hv1, rfl⟩ : ∃ v, a.tmps[28]? = some v /\ v = .agg #[.slice pa n0 pc, .int .i64 wi] := hg' _ (Reg.at_fact 0 rfl) (by kernel_rfl) (by simp [Reg.okTil])
    obtain ⟨v2, hv2, rfl⟩ : ∃ v, a.tmps[29]? = some v /\ v = .slice aa E.length ac := hg' _ (Reg.at_fact 1 rfl) (by kernel_rfl) (by simp [Reg.okTil])
    have u1 := Reg.eval_tmp hv1; have u2 := Reg.eval_tmp hv2; refine Reg.step_call (f := 10) (args := #[.agg #[.slice pa n0 pc, .int .i64 wi], .slice aa E.length ac]) rfl rfl rfl (by go_simp) hs.below ((HCA.out w1' hs.below).mono ?_); rintro en w2 ⟨v', ls, rfl, h1, h2, h3, h4⟩; exact ⟨v', rfl, ⟨ls, h1, h2, Joins.ownsRow_le h3 hs.below.size⟩, h4⟩
   ·exact Reg.step_val rfl rfl rfl (Reg.run_load qbox (load_plan20 ((hs.below.block _ (heap_lt HQ4X.out)).trans HQ4X.out))) rfl hs.below (fun e => Reg.Keeps.refl e _)
   ·exact Reg.step_val rfl rfl rfl (Reg.run_move tb) rfl hs.below (fun e => Reg.Keeps.refl e _)
   ·obtain ⟨v1, hv1, rfl⟩ : ∃ v, a.tmps[31]? = some v /\ v = .agg #[.slice qa qn qc, .int .i64 wi] := hg' _ (Reg.at_fact 3 rfl) (by kernel_rfl) (by simp [Reg.okTil])
    obtain ⟨v2, hv2, rfl⟩ : ∃ v, a.tmps[32]? = some v /\ v = .slice ba E.length bc := hg' _ (Reg.at_fact 4 rfl) (by kernel_rfl) (by simp [Reg.okTil])
    have u1 := Reg.eval_tmp hv1; have u2 := Reg.eval_tmp hv2; refine Reg.step_call (f := 11) (args := #[.agg #[.slice qa qn qc, .int .i64 wi], .slice ba E.length bc]) rfl rfl rfl (by go_simp) hs.below ((HCB.out w1' hs.below).mono ?_); rintro en w2 ⟨v', ls, rfl, h1, h2, h3, h4⟩; exact ⟨v', rfl, ⟨ls, h1, h2, Joins.ownsRow_le h3 hs.below.size⟩, h4⟩
   ·obtain ⟨v1, hv1, ls1, hp1, hs1, ho1⟩ : ∃ v, a.tmps[30]? = some v /\ ∃ ls, ls.Perm E /\ SortedE ls /\ w1'.ownsRow w4.heap.size 9 1 v (runA (planR ss cs wi) ls).2.length ((runA (planR ss cs wi) ls).2.map strV) := hg' _ (Reg.at_fact 2 rfl) (by kernel_rfl) (by simp [Reg.okTil])
    obtain ⟨v2, hv2, ls2, hp2, hs2, ho2⟩ : ∃ v, a.tmps[33]? = some v /\ ∃ ls, ls.Perm E /\ SortedE ls /\ w1'.ownsRow w4.heap.size 9 1 v (sortM (growM (planR ss cs wi) ls (ls.length + 1) [])).length (((sortM (growM (planR ss cs wi) ls (ls.length + 1) [])).map (textM ls)).map strV) := hg' _ (Reg.at_fact 5 rfl) (by kernel_rfl) (by simp [Reg.okTil])
    have HQ := HEQ.out ls1 ls2 hp1 hs1 hp2 hs2; have hl1 := HLN.out ls1 hp1; have hl2 := HLN2.out ls2 hp2; rw [show (sortM (growM (planR ss cs wi) ls2 (ls2.length + 1) [])).length = ((sortM (growM (planR ss cs wi) ls2 (ls2.length + 1) [])).map (textM ls2)).length from (List.length_map _).symm] at ho2; obtain ⟨x1, y1, rfl⟩ := (Sl.of_own ho1).shape; obtain ⟨x2, y2, rfl⟩ := (Sl.of_own ho2).shape; have u1 := Reg.eval_tmp hv1; have u2 := Reg.eval_tmp hv2; refine Reg.step_call (f := 9) (args := #[.slice x1 (runA (planR ss cs wi) ls1).2.length y1, .slice x2 ((sortM (growM (planR ss cs wi) ls2 (ls2.length + 1) [])).map (textM ls2)).length y2]) rfl rfl rfl (by go_simp) hs.below ((equal_any _ _ _ _ w1' (Sl.of_own ho1) (Sl.of_own ho2) (by omega) (by omega)).mono ?_); rintro en w2 ⟨rfl, hg⟩; exact ⟨_, rfl, by rw [decide_eq_true HQ], hg.below⟩
  ·intro vals w1' hF hfx hb1; have e34 : vals 34 = .bool true := hF _ (Reg.at_fact 6 rfl) (show (7 + 1 : Nat) <= 99 by decide)
   simp only [List.map_cons, List.map_nil, e34]
   generalize vals 28 = q28; generalize vals 29 = q29; generalize vals 30 = q30; generalize vals 31 = q31; generalize vals 32 = q32; generalize vals 33 = q33; have HB1 := Hyd hb1; clear hF hfx e34 hb1; unfold Reg.puts Reg.puts Reg.puts Reg.puts Reg.puts Reg.puts Reg.puts Reg.puts; go_wp2_with fail; go_ret; exact ⟨rfl, HB4.out.trans (HB1.out.mono HB4.out.size)⟩
end Go.Proofs.YtcojnojdgigmdaaGreatDoor.WR
