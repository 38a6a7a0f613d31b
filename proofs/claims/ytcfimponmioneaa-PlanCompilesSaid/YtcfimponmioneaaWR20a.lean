/- The walks of oxbowref20's Find, positive and step. -/
import Derived.Test.YtcfimponmioneaaWPlan4
namespace Go.Proofs.Ytcfimponmioneaa.WL
open Go Go.RowKit Go.Sort Go.Proofs.Ytcfimponmioneaa Go.Proofs.Ytcfimponmioneaa.PL Go.Proofs.Ytcfimponmioneaa.Mem

set_option maxRecDepth 100000 in
set_option maxHeartbeats 1600000 in
theorem find20 (sl cl : Value) (wi nm : Int) (ss : List GS) (w : World) (hs : Stps w w.heap.size sl ss) (hbig : ss.length ≤ maxLen) :
    Calls Try.prog 43 #[.agg #[sl, cl, .int .i64 wi], .int .u8 nm] w fun e w' => e = .returned (.int .i64 (findP ss nm)) ∧ Grw w w' := by
  have hbig' : ss.length ≤ 9223372036854775807 := hbig
  obtain ⟨a, c, rfl⟩ := Sl.shape hs
  obtain ⟨w1, hw1⟩ : ∃ w1, w1 = w.alloc (.cells #[.slice a ss.length c, cl, .int .i64 wi] 32) := ⟨_, rfl⟩
  have hz1 : w1.heap.size = w.heap.size + 1 := by rw [hw1]; simp
  have HG1 := Lib.hid (show Grw w w1 by rw [hw1]; exact (Grw.refl w).alloc _)
  have y0 : w1.cell? ⟨w.heap.size, 0, none⟩ = some (.slice a ss.length c) := by rw [hw1]; exact (Lib.cell_of_heap (heap_new rfl) 0).trans rfl
  have HS := Lib.hid hs
  have HW1 := Lib.hid hw1
  clear hs hw1 hbig
  go_enter Try.func43, Try.ntmps43
  go_wp2_with fail
  rw [← HW1.out]
  go_loopw [5] (fun u wr => ∃ i : Nat, u = .int .i64 i ∧ i ≤ ss.length ∧ wr = w1 ∧ ∀ j (hj : j < ss.length), j < i → ss[j].nm ≠ nm) (fun u _ => ss.length - (intOf u).toNat)
  case atStart => exact ⟨0, rfl, by omega, rfl, fun j _ hj => absurd hj (by omega)⟩
  case round =>
    obtain ⟨i, rfl, hi, hwr, hall⟩ := hrel
    subst hwr
    have HA := Lib.hid hall
    clear hall
    by_cases hlt : i < ss.length
    · have hlt' : (i : Int) < (ss.length : Int) := by omega
      have hi0 : (0 : Int) ≤ (i : Int) := by omega
      obtain ⟨g, o, c', e, hgb, _, d1, _, _, _⟩ := Stps.at_ HS.out hlt
      obtain ⟨rfl, rfl⟩ : a = some ⟨g, o, none⟩ ∧ c = c' := by simpa using e
      have x1 := HG1.out.cell hgb d1
      obtain ⟨x, hx⟩ : ∃ x, ss[i] = x := ⟨_, rfl⟩
      rw [hx] at x1
      have HX := Lib.hid hx
      clear e d1 hx
      by_cases hq : x.nm = nm
      · have HQ := Lib.hid hq
        have hq' : (x.nm == nm) = true := by simp [hq]
        clear hq
        go_wp2_with fail
        go_ret
        refine ⟨?_, HG1.out⟩
        rw [findP_hit hlt (by rw [HX.out]; exact HQ.out) (fun j hj => HA.out j (by omega) hj)]
        rfl
      · have HQ := Lib.hid hq
        have hq' : (x.nm == nm) = false := by simp [hq]
        clear hq
        go_wp2_with fail
        go_roundw
        case rel =>
          refine ⟨i + 1, by go_num, by omega, trivial, fun j hj hji => ?_⟩
          by_cases e : j = i
          · subst e
            rw [HX.out]; exact HQ.out
          · exact HA.out j hj (by omega)
        case measure => simp [intOf]; omega
    · obtain rfl : i = ss.length := by omega
      go_wp2_with fail
      go_ret
      refine ⟨?_, HG1.out⟩
      rw [findP_miss (fun j hj => HA.out j hj hj)]
      rfl

set_option maxRecDepth 100000 in
set_option maxHeartbeats 1600000 in
theorem pos20 (sl cl : Value) (wi : Int) (ss : List GS) (k : Nat) (w : World) (hs : Stps w w.heap.size sl ss) (hk : k ≤ ss.length) (h8 : ss.length ≤ 8) :
    Calls Try.prog 44 #[.agg #[sl, cl, .int .i64 wi], .int .i64 k] w fun e w' => e = .returned (.int .i64 (posTo ss k)) ∧ Grw w w' := by
  obtain ⟨a, c, rfl⟩ := Sl.shape hs
  obtain ⟨w1, hw1⟩ : ∃ w1, w1 = w.alloc (.cells #[.slice a ss.length c, cl, .int .i64 wi] 32) := ⟨_, rfl⟩
  have hz1 : w1.heap.size = w.heap.size + 1 := by rw [hw1]; simp
  have HG1 := Lib.hid (show Grw w w1 by rw [hw1]; exact (Grw.refl w).alloc _)
  have y0 : w1.cell? ⟨w.heap.size, 0, none⟩ = some (.slice a ss.length c) := by rw [hw1]; exact (Lib.cell_of_heap (heap_new rfl) 0).trans rfl
  have HS := Lib.hid hs
  have HW1 := Lib.hid hw1
  clear hs hw1
  go_enter Try.func44, Try.ntmps44
  go_wp2_with fail
  rw [← HW1.out]
  go_loopw [5, 6] (fun n u wr => ∃ i : Nat, u = .int .i64 i ∧ i ≤ k ∧ wr = w1 ∧ n = .int .i64 (posTo ss i) ∧ posTo ss i ≤ i) (fun _ u _ => k - (intOf u).toNat)
  case atStart => exact ⟨0, rfl, by omega, rfl, rfl, by simp [posTo]⟩
  case round =>
    obtain ⟨i, rfl, hi, hwr, rfl, hpi⟩ := hrel
    subst hwr
    by_cases hlt : i < k
    · have hlt' : (i : Int) < (k : Int) := by omega
      have hi0 : (0 : Int) ≤ (i : Int) := by omega
      have hls : (i : Int) < (ss.length : Int) := by omega
      obtain ⟨g, o, c', e, hgb, _, _, d2, _, _⟩ := Stps.at_ HS.out (show i < ss.length by omega)
      obtain ⟨rfl, rfl⟩ : a = some ⟨g, o, none⟩ ∧ c = c' := by simpa using e
      have x2 := HG1.out.cell hgb d2
      have hps : posTo ss (i + 1) = posTo ss i + if (ss[i]'(by omega)).neg = true then 0 else 1 := by
        show posTo ss i + (if (ss[i]!).neg = true then 0 else 1) = _
        rw [getElem!_pos ss i (by omega)]
      have HPS := Lib.hid hps
      obtain ⟨x, hx⟩ : ∃ x, ss[i] = x := ⟨_, rfl⟩
      rw [hx] at x2
      have HX := Lib.hid hx
      clear e d2 hps hx
      generalize posTo ss i = pi at *
      cases hn : x.neg with
      | true =>
        rw [hn] at x2
        have HN := Lib.hid hn
        clear hn
        go_wp2_with fail
        go_roundw
        case rel => exact ⟨i + 1, by go_num, by omega, trivial, by rw [HPS.out, HX.out, if_pos HN.out]; rfl, by rw [HPS.out, HX.out, if_pos HN.out]; omega⟩
        case measure => simp [intOf]; omega
      | false =>
        rw [hn] at x2
        have HN := Lib.hid hn
        clear hn
        go_wp2_with fail
        go_roundw
        case rel => exact ⟨i + 1, by go_num, by omega, trivial, by rw [HPS.out, HX.out, if_neg (by rw [HN.out]; simp)]; rfl, by rw [HPS.out, HX.out, if_neg (by rw [HN.out]; simp)]; omega⟩
        case measure => simp [intOf]; omega
    · obtain rfl : i = k := by omega
      go_wp2_with fail
      go_ret
      exact ⟨rfl, HG1.out⟩

theorem stepE_of' (ss : List GS) (i : Nat) (s : GS) (hi : i < ss.length) (h : ss[i] = s) : stepE ss i =
    if ¬ (65 ≤ s.k ∧ s.k ≤ 90) ∨ ¬ (97 ≤ s.nm ∧ s.nm ≤ 122) then 20
    else if findP ss s.nm ≠ i then 21
    else if s.neg = true ∧ (i = 0 ∨ i + 1 = ss.length) then 23
    else if (s.neg = true ∧ (s.lo ≠ 1 ∨ s.hi ≠ 1)) ∨ s.lo < 1 ∨ s.hi < s.lo ∨ 4 < s.hi then 22
    else 0 := by
  have h1 := findP_le_self hi
  subst h
  unfold stepE
  rw [getElem!_pos ss i hi]
  have e : (findP ss ss[i].nm < (i : Int)) = (findP ss ss[i].nm ≠ (i : Int)) := propext ⟨fun h => by omega, fun h => by omega⟩
  simp only [e]

set_option maxRecDepth 100000 in
set_option maxHeartbeats 3200000 in
theorem step20 (sl cl : Value) (wi : Int) (ss : List GS) (i : Nat) (w : World) (hs : Stps w w.heap.size sl ss) (hbig : ss.length ≤ maxLen) (hi : i < ss.length) :
    Calls Try.prog 40 #[.agg #[sl, cl, .int .i64 wi], .int .i64 i] w fun e w' => e = .returned (.int .i64 (stepE ss i)) ∧ Grw w w' := by
  have hbig' : ss.length ≤ 9223372036854775807 := hbig
  obtain ⟨g, o, c, rfl, hgb, d0, d1, d2, d3, d4⟩ := Stps.at_ hs hi
  obtain ⟨x, hx⟩ : ∃ x, ss[i] = x := ⟨_, rfl⟩
  have hr := stepE_of' ss i x hi hx
  generalize stepE ss i = r at *
  rw [hx] at d0 d1 d2 d3 d4
  obtain ⟨w1, hw1⟩ : ∃ w1, w1 = w.alloc (.cells #[.slice (some ⟨g, o, none⟩) ss.length c, cl, .int .i64 wi] 32) := ⟨_, rfl⟩
  obtain ⟨w2, hw2⟩ : ∃ w2, w2 = w1.alloc (.cells #[.int .u8 x.k, .int .u8 x.nm, .bool x.neg, .int .i64 x.lo, .int .i64 x.hi] 92) := ⟨_, rfl⟩
  have hz1 : w1.heap.size = w.heap.size + 1 := by rw [hw1]; simp
  have hz2 : w2.heap.size = w.heap.size + 2 := by rw [hw2]; simp; omega
  have G1 : Grw w w1 := by rw [hw1]; exact (Grw.refl w).alloc _
  have G2 : Grw w w2 := by rw [hw2]; exact G1.alloc _
  have hf := find20 (.slice (some ⟨g, o, none⟩) ss.length c) cl wi x.nm ss w2 ((Sl.below hs G2.below).more G2.size) hbig
  have HF := Lib.hid hf
  have HW1 := Lib.hid hw1
  have HW2 := Lib.hid hw2
  have HG2 := Lib.hid G2
  have HR := Lib.hid hr
  have hne : g ≠ w.heap.size := by omega
  have P1 := Lib.hid (show w2.heap[w.heap.size]? = some (.cells #[.slice (some ⟨g, o, none⟩) ss.length c, cl, .int .i64 wi] 32 (0, 0)) by rw [hw2]; exact heap_alloc (by rw [hw1]; exact heap_new rfl))
  have P2 := Lib.hid (show w2.heap[w.heap.size + 1]? = some (.cells #[.int .u8 x.k, .int .u8 x.nm, .bool x.neg, .int .i64 x.lo, .int .i64 x.hi] 92 (0, 0)) by rw [hw2]; exact heap_new (by omega))
  have y0 : w2.cell? ⟨w.heap.size, 0, none⟩ = some (.slice (some ⟨g, o, none⟩) ss.length c) := (Lib.cell_of_heap P1.out 0).trans rfl
  have y1 : w2.cell? ⟨w.heap.size, 1, none⟩ = some cl := (Lib.cell_of_heap P1.out 1).trans rfl
  have y2 : w2.cell? ⟨w.heap.size, 2, none⟩ = some (.int .i64 wi) := (Lib.cell_of_heap P1.out 2).trans rfl
  rw [hw2, hw1] at y0 y1 y2
  clear hf hw1 hw2 G1 G2 hx hr hs hbig
  go_enter Try.func40, Try.ntmps40
  by_cases A : 65 ≤ x.k ∧ x.k ≤ 90
  case neg =>
    have HR2 := Lib.hid (HR.out.trans (if_pos (.inl A)))
    go_wp2_with fail
    all_goals first
      | (exfalso; omega)
      | (go_ret; exact ⟨by rw [HR2.out]; rfl, by rw [← HW1.out, ← HW2.out]; exact HG2.out⟩)
  by_cases B : 97 ≤ x.nm ∧ x.nm ≤ 122
  case neg =>
    have HR2 := Lib.hid (HR.out.trans (if_pos (.inr B)))
    have A1 : ¬ x.k < 65 := by omega
    have A2 : ¬ 90 < x.k := by omega
    clear A
    go_wp2_with fail
    all_goals first
      | (exfalso; omega)
      | (go_ret; exact ⟨by rw [HR2.out]; rfl, by rw [← HW1.out, ← HW2.out]; exact HG2.out⟩)
  have h2 := HR.out.trans (if_neg (by omega))
  have A1 : ¬ x.k < 65 := by omega
  have A2 : ¬ 90 < x.k := by omega
  have B1 : ¬ x.nm < 97 := by omega
  have B2 : ¬ 122 < x.nm := by omega
  have HR2 := Lib.hid h2
  clear A B HR h2
  go_wp2_with fail
  rw [← HW1.out, ← HW2.out]
  refine HF.out.mono ?_
  rintro e w3 ⟨rfl, g3⟩
  have HG3 := Lib.hid (HG2.out.trans g3)
  have y3 : w3.cell? ⟨w.heap.size, 0, none⟩ = some (.slice (some ⟨g, o, none⟩) ss.length c) := g3.cell (by omega) ((Lib.cell_of_heap P1.out 0).trans rfl)
  have z2 : w3.cell? ⟨w.heap.size + 1, 2, none⟩ = some (.bool x.neg) := g3.cell (by omega) ((Lib.cell_of_heap P2.out 2).trans rfl)
  have z3 : w3.cell? ⟨w.heap.size + 1, 3, none⟩ = some (.int .i64 x.lo) := g3.cell (by omega) ((Lib.cell_of_heap P2.out 3).trans rfl)
  have z4 : w3.cell? ⟨w.heap.size + 1, 4, none⟩ = some (.int .i64 x.hi) := g3.cell (by omega) ((Lib.cell_of_heap P2.out 4).trans rfl)
  clear y0 y1 y2 d0 d1 d2 d3 d4 g3 A1 A2 B1 B2
  have hil : (i : Int) < (ss.length : Int) := by omega
  by_cases C : findP ss x.nm = (i : Int)
  case neg =>
    have HR3 := Lib.hid (HR2.out.trans (if_pos C))
    have hc : (findP ss x.nm != (i : Int)) = true := by simp [C]
    generalize findP ss x.nm = fp at *
    clear HR2 C
    go_wp2_with fail
    go_ret
    exact ⟨by rw [HR3.out]; rfl, HG3.out⟩
  have h3 := HR2.out.trans (if_neg (fun h => h C))
  rw [C]
  clear HR2
  cases hn : x.neg with
  | false =>
    rw [hn] at h3 z2
    simp only [Bool.false_eq_true, false_and, if_false, false_or] at h3
    have HR3 := Lib.hid h3
    clear h3 hn
    go_wp2_with fail
    all_goals
      go_ret
      refine ⟨?_, HG3.out⟩
      have h := HR3.out
      clear HR3 HF P1 P2 z2 z3 z4 y3 HG3 HG2 HW1 HW2 C
      refine congrArg (fun z => Ending.returned (Value.int .i64 z)) (?_ : _ = r)
      rw [h]
      clear h
      split
      · first | rfl | (exfalso; omega)
      · first | rfl | (exfalso; omega)
  | true =>
    rw [hn] at h3 z2
    simp only [true_and] at h3
    have HR3 := Lib.hid h3
    clear h3 hn
    go_wp2_with fail
    all_goals
      go_ret
      refine ⟨?_, HG3.out⟩
      have h := HR3.out
      clear HR3 HF P1 P2 z2 z3 z4 y3 HG3 HG2 HW1 HW2 C
      refine congrArg (fun z => Ending.returned (Value.int .i64 z)) (?_ : _ = r)
      rw [h]
      clear h
      simp only [beq_eq_false_iff_ne, beq_iff_eq, bne_iff_ne, bne_eq_false_iff_eq, ne_eq] at *
      split
      · first | rfl | (exfalso; omega)
      · split
        · first | rfl | (exfalso; omega)
        · first | rfl | (exfalso; omega)
end Go.Proofs.Ytcfimponmioneaa.WL
