/- The walk of plan.letter and plan.step: what is wrong with a step. -/
import Derived.Test.YtcfimponmioneaaWPlan
namespace Go.Proofs.Ytcfimponmioneaa.WL
open Go Go.RowKit Go.Sort Go.Proofs.Ytcfimponmioneaa Go.Proofs.Ytcfimponmioneaa.PL Go.Proofs.Ytcfimponmioneaa.Mem

set_option maxRecDepth 100000 in
theorem letter_any (b f t : Int) (w : World) :
    Calls Try.prog 59 #[.int .u8 b, .int .u8 f, .int .u8 t] w fun e w' => e = .returned (.bool (decide (f ≤ b) && decide (b ≤ t))) ∧ w' = w := by
  go_enter Try.func59, Try.ntmps59
  by_cases h1 : f ≤ b
  · by_cases h2 : b ≤ t
    · have e1 : decide (f ≤ b) = true := by simp [h1]
      have e2 : decide (b ≤ t) = true := by simp [h2]
      rw [e1, e2]
      go_wp2_with fail
      all_goals (go_ret; exact ⟨rfl, rfl⟩)
    · have e1 : decide (f ≤ b) = true := by simp [h1]
      have e2 : decide (b ≤ t) = false := by simp [h2]
      rw [e1, e2]
      go_wp2_with fail
      all_goals (go_ret; exact ⟨rfl, rfl⟩)
  · have e1 : decide (f ≤ b) = false := by simp [h1]
    rw [e1]
    go_wp2_with fail
    all_goals (go_ret; exact ⟨rfl, rfl⟩)

theorem stepE_of (ss : List GS) (i : Nat) (s : GS) (hi : i < ss.length) (h : ss[i] = s) : stepE ss i =
    if ¬ (65 ≤ s.k ∧ s.k ≤ 90) ∨ ¬ (97 ≤ s.nm ∧ s.nm ≤ 122) then 20
    else if findP ss s.nm < i then 21
    else if s.neg = true ∧ (i = 0 ∨ i + 1 = ss.length) then 23
    else if (s.neg = true ∧ (s.lo ≠ 1 ∨ s.hi ≠ 1)) ∨ s.lo < 1 ∨ s.hi < s.lo ∨ 4 < s.hi then 22
    else 0 := by
  subst h
  unfold stepE
  rw [getElem!_pos ss i hi]

set_option maxRecDepth 100000 in
set_option maxHeartbeats 3200000 in
theorem step_any (sl cl : Value) (wi : Int) (ss : List GS) (i : Nat) (w : World) (hs : Stps w w.heap.size sl ss) (hbig : ss.length ≤ maxLen) (hi : i < ss.length) :
    Calls Try.prog 52 #[.agg #[sl, cl, .int .i64 wi], .int .i64 i] w fun e w' => e = .returned (.int .i64 (stepE ss i)) ∧ Grw w w' := by
  have hbig' : ss.length ≤ 9223372036854775807 := hbig
  obtain ⟨g, o, c, rfl, hgb, d0, d1, d2, d3, d4⟩ := Stps.at_ hs hi
  obtain ⟨x, hx⟩ : ∃ x, ss[i] = x := ⟨_, rfl⟩
  have hr := stepE_of ss i x hi hx
  generalize stepE ss i = r at *
  rw [hx] at d0 d1 d2 d3 d4
  obtain ⟨w1, hw1⟩ : ∃ w1, w1 = w.alloc (.cells #[.slice (some ⟨g, o, none⟩) ss.length c, cl, .int .i64 wi] 25) := ⟨_, rfl⟩
  obtain ⟨w2, hw2⟩ : ∃ w2, w2 = w1.alloc (.cells #[.int .u8 x.k, .int .u8 x.nm, .bool x.neg, .int .i64 x.lo, .int .i64 x.hi] 76) := ⟨_, rfl⟩
  have hz1 : w1.heap.size = w.heap.size + 1 := by rw [hw1]; simp
  have hz2 : w2.heap.size = w.heap.size + 2 := by rw [hw2]; simp; omega
  have G1 : Grw w w1 := by rw [hw1]; exact (Grw.refl w).alloc _
  have G2 : Grw w w2 := by rw [hw2]; exact G1.alloc _
  have hf := fun (w' : World) (g' : Grw w w') => find_any (.slice (some ⟨g, o, none⟩) ss.length c) cl wi x.nm ss w' ((Sl.below hs g'.below).more g'.size) hbig
  have HF := Lib.hid hf
  have HW1 := Lib.hid hw1
  have HW2 := Lib.hid hw2
  have HG2 := Lib.hid G2
  have HR := Lib.hid hr
  have hne : g ≠ w.heap.size := by omega
  have P1 := Lib.hid (show w2.heap[w.heap.size]? = some (.cells #[.slice (some ⟨g, o, none⟩) ss.length c, cl, .int .i64 wi] 25 (0, 0)) by rw [hw2]; exact heap_alloc (by rw [hw1]; exact heap_new rfl))
  have P2 := Lib.hid (show w2.heap[w.heap.size + 1]? = some (.cells #[.int .u8 x.k, .int .u8 x.nm, .bool x.neg, .int .i64 x.lo, .int .i64 x.hi] 76 (0, 0)) by rw [hw2]; exact heap_new (by omega))
  clear hf hw1 hw2 G1 G2 hx hr hs hbig
  go_enter Try.func52, Try.ntmps52
  go_wp2_with fail
  rw [← HW1.out, ← HW2.out]
  have y0 : w2.cell? ⟨w.heap.size, 0, none⟩ = some (.slice (some ⟨g, o, none⟩) ss.length c) := (Lib.cell_of_heap P1.out 0).trans rfl
  have y1 : w2.cell? ⟨w.heap.size, 1, none⟩ = some cl := (Lib.cell_of_heap P1.out 1).trans rfl
  have y2 : w2.cell? ⟨w.heap.size, 2, none⟩ = some (.int .i64 wi) := (Lib.cell_of_heap P1.out 2).trans rfl
  have x1 : w2.cell? ⟨w.heap.size + 1, 1, none⟩ = some (.int .u8 x.nm) := (Lib.cell_of_heap P2.out 1).trans rfl
  by_cases A : 65 ≤ x.k ∧ x.k ≤ 90
  case neg =>
    refine (letter_any x.k 65 90 w2).mono ?_
    rintro e w' ⟨rfl, rfl⟩
    have e1 : (decide (65 ≤ x.k) && decide (x.k ≤ 90)) = false := by simp; omega
    rw [e1]
    go_wp2_with fail
    go_ret
    exact ⟨by rw [HR.out, if_pos (.inl A)]; rfl, HG2.out⟩
  refine (letter_any x.k 65 90 w2).mono ?_
  rintro e w' ⟨rfl, rfl⟩
  have e1 : (decide (65 ≤ x.k) && decide (x.k ≤ 90)) = true := by simp; omega
  rw [e1]
  clear e1
  go_wp2_with fail
  by_cases B : 97 ≤ x.nm ∧ x.nm ≤ 122
  case neg =>
    refine (letter_any x.nm 97 122 w').mono ?_
    rintro e w' ⟨rfl, rfl⟩
    have e1 : (decide (97 ≤ x.nm) && decide (x.nm ≤ 122)) = false := by simp; omega
    rw [e1]
    go_wp2_with fail
    go_ret
    exact ⟨by rw [HR.out, if_pos (.inr B)]; rfl, HG2.out⟩
  refine (letter_any x.nm 97 122 w').mono ?_
  rintro e w' ⟨rfl, rfl⟩
  have e1 : (decide (97 ≤ x.nm) && decide (x.nm ≤ 122)) = true := by simp; omega
  rw [e1]
  have HR2 := Lib.hid (HR.out.trans (if_neg (by simp; omega)))
  clear e1 A B HR
  go_wp2_with fail
  refine (HF.out w' HG2.out).mono ?_
  rintro e w3 ⟨rfl, g3⟩
  have HG3 := Lib.hid (HG2.out.trans g3)
  have y3 : w3.cell? ⟨w.heap.size, 0, none⟩ = some (.slice (some ⟨g, o, none⟩) ss.length c) := g3.cell (by omega) y0
  have z2 : w3.cell? ⟨w.heap.size + 1, 2, none⟩ = some (.bool x.neg) := g3.cell (by omega) ((Lib.cell_of_heap P2.out 2).trans rfl)
  have z3 : w3.cell? ⟨w.heap.size + 1, 3, none⟩ = some (.int .i64 x.lo) := g3.cell (by omega) ((Lib.cell_of_heap P2.out 3).trans rfl)
  have z4 : w3.cell? ⟨w.heap.size + 1, 4, none⟩ = some (.int .i64 x.hi) := g3.cell (by omega) ((Lib.cell_of_heap P2.out 4).trans rfl)
  clear y0 y1 y2 x1 d0 d1 d2 d3 d4 g3
  by_cases C : findP ss x.nm < (i : Int)
  · have HR3 := Lib.hid (HR2.out.trans (if_pos C))
    generalize findP ss x.nm = fp at *
    clear HR2
    go_wp2_with fail
    go_ret
    exact ⟨by rw [HR3.out]; rfl, HG3.out⟩
  have h3 := HR2.out.trans (if_neg C)
  generalize findP ss x.nm = fp at *
  clear HR2
  cases hn : x.neg with
  | false =>
    rw [hn] at h3 z2
    simp only [Bool.false_eq_true, false_and, if_false, false_or] at h3
    have HR3 := Lib.hid h3
    clear h3 hn
    go_wp2_with fail
    all_goals
      go_ret
      refine ⟨?_, HG3.out⟩
      have h := HR3.out
      clear HR3 HF P1 P2 z2 z3 z4 y3 HG3 HG2 HW1 HW2 C
      refine congrArg (fun z => Ending.returned (Value.int .i64 z)) (?_ : _ = r)
      rw [h]
      clear h
      split
      · first | rfl | (exfalso; omega)
      · first | rfl | (exfalso; omega)
  | true =>
    rw [hn] at h3 z2
    simp only [true_and] at h3
    have HR3 := Lib.hid h3
    clear h3 hn
    go_wp2_with fail
    all_goals
      go_ret
      refine ⟨?_, HG3.out⟩
      have h := HR3.out
      clear HR3 HF P1 P2 z2 z3 z4 y3 HG3 HG2 HW1 HW2 C
      refine congrArg (fun z => Ending.returned (Value.int .i64 z)) (?_ : _ = r)
      rw [h]
      clear h
      simp only [beq_eq_false_iff_ne, beq_iff_eq, ne_eq] at *
      split
      · first | rfl | (exfalso; omega)
      · split
        · first | rfl | (exfalso; omega)
        · first | rfl | (exfalso; omega)
end Go.Proofs.Ytcfimponmioneaa.WL
