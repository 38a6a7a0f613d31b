/- PatternHolds: the two functions, and the law's walk. -/
import Derived.Test.YtcfimponmioneaaWake
namespace Go.Proofs.Ytcfimponmioneaa.WP
open Go.RowKit Go.Proofs.Ytcfimponmioneaa Go.Proofs.Ytcfimponmioneaa.Mem

/-- How two numbers stand. -/
def hB (o a b : Int) : Bool := if o = 0 then decide (a < b) else if o = 1 then decide (a ≤ b) else if o = 2 then a == b else if o = 3 then a != b else if o = 4 then decide (b ≤ a) else if o = 5 then decide (b < a) else false

set_option maxRecDepth 100000 in
theorem holdsP (o a b : Int) (w : World) : Calls Try.prog 16 #[.int .i64 o, .int .i64 a, .int .i64 b] w fun e w' => e = .returned (.bool (hB o a b)) ∧ w = w' := by
  by_cases h0 : o = 0
  · subst h0
    rw [show hB 0 a b = (decide (a < b)) from rfl]
    go_enter Try.func16, Try.ntmps16
    go_wp2
    go_ret
    exact ⟨rfl, rfl⟩
  have n0 : (o == 0) = false := by rw [beq_eq_false_iff_ne]; exact h0
  by_cases h1 : o = 1
  · subst h1
    rw [show hB 1 a b = (decide (a ≤ b)) from rfl]
    go_enter Try.func16, Try.ntmps16
    go_wp2
    go_ret
    exact ⟨rfl, rfl⟩
  have n1 : (o == 1) = false := by rw [beq_eq_false_iff_ne]; exact h1
  by_cases h2 : o = 2
  · subst h2
    rw [show hB 2 a b = (a == b) from rfl]
    go_enter Try.func16, Try.ntmps16
    go_wp2
    go_ret
    exact ⟨rfl, rfl⟩
  have n2 : (o == 2) = false := by rw [beq_eq_false_iff_ne]; exact h2
  by_cases h3 : o = 3
  · subst h3
    rw [show hB 3 a b = (a != b) from rfl]
    go_enter Try.func16, Try.ntmps16
    go_wp2
    go_ret
    exact ⟨rfl, rfl⟩
  have n3 : (o == 3) = false := by rw [beq_eq_false_iff_ne]; exact h3
  by_cases h4 : o = 4
  · subst h4
    rw [show hB 4 a b = (decide (b ≤ a)) from rfl]
    go_enter Try.func16, Try.ntmps16
    go_wp2
    go_ret
    exact ⟨rfl, rfl⟩
  have n4 : (o == 4) = false := by rw [beq_eq_false_iff_ne]; exact h4
  by_cases h5 : o = 5
  · subst h5
    rw [show hB 5 a b = (decide (b < a)) from rfl]
    go_enter Try.func16, Try.ntmps16
    go_wp2
    go_ret
    exact ⟨rfl, rfl⟩
  have n5 : (o == 5) = false := by rw [beq_eq_false_iff_ne]; exact h5
  have hE : hB o a b = false := by unfold hB; rw [if_neg h0, if_neg h1, if_neg h2, if_neg h3, if_neg h4, if_neg h5]
  rw [hE]
  clear h0 h1 h2 h3 h4 h5 hE
  go_enter Try.func16, Try.ntmps16
  go_wp2
  go_ret
  exact ⟨rfl, rfl⟩

set_option maxRecDepth 100000 in
theorem holdsR (o a b : Int) (w : World) : Calls Try.prog 17 #[.int .i64 o, .int .i64 a, .int .i64 b] w fun e w' => e = .returned (.bool (hB o a b)) ∧ w = w' := by
  by_cases h0 : o = 0
  · subst h0
    rw [show hB 0 a b = (decide (a < b)) from rfl]
    go_enter Try.func17, Try.ntmps17
    go_wp2
    go_ret
    exact ⟨by first | rfl | (rw [q']; rfl) | (rw [s1]; rfl), rfl⟩
  have n0 : (o == 0) = false := by rw [beq_eq_false_iff_ne]; exact h0
  by_cases h1 : o = 1
  · subst h1
    rw [show hB 1 a b = (decide (a ≤ b)) from rfl]
    by_cases q : a < b
    · have q' : a ≤ b := by omega
      go_enter Try.func17, Try.ntmps17
      go_wp2
      go_ret
      exact ⟨by simp [q'], rfl⟩
    by_cases r : a = b
    · subst r
      go_enter Try.func17, Try.ntmps17
      go_wp2
      go_ret
      exact ⟨by simp, rfl⟩
    · have q1 : b ≤ a := by omega
      have r1 : (a == b) = false := by rw [beq_eq_false_iff_ne]; exact r
      have s1 : decide (a ≤ b) = false := by simp; omega
      go_enter Try.func17, Try.ntmps17
      go_wp2
      go_ret
      exact ⟨by first | rfl | (rw [q']; rfl) | (rw [s1]; rfl), rfl⟩
  have n1 : (o == 1) = false := by rw [beq_eq_false_iff_ne]; exact h1
  by_cases h2 : o = 2
  · subst h2
    rw [show hB 2 a b = (a == b) from rfl]
    go_enter Try.func17, Try.ntmps17
    go_wp2
    go_ret
    exact ⟨by first | rfl | (rw [q']; rfl) | (rw [s1]; rfl), rfl⟩
  have n2 : (o == 2) = false := by rw [beq_eq_false_iff_ne]; exact h2
  by_cases h3 : o = 3
  · subst h3
    rw [show hB 3 a b = (a != b) from rfl]
    by_cases q : a < b
    · have q' : (a != b) = true := by rw [bne_iff_ne]; omega
      go_enter Try.func17, Try.ntmps17
      go_wp2
      go_ret
      exact ⟨by first | rfl | (rw [q']; rfl) | (rw [s1]; rfl), rfl⟩
    have q1 : b ≤ a := by omega
    by_cases r : b < a
    · have q' : (a != b) = true := by rw [bne_iff_ne]; omega
      go_enter Try.func17, Try.ntmps17
      go_wp2
      go_ret
      exact ⟨by first | rfl | (rw [q']; rfl) | (rw [s1]; rfl), rfl⟩
    · obtain rfl : a = b := by omega
      have q' : (a != a) = false := by simp
      go_enter Try.func17, Try.ntmps17
      go_wp2
      go_ret
      exact ⟨by first | rfl | (rw [q']; rfl) | (rw [s1]; rfl), rfl⟩
  have n3 : (o == 3) = false := by rw [beq_eq_false_iff_ne]; exact h3
  by_cases h4 : o = 4
  · subst h4
    rw [show hB 4 a b = (decide (b ≤ a)) from rfl]
    by_cases q : b < a
    · have q' : b ≤ a := by omega
      go_enter Try.func17, Try.ntmps17
      go_wp2
      go_ret
      exact ⟨by simp [q'], rfl⟩
    by_cases r : a = b
    · subst r
      go_enter Try.func17, Try.ntmps17
      go_wp2
      go_ret
      exact ⟨by simp, rfl⟩
    · have q1 : a ≤ b := by omega
      have r1 : (a == b) = false := by rw [beq_eq_false_iff_ne]; exact r
      have s1 : decide (b ≤ a) = false := by simp; omega
      go_enter Try.func17, Try.ntmps17
      go_wp2
      go_ret
      exact ⟨by first | rfl | (rw [q']; rfl) | (rw [s1]; rfl), rfl⟩
  have n4 : (o == 4) = false := by rw [beq_eq_false_iff_ne]; exact h4
  by_cases h5 : o = 5
  · subst h5
    rw [show hB 5 a b = (decide (b < a)) from rfl]
    go_enter Try.func17, Try.ntmps17
    go_wp2
    go_ret
    exact ⟨by first | rfl | (rw [q']; rfl) | (rw [s1]; rfl), rfl⟩
  have n5 : (o == 5) = false := by rw [beq_eq_false_iff_ne]; exact h5
  have hE : hB o a b = false := by unfold hB; rw [if_neg h0, if_neg h1, if_neg h2, if_neg h3, if_neg h4, if_neg h5]
  rw [hE]
  clear h0 h1 h2 h3 h4 h5 hE
  go_enter Try.func17, Try.ntmps17
  go_wp2
  go_ret
  exact ⟨by first | rfl | (rw [q']; rfl) | (rw [s1]; rfl), rfl⟩

set_option maxRecDepth 100000 in
set_option maxHeartbeats 800000 in
theorem holds_law (o a b : Int) (W : World) : Calls Try.prog 6 #[.int .i64 o, .int .i64 a, .int .i64 b] W fun e w' => e = .returned (.bool true) ∧ Below W.heap.size W w' := by
  obtain ⟨x, hx⟩ : ∃ x, x = hB o a b := ⟨_, rfl⟩
  have h1 := holdsP o a b
  have h2 := holdsR o a b
  rw [← hx] at h1 h2
  have H1 := Lib.hid h1; have H2 := Lib.hid h2
  clear h1 h2 hx
  go_enter Try.func6, Try.ntmps6
  go_wp2_with fail
  refine (wakes_any _).mono ?_
  rintro e w1 ⟨rfl, hb1⟩
  go_wp2_with fail
  refine (H1.out _).mono ?_
  rintro e w2 ⟨rfl, rfl⟩
  go_wp2_with fail
  refine (H2.out _).mono ?_
  rintro e w3 ⟨rfl, rfl⟩
  go_wp2_with fail
  go_ret
  exact ⟨by simp, hb1⟩
end Go.Proofs.Ytcfimponmioneaa.WP
