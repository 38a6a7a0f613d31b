/- What is so of a pattern at which nothing is wrong: its groups and its tests. No code is walked here. -/
import Derived.Test.YtcfimponmioneaaDk
namespace Go.Proofs.Ytcfimponmioneaa.WL
open Go Go.RowKit Go.Proofs.Ytcfimponmioneaa Go.Proofs.Ytcfimponmioneaa.PL Go.Proofs.Ytcfimponmioneaa.Mem Go.Proofs.Ytcfimponmioneaa.WP

theorem OKP.step {ss : List GS} {cs : List GC} {wi : Int} (h : OKP ss cs wi) {j : Nat} (hj : j < ss.length) : 1 ≤ ss[j].lo ∧ ss[j].lo ≤ ss[j].hi ∧ ss[j].hi ≤ 4 ∧ (ss[j].neg = true → j ≠ 0 ∧ j + 1 ≠ ss.length) ∧ findP ss ss[j].nm = j ∧ (65 ≤ ss[j].k ∧ ss[j].k ≤ 90) ∧ 97 ≤ ss[j].nm ∧ ss[j].nm ≤ 122 := by
  have h1 := h.st j hj
  unfold stepE at h1
  rw [getElem!_pos ss j hj] at h1
  simp only at h1
  have h5 := findP_le_self hj
  split at h1
  · omega
  split at h1
  · omega
  split at h1
  · omega
  split at h1
  · omega
  rename_i h2 h3 h4 h6
  refine ⟨?_, ?_, ?_, fun hn => ?_, ?_, ?_, ?_, ?_⟩
  · omega
  · omega
  · omega
  · exact ⟨fun e => h4 ⟨hn, .inl e⟩, fun e => h4 ⟨hn, .inr e⟩⟩
  · omega
  · omega
  · omega
  · omega
theorem flat_fst (ss : List GS) : (flat (groups (unitl ss))).map (·.1) = ss := by
  rw [flat_groups]; unfold unitl; rw [List.map_map]; simp [Function.comp_def]
theorem OKP.good {ss : List GS} {cs : List GC} {wi : Int} (h : OKP ss cs wi) : goodG (groups (unitl ss)) := by
  have h1 := h.n1
  have h2 := (h.step (j := 0) (by omega)).2.2.2.1
  match ss, h1, h2 with
  | s :: r, _, h2 =>
    refine goodG_groups _ _ ?_
    cases hn : s.neg with
    | false => rfl
    | true => exact absurd rfl (h2 hn).1
theorem OKP.tests {ss : List GS} {cs : List GC} {wi : Int} (h : OKP ss cs wi) (i : Nat) : (testsAt ss cs i).length ≤ 16 :=
  Nat.le_trans (by unfold testsAt; exact List.length_filterMap_le _ _) h.c16
end Go.Proofs.Ytcfimponmioneaa.WL
