/- How many steps and conditions a text that is read can have. No program in sight. -/
import Derived.Test.YtcfimponmioneaaPPat2
namespace Go.Proofs.Ytcfimponmioneaa.PLen
open Go.Proofs.Ytcfimponmioneaa.PP

theorem pSteps_len {l : List UInt8} : ∀ (f a : Nat) (ss : List Stp) (r : List Stp) (a' : Nat), ss.length + f = 9 → pSteps l f a ss = .inr (r, a') → r.length ≤ 9 := by
  intro f
  induction f with
  | zero => intro a ss r a' hl h; simp only [pSteps] at h; cases h; omega
  | succ f ih =>
    intro a ss r a' hl h
    simp only [pSteps] at h
    split at h
    · cases hx : pStep l (a + 1) ss.length with
      | inl q => rw [hx] at h; cases h
      | inr q => rw [hx] at h; exact ih _ _ r a' (by simp; omega) h
    · cases h; omega
theorem pConds_len {l : List UInt8} : ∀ (f a : Nat) (cs : List Cnd) (r : List Cnd) (a' : Nat), cs.length + f = 17 → pConds l f a cs = .inr (r, a') → r.length ≤ 17 := by
  intro f
  induction f with
  | zero => intro a cs r a' hl h; simp only [pConds] at h; cases h; omega
  | succ f ih =>
    intro a cs r a' hl h
    simp only [pConds] at h
    split at h
    · cases h1 : pWord l [78, 68, 32] (a + 1) with
      | inl q => rw [h1] at h; cases h
      | inr q =>
        rw [h1] at h
        simp only [PR.bind] at h
        cases h2 : pCond l q.2 cs.length with
        | inl q => rw [h2] at h; cases h
        | inr q2 =>
          rw [h2] at h
          simp only at h
          cases h3 : pWord l [32] q2.2 with
          | inl q => rw [h3] at h; cases h
          | inr q3 => rw [h3] at h; exact ih _ _ r a' (by simp; omega) h
    · cases h; omega

theorem bind_get {α β : Type} {x : PR α} {f : α → Nat → PR β} {r : β × Nat} (h : x.bind f = .inr r) : ∃ v a, x = .inr (v, a) ∧ f v a = .inr r := by
  cases x with
  | inl q => cases h
  | inr q => exact ⟨q.1, q.2, rfl, h⟩
theorem pEnd_get {l : List UInt8} {ss : List Stp} {cs : List Cnd} {a : Nat} {r : Ptn × Nat} (h : pEnd l ss cs a = .inr r) : r.1.ss = ss ∧ r.1.cs = cs := by
  unfold pEnd at h
  obtain ⟨_, _, _, h⟩ := bind_get h
  obtain ⟨_, _, _, h⟩ := bind_get h
  cases h
  exact ⟨rfl, rfl⟩
theorem pPat_len {l : List UInt8} {r : Ptn × Nat} (h : pPat l = .inr r) : r.1.ss.length ≤ 9 ∧ r.1.cs.length ≤ 17 := by
  unfold pPat at h
  obtain ⟨_, _, _, h⟩ := bind_get h
  obtain ⟨x, _, _, h⟩ := bind_get h
  obtain ⟨ss, _, hs, h⟩ := bind_get h
  have hs9 := pSteps_len _ _ _ _ _ (by simp) hs
  unfold pRest at h
  obtain ⟨_, _, _, h⟩ := bind_get h
  split at h
  · obtain ⟨_, _, _, h⟩ := bind_get h
    obtain ⟨c, _, _, h⟩ := bind_get h
    obtain ⟨_, _, _, h⟩ := bind_get h
    obtain ⟨cs, _, hc, h⟩ := bind_get h
    have hc17 := pConds_len _ _ _ _ _ (by simp) hc
    obtain ⟨_, _, _, h⟩ := bind_get h
    obtain ⟨e1, e2⟩ := pEnd_get h
    rw [e1, e2]
    exact ⟨hs9, hc17⟩
  · obtain ⟨e1, e2⟩ := pEnd_get h
    rw [e1, e2]
    exact ⟨hs9, by simp⟩
theorem parse_len {l : List UInt8} {p : Ptn} (h : pParse l = .inr p) : p.ss.length ≤ 9 ∧ p.cs.length ≤ 17 := by
  unfold pParse at h
  split at h
  · cases h
  · cases hp : pPat l with
    | inl f => rw [hp] at h; cases h
    | inr f =>
      have := pPat_len hp
      rw [hp] at h
      simp only at h
      split at h
      · cases h
      · cases h; exact this
end Go.Proofs.Ytcfimponmioneaa.PLen
