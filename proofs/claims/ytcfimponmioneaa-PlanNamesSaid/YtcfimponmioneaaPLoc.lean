/- Where a step stands among the groups. No program in sight. -/
import Derived.Test.YtcfimponmioneaaPPlan
namespace Go.Proofs.Ytcfimponmioneaa.PL

/-- How many steps stand ahead of a group. -/
def startG {α : Type} (gs : List (Grp α)) (q : Nat) : Nat := (flat (gs.take q)).length
/-- The group of a step, and its bar's number. -/
def locate {α : Type} : List (Grp α) → Nat → Nat × Option Nat
  | [], _ => (0, none)
  | g :: r, k => if k = 0 then (0, none) else if k ≤ g.2.length then (0, some (k - 1)) else ((locate r (k - 1 - g.2.length)).1 + 1, (locate r (k - 1 - g.2.length)).2)
section
variable {α : Type}
theorem startG_zero (gs : List (Grp α)) : startG gs 0 = 0 := by simp [startG, flat]
theorem startG_cons (g : Grp α) (r : List (Grp α)) (q : Nat) : startG (g :: r) (q + 1) = 1 + g.2.length + startG r q := by
  simp only [startG, List.take_succ_cons, flat, List.flatMap_cons, List.length_append, List.length_cons]; omega
theorem startG_succ (gs : List (Grp α)) (q : Nat) (h : q < gs.length) : startG gs (q + 1) = startG gs q + 1 + gs[q].2.length := by
  induction gs generalizing q with
  | nil => simp at h
  | cons g r ih =>
    cases q with
    | zero => rw [startG_cons, startG_zero, startG_zero]; simp
    | succ q => rw [startG_cons, startG_cons, ih q (by simpa using h)]; simp; omega
theorem startG_end (gs : List (Grp α)) : startG gs gs.length = (flat gs).length := by simp [startG]
theorem locate_head (gs : List (Grp α)) (q : Nat) (h : q < gs.length) : locate gs (startG gs q) = (q, none) := by
  induction gs generalizing q with
  | nil => simp at h
  | cons g r ih =>
    cases q with
    | zero => rw [startG_zero]; simp [locate]
    | succ q =>
      rw [startG_cons]
      unfold locate
      rw [if_neg (by omega), if_neg (by omega), show 1 + g.2.length + startG r q - 1 - g.2.length = startG r q by omega, ih q (by simpa using h)]
theorem locate_bar (gs : List (Grp α)) (q r : Nat) (h : q < gs.length) (hr : r < gs[q].2.length) : locate gs (startG gs q + 1 + r) = (q, some r) := by
  induction gs generalizing q with
  | nil => simp at h
  | cons g rest ih =>
    cases q with
    | zero =>
      rw [startG_zero]
      unfold locate
      simp only [List.getElem_cons_zero] at hr
      rw [if_neg (by omega), if_pos (by omega)]
      simp
    | succ q =>
      rw [startG_cons]
      unfold locate
      simp only [List.getElem_cons_succ] at hr
      rw [if_neg (by omega), if_neg (by omega), show 1 + g.2.length + startG rest q + 1 + r - 1 - g.2.length = startG rest q + 1 + r by omega, ih q (by simpa using h) hr]
theorem locate_cases (gs : List (Grp α)) (k : Nat) (h : k < (flat gs).length) : (∃ q, q < gs.length ∧ k = startG gs q) ∨ ∃ q, ∃ hq : q < gs.length, ∃ r, r < gs[q].2.length ∧ k = startG gs q + 1 + r := by
  induction gs generalizing k with
  | nil => simp [flat] at h
  | cons g rest ih =>
    simp only [flat, List.flatMap_cons, List.length_append, List.length_cons] at h
    by_cases h0 : k = 0
    · exact .inl ⟨0, by simp, by rw [startG_zero]; exact h0⟩
    · by_cases h1 : k ≤ g.2.length
      · exact .inr ⟨0, by simp, k - 1, by simp; omega, by rw [startG_zero]; omega⟩
      · rcases ih (k - 1 - g.2.length) (by simp only [flat]; omega) with ⟨q, hq, e⟩ | ⟨q, hq, r, hr, e⟩
        · exact .inl ⟨q + 1, by simpa using hq, by rw [startG_cons]; omega⟩
        · exact .inr ⟨q + 1, by simpa using hq, r, by simpa using hr, by rw [startG_cons]; omega⟩
theorem flat_head (gs : List (Grp α)) (q : Nat) (h : q < gs.length) : (flat gs)[startG gs q]? = some gs[q].1 := by
  induction gs generalizing q with
  | nil => simp at h
  | cons g r ih =>
    cases q with
    | zero => rw [startG_zero]; simp [flat]
    | succ q =>
      rw [startG_cons]
      simp only [flat, List.flatMap_cons]
      rw [List.getElem?_append_right (by simp; omega)]
      simp only [List.length_cons, List.getElem_cons_succ]
      rw [show 1 + g.2.length + startG r q - (g.2.length + 1) = startG r q by omega]
      exact ih q (by simpa using h)
theorem flat_bar (gs : List (Grp α)) (q r : Nat) (h : q < gs.length) (hr : r < gs[q].2.length) : (flat gs)[startG gs q + 1 + r]? = some gs[q].2[r] := by
  induction gs generalizing q with
  | nil => simp at h
  | cons g rest ih =>
    cases q with
    | zero =>
      rw [startG_zero]
      simp only [List.getElem_cons_zero] at hr
      simp only [flat, List.flatMap_cons, List.getElem_cons_zero]
      rw [List.getElem?_append_left (by simp; omega), show 0 + 1 + r = r + 1 by omega, List.getElem?_cons_succ, List.getElem?_eq_getElem hr]
    | succ q =>
      rw [startG_cons]
      simp only [List.getElem_cons_succ] at hr
      simp only [flat, List.flatMap_cons]
      rw [List.getElem?_append_right (by simp; omega)]
      simp only [List.length_cons, List.getElem_cons_succ]
      rw [show 1 + g.2.length + startG rest q + 1 + r - (g.2.length + 1) = startG rest q + 1 + r by omega]
      exact ih q (by simpa using h) hr
theorem startG_lt (gs : List (Grp α)) (q : Nat) (h : q < gs.length) : startG gs q < (flat gs).length := (List.getElem?_eq_some_iff.1 (flat_head gs q h)).1
theorem bar_lt (gs : List (Grp α)) (q r : Nat) (h : q < gs.length) (hr : r < gs[q].2.length) : startG gs q + 1 + r < (flat gs).length := (List.getElem?_eq_some_iff.1 (flat_bar gs q r h hr)).1
theorem startG_le (gs : List (Grp α)) (q : Nat) : startG gs q ≤ (flat gs).length := by
  induction gs generalizing q with
  | nil => simp [startG, flat]
  | cons g r ih =>
    cases q with
    | zero => rw [startG_zero]; omega
    | succ q => rw [startG_cons]; have := ih q; simp only [flat, List.flatMap_cons, List.length_append, List.length_cons] at this ⊢; omega
/-- The heads of the groups are steps that take events, the others are bars. -/
def goodG (gs : List (Grp α)) : Prop := ∀ g ∈ gs, g.1.1.neg = false ∧ ∀ b ∈ g.2, b.1.neg = true
theorem goodG_push (gs : List (Grp α)) (x : GS × α) (h : goodG gs) (hx : gs = [] → x.1.neg = false) : goodG (pushG gs x) := by
  cases hn : x.1.neg with
  | false =>
    rw [pushG_pos _ _ hn]
    intro g hg
    rcases List.mem_append.1 hg with hg | hg
    · exact h g hg
    · simp only [List.mem_cons, List.not_mem_nil, or_false] at hg
      subst hg
      exact ⟨hn, fun b hb => absurd hb (by simp)⟩
  | true =>
    have hne : gs ≠ [] := fun e => by rw [hx e] at hn; cases hn
    rw [← List.dropLast_concat_getLast hne, pushG_bar _ _ _ hn]
    intro g hg
    rcases List.mem_append.1 hg with hg | hg
    · exact h g (List.dropLast_subset _ hg)
    · simp only [List.mem_cons, List.not_mem_nil, or_false] at hg
      subst hg
      obtain ⟨h1, h2⟩ := h _ (List.getLast_mem hne)
      refine ⟨h1, fun b hb => ?_⟩
      rcases List.mem_append.1 hb with hb | hb
      · exact h2 b hb
      · simp only [List.mem_cons, List.not_mem_nil, or_false] at hb
        subst hb; exact hn
theorem goodG_groups (x : GS × α) (l : List (GS × α)) (hx : x.1.neg = false) : goodG (groups (x :: l)) := by
  have h : ∀ (l : List (GS × α)) (gs : List (Grp α)), gs ≠ [] → goodG gs → goodG (l.foldl pushG gs) := by
    intro l
    induction l with
    | nil => intro gs _ h; exact h
    | cons y r ih => intro gs hne h; rw [List.foldl_cons]; exact ih _ (pushG_ne _ _) (goodG_push _ _ h fun e => absurd e hne)
  exact h l (pushG [] x) (pushG_ne _ _) (goodG_push _ _ (fun g hg => absurd hg (by simp)) fun _ => hx)
/-- A step's group's number is how many steps ahead take events. -/
theorem posTo_start (gs : List (Grp α)) (ss : List GS) (hg : goodG gs) (hf : (flat gs).map (·.1) = ss) (q : Nat) (h : q ≤ gs.length) : posTo ss (startG gs q) = q := by
  have at_ : ∀ (k : Nat) (x : GS × α), (flat gs)[k]? = some x → ss[k]! = x.1 := fun k x hk => by
    have : ss[k]? = some x.1 := by rw [← hf, List.getElem?_map, hk]; rfl
    rw [List.getElem!_eq_getElem?_getD, this]; rfl
  induction q with
  | zero => rw [startG_zero]; rfl
  | succ q ih =>
    have hq : q < gs.length := by omega
    obtain ⟨h1, h2⟩ := hg gs[q] (List.getElem_mem hq)
    have e1 : posTo ss (startG gs q + 1) = q + 1 := by
      show posTo ss (startG gs q) + _ = _
      rw [ih (by omega), at_ _ _ (flat_head gs q hq), h1]; simp
    have e2 : ∀ r, r ≤ gs[q].2.length → posTo ss (startG gs q + 1 + r) = q + 1 := by
      intro r
      induction r with
      | zero => intro _; exact e1
      | succ r ihr =>
        intro hr
        show posTo ss (startG gs q + 1 + r) + (if (ss[startG gs q + 1 + r]!).neg = true then 0 else 1) = _
        rw [ihr (by omega), at_ _ _ (flat_bar gs q r hq (by omega)), h2 _ (List.getElem_mem (by omega))]; simp
    rw [startG_succ gs q hq]
    exact e2 _ (Nat.le_refl _)
theorem posTo_at (gs : List (Grp α)) (ss : List GS) (hg : goodG gs) (hf : (flat gs).map (·.1) = ss) (k : Nat) (h : k < (flat gs).length) : posTo ss (k + 1) = (locate gs k).1 + 1 := by
  have at_ : ∀ (k : Nat) (x : GS × α), (flat gs)[k]? = some x → ss[k]! = x.1 := fun k x hk => by
    have : ss[k]? = some x.1 := by rw [← hf, List.getElem?_map, hk]; rfl
    rw [List.getElem!_eq_getElem?_getD, this]; rfl
  rcases locate_cases gs k h with ⟨q, hq, rfl⟩ | ⟨q, hq, r, hr, rfl⟩
  · rw [locate_head gs q hq]
    show posTo ss (startG gs q) + _ = _
    rw [posTo_start gs ss hg hf q (by omega), at_ _ _ (flat_head gs q hq), (hg gs[q] (List.getElem_mem hq)).1]; simp
  · rw [locate_bar gs q r hq hr]
    obtain ⟨h1, h2⟩ := hg gs[q] (List.getElem_mem hq)
    have e1 : posTo ss (startG gs q + 1) = q + 1 := by
      show posTo ss (startG gs q) + _ = _
      rw [posTo_start gs ss hg hf q (by omega), at_ _ _ (flat_head gs q hq), h1]; simp
    have e2 : ∀ r, r ≤ gs[q].2.length → posTo ss (startG gs q + 1 + r) = q + 1 := by
      intro r
      induction r with
      | zero => intro _; exact e1
      | succ r ihr =>
        intro hr
        show posTo ss (startG gs q + 1 + r) + (if (ss[startG gs q + 1 + r]!).neg = true then 0 else 1) = _
        rw [ihr (by omega), at_ _ _ (flat_bar gs q r hq (by omega)), h2 _ (List.getElem_mem (by omega))]; simp
    exact e2 (r + 1) (by omega)
end
end Go.Proofs.Ytcfimponmioneaa.PL
