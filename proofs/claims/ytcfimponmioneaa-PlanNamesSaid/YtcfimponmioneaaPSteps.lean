/- What is so of the plan of a pattern at which nothing is wrong. No code is walked here. -/
import Derived.Test.YtcfimponmioneaaPOk
import Derived.Test.YtcfimponmioneaaWBinds
namespace Go.Proofs.Ytcfimponmioneaa.WL
open Go Go.RowKit Go.Proofs.Ytcfimponmioneaa Go.Proofs.Ytcfimponmioneaa.PL Go.Proofs.Ytcfimponmioneaa.Mem Go.Proofs.Ytcfimponmioneaa.WP

/-- How many tests the first n steps have. -/
def condsTo (ss : List GS) (cs : List GC) : Nat → Nat
  | 0 => 0
  | n + 1 => condsTo ss cs n + (testsAt ss cs n).length
theorem testsAt_cons (ss : List GS) (cs : List GC) (c : GC) (i : Nat) : (testsAt ss (c :: cs) i).length = (testsAt ss cs i).length + if (testOf ss c).1 = i then 1 else 0 := by
  unfold testsAt
  rw [List.filterMap_cons]
  by_cases h : (testOf ss c).1 = i <;> simp [h]
theorem condsTo_cons (ss : List GS) (cs : List GC) (c : GC) (n : Nat) : condsTo ss (c :: cs) n = condsTo ss cs n + if (testOf ss c).1 < n then 1 else 0 := by
  induction n with
  | zero => simp [condsTo]
  | succ n ih =>
    simp only [condsTo]
    rw [ih, testsAt_cons]
    by_cases h1 : (testOf ss c).1 = n
    · rw [if_pos h1, if_neg (by omega), if_pos (by omega)]; omega
    · by_cases h2 : (testOf ss c).1 < n
      · rw [if_neg h1, if_pos h2, if_pos (by omega)]; omega
      · rw [if_neg h1, if_neg h2, if_neg (by omega)]; omega
theorem condsTo_all (ss : List GS) (cs : List GC) (n : Nat) (h : ∀ c ∈ cs, (testOf ss c).1 < n) : condsTo ss cs n = cs.length := by
  induction cs with
  | nil =>
    clear h
    induction n with
    | zero => rfl
    | succ n ih => simp only [condsTo]; rw [ih]; rfl
  | cons c r ih =>
    rw [condsTo_cons, ih fun x hx => h x (List.mem_cons_of_mem _ hx), if_pos (h c (List.mem_cons_self ..))]; rfl
theorem condsTo_le (ss : List GS) (cs : List GC) (n : Nat) : condsTo ss cs n ≤ cs.length := by
  induction cs with
  | nil =>
    induction n with
    | zero => exact Nat.le_refl _
    | succ n ih => simp only [condsTo]; exact ih
  | cons c r ih =>
    rw [condsTo_cons, List.length_cons]
    split <;> omega
theorem testOf_lt (ss : List GS) (c : GC) (h : 1 ≤ ss.length) : (testOf ss c).1 < ss.length := by
  have h1 := findP_lt ss c.l
  have h2 := findP_lt ss c.r
  unfold testOf
  repeat' split
  all_goals (show Int.toNat _ < _; omega)
theorem OKP.conds {ss : List GS} {cs : List GC} {wi : Int} (h : OKP ss cs wi) : condsTo ss cs ss.length = cs.length :=
  condsTo_all ss cs _ fun c _ => testOf_lt ss c h.n1

theorem flatLen (ss : List GS) : (flat (groups (unitl ss))).length = ss.length := by
  rw [flat_groups]; unfold unitl; simp
theorem at_flat {ss : List GS} {k : Nat} {x : GS × Unit} (hk : (flat (groups (unitl ss)))[k]? = some x) : ∃ h : k < ss.length, ss[k] = x.1 := by
  have h1 := flat_fst ss
  have h2 : ss[k]? = some x.1 := by rw [← h1, List.getElem?_map, hk]; rfl
  exact List.getElem?_eq_some_iff.1 h2
section
variable {ss : List GS} {cs : List GC} {wi : Int}
theorem OKP.end_ (_ : OKP ss cs wi) : startG (groups (unitl ss)) (groups (unitl ss)).length = ss.length := by rw [startG_end, flatLen]
theorem OKP.head (h : OKP ss cs wi) {q : Nat} (hq : q < (groups (unitl ss)).length) : 1 ≤ (groups (unitl ss))[q].1.1.lo ∧ (groups (unitl ss))[q].1.1.lo ≤ (groups (unitl ss))[q].1.1.hi ∧ (groups (unitl ss))[q].1.1.hi ≤ 4 := by
  obtain ⟨h1, h2⟩ := at_flat (flat_head _ q hq)
  have := h.step h1
  rw [h2] at this
  exact ⟨this.1, this.2.1, this.2.2.1⟩
theorem OKP.last (h : OKP ss cs wi) {q : Nat} (hq : q < (groups (unitl ss)).length) (he : q + 1 = (groups (unitl ss)).length) : (groups (unitl ss))[q].2.length = 0 := by
  rcases Nat.eq_zero_or_pos ((groups (unitl ss))[q].2.length) with h0 | h0
  · exact h0
  · exfalso
    have hr : (groups (unitl ss))[q].2.length - 1 < (groups (unitl ss))[q].2.length := by omega
    obtain ⟨h1, h2⟩ := at_flat (flat_bar _ q _ hq hr)
    have h3 := (h.good _ (List.getElem_mem hq)).2 _ (List.getElem_mem hr)
    have h4 := h.step h1
    rw [h2] at h4
    have h5 := startG_succ (groups (unitl ss)) q hq
    rw [he, h.end_] at h5
    exact (h4.2.2.2.1 h3).2 (by omega)
theorem OKP.binds (h : OKP ss cs wi) {q : Nat} (hq : q ≤ (groups (unitl ss)).length) : bindsG (groups (unitl ss)) q = bindsTo ss (startG (groups (unitl ss)) q) := by
  obtain ⟨gs, hgs⟩ : ∃ gs, groups (unitl ss) = gs := ⟨_, rfl⟩
  have hf := flat_fst ss
  have hg := h.good
  rw [hgs] at hq hf hg ⊢
  have at_ : ∀ (k : Nat) (x : GS × Unit), (flat gs)[k]? = some x → ss[k]! = x.1 := fun k x hk => by
    have : ss[k]? = some x.1 := by rw [← hf, List.getElem?_map, hk]; rfl
    rw [List.getElem!_eq_getElem?_getD, this]; rfl
  induction q with
  | zero => rw [startG_zero]; rfl
  | succ q ih =>
    have hq' : q < gs.length := by omega
    obtain ⟨h1, h2⟩ := hg gs[q] (List.getElem_mem hq')
    have e1 : bindsTo ss (startG gs q + 1) = bindsG gs (q + 1) := by
      show bindsTo ss (startG gs q) + _ = bindsG gs q + _
      rw [ih (by omega), at_ _ _ (flat_head gs q hq'), h1, getElem!_pos gs q hq']; simp
    have e2 : ∀ r, r ≤ gs[q].2.length → bindsTo ss (startG gs q + 1 + r) = bindsG gs (q + 1) := by
      intro r
      induction r with
      | zero => intro _; exact e1
      | succ r ihr =>
        intro hr
        show bindsTo ss (startG gs q + 1 + r) + (if (ss[startG gs q + 1 + r]!).neg = true then 0 else (ss[startG gs q + 1 + r]!).hi) = _
        rw [ihr (by omega), at_ _ _ (flat_bar gs q r hq' (by omega)), h2 _ (List.getElem_mem (by omega))]; simp
    rw [startG_succ gs q hq']
    exact (e2 _ (Nat.le_refl _)).symm
theorem OKP.binds16 (h : OKP ss cs wi) : bindsG (groups (unitl ss)) (groups (unitl ss)).length ≤ 16 := by
  rw [h.binds (Nat.le_refl _), h.end_]; exact h.bd
theorem bindsG_ge {gs : List (Grp Unit)} (hh : ∀ q (h : q < gs.length), 1 ≤ gs[q].1.1.hi) (q : Nat) (hq : q ≤ gs.length) : (q : Int) ≤ bindsG gs q := by
  induction q with
  | zero => simp [bindsG]
  | succ q ih =>
    have h1 := ih (by omega)
    have h2 := hh q (by omega)
    simp only [bindsG]
    rw [getElem!_pos gs q (by omega)]
    omega
theorem bindsG_le {gs : List (Grp Unit)} (hh : ∀ q (h : q < gs.length), gs[q].1.1.hi ≤ 4) (q : Nat) (hq : q ≤ gs.length) : bindsG gs q ≤ 4 * q := by
  induction q with
  | zero => simp [bindsG]
  | succ q ih =>
    have h1 := ih (by omega)
    have h2 := hh q (by omega)
    simp only [bindsG]
    rw [getElem!_pos gs q (by omega)]
    omega
theorem startG_le8 (h : OKP ss cs wi) (q : Nat) : startG (groups (unitl ss)) q ≤ 8 := by
  have h1 := startG_le (groups (unitl ss)) q
  rw [flatLen] at h1
  exact Nat.le_trans h1 h.n8
theorem OKP.groups1 (h : OKP ss cs wi) : 1 ≤ (groups (unitl ss)).length := by
  have h1 := flatLen ss
  have h2 := h.n1
  cases hg : groups (unitl ss) with
  | nil => rw [hg] at h1; simp [flat] at h1; omega
  | cons a r => simp
theorem OKP.groups8 (h : OKP ss cs wi) : (groups (unitl ss)).length ≤ 8 := by
  have := groups_len (unitl ss)
  have h2 := h.n8
  unfold unitl at this ⊢
  simp at this
  omega
theorem OKP.binds1 (h : OKP ss cs wi) : 1 ≤ bindsG (groups (unitl ss)) (groups (unitl ss)).length := by
  have := bindsG_ge (gs := groups (unitl ss)) (fun q hq => by have := h.head hq; omega) _ (Nat.le_refl _)
  have := h.groups1
  omega
/-- How many steps ahead take events grows. -/
theorem posTo_mono (ss : List GS) {a b : Nat} (h : a ≤ b) : posTo ss a ≤ posTo ss b := by
  induction b with
  | zero => obtain rfl : a = 0 := by omega
            exact Nat.le_refl _
  | succ b ih =>
    rcases Nat.eq_or_lt_of_le h with rfl | hl
    · exact Nat.le_refl _
    · exact Nat.le_trans (ih (by omega)) (by show posTo ss b ≤ posTo ss b + _; omega)
/-- What is so of the test of a condition. -/
theorem OKP.test (h : OKP ss cs wi) {c : GC} (hc : c ∈ cs) : ((testOf ss c).2.step = -1) ∨ ((testOf ss c).2.step = -2 ∧ ∃ hm : (testOf ss c).1 < ss.length, ss[(testOf ss c).1].neg = false) ∨
    ∃ k, k < (testOf ss c).1 ∧ 1 ≤ posTo ss (k + 1) ∧ (testOf ss c).2.step = (posTo ss (k + 1) : Int) - 1 := by
  obtain ⟨j, hj, rfl⟩ := List.mem_iff_getElem.1 hc
  have h1 := h.cd j hj
  rw [getElem!_pos cs j hj] at h1
  obtain ⟨c, hcj⟩ : ∃ c, cs[j] = c := ⟨_, rfl⟩
  rw [hcj] at h1 ⊢
  have l1 := findP_lt ss c.l
  have l2 := findP_lt ss c.r
  unfold condE at h1
  split at h1
  · omega
  split at h1
  · omega
  split at h1
  · omega
  rename_i g1 g2 g3
  have hl : 0 ≤ findP ss c.l := by omega
  by_cases hr0 : c.r = 0
  · left
    unfold testOf
    rw [if_pos hr0]
  have hr : 0 ≤ findP ss c.r := by
    rcases Int.lt_or_le (findP ss c.r) 0 with hx | hx
    · exact absurd (Or.inr ⟨hr0, hx⟩) g3
    · exact hx
  rw [if_neg hr0] at h1
  have hng : (ss[(min (findP ss c.l) (findP ss c.r)).toNat]!).neg = false := by
    cases hx : (ss[(min (findP ss c.l) (findP ss c.r)).toNat]!).neg with
    | false => rfl
    | true => rw [if_pos hx] at h1; omega
  right
  by_cases he : findP ss c.l = findP ss c.r
  · left
    have e : testOf ss c = ((findP ss c.l).toNat, ⟨c.op, -2, c.k, false⟩) := by
      unfold testOf; rw [if_neg hr0, if_pos he]
    rw [e]
    have hm : (findP ss c.l).toNat < ss.length := by omega
    refine ⟨rfl, hm, ?_⟩
    rw [← he, Int.min_self, getElem!_pos ss _ hm] at hng
    exact hng
  · right
    have key : ∀ k : Nat, k < ss.length → (ss[k]!).neg = false → 1 ≤ posTo ss (k + 1) := fun k _ hk => by
      show 1 ≤ posTo ss k + _
      rw [hk]; simp
    by_cases hlt : findP ss c.r < findP ss c.l
    · have e : testOf ss c = ((findP ss c.l).toNat, ⟨c.op, posTo ss ((findP ss c.r).toNat + 1) - 1, c.k, false⟩) := by
        unfold testOf; rw [if_neg hr0, if_neg he, if_pos hlt]
      rw [e]
      rw [Int.min_eq_right (by omega)] at hng
      exact ⟨(findP ss c.r).toNat, by show _ < (findP ss c.l).toNat; omega, key _ (by omega) hng, rfl⟩
    · have e : testOf ss c = ((findP ss c.r).toNat, ⟨c.op, posTo ss ((findP ss c.l).toNat + 1) - 1, c.k, true⟩) := by
        unfold testOf; rw [if_neg hr0, if_neg he, if_neg hlt]
      rw [e]
      rw [Int.min_eq_left (by omega)] at hng
      exact ⟨(findP ss c.l).toNat, by show _ < (findP ss c.r).toNat; omega, key _ (by omega) hng, rfl⟩
theorem mem_testsAt {ss : List GS} {cs : List GC} {i : Nat} {t : PT} (h : t ∈ testsAt ss cs i) : ∃ c ∈ cs, testOf ss c = (i, t) := by
  unfold testsAt at h
  obtain ⟨c, hc, h1⟩ := List.mem_filterMap.1 h
  refine ⟨c, hc, ?_⟩
  by_cases h2 : (testOf ss c).1 = i
  · rw [if_pos h2] at h1
    obtain rfl := h2
    cases h1
    rfl
  · rw [if_neg h2] at h1; cases h1
/-- No test of a step asks of a step at or behind it. -/
theorem OKP.ahead (h : OKP ss cs wi) {q : Nat} (hq : q < (groups (unitl ss)).length) {t : PT} (ht : t ∈ testsAt ss cs (startG (groups (unitl ss)) q)) : t.step < q ∧ -2 ≤ t.step := by
  obtain ⟨c, hc, e⟩ := mem_testsAt ht
  have h1 := h.test hc
  have hp := posTo_start (groups (unitl ss)) ss h.good (flat_fst ss) q (by omega)
  rw [e] at h1
  rcases h1 with h1 | ⟨h1, _⟩ | ⟨k, hk, hk1, h1⟩
  · simp only at h1; omega
  · simp only at h1; omega
  · have := posTo_mono ss (show k + 1 ≤ startG (groups (unitl ss)) q from hk)
    simp only at h1
    omega
/-- No test of a bar asks of a step behind it, nor of what was before. -/
theorem OKP.aheadB (h : OKP ss cs wi) {q r : Nat} (hq : q < (groups (unitl ss)).length) (hr : r < (groups (unitl ss))[q].2.length) {t : PT} (ht : t ∈ testsAt ss cs (startG (groups (unitl ss)) q + 1 + r)) : t.step ≤ q ∧ -1 ≤ t.step := by
  obtain ⟨c, hc, e⟩ := mem_testsAt ht
  have h1 := h.test hc
  have hp := posTo_start (groups (unitl ss)) ss h.good (flat_fst ss) (q + 1) (by omega)
  have hs := startG_succ (groups (unitl ss)) q hq
  rw [e] at h1
  rcases h1 with h1 | ⟨h1, hm, hn⟩ | ⟨k, hk, hk1, h1⟩
  · simp only at h1; omega
  · exfalso
    obtain ⟨h3, h4⟩ := at_flat (flat_bar _ q r hq hr)
    have h5 := (h.good _ (List.getElem_mem hq)).2 _ (List.getElem_mem hr)
    rw [← h4] at h5
    rw [h5] at hn
    cases hn
  · have := posTo_mono ss (show k + 1 ≤ startG (groups (unitl ss)) (q + 1) by simp only at hk; omega)
    simp only at h1
    omega
end
end Go.Proofs.Ytcfimponmioneaa.WL
