/- A whole pattern's text with something behind it, in plain Lean. No program in sight. -/
import Derived.Test.YtcfimponmioneaaDoorPExt
import Derived.Test.YtcfimponmioneaaDoorPR19c
namespace Go.Proofs.YtcfimponmioneaaDoor.PP
section
variable {l m : List UInt8}
theorem ext_shift {α : Type} {p : List UInt8 → Nat → PR α} (hp : Ext l m p) : Ext l m fun l a => p l (a + 1) := by
  intro a v a' h
  obtain ⟨e1, e2⟩ := hp (a + 1) v a' h
  exact ⟨by omega, e2⟩
theorem ext_peek {α : Type} (c : Nat → Prop) [DecidablePred c] {p q : List UInt8 → Nat → PR α} (hp : Ext l m p) (hq : Ext l m q) : Ext l m fun l a => if c (peekB l a) then p l a else q l a := by
  intro a v a' h
  simp only at h ⊢
  split at h
  · rename_i hc
    obtain ⟨e1, e2⟩ := hp a v a' h
    exact ⟨e1, fun hlt => by rw [look_peek (by omega), if_pos hc]; exact e2 hlt⟩
  · rename_i hc
    obtain ⟨e1, e2⟩ := hq a v a' h
    exact ⟨e1, fun hlt => by rw [look_peek (by omega), if_neg hc]; exact e2 hlt⟩
theorem ext_tl2 (x o r : Nat) : Ext l m fun l a => pTl2 l x o r a :=
  ext_next 43 (ext_bind (ext_num 49) fun k => ext_ret (⟨x, o, r, k⟩ : Cnd)) (ext_next 45 (ext_bind (ext_num 49) fun k => ext_ret (⟨x, o, r, -(k : Int)⟩ : Cnd)) (ext_ret (⟨x, o, r, 0⟩ : Cnd)))
theorem ext_tl (x o : Nat) : Ext l m fun l a => pTl l x o a :=
  ext_peek (fun c => c = 45) (ext_shift (ext_bind (ext_num 49) fun k => ext_ret (⟨x, o, 0, -(k : Int)⟩ : Cnd))) (ext_peek (fun c => 48 ≤ c ∧ c ≤ 57) (ext_bind (ext_num 48) fun k => ext_ret (⟨x, o, 0, k⟩ : Cnd)) (ext_bind (ext_one 97 122) fun r => ext_tl2 x o r))
theorem ext_cond (n : Nat) (hn : n ≤ 16) : Ext l m fun l a => pCond l a n := by
  intro a v a' h
  have hlt := pCond_lt h hn
  simp only at h ⊢
  rw [pCond_tl _ _ _ (by omega)] at h ⊢
  exact ext_bind (ext_one 97 122) (fun x => ext_bind ext_op fun o => ext_tl x o) a v a' h
theorem ext_st2 (a3 k nm : Nat) : Ext l m fun l a => pSt2 l a3 k nm a :=
  ext_bind (ext_num 48) fun lo => ext_bind (ext_one 44 44) fun _ => ext_bind (ext_num 48) fun hi => ext_bind (ext_one 125 125) fun _ => by
    intro a v a' h
    unfold pSt3 at h ⊢
    simp only at h ⊢
    split at h
    · cases h
    · rename_i hc
      cases h
      exact ⟨Nat.le_refl _, fun _ => by rw [if_neg hc]⟩
theorem ext_st1 (k : Nat) (neg : Bool) (nm : Nat) : Ext l m fun l a => pSt1 l k neg nm a := by
  intro a v a' h
  simp only [pSt1] at h ⊢
  split at h
  · rename_i hc
    split at h
    · cases h
    · rename_i hn
      obtain ⟨e1, e2⟩ := ext_st2 a k nm (a + 1) v a' h
      exact ⟨by omega, fun hlt => by rw [look_has (by omega), if_pos hc, if_neg hn]; exact e2 hlt⟩
  · rename_i hc
    cases h
    exact ⟨Nat.le_refl _, fun hlt => by rw [look_has hlt, if_neg hc]⟩
theorem ext_st (k : Nat) (neg : Bool) : Ext l m fun l a => pSt l k neg a :=
  ext_bind (ext_one 32 32) fun _ => ext_bind (ext_one 97 122) fun nm => ext_st1 k neg nm
theorem ext_has (b : Nat) : Ext l m fun l a => pHasR l a b := by
  intro a v a' h
  simp only [pHasR] at h ⊢
  split at h
  · rename_i hc
    cases h
    exact ⟨by omega, fun hlt => by rw [look_has (by omega), if_pos hc]⟩
  · rename_i hc
    cases h
    exact ⟨Nat.le_refl _, fun hlt => by rw [look_has hlt, if_neg hc]⟩
theorem ext_step (n : Nat) (hn : n ≤ 8) : Ext l m fun l a => pStep l a n := by
  intro a v a' h
  have hlt := pStep_lt h hn
  simp only at h ⊢
  rw [pStep_tl _ _ _ (by omega)] at h ⊢
  exact ext_bind (ext_has 33) (fun neg => ext_bind (ext_one 65 90) fun k => ext_st k neg) a v a' h
theorem ext_steps : ∀ (f : Nat) (ss : List Stp), ss.length + f = 9 → Ext l m fun l a => pSteps l f a ss
  | 0, ss, _ => ext_ret ss
  | f + 1, ss, hl => ext_next 44 (ext_bind (ext_step ss.length (by omega)) fun x => ext_steps f (ss ++ [x]) (by simp; omega)) (ext_ret ss)
theorem ext_conds : ∀ (f : Nat) (cs : List Cnd), cs.length + f = 17 → Ext l m fun l a => pConds l f a cs
  | 0, cs, _ => ext_ret cs
  | f + 1, cs, hl => ext_next 65 (ext_bind (ext_word [78, 68, 32]) fun _ => ext_bind (ext_cond cs.length (by omega)) fun x => ext_bind (ext_word [32]) fun _ => ext_conds f (cs ++ [x]) (by simp; omega)) (ext_ret cs)

/-- The conditions, if there are any; all that stands ahead of the window's number. -/
def pWh (l : List UInt8) (a : Nat) : PR (List Cnd) :=
  if pHas l a 72 then (pWord l [69, 82, 69, 32] (a + 1)).bind fun _ a4 => (pCond l a4 0).bind fun x a5 => (pWord l [32] a5).bind fun _ a6 => (pConds l 16 a6 [x]).bind fun cs a7 => (pWord l [87] a7).bind fun _ a8 => .inr (cs, a8)
  else .inr ([], a)
def pHead (l : List UInt8) (a : Nat) : PR (List Stp × List Cnd) :=
  (pWord l [83, 69, 81, 40] a).bind fun _ a0 => (pStep l a0 0).bind fun x a1 => (pSteps l 8 a1 [x]).bind fun ss a2 => (pWord l [41, 32, 87] a2).bind fun _ a3 => (pWh l a3).bind fun cs a4 => (pWord l [73, 84, 72, 73, 78, 32] a4).bind fun _ a5 => .inr ((ss, cs), a5)
theorem ext_wh : Ext l m fun l a => pWh l a :=
  ext_next 72 (ext_bind (ext_word [69, 82, 69, 32]) fun _ => ext_bind (ext_cond 0 (by omega)) fun x => ext_bind (ext_word [32]) fun _ => ext_bind (ext_conds 16 [x] (by simp)) fun cs => ext_bind (ext_word [87]) fun _ => ext_ret cs) (ext_ret [])
theorem ext_head : Ext l m fun l a => pHead l a :=
  ext_bind (ext_word [83, 69, 81, 40]) fun _ => ext_bind (ext_step 0 (by omega)) fun x => ext_bind (ext_steps 8 [x] (by simp)) fun ss => ext_bind (ext_word [41, 32, 87]) fun _ => ext_bind ext_wh fun cs => ext_bind (ext_word [73, 84, 72, 73, 78, 32]) fun _ => ext_ret (ss, cs)
theorem pat_head (l : List UInt8) : pPat l = (pHead l 0).bind fun sc a => (pNum l a 48).bind fun k a2 => .inr (⟨sc.1, sc.2, k⟩, a2) := by
  unfold pPat pHead pRest pWh pEnd
  simp only [PR.bind_assoc]
  congr 1
  funext _ a0
  congr 1
  funext x a1
  congr 1
  funext ss a2
  congr 1
  funext _ a3
  split
  · simp only [PR.bind_assoc]
    rfl
  · rfl

theorem dig_ge (l : List UInt8) : ∀ f n a : Nat, n ≤ (pDig l f n a).1 ∧ a ≤ (pDig l f n a).2
  | 0, n, a => ⟨Nat.le_refl _, Nat.le_refl _⟩
  | f + 1, n, a => by
    simp only [pDig]
    split
    · split
      · split
        · obtain ⟨e1, e2⟩ := dig_ge l f _ (a + 1)
          exact ⟨Nat.le_trans (by omega) e1, by omega⟩
        · exact ⟨Nat.le_refl _, Nat.le_refl _⟩
      · exact ⟨Nat.le_refl _, Nat.le_refl _⟩
    · exact ⟨Nat.le_refl _, Nat.le_refl _⟩
theorem dig_more : ∀ f n a k : Nat, a ≤ l.length → pDig l f n a = (k, l.length) →
    (pDig (l ++ m) f n a = (k, l.length)) ∨ (l.length < (pDig (l ++ m) f n a).2 ∧ 10 * k ≤ (pDig (l ++ m) f n a).1 ∧ ∃ b : UInt8, m[0]? = some b ∧ 48 ≤ b.toNat ∧ b.toNat ≤ 57)
  | 0, n, a, k, _, h => by simp only [pDig] at h ⊢; exact .inl h
  | f + 1, n, a, k, ha, h => by
    simp only [pDig] at h ⊢
    by_cases hn : 0 < n
    · rw [if_pos hn] at h ⊢
      cases hx : l[a]? with
      | none =>
        rw [hx] at h
        simp only at h
        cases h
        have e : (l ++ m)[l.length]? = m[0]? := by rw [List.getElem?_append_right (Nat.le_refl _)]; simp
        rw [e]
        cases hm : m[0]? with
        | none => exact .inl rfl
        | some b =>
          simp only
          by_cases hb : 48 ≤ b.toNat ∧ b.toNat ≤ 57
          · rw [if_pos hb]
            obtain ⟨e1, e2⟩ := dig_ge (l ++ m) f (10 * n + (b.toNat - 48)) (l.length + 1)
            exact .inr ⟨by omega, Nat.le_trans (by omega) e1, b, rfl, hb⟩
          · rw [if_neg hb]
            exact .inl rfl
      | some b =>
        have hlt : a < l.length := by
          rcases Nat.lt_or_ge a l.length with h' | h'
          · exact h'
          · rw [List.getElem?_eq_none h'] at hx; cases hx
        rw [hx] at h
        rw [look hlt, hx]
        simp only at h ⊢
        by_cases hb : 48 ≤ b.toNat ∧ b.toNat ≤ 57
        · rw [if_pos hb] at h ⊢
          exact dig_more f _ _ k (by omega) h
        · rw [if_neg hb] at h
          cases h
          omega
    · rw [if_neg hn] at h ⊢
      exact .inl h
/-- What is said of a pattern's text with something behind it. -/
theorem parse_append {p : Ptn} (h : pParse l = .inr p) (hm : m ≠ []) (hlen : (l ++ m).length ≤ 4096) :
    match pParse (l ++ m) with
    | .inr q => (∃ b : UInt8, m[0]? = some b ∧ 48 ≤ b.toNat ∧ b.toNat ≤ 57) ∧ q.ss = p.ss ∧ 10 * p.wi ≤ q.wi
    | .inl (k, er) => er = 20 ∧ l.length ≤ k := by
  have hml : 0 < m.length := List.length_pos_iff.2 hm
  have hll : (l ++ m).length = l.length + m.length := List.length_append
  unfold pParse at h
  rw [if_neg (by omega)] at h
  cases hp : pPat l with
  | inl f => rw [hp] at h; cases h
  | inr f =>
    obtain ⟨q, a⟩ := f
    rw [hp] at h
    simp only at h
    split at h
    · cases h
    · rename_i hal
      cases h
      rw [pat_head] at hp
      obtain ⟨sc, a1, h1, h2⟩ := bind_get hp
      obtain ⟨k, a2, h3, h4⟩ := bind_get h2
      simp only [Sum.inr.injEq, Prod.mk.injEq] at h4
      obtain ⟨rfl, rfl⟩ := h4
      -- the number: its first digit lies inside
      unfold pNum at h3
      cases hx : pOne l a1 48 57 with
      | inl f => rw [hx] at h3; cases h3
      | inr f =>
        obtain ⟨b, b1⟩ := f
        rw [hx] at h3
        simp only [Sum.inr.injEq] at h3
        obtain ⟨hlt, rfl⟩ := one_lt hx
        have hend : a2 = l.length := by
          have h5 := (dig_ext (l := l) (m := m) 8 (b - 48) (a1 + 1))
          have hle : ∀ f n a : Nat, a ≤ l.length → (pDig l f n a).2 ≤ l.length := by
            intro f
            induction f with
            | zero => intro n a ha; exact ha
            | succ f ih =>
              intro n a ha
              simp only [pDig]
              split
              · cases hy : l[a]? with
                | none => exact ha
                | some y =>
                  have : a < l.length := by
                    rcases Nat.lt_or_ge a l.length with h' | h'
                    · exact h'
                    · rw [List.getElem?_eq_none h'] at hy; cases hy
                  simp only
                  split
                  · exact ih _ _ (by omega)
                  · exact ha
              · exact ha
          have := hle 8 (b - 48) (a1 + 1) (by omega)
          rw [h3] at this
          simp only at this
          omega
        subst hend
        have h6 : pHead (l ++ m) 0 = .inr (sc, a1) := (ext_head (l := l) (m := m) 0 sc a1 h1).2 hlt
        have h7 : pOne (l ++ m) a1 48 57 = .inr (b, a1 + 1) := by
          have e : (l ++ m)[a1]? = l[a1]? := look hlt
          unfold pOne at hx ⊢
          rw [e]
          exact hx
        have h8 : pPat (l ++ m) = .inr (⟨sc.1, sc.2, (pDig (l ++ m) 8 (b - 48) (a1 + 1)).1⟩, (pDig (l ++ m) 8 (b - 48) (a1 + 1)).2) := by
          rw [pat_head, h6]
          simp only [PR.bind]
          unfold pNum
          rw [h7]
        unfold pParse
        rw [if_neg (by omega), h8]
        simp only
        rcases dig_more (m := m) 8 (b - 48) (a1 + 1) k (by omega) h3 with h9 | ⟨h9, h10, h11⟩
        · rw [h9]
          simp only
          rw [if_pos (by omega)]
          exact ⟨rfl, Nat.le_refl _⟩
        · split
          · rename_i hq
            split at hq
            · cases hq
            · cases hq
              exact ⟨h11, rfl, h10⟩
          · rename_i hq
            split at hq
            · cases hq
              exact ⟨rfl, by omega⟩
            · cases hq
end
end Go.Proofs.YtcfimponmioneaaDoor.PP
