/- The plain parser at a text with something behind it: what ends strictly inside is read the same. No program in sight. -/
import Derived.Test.YtcfimponmioneaaDoorPPat2
namespace Go.Proofs.YtcfimponmioneaaDoor.PP

/-- Read on l with a success that ends strictly inside, it is read so with m behind it. -/
def Ext {α : Type} (l m : List UInt8) (p : List UInt8 → Nat → PR α) : Prop :=
  ∀ a v a', p l a = .inr (v, a') → a ≤ a' ∧ (a' < l.length → p (l ++ m) a = .inr (v, a'))
section
variable {l m : List UInt8}
theorem look {a : Nat} (h : a < l.length) : (l ++ m)[a]? = l[a]? := List.getElem?_append_left h
theorem look_has {a b : Nat} (h : a < l.length) : pHas (l ++ m) a b = pHas l a b := by unfold pHas; rw [look h]
theorem look_peek {a : Nat} (h : a < l.length) : peekB (l ++ m) a = peekB l a := by unfold peekB; rw [look h]
theorem ext_ret {α : Type} (v : α) : Ext l m fun _ a => .inr (v, a) := by
  intro a v' a' h
  cases h
  exact ⟨Nat.le_refl _, fun _ => rfl⟩
theorem ext_one (lo hi : Nat) : Ext l m fun l a => pOne l a lo hi := by
  intro a v a' h
  simp only [pOne] at h ⊢
  cases hx : l[a]? with
  | none => rw [hx] at h; cases h
  | some b =>
    have hlt : a < l.length := by
      rcases Nat.lt_or_ge a l.length with h' | h'
      · exact h'
      · rw [List.getElem?_eq_none h'] at hx; cases hx
    rw [hx] at h
    simp only at h
    rw [look hlt, hx]
    simp only
    split at h
    · rename_i hc
      cases h
      exact ⟨by omega, fun _ => by rw [if_pos hc]⟩
    · cases h
/-- .. and the byte lies inside. -/
theorem one_lt {l : List UInt8} {a lo hi v a' : Nat} (h : pOne l a lo hi = .inr (v, a')) : a < l.length ∧ a' = a + 1 := by
  unfold pOne at h
  cases hx : l[a]? with
  | none => rw [hx] at h; cases h
  | some b =>
    rw [hx] at h
    simp only at h
    split at h
    · cases h
      refine ⟨?_, rfl⟩
      rcases Nat.lt_or_ge a l.length with h' | h'
      · exact h'
      · rw [List.getElem?_eq_none h'] at hx; cases hx
    · cases h
theorem bind_get {α β : Type} {x : PR α} {f : α → Nat → PR β} {r : β × Nat} (h : x.bind f = .inr r) : ∃ v a, x = .inr (v, a) ∧ f v a = .inr r := by
  cases x with
  | inl q => cases h
  | inr q => exact ⟨q.1, q.2, rfl, h⟩
theorem ext_bind {α β : Type} {p : List UInt8 → Nat → PR α} {q : α → List UInt8 → Nat → PR β} (hp : Ext l m p) (hq : ∀ v, Ext l m (q v)) : Ext l m fun l a => (p l a).bind fun v a' => q v l a' := by
  intro a v a' h
  obtain ⟨x, a1, h1, h2⟩ := bind_get h
  obtain ⟨e1, e2⟩ := hp a x a1 h1
  obtain ⟨e3, e4⟩ := hq x a1 v a' h2
  refine ⟨by omega, fun hlt => ?_⟩
  simp only
  rw [e2 (by omega)]
  exact e4 hlt
theorem ext_if {α : Type} (b : Nat) {p q : List UInt8 → Nat → PR α} (hp : Ext l m p) (hq : Ext l m q) : Ext l m fun l a => if pHas l a b then p l a else q l a := by
  intro a v a' h
  simp only at h ⊢
  split at h
  · rename_i hc
    obtain ⟨e1, e2⟩ := hp a v a' h
    exact ⟨e1, fun hlt => by rw [look_has (by omega), if_pos hc]; exact e2 hlt⟩
  · rename_i hc
    obtain ⟨e1, e2⟩ := hq a v a' h
    exact ⟨e1, fun hlt => by rw [look_has (by omega), if_neg hc]; exact e2 hlt⟩
/-- A byte on, where it is there. -/
theorem ext_next {α : Type} (b : Nat) {p q : List UInt8 → Nat → PR α} (hp : Ext l m p) (hq : Ext l m q) : Ext l m fun l a => if pHas l a b then p l (a + 1) else q l a := by
  intro a v a' h
  simp only at h ⊢
  split at h
  · rename_i hc
    obtain ⟨e1, e2⟩ := hp (a + 1) v a' h
    exact ⟨by omega, fun hlt => by rw [look_has (by omega), if_pos hc]; exact e2 hlt⟩
  · rename_i hc
    obtain ⟨e1, e2⟩ := hq a v a' h
    exact ⟨e1, fun hlt => by rw [look_has (by omega), if_neg hc]; exact e2 hlt⟩
theorem ext_fail {α : Type} (k : Nat → Nat) (er : Int) : Ext l m fun _ a => (.inl (k a, er) : PR α) := by
  intro a v a' h
  cases h
theorem ext_word : ∀ w : List UInt8, Ext l m fun l a => pWord l w a
  | [] => fun a v a' h => by simp only [pWord] at h ⊢; cases h; exact ⟨Nat.le_refl _, fun _ => rfl⟩
  | b :: w => by
    have h := ext_bind (ext_one b.toNat b.toNat) (fun _ => ext_word w) (l := l) (m := m)
    intro a v a' hh
    have e : ∀ l : List UInt8, pWord l (b :: w) a = (pOne l a b.toNat b.toNat).bind fun _ a' => pWord l w a' := fun l => by
      rw [pWord]
      cases pOne l a b.toNat b.toNat <;> rfl
    simp only [e] at hh ⊢
    exact h a v a' hh
theorem dig_ext : ∀ f n a : Nat, a ≤ (pDig l f n a).2 ∧ ((pDig l f n a).2 < l.length → pDig (l ++ m) f n a = pDig l f n a)
  | 0, n, a => ⟨Nat.le_refl _, fun _ => rfl⟩
  | f + 1, n, a => by
    simp only [pDig]
    by_cases hn : 0 < n
    · rw [if_pos hn, if_pos hn]
      cases hx : l[a]? with
      | none =>
        refine ⟨Nat.le_refl _, fun hlt => ?_⟩
        simp only at hlt
        rw [List.getElem?_eq_getElem hlt] at hx
        cases hx
      | some b =>
        simp only
        have hlt : a < l.length := by
          rcases Nat.lt_or_ge a l.length with h' | h'
          · exact h'
          · rw [List.getElem?_eq_none h'] at hx; cases hx
        rw [look hlt, hx]
        simp only
        by_cases hb : 48 ≤ b.toNat ∧ b.toNat ≤ 57
        · rw [if_pos hb, if_pos hb]
          obtain ⟨e1, e2⟩ := dig_ext f (10 * n + (b.toNat - 48)) (a + 1)
          exact ⟨by omega, e2⟩
        · rw [if_neg hb, if_neg hb]
          exact ⟨Nat.le_refl _, fun _ => rfl⟩
    · rw [if_neg hn, if_neg hn]
      exact ⟨Nat.le_refl _, fun _ => rfl⟩
theorem ext_num (least : Nat) : Ext l m fun l a => pNum l a least := by
  intro a v a' h
  simp only [pNum] at h ⊢
  cases hx : pOne l a least 57 with
  | inl f => rw [hx] at h; cases h
  | inr f =>
    obtain ⟨b, a1⟩ := f
    rw [hx] at h
    simp only [Sum.inr.injEq] at h
    obtain ⟨e1, e2⟩ := ext_one (l := l) (m := m) least 57 a b a1 hx
    obtain ⟨e3, e4⟩ := dig_ext (l := l) (m := m) 8 (b - 48) a1
    rw [h] at e3 e4
    simp only at e3 e4
    refine ⟨by omega, fun hlt => ?_⟩
    have e2' : pOne (l ++ m) a least 57 = .inr (b, a1) := e2 (by omega)
    rw [e2']
    simp only
    rw [e4 hlt]
theorem ext_op : Ext l m fun l a => pOp l a := by
  have w : ∀ (v : Nat), Ext l m fun l a => (match pWord l [61] a with | .inl f => (.inl f : PR Nat) | .inr (_, a') => .inr (v, a')) := by
    intro v a x a' h
    have hb := ext_bind (ext_word (l := l) (m := m) [61]) (fun _ => ext_ret v) a x a' (by
      simp only at h ⊢
      cases hx : pWord l [61] a with
      | inl f => rw [hx] at h; cases h
      | inr f => rw [hx] at h; exact h)
    refine ⟨hb.1, fun hlt => ?_⟩
    have h2 := hb.2 hlt
    simp only at h2 ⊢
    cases hx : pWord (l ++ m) [61] a with
    | inl f => rw [hx] at h2; cases h2
    | inr f => rw [hx] at h2; exact h2
  exact ext_next 60 (ext_next 61 (ext_ret 1) (ext_ret 0)) (ext_next 62 (ext_next 61 (ext_ret 4) (ext_ret 5)) (ext_next 33 (w 3) (w 2)))
end
end Go.Proofs.YtcfimponmioneaaDoor.PP
