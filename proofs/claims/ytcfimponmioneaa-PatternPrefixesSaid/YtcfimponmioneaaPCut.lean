/- The plain parser at a text that is cut off: where it came to the cut it is only not whole. No program in sight. -/
import Derived.Test.YtcfimponmioneaaPExt2
namespace Go.Proofs.Ytcfimponmioneaa.PP
section
variable {l l' : List UInt8} {n : Nat}
/-- l' is l's first n bytes. -/
structure Cutoff (l l' : List UInt8) (n : Nat) : Prop where
  le : n ≤ l.length
  len : l'.length = n
  get : ∀ a, a < n → l'[a]? = l[a]?
theorem Cutoff.end_ (h : Cutoff l l' n) : l'[n]? = none := List.getElem?_eq_none (by rw [h.len]; exact Nat.le_refl _)
theorem Cutoff.has (h : Cutoff l l' n) {a b : Nat} (ha : a < n) : pHas l' a b = pHas l a b := by unfold pHas; rw [h.get a ha]
theorem Cutoff.peek (h : Cutoff l l' n) {a : Nat} (ha : a < n) : peekB l' a = peekB l a := by unfold peekB; rw [h.get a ha]
theorem Cutoff.hasE (h : Cutoff l l' n) {b : Nat} : pHas l' n b = false := by unfold pHas; rw [h.end_]
theorem Cutoff.peekE (h : Cutoff l l' n) : peekB l' n = 0 := by unfold peekB; rw [h.end_]

def Out {α : Type} (n : Nat) (x : PR α) : Prop := x = .inl (n, 20) ∨ ∃ v, x = .inr (v, n)
def Cut {α : Type} (l l' : List UInt8) (n : Nat) (p : List UInt8 → Nat → PR α) : Prop :=
  (∀ a v a', p l a = .inr (v, a') → a ≤ a') ∧ (∀ a v a', a ≤ n → p l a = .inr (v, a') → (a' ≤ n → p l' a = .inr (v, a')) ∧ (n < a' → Out n (p l' a))) ∧ (∀ a k, a ≤ n → p l a = .inl (k, 20) → n ≤ k → Out n (p l' a))
def Solid {α : Type} (l l' : List UInt8) (n : Nat) (p : List UInt8 → Nat → PR α) : Prop :=
  (∀ a v a', p l a = .inr (v, a') → a ≤ a') ∧ (∀ a v a', a ≤ n → p l a = .inr (v, a') → (a' ≤ n → p l' a = .inr (v, a')) ∧ (n < a' → p l' a = .inl (n, 20))) ∧ (∀ a k, a ≤ n → p l a = .inl (k, 20) → n ≤ k → p l' a = .inl (n, 20))
theorem Solid.cut {α : Type} {p : List UInt8 → Nat → PR α} (h : Solid l l' n p) : Cut l l' n p :=
  ⟨h.1, fun a v a' ha hp => ⟨((h.2.1 a v a' ha hp).1), fun hn => .inl ((h.2.1 a v a' ha hp).2 hn)⟩, fun a k ha hp hk => .inl (h.2.2 a k ha hp hk)⟩
theorem s_ret {α : Type} (v : α) : Solid l l' n fun _ a => .inr (v, a) := by
  refine ⟨fun a v' a' h => ?_, fun a v' a' ha h => ?_, fun a k ha h => ?_⟩
  · cases h; exact Nat.le_refl _
  · cases h; exact ⟨fun _ => rfl, fun hn => by omega⟩
  · cases h
theorem s_one (hc : Cutoff l l' n) (lo hi : Nat) : Solid l l' n fun l a => pOne l a lo hi := by
  refine ⟨fun a v a' h => ?_, fun a v a' ha h => ?_, fun a k ha h hk => ?_⟩
  · have := (one_lt h).2; omega
  · obtain ⟨h1, h2⟩ := one_lt h
    subst h2
    rcases Nat.lt_or_ge a n with hlt | hge
    · refine ⟨fun _ => ?_, fun hn => by omega⟩
      simp only [pOne] at h ⊢
      rw [hc.get a hlt]
      exact h
    · have : a = n := by omega
      subst this
      refine ⟨fun hn => by omega, fun _ => ?_⟩
      simp only [pOne]
      rw [hc.end_]
  · rcases Nat.lt_or_ge a n with hlt | hge
    · have : k = a := by
        simp only [pOne] at h
        split at h
        · split at h <;> cases h; rfl
        · cases h; rfl
      omega
    · have : a = n := by omega
      subst this
      simp only [pOne]
      rw [hc.end_]
theorem s_bind {α β : Type} {p : List UInt8 → Nat → PR α} {q : α → List UInt8 → Nat → PR β} (hp : Solid l l' n p) (hq : ∀ v, Solid l l' n (q v)) : Solid l l' n fun l a => (p l a).bind fun v a' => q v l a' := by
  refine ⟨fun a v a' h => ?_, fun a v a' ha h => ?_, fun a k ha h hk => ?_⟩
  · obtain ⟨x, a1, h1, h2⟩ := bind_get h
    have := hp.1 _ _ _ h1
    have := (hq x).1 _ _ _ h2
    omega
  · obtain ⟨x, a1, h1, h2⟩ := bind_get h
    obtain ⟨e1, e2⟩ := hp.2.1 _ _ _ ha h1
    have hm := (hq x).1 _ _ _ h2
    rcases Nat.lt_or_ge n a1 with hlt | hge
    · refine ⟨fun hn => by omega, fun _ => ?_⟩
      simp only
      rw [e2 hlt]
      rfl
    · obtain ⟨e3, e4⟩ := (hq x).2.1 _ _ _ hge h2
      refine ⟨fun hn => ?_, fun hn => ?_⟩
      · simp only
        rw [e1 hge]
        exact e3 hn
      · simp only
        rw [e1 hge]
        exact e4 hn
  · simp only at h ⊢
    cases hx : p l a with
    | inl f =>
      obtain ⟨k1, e1⟩ := f
      rw [hx] at h
      cases h
      rw [hp.2.2 _ _ ha hx hk]
      rfl
    | inr f =>
      obtain ⟨x, a1⟩ := f
      rw [hx] at h
      obtain ⟨e1, e2⟩ := hp.2.1 _ _ _ ha hx
      rcases Nat.lt_or_ge n a1 with hlt | hge
      · rw [e2 hlt]; rfl
      · rw [e1 hge]
        exact (hq x).2.2 _ _ hge h hk
/-- At the cut: it is not whole, or it says that nothing more comes. -/
def End {α : Type} (l' : List UInt8) (n : Nat) (p : List UInt8 → Nat → PR α) : Prop := Out n (p l' n)
theorem c_bind {α β : Type} {p : List UInt8 → Nat → PR α} {q : α → List UInt8 → Nat → PR β} (hp : Cut l l' n p) (hq : ∀ v, Cut l l' n (q v)) (he : ∀ v, End l' n (q v)) : Cut l l' n fun l a => (p l a).bind fun v a' => q v l a' := by
  have out : ∀ x : PR α, Out n x → Out n (x.bind fun v a' => q v l' a') := by
    rintro x (rfl | ⟨v, rfl⟩)
    · exact .inl rfl
    · exact he v
  refine ⟨fun a v a' h => ?_, fun a v a' ha h => ?_, fun a k ha h hk => ?_⟩
  · obtain ⟨x, a1, h1, h2⟩ := bind_get h
    have := hp.1 _ _ _ h1
    have := (hq x).1 _ _ _ h2
    omega
  · obtain ⟨x, a1, h1, h2⟩ := bind_get h
    obtain ⟨e1, e2⟩ := hp.2.1 _ _ _ ha h1
    have hm := (hq x).1 _ _ _ h2
    rcases Nat.lt_or_ge n a1 with hlt | hge
    · exact ⟨fun hn => by omega, fun _ => out _ (e2 hlt)⟩
    · obtain ⟨e3, e4⟩ := (hq x).2.1 _ _ _ hge h2
      refine ⟨fun hn => ?_, fun hn => ?_⟩
      · simp only
        rw [e1 hge]
        exact e3 hn
      · simp only
        rw [e1 hge]
        exact e4 hn
  · simp only at h ⊢
    cases hx : p l a with
    | inl f =>
      obtain ⟨k1, e1⟩ := f
      rw [hx] at h
      cases h
      exact out _ (hp.2.2 _ _ ha hx hk)
    | inr f =>
      obtain ⟨x, a1⟩ := f
      rw [hx] at h
      obtain ⟨e1, e2⟩ := hp.2.1 _ _ _ ha hx
      rcases Nat.lt_or_ge n a1 with hlt | hge
      · exact out _ (e2 hlt)
      · rw [e1 hge]
        exact (hq x).2.2 _ _ hge h hk
theorem c_sbind {α β : Type} {p : List UInt8 → Nat → PR α} {q : α → List UInt8 → Nat → PR β} (hp : Solid l l' n p) (hq : ∀ v, Cut l l' n (q v)) : Cut l l' n fun l a => (p l a).bind fun v a' => q v l a' := by
  refine ⟨fun a v a' h => ?_, fun a v a' ha h => ?_, fun a k ha h hk => ?_⟩
  · obtain ⟨x, a1, h1, h2⟩ := bind_get h
    have := hp.1 _ _ _ h1
    have := (hq x).1 _ _ _ h2
    omega
  · obtain ⟨x, a1, h1, h2⟩ := bind_get h
    obtain ⟨e1, e2⟩ := hp.2.1 _ _ _ ha h1
    have hm := (hq x).1 _ _ _ h2
    rcases Nat.lt_or_ge n a1 with hlt | hge
    · refine ⟨fun hn => by omega, fun _ => .inl ?_⟩
      simp only
      rw [e2 hlt]
      rfl
    · obtain ⟨e3, e4⟩ := (hq x).2.1 _ _ _ hge h2
      refine ⟨fun hn => ?_, fun hn => ?_⟩
      · simp only
        rw [e1 hge]
        exact e3 hn
      · simp only
        rw [e1 hge]
        exact e4 hn
  · simp only at h ⊢
    cases hx : p l a with
    | inl f =>
      obtain ⟨k1, e1⟩ := f
      rw [hx] at h
      cases h
      rw [hp.2.2 _ _ ha hx hk]
      exact .inl rfl
    | inr f =>
      obtain ⟨x, a1⟩ := f
      rw [hx] at h
      obtain ⟨e1, e2⟩ := hp.2.1 _ _ _ ha hx
      rcases Nat.lt_or_ge n a1 with hlt | hge
      · rw [e2 hlt]; exact .inl rfl
      · rw [e1 hge]
        exact (hq x).2.2 _ _ hge h hk
theorem c_next {α : Type} (hc : Cutoff l l' n) (b : Nat) {p q : List UInt8 → Nat → PR α} (hp : Cut l l' n p) (hq : Cut l l' n q) (he : End l' n q) : Cut l l' n fun l a => if pHas l a b then p l (a + 1) else q l a := by
  refine ⟨fun a v a' h => ?_, fun a v a' ha h => ?_, fun a k ha h hk => ?_⟩
  · simp only at h
    split at h
    · have := hp.1 _ _ _ h; omega
    · exact hq.1 _ _ _ h
  · simp only at h ⊢
    rcases Nat.lt_or_ge a n with hlt | hge
    · rw [hc.has hlt]
      split at h
      · rename_i hh; rw [if_pos hh]; exact hp.2.1 _ _ _ (by omega) h
      · rename_i hh; rw [if_neg hh]; exact hq.2.1 _ _ _ (by omega) h
    · have : a = n := by omega
      subst this
      rw [hc.hasE]
      simp only [Bool.false_eq_true, if_false]
      split at h
      · have := hp.1 _ _ _ h
        exact ⟨fun hn => by omega, fun _ => he⟩
      · exact hq.2.1 _ _ _ (Nat.le_refl _) h
  · simp only at h ⊢
    rcases Nat.lt_or_ge a n with hlt | hge
    · rw [hc.has hlt]
      split at h
      · rename_i hh; rw [if_pos hh]; exact hp.2.2 _ _ (by omega) h hk
      · rename_i hh; rw [if_neg hh]; exact hq.2.2 _ _ (by omega) h hk
    · have : a = n := by omega
      subst this
      rw [hc.hasE]
      simp only [Bool.false_eq_true, if_false]
      exact he
theorem c_peek {α : Type} (hc : Cutoff l l' n) (c : Nat → Prop) [DecidablePred c] (h0 : ¬ c 0) {p q : List UInt8 → Nat → PR α} (hs : ∀ a v a', p l a = .inr (v, a') → a < a') (hp : Cut l l' n p) (hq : Cut l l' n q) (he : End l' n q) : Cut l l' n fun l a => if c (peekB l a) then p l a else q l a := by
  refine ⟨fun a v a' h => ?_, fun a v a' ha h => ?_, fun a k ha h hk => ?_⟩
  · simp only at h
    split at h
    · exact hp.1 _ _ _ h
    · exact hq.1 _ _ _ h
  · simp only at h ⊢
    rcases Nat.lt_or_ge a n with hlt | hge
    · rw [hc.peek hlt]
      split at h
      · rename_i hh; rw [if_pos hh]; exact hp.2.1 _ _ _ (by omega) h
      · rename_i hh; rw [if_neg hh]; exact hq.2.1 _ _ _ (by omega) h
    · have : a = n := by omega
      subst this
      rw [hc.peekE, if_neg h0]
      split at h
      · have := hp.1 _ _ _ h
        refine ⟨fun hn => ?_, fun _ => he⟩
        have := hs _ _ _ h
        omega
      · exact hq.2.1 _ _ _ (Nat.le_refl _) h
  · simp only at h ⊢
    rcases Nat.lt_or_ge a n with hlt | hge
    · rw [hc.peek hlt]
      split at h
      · rename_i hh; rw [if_pos hh]; exact hp.2.2 _ _ (by omega) h hk
      · rename_i hh; rw [if_neg hh]; exact hq.2.2 _ _ (by omega) h hk
    · have : a = n := by omega
      subst this
      rw [hc.peekE, if_neg h0]
      exact he
theorem one_end (hc : Cutoff l l' n) (lo hi : Nat) : pOne l' n lo hi = .inl (n, 20) := by unfold pOne; rw [hc.end_]
theorem e_one {α : Type} (hc : Cutoff l l' n) (lo hi : Nat) (q : Nat → List UInt8 → Nat → PR α) : End l' n fun l a => (pOne l a lo hi).bind fun v a' => q v l a' := by
  refine .inl ?_
  simp only
  rw [one_end hc]
  rfl
theorem e_ret {α : Type} (v : α) : End l' n fun _ a => .inr (v, a) := .inr ⟨v, rfl⟩
theorem s_word (hc : Cutoff l l' n) : ∀ w : List UInt8, Solid l l' n fun l a => pWord l w a
  | [] => s_ret ()
  | b :: w => by
    have h := s_bind (s_one hc b.toNat b.toNat) (fun _ => s_word hc w)
    have e : (fun l a => pWord l (b :: w) a) = fun l a => (pOne l a b.toNat b.toNat).bind fun _ a' => pWord l w a' := by
      funext l a
      rw [pWord_bind]
    rw [e]
    exact h
theorem word_end (hc : Cutoff l l' n) (b : UInt8) (w : List UInt8) : pWord l' (b :: w) n = .inl (n, 20) := by
  rw [pWord_bind, one_end hc]
  rfl
theorem e_word {α : Type} (hc : Cutoff l l' n) (b : UInt8) (w : List UInt8) (q : Unit → List UInt8 → Nat → PR α) : End l' n fun l a => (pWord l (b :: w) a).bind fun v a' => q v l a' := by
  refine .inl ?_
  simp only
  rw [word_end hc]
  rfl
theorem dig_cut (hc : Cutoff l l' n) : ∀ f n0 a : Nat, a ≤ n → ((pDig l f n0 a).2 ≤ n → pDig l' f n0 a = pDig l f n0 a) ∧ (n < (pDig l f n0 a).2 → (pDig l' f n0 a).2 = n)
  | 0, n0, a, ha => ⟨fun _ => by first | rfl | trivial, fun hn => by simp only [pDig] at hn; omega⟩
  | f + 1, n0, a, ha => by
    simp only [pDig]
    by_cases h0 : 0 < n0
    · rw [if_pos h0, if_pos h0]
      rcases Nat.lt_or_ge a n with hlt | hge
      · rw [hc.get a hlt]
        cases hx : l[a]? with
        | none => exact ⟨fun _ => by first | rfl | trivial, fun hn => by first | omega | (simp only at hn; omega)⟩
        | some b =>
          simp only
          split
          · exact dig_cut hc f _ (a + 1) (by omega)
          · exact ⟨fun _ => by first | rfl | trivial, fun hn => by first | omega | (simp only at hn; omega)⟩
      · have : a = n := by omega
        subst this
        rw [hc.end_]
        simp only
        cases hx : l[a]? with
        | none => exact ⟨fun _ => by first | rfl | trivial, fun _ => by first | rfl | trivial⟩
        | some b =>
          simp only
          split
          · exact ⟨fun hn => by have := (dig_ge l f (10 * n0 + (b.toNat - 48)) (a + 1)).2; omega, fun _ => by first | rfl | trivial⟩
          · exact ⟨fun _ => by first | rfl | trivial, fun _ => by first | rfl | trivial⟩
    · rw [if_neg h0, if_neg h0]
      exact ⟨fun _ => by first | rfl | trivial, fun hn => by first | omega | (simp only at hn; omega)⟩
theorem c_dig (hc : Cutoff l l' n) (f n0 : Nat) : Cut l l' n fun l a => .inr (pDig l f n0 a) := by
  refine ⟨fun a v a' h => ?_, fun a v a' ha h => ?_, fun a k ha h => ?_⟩
  · have := (dig_ge l f n0 a).2
    simp only [Sum.inr.injEq] at h
    rw [h] at this
    exact this
  · obtain ⟨e1, e2⟩ := dig_cut hc f n0 a ha
    simp only [Sum.inr.injEq] at h
    rw [h] at e1 e2
    refine ⟨fun hn => by simp only; rw [e1 hn], fun hn => .inr ⟨(pDig l' f n0 a).1, ?_⟩⟩
    have := e2 hn
    simp only
    rw [← this]
  · cases h
theorem c_num (hc : Cutoff l l' n) (least : Nat) : Cut l l' n fun l a => pNum l a least := by
  have e : (fun l a => pNum l a least) = fun l a => (pOne l a least 57).bind fun b a' => .inr (pDig l 8 (b - 48) a') := by
    funext l a
    rw [pNum_bind]
  rw [e]
  exact c_sbind (s_one hc least 57) fun b => c_dig hc 8 (b - 48)
theorem num_end (hc : Cutoff l l' n) (least : Nat) : pNum l' n least = .inl (n, 20) := by
  rw [pNum_bind, one_end hc]
  rfl
theorem e_num {α : Type} (hc : Cutoff l l' n) (least : Nat) (q : Nat → List UInt8 → Nat → PR α) : End l' n fun l a => (pNum l a least).bind fun v a' => q v l a' := by
  refine .inl ?_
  simp only
  rw [num_end hc]
  rfl
theorem c_ret {α : Type} (v : α) : Cut l l' n fun _ a => .inr (v, a) := (s_ret v).cut
theorem c_w (hc : Cutoff l l' n) (v : Nat) : Cut l l' n fun l a => (match pWord l [61] a with | .inl f => (.inl f : PR Nat) | .inr (_, a') => .inr (v, a')) := by
  have e : (fun (l : List UInt8) (a : Nat) => (match pWord l [61] a with | .inl f => (.inl f : PR Nat) | .inr (_, a') => .inr (v, a'))) = fun l a => (pWord l [61] a).bind fun _ a' => .inr (v, a') := by
    funext l a
    cases pWord l [61] a <;> rfl
  rw [e]
  exact c_sbind (s_word hc [61]) fun _ => c_ret v
theorem e_w (hc : Cutoff l l' n) (v : Nat) : End l' n fun l a => (match pWord l [61] a with | .inl f => (.inl f : PR Nat) | .inr (_, a') => .inr (v, a')) := by
  refine .inl ?_
  simp only
  rw [word_end hc]
theorem e_next {α : Type} (hc : Cutoff l l' n) (b : Nat) {p q : List UInt8 → Nat → PR α} (he : End l' n q) : End l' n fun l a => if pHas l a b then p l (a + 1) else q l a := by
  unfold End
  simp only
  rw [hc.hasE]
  exact he
theorem c_op (hc : Cutoff l l' n) : Cut l l' n fun l a => pOp l a :=
  c_next hc 60 (c_next hc 61 (c_ret 1) (c_ret 0) (e_ret 0)) (c_next hc 62 (c_next hc 61 (c_ret 4) (c_ret 5) (e_ret 5)) (c_next hc 33 (c_w hc 3) (c_w hc 2) (e_w hc 2)) (e_next hc 33 (p := fun l a => (match pWord l [61] a with | .inl f => (.inl f : PR Nat) | .inr (_, a') => .inr (3, a'))) (e_w hc 2))) (e_next hc 62 (p := fun l a => if pHas l a 61 then .inr (4, a + 1) else .inr (5, a)) (e_next hc 33 (p := fun l a => (match pWord l [61] a with | .inl f => (.inl f : PR Nat) | .inr (_, a') => .inr (3, a'))) (e_w hc 2)))
theorem num_lt {l : List UInt8} {a least v a' : Nat} (h : pNum l a least = .inr (v, a')) : a < a' := by
  rw [pNum_bind] at h
  obtain ⟨b, a1, h1, h2⟩ := bind_get h
  have := (one_lt h1).2
  have hd := (dig_ge l 8 (b - 48) a1).2
  simp only [Sum.inr.injEq] at h2
  rw [h2] at hd
  simp only at hd
  omega
theorem c_tl2 (hc : Cutoff l l' n) (x o r : Nat) : Cut l l' n fun l a => pTl2 l x o r a :=
  c_next hc 43 (p := fun l a => (pNum l a 49).bind fun k a5 => .inr ((⟨x, o, r, k⟩ : Cnd), a5)) (c_bind (c_num hc 49) (fun k => c_ret (⟨x, o, r, k⟩ : Cnd)) fun _ => e_ret _)
    (c_next hc 45 (p := fun l a => (pNum l a 49).bind fun k a5 => .inr ((⟨x, o, r, -(k : Int)⟩ : Cnd), a5)) (c_bind (c_num hc 49) (fun k => c_ret (⟨x, o, r, -(k : Int)⟩ : Cnd)) fun _ => e_ret _) (c_ret (⟨x, o, r, 0⟩ : Cnd)) (e_ret _))
    (e_next hc 45 (p := fun l a => (pNum l a 49).bind fun k a5 => .inr ((⟨x, o, r, -(k : Int)⟩ : Cnd), a5)) (e_ret (⟨x, o, r, 0⟩ : Cnd)))
theorem e_tl2 (hc : Cutoff l l' n) (x o r : Nat) : End l' n fun l a => pTl2 l x o r a :=
  e_next hc 43 (p := fun l a => (pNum l a 49).bind fun k a5 => .inr ((⟨x, o, r, k⟩ : Cnd), a5)) (e_next hc 45 (p := fun l a => (pNum l a 49).bind fun k a5 => .inr ((⟨x, o, r, -(k : Int)⟩ : Cnd), a5)) (e_ret (⟨x, o, r, 0⟩ : Cnd)))
/-- A number one byte on. -/
theorem c_num1 {α : Type} (hc : Cutoff l l' n) (f : Nat → α) : ∀ a v a', a < n → ((pNum l (a + 1) 49).bind fun k a3 => .inr (f k, a3)) = .inr (v, a') → (a' ≤ n → ((pNum l' (a + 1) 49).bind fun k a3 => .inr (f k, a3)) = .inr (v, a')) ∧ (n < a' → Out n ((pNum l' (a + 1) 49).bind fun k a3 => .inr (f k, a3))) := fun a v a' ha h =>
  (c_bind (c_num hc 49) (fun k => c_ret (f k)) fun _ => e_ret _).2.1 (a + 1) v a' (by omega) h
theorem c_tl (hc : Cutoff l l' n) (x o : Nat) : Cut l l' n fun l a => pTl l x o a := by
  have cA : Cut l l' n fun l a => (pNum l a 49).bind fun k a3 => .inr ((⟨x, o, 0, -(k : Int)⟩ : Cnd), a3) := c_bind (c_num hc 49) (fun _ => c_ret _) fun _ => e_ret _
  have cB : Cut l l' n fun l a => (pNum l a 48).bind fun k a3 => .inr ((⟨x, o, 0, k⟩ : Cnd), a3) := c_bind (c_num hc 48) (fun _ => c_ret _) fun _ => e_ret _
  have cC : Cut l l' n fun l a => (pOne l a 97 122).bind fun r a3 => pTl2 l x o r a3 := c_sbind (s_one hc 97 122) fun r => c_tl2 hc x o r
  have eC : End l' n fun l a => (pOne l a 97 122).bind fun r a3 => pTl2 l x o r a3 := e_one hc 97 122 fun r l a3 => pTl2 l x o r a3
  have sB : ∀ a v a', ((pNum l a 48).bind fun k a3 => .inr ((⟨x, o, 0, k⟩ : Cnd), a3)) = .inr (v, a') → a < a' := by
    intro a v a' h
    obtain ⟨k, a1, h1, h2⟩ := bind_get h
    have := num_lt h1
    cases h2
    exact this
  have cD := c_peek hc (fun c => 48 ≤ c ∧ c ≤ 57) (by omega) sB cB cC eC
  have eD : End l' n fun l a => if 48 ≤ peekB l a ∧ peekB l a ≤ 57 then (pNum l a 48).bind fun k a3 => .inr ((⟨x, o, 0, k⟩ : Cnd), a3) else (pOne l a 97 122).bind fun r a3 => pTl2 l x o r a3 := by
    unfold End
    simp only
    rw [hc.peekE, if_neg (by omega)]
    exact eC
  -- the sign's branch: where it is taken the byte is there
  refine ⟨fun a v a' h => ?_, fun a v a' ha h => ?_, fun a k ha h hk => ?_⟩
  · simp only [pTl] at h
    split at h
    · have := cA.1 _ _ _ h; omega
    · exact cD.1 _ _ _ h
  · simp only [pTl] at h ⊢
    rcases Nat.lt_or_ge a n with hlt | hge
    · rw [hc.peek hlt]
      split at h
      · rename_i hh; rw [if_pos hh]; exact cA.2.1 _ _ _ (by omega) h
      · rename_i hh; rw [if_neg hh]; have := cD.2.1 _ _ _ ha h; simp only at this; rw [hc.peek hlt] at this; exact this
    · have : a = n := by omega
      subst this
      rw [hc.peekE, if_neg (by omega)]
      split at h
      · have := cA.1 _ _ _ h
        refine ⟨fun hn => by omega, fun _ => ?_⟩
        have := eD
        unfold End at this
        simp only at this
        rw [hc.peekE] at this
        exact this
      · have := cD.2.1 _ _ _ ha h
        simp only at this
        rw [hc.peekE] at this
        exact this
  · simp only [pTl] at h ⊢
    rcases Nat.lt_or_ge a n with hlt | hge
    · rw [hc.peek hlt]
      split at h
      · rename_i hh; rw [if_pos hh]; exact cA.2.2 _ _ (by omega) h hk
      · rename_i hh; rw [if_neg hh]; have := cD.2.2 _ _ ha h hk; simp only at this; rw [hc.peek hlt] at this; exact this
    · have : a = n := by omega
      subst this
      rw [hc.peekE, if_neg (by omega)]
      have := eD
      unfold End at this
      simp only at this
      rw [hc.peekE] at this
      exact this
theorem e_tl (hc : Cutoff l l' n) (x o : Nat) : End l' n fun l a => pTl l x o a := by
  unfold End
  simp only [pTl]
  rw [hc.peekE, if_neg (by omega), if_neg (by omega)]
  exact e_one hc 97 122 fun r l a3 => pTl2 l x o r a3
theorem c_cond (hc : Cutoff l l' n) (m : Nat) : Cut l l' n fun l a => pCond l a m := by
  by_cases hm : m = 16
  · subst hm
    refine ⟨fun a v a' h => ?_, fun a v a' ha h => ?_, fun a k ha h hk => ?_⟩
    · have := pCond_lt h (by omega); omega
    · have := pCond_lt h (by omega); omega
    · simp only [pCond, if_true] at h ⊢
      cases hx : pOne l a 97 122 with
      | inl f =>
        obtain ⟨k1, e1⟩ := f
        rw [hx] at h
        cases h
        rw [show pOne l' a 97 122 = .inl (n, 20) from (s_one hc 97 122).2.2 _ _ ha hx hk]
        exact .inl rfl
      | inr f => rw [hx] at h; cases h
  · have e : (fun l a => pCond l a m) = fun l a => (pOne l a 97 122).bind fun x a1 => (pOp l a1).bind fun o a2 => pTl l x o a2 := by
      funext l a
      rw [pCond_tl _ _ _ hm]
    rw [e]
    exact c_sbind (s_one hc 97 122) fun x => c_bind (c_op hc) (fun o => c_tl hc x o) fun o => e_tl hc x o
theorem s_st3 (a3 k nm lo hi : Nat) : Solid l l' n fun _ a => pSt3 a3 k nm lo hi a := by
  unfold pSt3
  split
  · refine ⟨fun a v a' h => ?_, fun a v a' ha h => ?_, fun a k ha h => ?_⟩ <;> cases h
  · exact s_ret _
theorem c_st2 (hc : Cutoff l l' n) (a3 k nm : Nat) : Cut l l' n fun l a => pSt2 l a3 k nm a :=
  c_bind (c_num hc 48) (fun lo => c_sbind (s_one hc 44 44) fun _ => c_bind (c_num hc 48) (fun hi => (s_bind (s_one hc 125 125) fun _ => s_st3 a3 k nm lo hi).cut) fun hi => e_one hc 125 125 fun _ _ a7 => pSt3 a3 k nm lo hi a7) fun lo => e_one hc 44 44 fun _ l a5 => (pNum l a5 48).bind fun hi a6 => (pOne l a6 125 125).bind fun _ a7 => pSt3 a3 k nm lo hi a7
theorem c_st1 (hc : Cutoff l l' n) (k : Nat) (neg : Bool) (nm : Nat) : Cut l l' n fun l a => pSt1 l k neg nm a := by
  have eo : Out n (pSt1 l' k neg nm n) := by
    unfold pSt1
    rw [hc.hasE]
    exact .inr ⟨_, rfl⟩
  refine ⟨fun a v a' h => ?_, fun a v a' ha h => ?_, fun a k' ha h hk => ?_⟩
  · simp only [pSt1] at h
    split at h
    · split at h
      · cases h
      · have := (c_st2 hc a k nm).1 _ _ _ h; omega
    · cases h; exact Nat.le_refl _
  · rcases Nat.lt_or_ge a n with hlt | hge
    · simp only [pSt1] at h ⊢
      rw [hc.has hlt]
      split at h
      · rename_i hh
        rw [if_pos hh]
        split at h
        · cases h
        · rename_i hg
          rw [if_neg hg]
          exact (c_st2 hc a k nm).2.1 _ _ _ (by omega) h
      · rename_i hh
        rw [if_neg hh]
        cases h
        exact ⟨fun _ => rfl, fun hn => by omega⟩
    · have : a = n := by omega
      subst this
      refine ⟨fun hn => ?_, fun _ => eo⟩
      simp only [pSt1] at h ⊢
      rw [hc.hasE]
      split at h
      · split at h
        · cases h
        · have := (c_st2 hc a k nm).1 _ _ _ h; omega
      · exact h
  · rcases Nat.lt_or_ge a n with hlt | hge
    · simp only [pSt1] at h ⊢
      rw [hc.has hlt]
      split at h
      · rename_i hh
        rw [if_pos hh]
        split at h
        · cases h
        · rename_i hg
          rw [if_neg hg]
          exact (c_st2 hc a k nm).2.2 _ _ (by omega) h hk
      · cases h
    · have : a = n := by omega
      subst this
      exact eo
theorem e_st1 (hc : Cutoff l l' n) (k : Nat) (neg : Bool) (nm : Nat) : End l' n fun l a => pSt1 l k neg nm a := by
  unfold End
  simp only [pSt1]
  rw [hc.hasE]
  exact .inr ⟨_, rfl⟩
theorem c_st (hc : Cutoff l l' n) (k : Nat) (neg : Bool) : Cut l l' n fun l a => pSt l k neg a :=
  c_sbind (s_one hc 32 32) fun _ => c_sbind (s_one hc 97 122) fun nm => c_st1 hc k neg nm
theorem c_has (hc : Cutoff l l' n) (b : Nat) : Cut l l' n fun l a => pHasR l a b := by
  have h := c_next hc b (c_ret true) (c_ret false) (e_ret (l' := l') (n := n) false)
  have e : (fun (l : List UInt8) (a : Nat) => pHasR l a b) = fun l a => if pHas l a b then .inr (true, a + 1) else .inr (false, a) := by
    funext l a
    unfold pHasR
    split <;> rfl
  rw [e]
  exact h
theorem c_step (hc : Cutoff l l' n) (m : Nat) : Cut l l' n fun l a => pStep l a m := by
  by_cases hm : m = 8
  · subst hm
    refine ⟨fun a v a' h => ?_, fun a v a' ha h => ?_, fun a k ha h hk => ?_⟩
    · have := pStep_lt h (by omega); omega
    · have := pStep_lt h (by omega); omega
    · simp only [pStep, if_true] at h ⊢
      split at h
      · cases h
      · rename_i hh
        cases hx : pOne l a 65 90 with
        | inl f =>
          obtain ⟨k1, e1⟩ := f
          rw [hx] at h
          cases h
          have e2 : pOne l' a 65 90 = .inl (n, 20) := (s_one hc 65 90).2.2 _ _ ha hx hk
          have e3 : ¬ pHas l' a 33 = true := by
            rcases Nat.lt_or_ge a n with hlt | hge
            · rw [hc.has hlt]; exact hh
            · have : a = n := by omega
              subst this
              rw [hc.hasE]
              simp
          rw [if_neg e3, e2]
          exact .inl rfl
        | inr f => rw [hx] at h; cases h
  · have e : (fun l a => pStep l a m) = fun l a => (pHasR l a 33).bind fun neg a0 => (pOne l a0 65 90).bind fun k a1 => pSt l k neg a1 := by
      funext l a
      rw [pStep_tl _ _ _ hm]
    rw [e]
    exact c_bind (c_has hc 33) (fun neg => c_sbind (s_one hc 65 90) fun k => c_st hc k neg) fun neg => e_one hc 65 90 fun k l a1 => pSt l k neg a1
theorem c_steps (hc : Cutoff l l' n) : ∀ (f : Nat) (ss : List Stp), Cut l l' n (fun l a => pSteps l f a ss) ∧ End l' n (fun l a => pSteps l f a ss)
  | 0, ss => ⟨c_ret ss, e_ret ss⟩
  | f + 1, ss => ⟨c_next hc 44 (p := fun l a => (pStep l a ss.length).bind fun x a' => pSteps l f a' (ss ++ [x])) (c_bind (c_step hc ss.length) (fun x => (c_steps hc f (ss ++ [x])).1) fun x => (c_steps hc f (ss ++ [x])).2) (c_ret ss) (e_ret ss),
      e_next hc 44 (p := fun l a => (pStep l a ss.length).bind fun x a' => pSteps l f a' (ss ++ [x])) (e_ret ss)⟩
theorem c_conds (hc : Cutoff l l' n) : ∀ (f : Nat) (cs : List Cnd), Cut l l' n (fun l a => pConds l f a cs) ∧ End l' n (fun l a => pConds l f a cs)
  | 0, cs => ⟨c_ret cs, e_ret cs⟩
  | f + 1, cs => ⟨c_next hc 65 (p := fun l a => (pWord l [78, 68, 32] a).bind fun _ a1 => (pCond l a1 cs.length).bind fun x a2 => (pWord l [32] a2).bind fun _ a3 => pConds l f a3 (cs ++ [x]))
        (c_sbind (s_word hc [78, 68, 32]) fun _ => c_bind (c_cond hc cs.length) (fun x => c_sbind (s_word hc [32]) fun _ => (c_conds hc f (cs ++ [x])).1) fun x => e_word hc 32 [] fun _ l a3 => pConds l f a3 (cs ++ [x])) (c_ret cs) (e_ret cs),
      e_next hc 65 (p := fun l a => (pWord l [78, 68, 32] a).bind fun _ a1 => (pCond l a1 cs.length).bind fun x a2 => (pWord l [32] a2).bind fun _ a3 => pConds l f a3 (cs ++ [x])) (e_ret cs)⟩
theorem c_wh (hc : Cutoff l l' n) : Cut l l' n (fun l a => pWh l a) ∧ End l' n (fun l a => pWh l a) := by
  have hA : Cut l l' n fun l a => (pWord l [69, 82, 69, 32] a).bind fun _ a4 => (pCond l a4 0).bind fun x a5 => (pWord l [32] a5).bind fun _ a6 => (pConds l 16 a6 [x]).bind fun cs a7 => (pWord l [87] a7).bind fun _ a8 => .inr (cs, a8) :=
    c_sbind (s_word hc [69, 82, 69, 32]) fun _ => c_bind (c_cond hc 0) (fun x => c_sbind (s_word hc [32]) fun _ => c_bind (c_conds hc 16 [x]).1 (fun cs => c_sbind (s_word hc [87]) fun _ => c_ret cs) fun cs => e_word hc 87 [] fun _ _ a8 => .inr (cs, a8))
      fun x => e_word hc 32 [] fun _ l a6 => (pConds l 16 a6 [x]).bind fun cs a7 => (pWord l [87] a7).bind fun _ a8 => .inr (cs, a8)
  exact ⟨c_next hc 72 hA (c_ret []) (e_ret []), e_next hc 72 (p := fun l a => (pWord l [69, 82, 69, 32] a).bind fun _ a4 => (pCond l a4 0).bind fun x a5 => (pWord l [32] a5).bind fun _ a6 => (pConds l 16 a6 [x]).bind fun cs a7 => (pWord l [87] a7).bind fun _ a8 => .inr (cs, a8)) (e_ret [])⟩
theorem c_head (hc : Cutoff l l' n) : Cut l l' n fun l a => pHead l a :=
  c_sbind (s_word hc [83, 69, 81, 40]) fun _ => c_bind (c_step hc 0) (fun x => c_bind (c_steps hc 8 [x]).1 (fun ss => c_sbind (s_word hc [41, 32, 87]) fun _ => c_bind (c_wh hc).1 (fun cs => c_sbind (s_word hc [73, 84, 72, 73, 78, 32]) fun _ => c_ret (ss, cs))
      fun cs => e_word hc 73 [84, 72, 73, 78, 32] fun _ _ a5 => .inr ((ss, cs), a5))
    fun ss => e_word hc 41 [32, 87] fun _ l a3 => (pWh l a3).bind fun cs a4 => (pWord l [73, 84, 72, 73, 78, 32] a4).bind fun _ a5 => .inr ((ss, cs), a5))
    fun x => by
      refine ?_
      have he := (c_steps hc 8 [x]).2
      unfold End at he ⊢
      simp only at he ⊢
      rcases he with he | ⟨v, he⟩
      · rw [he]; exact .inl rfl
      · rw [he]
        exact e_word hc 41 [32, 87] fun _ l a3 => (pWh l a3).bind fun cs a4 => (pWord l [73, 84, 72, 73, 78, 32] a4).bind fun _ a5 => .inr ((v, cs), a5)
theorem c_pat (hc : Cutoff l l' n) : Cut l l' n fun l a => (pHead l a).bind fun sc a => (pNum l a 48).bind fun k a2 => .inr ((⟨sc.1, sc.2, k⟩ : Ptn), a2) :=
  c_bind (c_head hc) (fun sc => c_bind (c_num hc 48) (fun k => c_ret (⟨sc.1, sc.2, k⟩ : Ptn)) fun _ => e_ret _) fun sc => e_num hc 48 fun k _ a2 => .inr ((⟨sc.1, sc.2, k⟩ : Ptn), a2)
end
/-- What is said of a text that is cut off where it is at fault, or ahead. -/
theorem parse_cut {l : List UInt8} {k : Nat} (h : pParse l = .inl (k, 20)) : k ≤ l.length ∧ ∀ n, n ≤ k → pParse (l.take n) = .inl (n, 20) ∨ ∃ p, pParse (l.take n) = .inr p := by
  unfold pParse at h
  split at h
  · cases h
  rename_i hlen
  have hk : pPat l = .inl (k, 20) ∨ ∃ p, pPat l = .inr (p, k) ∧ k < l.length := by
    cases hp : pPat l with
    | inl f => rw [hp] at h; simp only [Sum.inl.injEq] at h; rw [h]; exact .inl rfl
    | inr f =>
      obtain ⟨q, a⟩ := f
      rw [hp] at h
      simp only at h
      split at h
      · rename_i hlt; cases h; exact .inr ⟨q, rfl, hlt⟩
      · cases h
  have cut : ∀ n, n ≤ l.length → n ≤ k → Out n (pPat (l.take n)) := by
    intro n hn hnk
    have hc : Cutoff l (l.take n) n := ⟨hn, by rw [List.length_take]; omega, fun a ha => by rw [List.getElem?_take, if_pos ha]⟩
    have hcut := c_pat hc
    rw [pat_head] at hk ⊢
    rcases hk with hk | ⟨p, hk, _⟩
    · exact hcut.2.2 0 k (Nat.zero_le _) hk hnk
    · obtain ⟨e1, e2⟩ := hcut.2.1 0 p k (Nat.zero_le _) hk
      rcases Nat.lt_or_ge n k with hlt | hge
      · exact e2 hlt
      · have : n = k := by omega
        subst this
        exact .inr ⟨p, e1 (Nat.le_refl _)⟩
  have hkl : k ≤ l.length := by
    rcases hk with hk | ⟨p, _, hlt⟩
    · rcases Nat.lt_or_ge l.length k with hgt | hle
      · have := cut l.length (Nat.le_refl _) (by omega)
        rw [List.take_length, hk] at this
        rcases this with this | ⟨v, this⟩
        · cases this; omega
        · cases this
      · exact hle
    · omega
  refine ⟨hkl, fun n hn => ?_⟩
  have hl : (l.take n).length = n := by rw [List.length_take]; omega
  unfold pParse
  rw [hl, if_neg (by omega)]
  rcases cut n (by omega) hn with he | ⟨v, he⟩
  · rw [he]; exact .inl rfl
  · rw [he]
    simp only
    rw [if_neg (Nat.lt_irrefl n)]
    exact .inr ⟨v, rfl⟩
end Go.Proofs.Ytcfimponmioneaa.PP
