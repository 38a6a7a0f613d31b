/- Numbers' digits: two numbers of one text are one; lists of pieces behind one another, parted by a byte that is in none. Plain Lean; no program in sight. -/
import Derived.Lib.ItoaNum
import Derived.Lib.Join
namespace Go.Proofs.YtcojnojdgigmdaaDoor.DG
open Go

theorem split_at {c : UInt8} : ∀ {u v p q : List UInt8}, c ∉ u → c ∉ v → u ++ c :: p = v ++ c :: q → u = v ∧ p = q
  | [], [], p, q, _, _, h => by simpa using h
  | [], b :: v, p, q, _, hv, h => by
    simp only [List.nil_append, List.cons_append, List.cons.injEq] at h
    exact absurd (h.1 ▸ List.mem_cons_self ..) hv
  | a :: u, [], p, q, hu, _, h => by
    simp only [List.nil_append, List.cons_append, List.cons.injEq] at h
    exact absurd (h.1 ▸ List.mem_cons_self ..) hu
  | a :: u, b :: v, p, q, hu, hv, h => by
    simp only [List.cons_append, List.cons.injEq] at h
    obtain ⟨h1, h2⟩ := h
    obtain ⟨h3, h4⟩ := split_at (fun hm => hu (List.mem_cons_of_mem _ hm)) (fun hm => hv (List.mem_cons_of_mem _ hm)) h2
    exact ⟨by rw [h1, h3], h4⟩
theorem dec_mem : ∀ (N u : Nat), u ≤ N → ∀ b ∈ Lib.decDigits u, 48 ≤ b.toNat ∧ b.toNat ≤ 57
  | N, u, hN, b, hb => by
    rw [Lib.decDigits] at hb
    split at hb
    · rename_i hu
      simp only [List.mem_cons, List.not_mem_nil, or_false] at hb
      subst hb
      rw [UInt8.toNat_ofNat']
      omega
    · rename_i hu
      rcases List.mem_append.1 hb with hb | hb
      · match N with
        | 0 => omega
        | N + 1 => exact dec_mem N (u / 10) (by omega) b hb
      · simp only [List.mem_cons, List.not_mem_nil, or_false] at hb
        subst hb
        rw [UInt8.toNat_ofNat']
        omega
theorem itoa_mem {n : Int} {b : UInt8} (hb : b ∈ Lib.itoa n) : b = 45 ∨ (48 ≤ b.toNat ∧ b.toNat ≤ 57) := by
  unfold Lib.itoa at hb
  split at hb
  · rcases List.mem_cons.1 hb with hb | hb
    · exact .inl hb
    · exact .inr (dec_mem _ _ (Nat.le_refl _) b hb)
  · exact .inr (dec_mem _ _ (Nat.le_refl _) b hb)
theorem itoa_not {n : Int} {c : UInt8} (h1 : c ≠ 45) (h2 : c.toNat < 48 ∨ 57 < c.toNat) : c ∉ Lib.itoa n := by
  intro h
  rcases itoa_mem h with h | h
  · exact h1 h
  · omega
def valB (l : List UInt8) : Nat := l.foldl (fun n b => 10 * n + (b.toNat - 48)) 0
theorem dec_val : ∀ (N u : Nat), u ≤ N → valB (Lib.decDigits u) = u
  | N, u, hN => by
    rw [Lib.decDigits]
    split
    · rename_i hu
      simp [valB, UInt8.toNat_ofNat']
      omega
    · rename_i hu
      match N with
      | 0 => omega
      | N + 1 =>
        have ih := dec_val N (u / 10) (by omega)
        unfold valB at ih ⊢
        rw [List.foldl_append, ih]
        simp [UInt8.toNat_ofNat']
        omega
theorem dec_ne (u : Nat) : Lib.decDigits u ≠ [] := by
  rw [Lib.decDigits]
  split <;> simp
theorem itoa_inj {a b : Int} (h : Lib.itoa a = Lib.itoa b) : a = b := by
  have neg : ∀ {x y : Int}, x < 0 → ¬ y < 0 → Lib.itoa x ≠ Lib.itoa y := by
    intro x y hx hy e
    unfold Lib.itoa at e
    rw [if_pos hx, if_neg hy] at e
    have := dec_mem _ _ (Nat.le_refl _) 45 (e ▸ List.mem_cons_self ..)
    exact absurd this.1 (by decide)
  by_cases ha : a < 0
  · by_cases hb : b < 0
    · unfold Lib.itoa at h
      rw [if_pos ha, if_pos hb] at h
      injection h with _ h
      have h1 := dec_val _ _ (Nat.le_refl a.natAbs)
      have h2 := dec_val _ _ (Nat.le_refl b.natAbs)
      rw [h] at h1
      omega
    · exact absurd h (neg ha hb)
  · by_cases hb : b < 0
    · exact absurd h.symm (neg hb ha)
    · unfold Lib.itoa at h
      rw [if_neg ha, if_neg hb] at h
      have h1 := dec_val _ _ (Nat.le_refl a.toNat)
      have h2 := dec_val _ _ (Nat.le_refl b.toNat)
      rw [h] at h1
      omega
theorem join_two (x y : List UInt8) (r : List (List UInt8)) (c : UInt8) : Lib.join (x :: y :: r) [c] = x ++ c :: Lib.join (y :: r) [c] := by
  rw [Lib.join_cons, Lib.join_cons]
  simp [Lib.joinTail]
theorem join_inj {c : UInt8} : ∀ {xs ys : List (List UInt8)}, (∀ x ∈ xs, c ∉ x) → (∀ y ∈ ys, c ∉ y) → xs ≠ [] → ys ≠ [] → Lib.join xs [c] = Lib.join ys [c] → xs = ys
  | [], _, _, _, h, _, _ => absurd rfl h
  | _ :: _, [], _, _, _, h, _ => absurd rfl h
  | [x], [y], _, _, _, _, h => by rw [Lib.join_one, Lib.join_one] at h; rw [h]
  | [x], y :: y' :: s, hx, _, _, _, h => by
    rw [Lib.join_one, join_two] at h
    exact absurd (show c ∈ x by rw [h]; simp) (hx x (by simp))
  | x :: x' :: r, [y], _, hy, _, _, h => by
    rw [Lib.join_one, join_two] at h
    exact absurd (show c ∈ y by rw [← h]; simp) (hy y (by simp))
  | x :: x' :: r, y :: y' :: s, hx, hy, _, _, h => by
    rw [join_two, join_two] at h
    obtain ⟨h1, h2⟩ := split_at (hx x (by simp)) (hy y (by simp)) h
    have := join_inj (xs := x' :: r) (ys := y' :: s) (fun z hz => hx z (List.mem_cons_of_mem _ hz)) (fun z hz => hy z (List.mem_cons_of_mem _ hz)) (by simp) (by simp) h2
    rw [h1, this]
theorem join_mem {c b : UInt8} : ∀ {xs : List (List UInt8)}, b ∈ Lib.join xs [c] → b = c ∨ ∃ x ∈ xs, b ∈ x
  | [], h => by simp [Lib.join_nil] at h
  | [x], h => by rw [Lib.join_one] at h; exact .inr ⟨x, by simp, h⟩
  | x :: y :: r, h => by
    rw [join_two] at h
    rcases List.mem_append.1 h with h | h
    · exact .inr ⟨x, by simp, h⟩
    · rcases List.mem_cons.1 h with h | h
      · exact .inl h
      · rcases join_mem h with h | ⟨z, hz, h⟩
        · exact .inl h
        · exact .inr ⟨z, List.mem_cons_of_mem _ hz, h⟩
theorem map_inj' {α β : Type} {f : α → β} (hf : ∀ a b, f a = f b → a = b) : ∀ {x y : List α}, x.map f = y.map f → x = y
  | [], [], _ => rfl
  | [], _ :: _, h => by cases h
  | _ :: _, [], h => by cases h
  | a :: x, b :: y, h => by
    simp only [List.map_cons, List.cons.injEq] at h
    rw [hf a b h.1, map_inj' hf h.2]
end Go.Proofs.YtcojnojdgigmdaaDoor.DG
