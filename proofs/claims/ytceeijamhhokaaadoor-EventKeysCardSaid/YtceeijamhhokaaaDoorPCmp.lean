/- The order of parts (layer 2) in plain Lean; keys stand in that order. No program in sight. -/
import Derived.Test.YtceeijamhhokaaaDoorPKey
import Derived.Lib.Bytealg
namespace Go.Proofs.YtceeijamhhokaaaDoor.PK
open Go

/-- The order of two numbers, of two parts, of two lists of parts. -/
def cmpI (a b : Int) : Int := if a < b then -1 else if b < a then 1 else 0
def cmpK (p q : KP) : Int := if p.txt = true then (if q.txt = true then Lib.compareBytes p.s.data.toList q.s.data.toList else 1) else if q.txt = true then -1 else cmpI p.n q.n
def cmpL : List KP → List KP → Int
  | [], [] => 0
  | [], _ :: _ => -1
  | _ :: _, [] => 1
  | p :: a, q :: b => if cmpK p q ≠ 0 then cmpK p q else cmpL a b
theorem cmpL_drop {a b : List KP} {i : Nat} (ha : i < a.length) (hb : i < b.length) : cmpL (a.drop i) (b.drop i) = if cmpK a[i] b[i] ≠ 0 then cmpK a[i] b[i] else cmpL (a.drop (i + 1)) (b.drop (i + 1)) := by
  rw [List.drop_eq_getElem_cons ha, List.drop_eq_getElem_cons hb]
  rfl
theorem cmpL_long {a b : List KP} {i : Nat} (ha : i < a.length) (hb : b.length ≤ i) : cmpL (a.drop i) (b.drop i) = 1 := by
  rw [List.drop_eq_getElem_cons ha, List.drop_eq_nil_of_le hb]
  rfl
theorem cmpL_short {a b : List KP} {i : Nat} (ha : a.length ≤ i) (hb : i < b.length) : cmpL (a.drop i) (b.drop i) = -1 := by
  rw [List.drop_eq_getElem_cons hb, List.drop_eq_nil_of_le ha]
  rfl
theorem cmpL_end {a b : List KP} {i : Nat} (ha : a.length ≤ i) (hb : b.length ≤ i) : cmpL (a.drop i) (b.drop i) = 0 := by
  rw [List.drop_eq_nil_of_le hb, List.drop_eq_nil_of_le ha]
  rfl
theorem cB_range : ∀ x y : List UInt8, Lib.compareBytes x y = 0 ∨ Lib.compareBytes x y = -1 ∨ Lib.compareBytes x y = 1
  | [], [] => .inl rfl
  | [], _ :: _ => .inr (.inl rfl)
  | _ :: _, [] => .inr (.inr rfl)
  | a :: x, b :: y => by
    unfold Lib.compareBytes
    split
    · exact .inr (.inl rfl)
    · split
      · exact .inr (.inr rfl)
      · exact cB_range x y
theorem cmpK_range (p q : KP) : cmpK p q = 0 ∨ cmpK p q = -1 ∨ cmpK p q = 1 := by
  unfold cmpK cmpI
  repeat' split
  all_goals first | exact cB_range _ _ | simp

/-! ### bytes -/
theorem cB_same (c : UInt8) (x y : List UInt8) : Lib.compareBytes (c :: x) (c :: y) = Lib.compareBytes x y := by
  conv => lhs; unfold Lib.compareBytes
  rw [if_neg (UInt8.lt_irrefl c), if_neg (UInt8.lt_irrefl c)]
theorem cB_lt {a b : UInt8} (h : a < b) (x y : List UInt8) : Lib.compareBytes (a :: x) (b :: y) = -1 := by unfold Lib.compareBytes; rw [if_pos h]
theorem cB_gt {a b : UInt8} (h : b < a) (x y : List UInt8) : Lib.compareBytes (a :: x) (b :: y) = 1 := by
  unfold Lib.compareBytes
  rw [if_neg (fun h2 => by have h3 := UInt8.lt_iff_toNat_lt.1 h; have h4 := UInt8.lt_iff_toNat_lt.1 h2; omega), if_pos h]
theorem cB_self (x : List UInt8) : Lib.compareBytes x x = 0 := by
  induction x with
  | nil => rfl
  | cons a x ih => rw [cB_same]; exact ih
theorem byte_three (a b : UInt8) : a < b ∨ a = b ∨ b < a := by
  rcases Nat.lt_trichotomy a.toNat b.toNat with h | h | h
  · exact .inl (UInt8.lt_iff_toNat_lt.2 h)
  · exact .inr (.inl (UInt8.toNat_inj.1 h))
  · exact .inr (.inr (UInt8.lt_iff_toNat_lt.2 h))
theorem less_cB : ∀ x y : List UInt8, Op.bytesLess x y = (Lib.compareBytes x y == -1)
  | [], [] => rfl
  | [], _ :: _ => rfl
  | _ :: _, [] => rfl
  | a :: x, b :: y => by
    rcases byte_three a b with h | h | h
    · rw [cB_lt h]; simp [Op.bytesLess, h]
    · subst h; rw [cB_same, ← less_cB x y]; simp [Op.bytesLess]
    · rw [cB_gt h]
      have h1 : ¬ a < b := fun h2 => by have h3 := UInt8.lt_iff_toNat_lt.1 h; have h4 := UInt8.lt_iff_toNat_lt.1 h2; omega
      have h2 : ¬ a = b := fun e => by subst e; exact UInt8.lt_irrefl _ h
      simp [Op.bytesLess, h1, h2]
theorem cB_swap : ∀ x y : List UInt8, Lib.compareBytes y x = - Lib.compareBytes x y
  | [], [] => rfl
  | [], _ :: _ => rfl
  | _ :: _, [] => rfl
  | a :: x, b :: y => by
    rcases byte_three a b with h | h | h
    · rw [cB_lt h, cB_gt h]; rfl
    · subst h; rw [cB_same, cB_same]; exact cB_swap x y
    · rw [cB_gt h, cB_lt h]
theorem cB_zero : ∀ x y : List UInt8, Lib.compareBytes x y = 0 → x = y
  | [], [], _ => rfl
  | [], _ :: _, h => by simp [Lib.compareBytes] at h
  | _ :: _, [], h => by simp [Lib.compareBytes] at h
  | a :: x, b :: y, h => by
    rcases byte_three a b with h1 | h1 | h1
    · rw [cB_lt h1] at h; omega
    · subst h1; rw [cB_same] at h; rw [cB_zero x y h]
    · rw [cB_gt h1] at h; omega

/-! ### numbers -/
def beB : Nat → Nat → List UInt8
  | 0, _ => []
  | k + 1, N => UInt8.ofNat (N / 256 ^ k % 256) :: beB k N
theorem beB_num (n : Int) : numB n = beB 8 (n + 9223372036854775808).toNat := by
  unfold numB numAt
  simp [beB, List.range_succ]
theorem be_order (k N M : Nat) (x y : List UInt8) : Lib.compareBytes (beB k N ++ x) (beB k M ++ y) = if N % 256 ^ k < M % 256 ^ k then -1 else if M % 256 ^ k < N % 256 ^ k then 1 else Lib.compareBytes x y := by
  induction k with
  | zero => simp [beB, Nat.mod_one]
  | succ k ih =>
    have hN : N % 256 ^ (k + 1) = 256 ^ k * (N / 256 ^ k % 256) + N % 256 ^ k := by rw [Nat.pow_succ, Nat.mod_mul]; omega
    have hM : M % 256 ^ (k + 1) = 256 ^ k * (M / 256 ^ k % 256) + M % 256 ^ k := by rw [Nat.pow_succ, Nat.mod_mul]; omega
    have p0 : 0 < 256 ^ k := Nat.pow_pos (by decide)
    have rN := Nat.mod_lt N p0
    have rM := Nat.mod_lt M p0
    have dN := Nat.mod_lt (N / 256 ^ k) (show 0 < 256 by decide)
    have dM := Nat.mod_lt (M / 256 ^ k) (show 0 < 256 by decide)
    rw [hN, hM]
    simp only [beB, List.cons_append]
    generalize N / 256 ^ k % 256 = a at *
    generalize M / 256 ^ k % 256 = b at *
    generalize N % 256 ^ k = r at *
    generalize M % 256 ^ k = s at *
    generalize 256 ^ k = P at *
    have ta : (UInt8.ofNat a).toNat = a := by rw [UInt8.toNat_ofNat']; omega
    have tb : (UInt8.ofNat b).toNat = b := by rw [UInt8.toNat_ofNat']; omega
    rcases Nat.lt_trichotomy a b with h | h | h
    · rw [cB_lt (UInt8.lt_iff_toNat_lt.2 (by rw [ta, tb]; exact h))]
      have : P * (a + 1) ≤ P * b := Nat.mul_le_mul_left P h
      rw [Nat.mul_add, Nat.mul_one] at this
      rw [if_pos (by omega)]
    · subst h
      rw [cB_same, ih]
      by_cases h1 : r < s
      · rw [if_pos h1, if_pos (by omega)]
      · by_cases h2 : s < r
        · rw [if_neg h1, if_pos h2, if_neg (by omega), if_pos (by omega)]
        · rw [if_neg h1, if_neg h2, if_neg (by omega), if_neg (by omega)]
    · rw [cB_gt (UInt8.lt_iff_toNat_lt.2 (by rw [ta, tb]; exact h))]
      have : P * (b + 1) ≤ P * a := Nat.mul_le_mul_left P h
      rw [Nat.mul_add, Nat.mul_one] at this
      rw [if_neg (by omega), if_pos (by omega)]
theorem num_order {n m : Int} (hn : -9223372036854775808 ≤ n ∧ n ≤ 9223372036854775807) (hm : -9223372036854775808 ≤ m ∧ m ≤ 9223372036854775807) (x y : List UInt8) : Lib.compareBytes (numB n ++ x) (numB m ++ y) = if cmpI n m ≠ 0 then cmpI n m else Lib.compareBytes x y := by
  rw [beB_num, beB_num, be_order]
  have e : (256 : Nat) ^ 8 = 18446744073709551616 := by decide
  rw [e, Nat.mod_eq_of_lt (by omega), Nat.mod_eq_of_lt (by omega)]
  unfold cmpI
  by_cases h1 : n < m
  · rw [if_pos (by omega), if_pos h1]; rfl
  · by_cases h2 : m < n
    · rw [if_neg (by omega), if_pos (by omega), if_neg h1, if_pos h2]; rfl
    · rw [if_neg (by omega), if_neg (by omega), if_neg h1, if_neg h2]; rfl

/-! ### texts -/
theorem text_order (x y : List UInt8) : ∀ s t : List UInt8, Lib.compareBytes (esc s ++ 0 :: 1 :: x) (esc t ++ 0 :: 1 :: y) = if Lib.compareBytes s t ≠ 0 then Lib.compareBytes s t else Lib.compareBytes x y
  | [], [] => by
    show Lib.compareBytes (0 :: 1 :: x) (0 :: 1 :: y) = _
    rw [cB_same, cB_same]; rfl
  | [], b :: t => by
    show Lib.compareBytes (0 :: 1 :: x) (esc (b :: t) ++ 0 :: 1 :: y) = -1
    unfold esc
    split
    · show Lib.compareBytes (0 :: 1 :: x) (0 :: 255 :: (esc t ++ 0 :: 1 :: y)) = -1
      rw [cB_same, cB_lt (by decide)]
    · rename_i h
      exact cB_lt (UInt8.lt_iff_toNat_lt.2 (by have : b.toNat ≠ 0 := fun e => h (UInt8.toNat_inj.1 e)
                                               show 0 < b.toNat
                                               omega)) _ _
  | a :: s, [] => by
    show Lib.compareBytes (esc (a :: s) ++ 0 :: 1 :: x) (0 :: 1 :: y) = 1
    unfold esc
    split
    · show Lib.compareBytes (0 :: 255 :: (esc s ++ 0 :: 1 :: x)) (0 :: 1 :: y) = 1
      rw [cB_same, cB_gt (by decide)]
    · rename_i h
      exact cB_gt (UInt8.lt_iff_toNat_lt.2 (by have : a.toNat ≠ 0 := fun e => h (UInt8.toNat_inj.1 e)
                                               show 0 < a.toNat
                                               omega)) _ _
  | a :: s, b :: t => by
    have h0 : ∀ c : UInt8, c ≠ 0 → (0 : UInt8) < c := fun c h => UInt8.lt_iff_toNat_lt.2 (by
      have : c.toNat ≠ 0 := fun e => h (UInt8.toNat_inj.1 e)
      show 0 < c.toNat
      omega)
    rcases byte_three a b with h | h | h
    · rw [cB_lt h]
      have hb : b ≠ 0 := fun e => by subst e; have := UInt8.lt_iff_toNat_lt.1 h; exact absurd this (by show ¬ _ < 0; omega)
      simp only [esc]
      rw [if_neg hb]
      by_cases ha : a = 0
      · rw [if_pos ha]; exact cB_lt (h0 b hb) _ _
      · rw [if_neg ha]; exact cB_lt h _ _
    · subst h
      rw [cB_same a s t]
      simp only [esc]
      by_cases ha : a = 0
      · rw [if_pos ha, if_pos ha]
        show Lib.compareBytes (0 :: 255 :: (esc s ++ 0 :: 1 :: x)) (0 :: 255 :: (esc t ++ 0 :: 1 :: y)) = _
        rw [cB_same, cB_same]; exact text_order x y s t
      · rw [if_neg ha, if_neg ha]
        show Lib.compareBytes (a :: (esc s ++ 0 :: 1 :: x)) (a :: (esc t ++ 0 :: 1 :: y)) = _
        rw [cB_same]; exact text_order x y s t
    · rw [cB_gt h]
      have ha : a ≠ 0 := fun e => by subst e; have := UInt8.lt_iff_toNat_lt.1 h; exact absurd this (by show ¬ _ < 0; omega)
      simp only [esc]
      rw [if_neg ha]
      by_cases hb : b = 0
      · rw [if_pos hb]; exact cB_gt (h0 a ha) _ _
      · rw [if_neg hb]; exact cB_gt h _ _
/-- Keys stand in the order of their parts. -/
theorem one_order {p q : KP} (hp : fitK p) (hq : fitK q) (x y : List UInt8) : Lib.compareBytes (oneB p ++ x) (oneB q ++ y) = if cmpK p q ≠ 0 then cmpK p q else Lib.compareBytes x y := by
  unfold oneB cmpK
  by_cases h1 : p.txt = true <;> by_cases h2 : q.txt = true
  · rw [if_pos h1, if_pos h2, if_pos h1, if_pos h2]
    simp only [List.cons_append, List.append_assoc, List.nil_append]
    rw [cB_same]; exact text_order x y _ _
  · rw [if_pos h1, if_neg h2, if_pos h1, if_neg h2]
    exact cB_gt (by decide) _ _
  · rw [if_neg h1, if_pos h2, if_neg h1, if_pos h2]
    exact cB_lt (by decide) _ _
  · rw [if_neg h1, if_neg h2, if_neg h1, if_neg h2]
    simp only [List.cons_append]
    rw [cB_same]; exact num_order hp hq x y
theorem key_order : ∀ a b : List KP, (∀ p ∈ a, fitK p) → (∀ p ∈ b, fitK p) → Lib.compareBytes (keyB a) (keyB b) = cmpL a b
  | [], [], _, _ => rfl
  | [], q :: b, _, _ => by
    show Lib.compareBytes [] (oneB q ++ keyB b) = -1
    unfold oneB
    split <;> rfl
  | p :: a, [], _, _ => by
    show Lib.compareBytes (oneB p ++ keyB a) [] = 1
    unfold oneB
    split <;> rfl
  | p :: a, q :: b, ha, hb => by
    show Lib.compareBytes (oneB p ++ keyB a) (oneB q ++ keyB b) = _
    rw [one_order (ha p (List.mem_cons_self ..)) (hb q (List.mem_cons_self ..)), key_order a b (fun r hr => ha r (List.mem_cons_of_mem _ hr)) (fun r hr => hb r (List.mem_cons_of_mem _ hr))]
    rfl
end Go.Proofs.YtceeijamhhokaaaDoor.PK
