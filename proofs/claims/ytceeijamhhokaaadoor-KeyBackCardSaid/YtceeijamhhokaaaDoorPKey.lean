/- Keys (layer 2) in plain Lean: the bytes of a part, of parts. No program in sight. -/
import Derived.Lib.Replace
import Derived.Lib.CountLaws
import Derived.Lib.IndexMore
namespace Go.Proofs.YtceeijamhhokaaaDoor.PK
open Go

/-- A part: a text, or a number. -/
structure KP where
  txt : Bool
  n : Int
  s : ByteArray
/-- A text's bytes: a zero stands as zero and 255. -/
def esc : List UInt8 → List UInt8
  | [] => []
  | b :: l => if b = 0 then 0 :: 255 :: esc l else b :: esc l
theorem esc_len (l : List UInt8) : (esc l).length ≤ 2 * l.length := by
  induction l with
  | nil => exact Nat.le_refl _
  | cons b l ih => unfold esc; split <;> simp only [List.length_cons] <;> omega
theorem replaceK_esc (s : List UInt8) : Lib.replaceK [0] [0, 255] (Lib.count s [0]) s = esc s := by
  induction s with
  | nil => rfl
  | cons b l ih =>
    unfold esc
    by_cases hb : b = 0
    · subst hb
      rw [if_pos rfl, Lib.count_cons_eq, Nat.add_comm, Lib.replaceK_hit [0] [0, 255] _ _ 0 (by rfl)]
      show [] ++ [0, 255] ++ Lib.replaceK [0] [0, 255] (Lib.count l [0]) l = _
      rw [ih]; rfl
    · rw [if_neg hb, Lib.count_cons_ne b 0 l hb]
      have hix : Lib.index (b :: l) [0] = if Lib.index l [0] == -1 then -1 else Lib.index l [0] + 1 := by
        show (if ([0] : List UInt8).isPrefixOf (b :: l) then (0 : Int) else _) = _
        have : ([0] : List UInt8).isPrefixOf (b :: l) = false := by simp [List.isPrefixOf, Ne.symm hb]
        rw [this]; rfl
      cases hk : Lib.count l [0] with
      | zero => rw [hk] at ih; unfold Lib.replaceK at ih ⊢; rw [← ih]
      | succ k =>
        obtain ⟨i, hi⟩ := Lib.index_of_count (s := l) (old := [0]) (by omega)
        rw [hi] at hix
        have hne : ¬ ((i : Int) == -1) = true := by simp
        rw [if_neg hne] at hix
        rw [hk, Lib.replaceK_hit [0] [0, 255] k l i hi] at ih
        rw [Lib.replaceK_hit [0] [0, 255] k (b :: l) (i + 1) (by rw [hix]; rfl), ← ih]
        simp
theorem esc_replace (s : List UInt8) : Lib.replaceAll s [0] [0, 255] = esc s := by
  unfold Lib.replaceAll Lib.replace
  rw [if_neg (by decide)]
  have : Lib.replaceNum s [0] (-1) = Lib.count s [0] := by unfold Lib.replaceNum; rw [if_pos (.inl (by decide))]
  rw [this, replaceK_esc]
/-- A number's bytes, the greatest first. -/
def numAt (n : Int) (i : Nat) : UInt8 := UInt8.ofNat ((n + 9223372036854775808).toNat / 2 ^ (56 - 8 * i) % 256)
def numB (n : Int) : List UInt8 := (List.range 8).map (numAt n)
theorem numB_len (n : Int) : (numB n).length = 8 := by simp [numB]
theorem numB_take (n : Int) {i : Nat} (h : i < 8) : (numB n).take (i + 1) = (numB n).take i ++ [numAt n i] := by
  rw [List.take_succ_eq_append_getElem (by rw [numB_len]; exact h)]
  simp [numB]
theorem xor_low {a : Nat} (h : a < 2 ^ 63) : a ^^^ 2 ^ 63 = 2 ^ 63 + a := by
  apply Nat.eq_of_testBit_eq
  intro i
  rw [Nat.testBit_xor, Nat.testBit_two_pow]
  rcases Nat.lt_trichotomy i 63 with hi | hi | hi
  · rw [Nat.testBit_two_pow_add_gt hi]
    have : ¬ 63 = i := by omega
    simp [this]
  · subst hi
    rw [Nat.testBit_two_pow_add_eq, Nat.testBit_lt_two_pow h]
    simp
  · have h1 : a < 2 ^ i := Nat.lt_trans h (Nat.pow_lt_pow_right (by decide) hi)
    have h2 : 2 ^ 63 + a < 2 ^ i := Nat.lt_of_lt_of_le (by omega : 2 ^ 63 + a < 2 ^ 64) (Nat.pow_le_pow_right (by decide) hi)
    rw [Nat.testBit_lt_two_pow h1, Nat.testBit_lt_two_pow h2]
    have : ¬ 63 = i := by omega
    simp [this]
theorem xor_top {a : Nat} (h : a < 2 ^ 64) : a ^^^ 2 ^ 63 = if a < 2 ^ 63 then 2 ^ 63 + a else a - 2 ^ 63 := by
  split
  · rename_i h1; exact xor_low h1
  · rename_i h1
    obtain ⟨r, rfl⟩ : ∃ r, a = 2 ^ 63 + r := ⟨a - 2 ^ 63, by omega⟩
    rw [← xor_low (a := r) (by omega), Nat.xor_assoc, Nat.xor_self, Nat.xor_zero]
    rw [xor_low (a := r) (by omega)]
    omega
/-- A part's bytes. -/
def oneB (p : KP) : List UInt8 := if p.txt = true then 2 :: (esc p.s.data.toList ++ [0, 1]) else 1 :: numB p.n
def keyB (l : List KP) : List UInt8 := l.flatMap oneB
theorem oneB_len (p : KP) : (oneB p).length ≤ 2 * p.s.size + 9 := by
  unfold oneB
  split
  · have := esc_len p.s.data.toList
    have e : p.s.data.toList.length = p.s.size := Array.length_toList
    simp only [List.length_cons, List.length_append, List.length_nil]
    omega
  · simp only [List.length_cons, numB_len]; omega
theorem oneB_le (p : KP) (h : p.txt = true → p.s.size ≤ 4096) : (oneB p).length ≤ 8201 := by
  cases hp : p.txt with
  | true => have := oneB_len p; have := h hp; omega
  | false => unfold oneB; rw [if_neg (by rw [hp]; decide)]; simp only [List.length_cons, numB_len]; omega
theorem keyB_le (l : List KP) (h : ∀ p ∈ l, p.txt = true → p.s.size ≤ 4096) : (keyB l).length ≤ 8201 * l.length := by
  induction l with
  | nil => exact Nat.le_refl _
  | cons p r ih =>
    have h1 := oneB_le p (h p (List.mem_cons_self ..))
    have h2 := ih fun q hq => h q (List.mem_cons_of_mem _ hq)
    simp only [keyB, List.flatMap_cons, List.length_append, List.length_cons] at h2 ⊢
    omega
theorem keyB_snoc (l : List KP) (p : KP) : keyB (l ++ [p]) = keyB l ++ oneB p := by simp [keyB]
/-- What is wrong with parts: 5, or nothing. -/
def makeE (l : List KP) : Int := if 16 < l.length ∨ ∃ p ∈ l, p.txt = true ∧ 4096 < p.s.size then 5 else 0
theorem makeE_ok {l : List KP} (h : l.length ≤ 16) (h2 : ∀ p ∈ l, p.txt = true → p.s.size ≤ 4096) : makeE l = 0 := by
  unfold makeE
  rw [if_neg]
  rintro (h1 | ⟨p, hp, ht, hs⟩)
  · omega
  · have := h2 p hp ht; omega
theorem makeE_many {l : List KP} (h : 16 < l.length) : makeE l = 5 := by unfold makeE; rw [if_pos (.inl h)]
theorem makeE_long {l : List KP} {p : KP} (hp : p ∈ l) (ht : p.txt = true) (hs : 4096 < p.s.size) : makeE l = 5 := by unfold makeE; rw [if_pos (.inr ⟨p, hp, ht, hs⟩)]
/-- A part's cells. -/
def encK (p : KP) : List Value := [.bool p.txt, .int .i64 p.n, .string p.s]
/-- The number fits. -/
def fitK (p : KP) : Prop := -9223372036854775808 ≤ p.n ∧ p.n ≤ 9223372036854775807
/-- The key of parts, and the error. -/
def makeS (l : List KP) : List UInt8 := if makeE l = 0 then keyB l else []
end Go.Proofs.YtceeijamhhokaaaDoor.PK
