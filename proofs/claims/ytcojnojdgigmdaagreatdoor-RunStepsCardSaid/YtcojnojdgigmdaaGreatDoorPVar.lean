/- Plain facts on the bytes of numbers (layer 1): the zigzag number, its base-128 digits, and reading them back. No program in sight. -/

namespace Go.Proofs.YtcojnojdgigmdaaGreatDoor.PV

def zig (n : Int) : Nat := if n < 0 then 2 * (-(n + 1)).toNat + 1 else 2 * n.toNat

def enc : Nat -> Nat -> List UInt8
 | 0, u => [UInt8.ofNat u]
 | f + 1, u => if u < 128 then [UInt8.ofNat u] else UInt8.ofNat (u % 128 + 128) :: enc f (u / 128)

def putB (n : Int) : List UInt8 := enc 9 (zig n)

def zag (u : Nat) : Int := if u % 2 = 1 then -((u / 2 : Nat) : Int) - 1 else ((u / 2 : Nat) : Int)

def dec : Nat -> Nat -> Nat -> List UInt8 -> Sum Nat (Nat × Nat)
 | 0, _, _, _ => .inl 4
 | _ + 1, _, _, [] => .inl 3
 | f + 1, i, u, b :: r =>
  if (i = 9 /\ 1 < b.toNat) \/ (0 < i /\ b.toNat = 0) then .inl 4
  else if b.toNat < 128 then .inr (u + b.toNat * 128 ^ i, i + 1)
  else dec f (i + 1) (u + b.toNat % 128 * 128 ^ i) r

def getB (s : List UInt8) (k : Int) : Int × Int × Int :=
 if k < 0 \/ (s.length : Int) < k then (0, 0, 2)
 else match dec 10 0 0 (s.drop k.toNat) with
  | .inl e => (0, 0, e)
  | .inr (u, n) => (zag u, k + n, 0)

def fin (k : Int) : Sum Nat (Nat × Nat) -> Int × Int × Int
 | .inl e => (0, 0, e)
 | .inr (u, n) => (zag u, k + n, 0)
theorem getB_fin (s : List UInt8) (k : Nat) (h : k <= s.length) : getB s k = fin k (dec 10 0 0 (s.drop k)) := by
 unfold getB; rw [if_neg (by omega)]
 simp only [Int.toNat_natCast]
 cases dec 10 0 0 (s.drop k) <;> rfl
theorem dec_end (i u : Nat) (h : i < 10) : dec (10 - i) i u [] = .inl 3 := by
 rw [show 10 - i = (9 - i) + 1 by omega]; rfl
theorem dec_bad (i u : Nat) (b : UInt8) (r : List UInt8) (h : i < 10) (hb : (i = 9 /\ 1 < b.toNat) \/ (0 < i /\ b.toNat = 0)) : dec (10 - i) i u (b :: r) = .inl 4 := by
 rw [show 10 - i = (9 - i) + 1 by omega, dec, if_pos hb]
theorem dec_done (i u : Nat) (b : UInt8) (r : List UInt8) (h : i < 10) (hb : ¬ ((i = 9 /\ 1 < b.toNat) \/ (0 < i /\ b.toNat = 0))) (hl : b.toNat < 128) :
  dec (10 - i) i u (b :: r) = .inr (u + b.toNat * 128 ^ i, i + 1) := by
 rw [show 10 - i = (9 - i) + 1 by omega, dec, if_neg hb, if_pos hl]
theorem dec_more (i u : Nat) (b : UInt8) (r : List UInt8) (h : i < 10) (hb : ¬ ((i = 9 /\ 1 < b.toNat) \/ (0 < i /\ b.toNat = 0))) (hl : ¬ b.toNat < 128) :
  dec (10 - i) i u (b :: r) = dec (10 - (i + 1)) (i + 1) (u + b.toNat % 128 * 128 ^ i) r := by
 rw [show 10 - i = (10 - (i + 1)) + 1 by omega, dec, if_neg hb, if_neg hl]

def vs (l : List UInt8) : Nat -> Nat -> Nat
 | _, 0 => 0
 | a, n + 1 => (l.getD a 0).toNat % 128 + 128 * vs l (a + 1) n
theorem vs_snoc (l : List UInt8) (n : Nat) : ∀ a, vs l a (n + 1) = vs l a n + (l.getD (a + n) 0).toNat % 128 * 128 ^ n := by
 induction n with
 | zero => intro a; simp [vs]
 | succ n ih =>
  intro a; rw [vs, ih (a + 1), vs, Nat.pow_succ, show a + 1 + n = a + (n + 1) by omega]; generalize (l.getD (a + (n + 1)) 0).toNat % 128 = x; generalize 128 ^ n = p; rw [Nat.mul_add, Nat.mul_comm p 128, Nat.mul_left_comm]; omega
theorem vs_lt (l : List UInt8) (a n : Nat) : vs l a n < 128 ^ n := by
 induction n generalizing a with
 | zero => simp [vs]
 | succ n ih =>
  have := ih (a + 1); rw [vs, Nat.pow_succ]; omega
theorem vs_small (l : List UInt8) (a n : Nat) (h : n <= 8 \/ (n = 9 /\ (l.getD (a + 8) 0).toNat <= 1)) : vs l a n <= 144115188075855871 := by
 rcases h with h | ⟨rfl, h⟩
 ·have h1 := vs_lt l a n; have h2 : 128 ^ n <= 128 ^ 8 := Nat.pow_le_pow_right (by omega) h
  omega
 ·have h1 := vs_lt l a 8; rw [vs_snoc]
  omega

theorem zig_lt {n : Int} (h1 : -9223372036854775808 <= n) (h2 : n <= 9223372036854775807) : zig n < 18446744073709551616 := by
 unfold zig; split <;> omega

theorem zag_zig (n : Int) : zag (zig n) = n := by
 unfold zag zig; split <;> split <;> omega
theorem zig_zag (u : Nat) : zig (zag u) = u := by
 unfold zag zig; split <;> split <;> omega
theorem zag_range {u : Nat} (h : u < 18446744073709551616) : -9223372036854775808 <= zag u /\ zag u <= 9223372036854775807 := by
 unfold zag; split <;> omega

theorem enc_lt {f u : Nat} (h : u < 128) : enc f u = [UInt8.ofNat u] := by
 cases f with
 | zero => rfl
 | succ f => simp [enc, h]
theorem enc_ne (f u : Nat) : enc f u ≠ [] := by
 cases f <;> simp [enc]; split <;> simp
theorem enc_len (f u : Nat) : 1 <= (enc f u).length /\ (enc f u).length <= f + 1 := by
 induction f generalizing u with
 | zero => simp [enc]
 | succ f ih =>
  simp only [enc]; split
  ·simp
  ·have := ih (u / 128); simp; omega
theorem putB_len (n : Int) : 1 <= (putB n).length /\ (putB n).length <= 10 := enc_len 9 _

theorem dec_enc (f : Nat) : ∀ (i u v : Nat) (r : List UInt8), i + f = 9 -> u < 2 * 128 ^ f -> (0 < i -> 0 < u) ->
  dec (f + 1) i v (enc f u ++ r) = .inr (v + u * 128 ^ i, i + (enc f u).length) := by
 induction f with
 | zero =>
  intro i u v r hi hu h0
  have hu' : u < 2 := by simpa using hu
  have hb : (UInt8.ofNat u).toNat = u := by simp [UInt8.toNat_ofNat']; omega
  have := h0 (by omega)
  simp only [enc, List.cons_append, List.nil_append, dec, hb, List.length_cons, List.length_nil]
  rw [if_neg (by omega), if_pos (by omega)]
 | succ f ih =>
  intro i u v r hi hu h0
  by_cases h : u < 128
  ·have hb : (UInt8.ofNat u).toNat = u := by simp [UInt8.toNat_ofNat']; omega
   simp only [enc, if_pos h, List.cons_append, List.nil_append, dec, hb, List.length_cons, List.length_nil]
   rw [if_neg (by omega)]
  ·have hb : (UInt8.ofNat (u % 128 + 128)).toNat = u % 128 + 128 := by simp [UInt8.toNat_ofNat']; omega
   simp only [enc, if_neg h, List.cons_append, dec, hb, List.length_cons]
   rw [if_neg (by omega), if_neg (by omega)]; rw [ih (i + 1) (u / 128) _ r (by omega) (by rw [Nat.pow_succ] at hu; omega) (by omega)]
   congr 2
   ·rw [show (u % 128 + 128) % 128 = u % 128 by omega, Nat.pow_succ]
    have hd : u = 128 * (u / 128) + u % 128 := by omega
    generalize u / 128 = q at *; generalize u % 128 = m at *; subst hd; generalize 128 ^ i = p; rw [Nat.add_mul, Nat.mul_comm p 128, <- Nat.mul_assoc, Nat.mul_comm q 128]; omega
   ·omega

theorem getB_put (n : Int) (a r : List UInt8) (h1 : -9223372036854775808 <= n) (h2 : n <= 9223372036854775807) :
  getB (a ++ (putB n ++ r)) a.length = (n, (a.length : Int) + (putB n).length, 0) := by
 have hz := zig_lt h1 h2; unfold getB; rw [if_neg (by simp; omega)]
 simp only [Int.toNat_natCast, List.drop_left]
 rw [putB, dec_enc 9 0 (zig n) 0 r (by omega) (by omega) (by omega)]
 simp [zag_zig]

theorem dec_back (f : Nat) : ∀ (i v : Nat) (l : List UInt8) (u n : Nat), i + f = 9 -> dec (f + 1) i v l = .inr (u, n) ->
  ∃ q, u = v + q * 128 ^ i /\ q < 2 * 128 ^ f /\ (0 < i -> 0 < q) /\ i < n /\ l.take (n - i) = enc f q /\ n - i <= l.length := by
 induction f with
 | zero =>
  intro i v l u n hi h
  cases l with
  | nil => simp [dec] at h
  | cons b r =>
   simp only [dec] at h
   split at h
   ·cases h
   ·rename_i hc
    split at h
    ·rename_i hb
     injection h with h; injection h with hu hn
     subst hu; subst hn; exact ⟨b.toNat, rfl, by simp; omega, by omega, by omega, by simp [enc], by simp⟩
    ·cases h
 | succ f ih =>
  intro i v l u n hi h
  cases l with
  | nil => simp [dec] at h
  | cons b r =>
   rw [dec] at h
   split at h
   ·cases h
   ·rename_i hc
    split at h
    ·rename_i hb
     injection h with h; injection h with hu hn
     subst hu; subst hn; refine ⟨b.toNat, rfl, ?_, by omega, by omega, ?_, by simp⟩
     ·have : 0 < 128 ^ f := Nat.pow_pos (by omega); rw [Nat.pow_succ]; omega
     ·simp only [enc]; rw [if_pos hb]; simp
    ·rename_i hb
     obtain ⟨q, hu, hq, h0, hn, ht, hl⟩ := ih (i + 1) _ r u n (by omega) h; have hbb := b.toNat_lt; refine ⟨b.toNat % 128 + 128 * q, ?_, ?_, by omega, by omega, ?_, ?_⟩
     ·rw [hu, Nat.pow_succ]; generalize 128 ^ i = p; rw [Nat.add_mul, Nat.mul_comm p 128, <- Nat.mul_assoc, Nat.mul_comm q 128]; omega
     ·rw [Nat.pow_succ]; omega
     ·have hq0 := h0 (by omega); rw [show n - i = (n - (i + 1)) + 1 by omega, List.take_succ_cons, ht]
      simp only [enc]
      rw [if_neg (by omega), show (b.toNat % 128 + 128 * q) / 128 = q by omega, show (b.toNat % 128 + 128 * q) % 128 = b.toNat % 128 by omega]
      congr 1
      apply UInt8.toNat_inj.1
      simp [UInt8.toNat_ofNat']; omega
     ·simp; omega

theorem getB_back {s : List UInt8} {k : Nat} {v a : Int} (h : getB s k = (v, a, 0)) :
  (-9223372036854775808 <= v /\ v <= 9223372036854775807) /\ ∃ n : Nat, a = (k : Int) + n /\ 1 <= n /\ k + n <= s.length /\ (s.drop k).take n = putB v := by
 unfold getB at h
 split at h
 ·simp at h
 ·split at h
  ·rename_i e he
   simp only [Prod.mk.injEq] at h
   exfalso
   have key : ∀ (f i u : Nat) (l : List UInt8) (e : Nat), dec f i u l = .inl e -> e ≠ 0 := by
    intro f
    induction f with
    | zero => intro i u l e h; simp [dec] at h; omega
    | succ f ih =>
     intro i u l e h
     cases l with
     | nil => simp [dec] at h; omega
     | cons b r =>
      rw [dec] at h
      split at h
      ·injection h with h; omega
      ·split at h
       ·cases h
       ·exact ih _ _ _ _ h
   exact key _ _ _ _ _ he (by omega)
  ·rename_i u n he
   simp only [Prod.mk.injEq] at h
   obtain ⟨h1, h2, _⟩ := h; obtain ⟨q, hu, hq, _, hn, ht, hl⟩ := dec_back 9 0 0 _ u n (by omega) he
   have huq : u = q := by simpa using hu
   subst huq
   have hq' : u < 18446744073709551616 := by simpa using hq
   subst h1; refine ⟨zag_range hq', n, by omega, by omega, ?_, ?_⟩
   ·simp only [Int.toNat_natCast, List.length_drop] at hl; omega
   ·simp only [Int.toNat_natCast, Nat.sub_zero] at ht
    rw [ht, putB, zig_zag]

theorem getB_bounds {s : List UInt8} {k : Nat} : 0 <= (getB s k).2.1 /\ (getB s k).2.1 <= s.length := by
 rcases hg : getB s k with ⟨v, a, e⟩
 by_cases he : e = 0
 ·subst he; obtain ⟨_, n, ha, _, hn, _⟩ := getB_back hg
  simp; omega
 ·unfold getB at hg
  split at hg
  ·simp at hg; simp; omega
  ·split at hg
   ·simp at hg; simp; omega
   ·simp only [Prod.mk.injEq] at hg; omega

end Go.Proofs.YtcojnojdgigmdaaGreatDoor.PV
