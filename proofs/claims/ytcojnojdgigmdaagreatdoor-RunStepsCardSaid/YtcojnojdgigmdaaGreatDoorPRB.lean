/- The bytes of a run, in plain Lean. -/
import Derived.Test.YtcojnojdgigmdaaGreatDoorPEv
namespace Go.Proofs.YtcojnojdgigmdaaGreatDoor.PE
open Go Go.Proofs.YtcojnojdgigmdaaGreatDoor.Mem

def blw (s : List UInt8) (k : Int) (most : Int) : Int × Int × Int :=
 if (PV.getB s k).2.2 ≠ 0 then (0, 0, (PV.getB s k).2.2) else if (PV.getB s k).1 < 0 \/ most < (PV.getB s k).1 then (0, 0, 4) else ((PV.getB s k).1, (PV.getB s k).2.1, 0)
theorem blw_err {s : List UInt8} {k most : Int} (h : (PV.getB s k).2.2 ≠ 0) : blw s k most = (0, 0, (PV.getB s k).2.2) := by unfold blw; rw [if_pos h]
theorem blw_out {s : List UInt8} {k most : Int} (h : (PV.getB s k).2.2 = 0) (h2 : (PV.getB s k).1 < 0 \/ most < (PV.getB s k).1) : blw s k most = (0, 0, 4) := by unfold blw; rw [if_neg (by simp [h]), if_pos h2]
theorem blw_ok {s : List UInt8} {k most : Int} (h : (PV.getB s k).2.2 = 0) (h2 : ¬ ((PV.getB s k).1 < 0 \/ most < (PV.getB s k).1)) : blw s k most = ((PV.getB s k).1, (PV.getB s k).2.1, 0) := by unfold blw; rw [if_neg (by simp [h]), if_neg h2]
theorem blw_in {s : List UInt8} {k : Nat} {most : Int} (hm : 0 <= most) : 0 <= (blw s k most).1 /\ (blw s k most).1 <= most /\ 0 <= (blw s k most).2.1 /\ (blw s k most).2.1 <= s.length := by
 have hb := PV.getB_bounds (s := s) (k := k); unfold blw
 split
 ·simp only []; omega
 ·split
  ·simp only []; omega
  ·rename_i h
   simp only []; omega
def cnts (s : List UInt8) : Nat -> Int -> Sum Int (List Int × Int)
 | 0, k => .inr ([], k)
 | n + 1, k => if (blw s k 4).2.2 ≠ 0 then .inl (blw s k 4).2.2 else match cnts s n (blw s k 4).2.1 with
  | .inl e => .inl e
  | .inr (l, k') => .inr ((blw s k 4).1 :: l, k')
def preC (a : List Int) : Sum Int (List Int × Int) -> Sum Int (List Int × Int)
 | .inl e => .inl e
 | .inr (l, k) => .inr (a ++ l, k)
theorem preC_nil (r : Sum Int (List Int × Int)) : preC [] r = r := by
 rcases r with e | ⟨l, k⟩ <;> rfl
theorem cnts_bad {s : List UInt8} {n : Nat} {k : Int} (h : (blw s k 4).2.2 ≠ 0) : cnts s (n + 1) k = .inl (blw s k 4).2.2 := by rw [cnts, if_pos h]
theorem cnts_ok {s : List UInt8} {n : Nat} {k : Int} (h : (blw s k 4).2.2 = 0) (a : List Int) : preC a (cnts s (n + 1) k) = preC (a ++ [(blw s k 4).1]) (cnts s n (blw s k 4).2.1) := by
 rw [cnts, if_neg (by simp [h])]
 rcases cnts s n (blw s k 4).2.1 with e | ⟨l, k'⟩
 ·rfl
 ·simp [preC]
def sumI (l : List Int) : Int := l.foldl (· + ·) 0
theorem sumI_snoc (l : List Int) (x : Int) : sumI (l ++ [x]) = sumI l + x := by simp [sumI, List.foldl_append]
def getRun (s : List UInt8) : Sum Int (List Int × List Ev × Bool) :=
 if (blw s 0 8).2.2 ≠ 0 then .inl (blw s 0 8).2.2 else match cnts s (blw s 0 8).1.toNat (blw s 0 8).2.1 with
 | .inl e => .inl e
 | .inr (l, k) => if (blw s k 1).2.2 ≠ 0 then .inl (blw s k 1).2.2 else
  match getEs (s.drop (blw s k 1).2.1.toNat) (s.drop (blw s k 1).2.1.toNat).length 0 with
  | .inl e => .inl e
  | .inr es => if (es.length : Int) ≠ sumI l then .inl 4 else .inr (l, es, (blw s k 1).1 == 1)
def runR : Sum Int (List Int × List Ev × Bool) -> List Int × List Ev × Bool
 | .inl _ => ([], [], false)
 | .inr r => r
def errR : Sum Int (List Int × List Ev × Bool) -> Int
 | .inl e => e
 | .inr _ => 0
theorem getRun_1 {s : List UInt8} (h : (blw s 0 8).2.2 ≠ 0) : getRun s = .inl (blw s 0 8).2.2 := by unfold getRun; rw [if_pos h]
theorem getRun_2 {s : List UInt8} (h : (blw s 0 8).2.2 = 0) {e : Int} (h2 : cnts s (blw s 0 8).1.toNat (blw s 0 8).2.1 = .inl e) : getRun s = .inl e := by unfold getRun; rw [if_neg (by simp [h]), h2]
theorem getRun_3 {s : List UInt8} (h : (blw s 0 8).2.2 = 0) {l : List Int} {k : Int} (h2 : cnts s (blw s 0 8).1.toNat (blw s 0 8).2.1 = .inr (l, k)) :
  getRun s = if (blw s k 1).2.2 ≠ 0 then .inl (blw s k 1).2.2 else
  match getEs (s.drop (blw s k 1).2.1.toNat) (s.drop (blw s k 1).2.1.toNat).length 0 with
  | .inl e => .inl e
  | .inr es => if (es.length : Int) ≠ sumI l then .inl 4 else .inr (l, es, (blw s k 1).1 == 1) := by
 unfold getRun; rw [if_neg (by simp [h]), h2]
def putRun (cs : List Int) (es : List Ev) (b : Bool) : List UInt8 := putL ((cs.length : Int) :: cs ++ [if b then 1 else 0]) ++ putEs es
theorem putL_app (a b : List Int) : putL (a ++ b) = putL a ++ putL b := by simp [putL]
theorem putL_one (x : Int) : putL [x] = PV.putB x := by simp [putL]
theorem putRun_eq (cs : List Int) (es : List Ev) (b : Bool) : putRun cs es b = PV.putB cs.length ++ putL cs ++ PV.putB (if b then 1 else 0) ++ putEs es := by
 unfold putRun; rw [List.cons_append, <- List.singleton_append, putL_app, putL_app, putL_one, putL_one]
 simp
theorem getRun_len {s : List UInt8} : (runR (getRun s)).1.length <= 8 /\ (runR (getRun s)).2.1.length <= s.length /\ (∀ x ∈ (runR (getRun s)).1, 0 <= x /\ x <= 4) /\ ∀ x ∈ (runR (getRun s)).2.1, x.fits := by
 have hc : ∀ (n : Nat) (k : Nat) (l : List Int) (k' : Int), cnts s n k = .inr (l, k') -> l.length = n /\ (∀ x ∈ l, 0 <= x /\ x <= 4) /\ 0 <= k' := by
  intro n
  induction n with
  | zero =>
   intro k l k' h; rw [cnts] at h
   injection h with h; injection h with h1 h2
   subst h1 h2; exact ⟨rfl, fun x hx => (by cases hx), Int.natCast_nonneg _⟩
  | succ n ih =>
   intro k l k' h; rw [cnts] at h
   split at h
   ·cases h
   ·obtain ⟨b1, b2, b3, _⟩ := blw_in (s := s) (k := k) (most := 4) (by omega); obtain ⟨q, hq⟩ := Int.eq_ofNat_of_zero_le b3; rw [hq] at h
    cases hcn : cnts s n (q : Int) with
    | inl e => rw [hcn] at h; cases h
    | inr r =>
     obtain ⟨l2, k2⟩ := r; rw [hcn] at h
     injection h with h; injection h with h1 h2
     subst h1 h2; obtain ⟨i1, i2, i3⟩ := ih q l2 k2 hcn
     exact ⟨by rw [List.length_cons, i1], fun x hx => by
      rcases List.mem_cons.1 hx with rfl | hx
      ·exact ⟨b1, b2⟩
      ·exact i2 x hx, i3⟩
 unfold getRun
 split
 ·exact ⟨Nat.zero_le _, Nat.zero_le _, fun x hx => (by cases hx), fun x hx => (by cases hx)⟩
 ·obtain ⟨b1, b2, b3, _⟩ := blw_in (s := s) (k := 0) (most := 8) (by omega); obtain ⟨q, hq⟩ := Int.eq_ofNat_of_zero_le b3; have h0 : ((0 : Nat) : Int) = 0 := rfl; rw [h0] at hq b1 b2
  cases hcn : cnts s (blw s 0 8).1.toNat (blw s 0 8).2.1 with
  | inl e => exact ⟨Nat.zero_le _, Nat.zero_le _, fun x hx => (by cases hx), fun x hx => (by cases hx)⟩
  | inr r =>
   obtain ⟨l, k⟩ := r; rw [hq] at hcn; obtain ⟨i1, i2, i3⟩ := hc _ q l k hcn
   simp only []
   split
   ·exact ⟨Nat.zero_le _, Nat.zero_le _, fun x hx => (by cases hx), fun x hx => (by cases hx)⟩
   ·cases hg : getEs (s.drop (blw s k 1).2.1.toNat) (s.drop (blw s k 1).2.1.toNat).length 0 with
    | inl e => exact ⟨Nat.zero_le _, Nat.zero_le _, fun x hx => (by cases hx), fun x hx => (by cases hx)⟩
    | inr es =>
     obtain ⟨_, g2, g3⟩ := getEs_len (Nat.le_refl _) hg
     simp only []
     split
     ·exact ⟨Nat.zero_le _, Nat.zero_le _, fun x hx => (by cases hx), fun x hx => (by cases hx)⟩
     ·refine ⟨by show l.length <= 8; omega, ?_, i2, fun x hx => good_fits (g2 x hx)⟩
      show es.length <= s.length
      rw [List.length_drop] at g3; omega
end Go.Proofs.YtcojnojdgigmdaaGreatDoor.PE
