/- Plain facts on events as bytes (layer 18): what reading gives, and that it is undone by writing. No program in sight. -/
import Derived.Test.YtcojnojdgigmdaaGreatDoorPVar
import Derived.Test.YtcojnojdgigmdaaGreatDoorB01
namespace Go.Proofs.YtcojnojdgigmdaaGreatDoor.PE
open Go.Proofs.YtcojnojdgigmdaaGreatDoor Go.Proofs.YtcojnojdgigmdaaGreatDoor.Mem

def putL (l : List Int) : List UInt8 := l.flatMap PV.putB
theorem putL_len (l : List Int) : (putL l).length <= 10 * l.length := by
 induction l with
 | nil => simp [putL]
 | cons x r ih =>
  have e : putL (x :: r) = PV.putB x ++ putL r := rfl; have := (PV.putB_len x).2; rw [e, List.length_append, List.length_cons]; omega
theorem putL_snoc (l : List Int) (x : Int) : putL (l ++ [x]) = putL l ++ PV.putB x := by simp [putL]
def putE (e : Ev) : List UInt8 := PV.putB e.id ++ PV.putB e.time ++ PV.putB e.kind ++ PV.putB e.val
def putEs (l : List Ev) : List UInt8 := l.flatMap putE
theorem putE_len (e : Ev) : 4 <= (putE e).length /\ (putE e).length <= 40 := by
 have h1 := PV.putB_len e.id; have h2 := PV.putB_len e.time; have h3 := PV.putB_len e.kind; have h4 := PV.putB_len e.val
 simp only [putE, List.length_append]; omega
theorem putEs_len (l : List Ev) : (putEs l).length <= 40 * l.length := by
 induction l with
 | nil => simp [putEs]
 | cons x r ih =>
  have e : putEs (x :: r) = putE x ++ putEs r := rfl; have := (putE_len x).2; rw [e, List.length_append, List.length_cons]; omega
theorem putEs_snoc (l : List Ev) (x : Ev) : putEs (l ++ [x]) = putEs l ++ putE x := by simp [putEs]
theorem putL_four (a b c d : Int) : putL [a, b, c, d] = PV.putB a ++ PV.putB b ++ PV.putB c ++ PV.putB d := by simp [putL]

def good (e : Ev) : Prop := (1 <= e.id /\ e.id <= 9007199254740992) /\ (0 <= e.time /\ e.time <= 9007199254740992) /\ (65 <= e.kind /\ e.kind <= 90) /\ (-9007199254740992 <= e.val /\ e.val <= 9007199254740992)
instance (e : Ev) : Decidable (good e) := by unfold good; infer_instance
theorem good_fits {e : Ev} (h : good e) : e.fits := by unfold good at h; unfold Ev.fits; omega

def rds (s : List UInt8) : Nat -> Int -> Sum Int (List Int × Int)
 | 0, k => .inr ([], k)
 | n + 1, k =>
  if (PV.getB s k).2.2 = 0 then
   match rds s n (PV.getB s k).2.1 with
   | .inl e => .inl e
   | .inr (l, k') => .inr ((PV.getB s k).1 :: l, k')
  else .inl (PV.getB s k).2.2
def pre (a : List Int) : Sum Int (List Int × Int) -> Sum Int (List Int × Int)
 | .inl e => .inl e
 | .inr (l, k) => .inr (a ++ l, k)
theorem rds_bad {s : List UInt8} {n : Nat} {k : Int} (h : (PV.getB s k).2.2 ≠ 0) : rds s (n + 1) k = .inl (PV.getB s k).2.2 := by rw [rds, if_neg h]
theorem rds_ok {s : List UInt8} {n : Nat} {k : Int} (h : (PV.getB s k).2.2 = 0) (a : List Int) : pre a (rds s (n + 1) k) = pre (a ++ [(PV.getB s k).1]) (rds s n (PV.getB s k).2.1) := by
 rw [rds, if_pos h]
 cases rds s n (PV.getB s k).2.1 <;> simp [pre]
theorem pre_nil (r : Sum Int (List Int × Int)) : pre [] r = r := by cases r <;> rfl

def getEs (s : List UInt8) : Nat -> Nat -> Sum Int (List Ev)
 | 0, _ => .inr []
 | f + 1, k =>
  if k < s.length then
   match rds s 4 k with
   | .inr ([a, b, c, d], k') =>
    if good ⟨a, b, c, d⟩ then
     match getEs s f k'.toNat with
     | .inl e => .inl e
     | .inr r => .inr (⟨a, b, c, d⟩ :: r)
    else .inl 4
   | .inr _ => .inl 4
   | .inl e => .inl e
  else .inr []
def app (a : List Ev) : Sum Int (List Ev) -> Sum Int (List Ev)
 | .inl e => .inl e
 | .inr l => .inr (a ++ l)
theorem app_nil (r : Sum Int (List Ev)) : app [] r = r := by cases r <;> rfl
def errOf : Sum Int (List Ev) -> Int
 | .inl e => e
 | .inr _ => 0
def lstOf : Sum Int (List Ev) -> List Ev
 | .inl _ => []
 | .inr l => l
theorem getEs_end {s : List UInt8} {f k : Nat} (h : ¬ k < s.length) : getEs s f k = .inr [] := by
 cases f with
 | zero => rfl
 | succ f => rw [getEs, if_neg h]
theorem getEs_err {s : List UInt8} {f k : Nat} {e : Int} (h : k < s.length) (hr : rds s 4 k = .inl e) : getEs s (f + 1) k = .inl e := by
 rw [getEs, if_pos h, hr]
theorem getEs_bad {s : List UInt8} {f k : Nat} {a b c d k' : Int} (h : k < s.length) (hr : rds s 4 k = .inr ([a, b, c, d], k')) (hg : ¬ good ⟨a, b, c, d⟩) : getEs s (f + 1) k = .inl 4 := by
 rw [getEs, if_pos h, hr]
 simp only [if_neg hg]
theorem getEs_ok {s : List UInt8} {f k k' : Nat} {a b c d : Int} (h : k < s.length) (hr : rds s 4 k = .inr ([a, b, c, d], (k' : Int))) (hg : good ⟨a, b, c, d⟩) (l : List Ev) :
  app l (getEs s (f + 1) k) = app (l ++ [⟨a, b, c, d⟩]) (getEs s f k') := by
 rw [getEs, if_pos h, hr]
 simp only [if_pos hg, Int.toNat_natCast]
 cases getEs s f k' <;> simp [app]

theorem rds_back {s : List UInt8} : ∀ (n : Nat) (k : Nat) (l : List Int) (k' : Int), k <= s.length -> rds s n k = .inr (l, k') ->
  l.length = n /\ (∀ x ∈ l, -9223372036854775808 <= x /\ x <= 9223372036854775807) /\ ∃ m : Nat, k' = (k : Int) + m /\ n <= m /\ k + m <= s.length /\ (s.drop k).take m = putL l := by
 intro n
 induction n with
 | zero =>
  intro k l k' hk h
  simp only [rds] at h
  injection h with h; injection h with h1 h2
  subst h1; subst h2; exact ⟨rfl, by simp, 0, by omega, by omega, by omega, by simp [putL]⟩
 | succ n ih =>
  intro k l k' hk h; rw [rds] at h
  split at h
  ·rename_i h0
   rcases hg : PV.getB s k with ⟨v, a, e⟩
   rw [hg] at h h0
   simp only at h h0
   subst h0; obtain ⟨hr, m, ha, hm, hml, ht⟩ := PV.getB_back hg
   split at h
   ·cases h
   ·rename_i l2 k2 h2
    injection h with h; injection h with h3 h4
    subst h3; subst h4; rw [ha, show (k : Int) + (m : Int) = ((k + m : Nat) : Int) by omega] at h2; obtain ⟨hl, hf, m2, hk2, hm2, hml2, ht2⟩ := ih (k + m) l2 k2 (by omega) h2; refine ⟨by simp [hl], ?_, m + m2, by omega, by omega, by omega, ?_⟩
    ·intro x hx
     rcases List.mem_cons.1 hx with rfl | hx
     ·exact hr
     ·exact hf x hx
    ·rw [List.take_add, ht, List.drop_drop, ht2]; rfl
  ·cases h

theorem rds_put (l : List Int) (hf : ∀ x ∈ l, -9223372036854775808 <= x /\ x <= 9223372036854775807) : ∀ (a r : List UInt8),
  rds (a ++ (putL l ++ r)) l.length a.length = .inr (l, ((a.length + (putL l).length : Nat) : Int)) := by
 induction l with
 | nil => intro a r; simp [rds, putL]
 | cons x l ih =>
  intro a r; have hx := hf x (by simp); have e : putL (x :: l) = PV.putB x ++ putL l := rfl; have hg := PV.getB_put x a (putL l ++ r) hx.1 hx.2; rw [e, List.append_assoc, List.length_cons, rds, hg]
  simp only [if_true]
  have := ih (fun y hy => hf y (by simp [hy])) (a ++ PV.putB x) r; rw [List.append_assoc, List.length_append, Int.natCast_add] at this; rw [this]
  simp; omega

theorem rds_err_ne {s : List UInt8} : ∀ (n : Nat) (k e : Int), rds s n k = .inl e -> e ≠ 0 := by
 intro n
 induction n with
 | zero => intro k e h; simp [rds] at h
 | succ n ih =>
  intro k e h; rw [rds] at h
  split at h
  ·split at h
   ·rename_i h2
    injection h with h
    subst h; exact ih _ _ h2
   ·cases h
  ·rename_i h0
   injection h with h
   rw [<- h]; exact h0
theorem getEs_err_ne {s : List UInt8} : ∀ (f k : Nat) (e : Int), getEs s f k = .inl e -> e ≠ 0 := by
 intro f
 induction f with
 | zero => intro k e h; simp [getEs] at h
 | succ f ih =>
  intro k e h; rw [getEs] at h
  split at h
  ·split at h
   ·split at h
    ·split at h
     ·rename_i h2
      injection h with h
      subst h; exact ih _ _ h2
     ·cases h
    ·injection h with h; omega
   ·injection h with h; omega
   ·rename_i h2
    injection h with h
    subst h; exact rds_err_ne _ _ _ h2
  ·cases h
theorem getEs_zero {s : List UInt8} {f k : Nat} (h : errOf (getEs s f k) = 0) : ∃ l, getEs s f k = .inr l := by
 cases hr : getEs s f k with
 | inl e => rw [hr] at h; exact absurd h (getEs_err_ne f k e hr)
 | inr l => exact ⟨l, rfl⟩
theorem getEs_put (l : List Ev) (hg : ∀ x ∈ l, good x) : ∀ (a : List UInt8) (f : Nat), l.length <= f -> getEs (a ++ putEs l) f a.length = .inr l := by
 induction l with
 | nil => intro a f _; exact getEs_end (by simp [putEs])
 | cons x l ih =>
  intro a f hf
  obtain ⟨f, rfl⟩ : ∃ g, f = g + 1 := ⟨f - 1, by simp at hf; omega⟩
  have e : putEs (x :: l) = putL [x.id, x.time, x.kind, x.val] ++ putEs l := by rw [putL_four]; rfl
  have hgx := hg x (by simp); have hfx := good_fits hgx
  have hr := rds_put [x.id, x.time, x.kind, x.val] (by
   intro y hy; unfold Ev.fits at hfx
   simp only [List.mem_cons, List.not_mem_nil, or_false] at hy
   rcases hy with rfl | rfl | rfl | rfl <;> omega) a (putEs l)
  rw [<- e] at hr
  have hlt : a.length < (a ++ putEs (x :: l)).length := by
   have := (putE_len x).1; have e2 : putEs (x :: l) = putE x ++ putEs l := rfl; rw [e2]; simp only [List.length_append]; omega
  have h1 := getEs_ok (f := f) hlt hr hgx []; rw [app_nil] at h1; rw [h1]; have h2 := ih (fun y hy => hg y (by simp [hy])) (a ++ putL [x.id, x.time, x.kind, x.val]) f (by simp at hf; omega); rw [List.append_assoc, <- e, List.length_append] at h2; rw [h2]; rfl

theorem getEs_back {s : List UInt8} : ∀ (f k : Nat) (l : List Ev), k <= s.length -> s.length - k <= f -> getEs s f k = .inr l -> putEs l = s.drop k /\ (∀ x ∈ l, good x) := by
 intro f
 induction f with
 | zero =>
  intro k l hk hf h
  simp only [getEs] at h
  injection h with h
  subst h; exact ⟨by rw [List.drop_of_length_le (by omega)]; rfl, by simp⟩
 | succ f ih =>
  intro k l hk hf h
  by_cases hlt : k < s.length
  ·rw [getEs, if_pos hlt] at h
   split at h
   ·rename_i a b c d k' hr
    split at h
    ·rename_i hg
     split at h
     ·cases h
     ·rename_i r h2
      injection h with h
      subst h; obtain ⟨_, _, m, hk', hm, hml, ht⟩ := rds_back 4 k _ _ hk hr; rw [hk', show (k : Int) + (m : Int) = ((k + m : Nat) : Int) by omega, Int.toNat_natCast] at h2; obtain ⟨h3, h4⟩ := ih (k + m) r hml (by omega) h2; refine ⟨?_, ?_⟩
      ·have e : putEs (⟨a, b, c, d⟩ :: r) = putL [a, b, c, d] ++ putEs r := by rw [putL_four]; rfl
       rw [e, h3, <- ht, <- List.drop_drop, List.take_append_drop]
      ·intro x hx
       rcases List.mem_cons.1 hx with rfl | hx
       ·exact hg
       ·exact h4 x hx
    ·cases h
   ·cases h
   ·cases h
  ·rw [getEs_end hlt] at h
   injection h with h
   subst h; exact ⟨by rw [List.drop_of_length_le (by omega)]; rfl, by simp⟩
theorem puts_ge (gl : List Ev) : gl.length <= (putEs gl).length := by
 induction gl with
 | nil => simp
 | cons x r ih =>
  have e : putEs (x :: r) = putE x ++ putEs r := rfl; have := (putE_len x).1; rw [e, List.length_append, List.length_cons]; omega
theorem getEs_len {s : List UInt8} {f : Nat} {l : List Ev} (hf : s.length <= f) (h : getEs s f 0 = .inr l) : putEs l = s /\ (∀ x ∈ l, good x) /\ l.length <= s.length := by
 obtain ⟨h1, h2⟩ := getEs_back f 0 l (by omega) (by omega) h; rw [List.drop_zero] at h1; have := puts_ge l; rw [h1] at this; exact ⟨h1, h2, this⟩
end Go.Proofs.YtcojnojdgigmdaaGreatDoor.PE
