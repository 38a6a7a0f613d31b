/- Reading a key back (layer 2), in plain Lean. No program in sight. -/
import Derived.Test.YtceeijamhhokaaaDoorPCmp
namespace Go.Proofs.YtceeijamhhokaaaDoor.PK
open Go

/-- The reader of a text: at byte i, with what it has: the text and how many bytes it takes, or an error. -/
def textR (i : Nat) (out : List UInt8) : List UInt8 → Except Int (List UInt8 × Nat)
  | [] => .error 3
  | b :: r =>
    if b = 0 then
      match r with
      | [] => .error 3
      | c :: r' => if c = 1 then .ok (out, i + 2) else if c ≠ 255 then .error 4 else if out.length = 4096 then .error 5 else textR (i + 2) (out ++ [0]) r'
    else if out.length = 4096 then .error 5 else textR (i + 1) (out ++ [b]) r
/-- The number that bytes are, the greatest first. -/
def beF (a : Nat) (l : List UInt8) : Nat := l.foldl (fun n b => n * 256 + b.toNat) a
def beN (l : List UInt8) : Nat := beF 0 l
/-- The parts of a key, or an error. -/
def parseR (out : List KP) (S : List UInt8) : Except Int (List KP) :=
  match S with
  | [] => .ok out
  | t :: r =>
    if out.length = 16 then .error 5
    else if t = 1 then (if r.length < 8 then .error 3 else parseR (out ++ [⟨false, (beN (r.take 8) : Int) - 9223372036854775808, .empty⟩]) (r.drop 8))
    else if t = 2 then
      match textR 0 [] r with
      | .error e => .error e
      | .ok (x, n) => parseR (out ++ [⟨true, 0, ⟨x.toArray⟩⟩]) (r.drop n)
    else .error 4
termination_by S.length
decreasing_by all_goals (simp only [List.length_drop, List.length_cons]; omega)

theorem esc_more (l : List UInt8) (b : UInt8) : esc (l ++ [b]) = esc l ++ if b = 0 then [0, 255] else [b] := by
  induction l with
  | nil => simp [esc]
  | cons a l ih => simp only [List.cons_append, esc, ih]; split <;> simp
theorem textR_end (i : Nat) (out : List UInt8) : textR i out [] = .error 3 := by simp [textR]
theorem textR_cut (i : Nat) (out : List UInt8) : textR i out [0] = .error 3 := by rw [textR.eq_def]; exact if_pos rfl
theorem textR_zero (i : Nat) (out : List UInt8) (c : UInt8) (r : List UInt8) : textR i out (0 :: c :: r) = if c = 1 then .ok (out, i + 2) else if c ≠ 255 then .error 4 else if out.length = 4096 then .error 5 else textR (i + 2) (out ++ [0]) r := by rw [textR.eq_def]; exact if_pos rfl
theorem textR_byte (i : Nat) (out : List UInt8) {b : UInt8} (hb : b ≠ 0) (r : List UInt8) : textR i out (b :: r) = if out.length = 4096 then .error 5 else textR (i + 1) (out ++ [b]) r := by rw [textR.eq_def]; exact if_neg hb
theorem textR_esc : ∀ (s out : List UInt8) (i : Nat) (rest : List UInt8), out.length + s.length ≤ 4096 → textR i out (esc s ++ 0 :: 1 :: rest) = .ok (out ++ s, i + (esc s).length + 2)
  | [], out, i, rest, _ => by simp [esc, textR]
  | b :: l, out, i, rest, h => by
    simp only [List.length_cons] at h
    have hl : ¬ out.length = 4096 := by omega
    unfold esc
    by_cases hb : b = 0
    · subst hb
      rw [if_pos rfl]
      simp only [List.cons_append]
      rw [textR_zero, if_neg (by decide), if_neg (by decide), if_neg hl, textR_esc l _ _ rest (by simp; omega)]
      simp; omega
    · rw [if_neg hb]
      simp only [List.cons_append]
      rw [textR_byte _ _ hb, if_neg hl, textR_esc l _ _ rest (by simp; omega)]
      simp; omega
theorem textR_ok : ∀ (N : Nat) (S out : List UInt8) (i : Nat) (t : List UInt8) (n : Nat), S.length ≤ N → out.length ≤ 4096 → textR i out S = .ok (t, n) →
    t.length ≤ 4096 ∧ ∃ m, n = i + m ∧ m ≤ S.length ∧ esc out ++ S.take m = esc t ++ [0, 1] := by
  intro N
  induction N with
  | zero =>
    intro S out i t n hN _ h
    obtain rfl : S = [] := List.eq_nil_of_length_eq_zero (by omega)
    rw [textR_end] at h; cases h
  | succ N ih =>
    intro S out i t n hN ho h
    cases S with
    | nil => rw [textR_end] at h; cases h
    | cons b r =>
      simp only [List.length_cons] at hN
      by_cases hb : b = 0
      · subst hb
        cases r with
        | nil => rw [textR_cut] at h; cases h
        | cons c r' =>
          simp only [List.length_cons] at hN
          rw [textR_zero] at h
          by_cases hc : c = 1
          · subst hc
            rw [if_pos rfl] at h
            injection h with h
            injection h with h1 h2
            subst h1; subst h2
            exact ⟨ho, 2, rfl, by simp, by simp⟩
          · rw [if_neg hc] at h
            by_cases hc2 : c ≠ 255
            · rw [if_pos hc2] at h; cases h
            · rw [if_neg hc2] at h
              have hc3 : c = 255 := by simpa using hc2
              subst hc3
              by_cases hl : out.length = 4096
              · rw [if_pos hl] at h; cases h
              · rw [if_neg hl] at h
                obtain ⟨h1, m, h2, h3, h4⟩ := ih r' (out ++ [0]) (i + 2) t n (by omega) (by simp; omega) h
                refine ⟨h1, m + 2, by omega, by simp; omega, ?_⟩
                rw [esc_more, if_pos rfl] at h4
                rw [← h4]
                simp
      · rw [textR_byte _ _ hb] at h
        by_cases hl : out.length = 4096
        · rw [if_pos hl] at h; cases h
        · rw [if_neg hl] at h
          obtain ⟨h1, m, h2, h3, h4⟩ := ih r (out ++ [b]) (i + 1) t n (by omega) (by simp; omega) h
          refine ⟨h1, m + 1, by omega, by simp; omega, ?_⟩
          rw [esc_more, if_neg hb] at h4
          rw [← h4]
          simp

theorem beF_split (l : List UInt8) : ∀ a, beF a l = a * 256 ^ l.length + beN l := by
  induction l with
  | nil => intro a; simp [beF, beN]
  | cons x r ih =>
    intro a
    have e1 : beF a (x :: r) = beF (a * 256 + x.toNat) r := rfl
    have e2 : beN (x :: r) = beF (0 * 256 + x.toNat) r := rfl
    rw [e1, e2, ih, ih, List.length_cons, Nat.pow_succ]
    generalize 256 ^ r.length = P
    rw [Nat.add_mul, Nat.zero_mul, Nat.zero_add, Nat.mul_assoc, Nat.mul_comm 256 P]
    omega
theorem beN_lt (l : List UInt8) : beN l < 256 ^ l.length := by
  induction l with
  | nil => simp [beN, beF]
  | cons x r ih =>
    have e2 : beN (x :: r) = beF (0 * 256 + x.toNat) r := rfl
    rw [e2, beF_split, List.length_cons, Nat.pow_succ, Nat.zero_mul, Nat.zero_add]
    have := x.toNat_lt
    generalize 256 ^ r.length = P at *
    have h : x.toNat * P ≤ 255 * P := Nat.mul_le_mul_right P (by omega)
    omega
theorem beN_snoc (l : List UInt8) (b : UInt8) : beN (l ++ [b]) = beN l * 256 + b.toNat := by simp [beN, beF]
theorem beB_beF (l : List UInt8) : ∀ a, beB l.length (beF a l) = l := by
  induction l with
  | nil => intro a; rfl
  | cons x r ih =>
    intro a
    have e1 : beF a (x :: r) = beF (a * 256 + x.toNat) r := rfl
    rw [e1, List.length_cons, beB, ih]
    congr 1
    have h := beF_split r (a * 256 + x.toNat)
    have hl := beN_lt r
    have p0 : 0 < 256 ^ r.length := Nat.pow_pos (by decide)
    have hd : beF (a * 256 + x.toNat) r / 256 ^ r.length = a * 256 + x.toNat := by
      rw [h, Nat.mul_comm, Nat.mul_add_div p0, Nat.div_eq_of_lt hl, Nat.add_zero]
    rw [hd]
    have := x.toNat_lt
    have e : (a * 256 + x.toNat) % 256 = x.toNat := by omega
    rw [e]
    exact UInt8.ofNat_toNat
theorem beF_beB (k N : Nat) : ∀ a, beF a (beB k N) = a * 256 ^ k + N % 256 ^ k := by
  induction k with
  | zero => intro a; simp [beB, beF, Nat.mod_one]
  | succ k ih =>
    intro a
    have e1 : beF a (beB (k + 1) N) = beF (a * 256 + (UInt8.ofNat (N / 256 ^ k % 256)).toNat) (beB k N) := rfl
    have e2 : (UInt8.ofNat (N / 256 ^ k % 256)).toNat = N / 256 ^ k % 256 := by rw [UInt8.toNat_ofNat']; omega
    have hN : N % 256 ^ (k + 1) = 256 ^ k * (N / 256 ^ k % 256) + N % 256 ^ k := by rw [Nat.pow_succ, Nat.mod_mul]; omega
    rw [e1, e2, ih, hN, Nat.pow_succ]
    generalize 256 ^ k = P
    generalize N / P % 256 = d
    rw [Nat.add_mul, Nat.mul_assoc, Nat.mul_comm 256 P, Nat.mul_comm d P]
    omega
theorem num_back {l : List UInt8} (h : l.length = 8) : numB ((beN l : Int) - 9223372036854775808) = l := by
  rw [beB_num]
  have e : ((beN l : Int) - 9223372036854775808 + 9223372036854775808).toNat = beN l := by omega
  rw [e, ← h]
  exact beB_beF l 0
theorem num_read {n : Int} (h1 : -9223372036854775808 ≤ n) (h2 : n ≤ 9223372036854775807) : (beN (numB n) : Int) - 9223372036854775808 = n := by
  rw [beB_num]
  have e := beF_beB 8 (n + 9223372036854775808).toNat 0
  unfold beN
  rw [e]
  omega
theorem num_fit {l : List UInt8} (h : l.length = 8) : -9223372036854775808 ≤ (beN l : Int) - 9223372036854775808 ∧ (beN l : Int) - 9223372036854775808 ≤ 9223372036854775807 := by
  have := beN_lt l
  rw [h] at this
  omega

/-- A part as it is read back. -/
def normK (p : KP) : KP := if p.txt = true then ⟨true, 0, p.s⟩ else ⟨false, p.n, .empty⟩
def okK (p : KP) : Prop := fitK p ∧ (p.txt = true → p.s.size ≤ 4096)
theorem bytes_back (s : ByteArray) : (⟨s.data.toList.toArray⟩ : ByteArray) = s := rfl
/-- A key is read back. -/
theorem parse_key : ∀ (l out : List KP), out.length + l.length ≤ 16 → (∀ p ∈ l, okK p) → parseR out (keyB l) = .ok (out ++ l.map normK)
  | [], out, _, _ => by simp [keyB, parseR]
  | p :: l, out, h, hp => by
    simp only [List.length_cons] at h
    have hl : ¬ out.length = 16 := by omega
    obtain ⟨hf, hs⟩ := hp p (List.mem_cons_self ..)
    have hr : ∀ q ∈ l, okK q := fun q hq => hp q (List.mem_cons_of_mem _ hq)
    have e : keyB (p :: l) = oneB p ++ keyB l := by simp [keyB]
    rw [e]
    unfold oneB
    by_cases ht : p.txt = true
    · have hsz : p.s.data.toList.length ≤ 4096 := by have := hs ht; rw [Array.length_toList]; exact this
      rw [if_pos ht]
      simp only [List.cons_append, List.append_assoc, List.nil_append]
      rw [parseR]
      rw [if_neg hl, if_neg (by decide), if_pos rfl, textR_esc _ _ _ _ (by simpa using hsz)]
      simp only [List.nil_append]
      have ed : (esc p.s.data.toList ++ 0 :: 1 :: keyB l).drop (0 + (esc p.s.data.toList).length + 2) = keyB l := by
        rw [Nat.zero_add, ← List.drop_drop, List.drop_left]
        rfl
      rw [ed, parse_key l _ (by simp; omega) hr]
      simp [normK, ht]
    · rw [if_neg ht]
      simp only [List.cons_append]
      rw [parseR]
      have hn := numB_len p.n
      rw [if_neg hl, if_pos rfl, if_neg (by rw [List.length_append, hn]; omega)]
      have et : (numB p.n ++ keyB l).take 8 = numB p.n := by rw [← hn, List.take_left]
      have ed : (numB p.n ++ keyB l).drop 8 = keyB l := by rw [← hn, List.drop_left]
      rw [et, ed, num_read hf.1 hf.2, parse_key l _ (by simp; omega) hr]
      simp [normK, ht]
/-- What is read as parts is their key. -/
theorem parse_ok : ∀ (N : Nat) (S : List UInt8) (out c : List KP), S.length ≤ N → out.length ≤ 16 → (∀ p ∈ out, okK p) → parseR out S = .ok c → c.length ≤ 16 ∧ (∀ p ∈ c, okK p) ∧ keyB c = keyB out ++ S := by
  intro N
  induction N with
  | zero =>
    intro S out c hN ho hk h
    obtain rfl : S = [] := List.eq_nil_of_length_eq_zero (by omega)
    rw [parseR] at h
    injection h with h
    subst h
    exact ⟨ho, hk, by simp⟩
  | succ N ih =>
    intro S out c hN ho hk h
    cases S with
    | nil =>
      rw [parseR] at h
      injection h with h
      subst h
      exact ⟨ho, hk, by simp⟩
    | cons t r =>
      simp only [List.length_cons] at hN
      rw [parseR] at h
      by_cases hl : out.length = 16
      · rw [if_pos hl] at h; cases h
      · rw [if_neg hl] at h
        by_cases h1 : t = 1
        · subst h1
          rw [if_pos rfl] at h
          by_cases h8 : r.length < 8
          · rw [if_pos h8] at h; cases h
          · rw [if_neg h8] at h
            have ht : (r.take 8).length = 8 := by rw [List.length_take]; omega
            obtain ⟨a, b, d⟩ := ih (r.drop 8) _ c (by rw [List.length_drop]; omega) (by simp; omega) (by
              intro p hp
              rcases List.mem_append.1 hp with hp | hp
              · exact hk p hp
              · simp only [List.mem_cons, List.not_mem_nil, or_false] at hp
                subst hp
                exact ⟨num_fit ht, fun h => by cases h⟩) h
            refine ⟨a, b, ?_⟩
            rw [d, keyB_snoc]
            unfold oneB
            rw [if_neg (fun h => by cases h)]
            show keyB out ++ 1 :: numB _ ++ _ = _
            rw [num_back ht]
            simp
        · rw [if_neg h1] at h
          by_cases h2 : t = 2
          · subst h2
            rw [if_pos rfl] at h
            cases hx : textR 0 [] r with
            | error e => rw [hx] at h; cases h
            | ok xn =>
              obtain ⟨x, n⟩ := xn
              rw [hx] at h
              simp only [] at h
              obtain ⟨z1, m, z2, z3, z4⟩ := textR_ok r.length r [] 0 x n (Nat.le_refl _) (by simp) hx
              have z2' : n = m := by omega
              subst z2'
              obtain ⟨a, b, d⟩ := ih (r.drop n) _ c (by rw [List.length_drop]; omega) (by simp; omega) (by
                intro p hp
                rcases List.mem_append.1 hp with hp | hp
                · exact hk p hp
                · simp only [List.mem_cons, List.not_mem_nil, or_false] at hp
                  subst hp
                  exact ⟨show -9223372036854775808 ≤ (0 : Int) ∧ (0 : Int) ≤ 9223372036854775807 by decide, fun _ => z1⟩) h
              refine ⟨a, b, ?_⟩
              rw [d, keyB_snoc]
              unfold oneB
              rw [if_pos rfl]
              show keyB out ++ 2 :: (esc x.toArray.toList ++ [0, 1]) ++ _ = _
              rw [List.toList_toArray, ← z4]
              simp [esc]
          · rw [if_neg h2] at h; cases h
end Go.Proofs.YtceeijamhhokaaaDoor.PK
