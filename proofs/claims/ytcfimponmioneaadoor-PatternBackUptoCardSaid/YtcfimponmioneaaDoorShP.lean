/- The text of a pattern (layer 19), in plain Lean. No program in sight. -/
import Derived.Test.YtcfimponmioneaaDoorPPlan
import Derived.Lib.ItoaNum
import Derived.Lib.ItoaLen
import Derived.Lib.Join
namespace Go.Proofs.YtcfimponmioneaaDoor.PS
open Go Go.Proofs.YtcfimponmioneaaDoor.PL

def byB (n : Int) : UInt8 := UInt8.ofNat n.toNat
def cntB (s : GS) : List UInt8 := if s.lo = 1 ∧ s.hi = 1 then [] else 123 :: (Lib.itoa s.lo ++ 44 :: (Lib.itoa s.hi ++ [125]))
/-- The text of a step. -/
def showS (s : GS) : List UInt8 := (if s.neg = true then [33] else []) ++ ([byB s.k, 32, byB s.nm] ++ cntB s)
def signB (op : Int) : List UInt8 := if op = 0 then [60] else if op = 1 then [60, 61] else if op = 2 then [61] else if op = 3 then [33, 61] else if op = 4 then [62, 61] else if op = 5 then [62] else [63]
def tailC (c : GC) : List UInt8 := if c.r = 0 then Lib.itoa c.k else byB c.r :: (if 0 < c.k then 43 :: Lib.itoa c.k else if c.k = 0 then [] else Lib.itoa c.k)
/-- The text of a condition. -/
def showC (c : GC) : List UInt8 := byB c.l :: (signB c.op ++ tailC c)
def seqB : List UInt8 := [83, 69, 81, 40]
def whereB : List UInt8 := [32, 87, 72, 69, 82, 69, 32]
def andB : List UInt8 := [32, 65, 78, 68, 32]
def withinB : List UInt8 := [32, 87, 73, 84, 72, 73, 78, 32]
/-- The text of a pattern. -/
def showP (ss : List GS) (cs : List GC) (wi : Int) : List UInt8 :=
  seqB ++ Lib.join (ss.map showS) [44] ++ [41] ++ (if cs = [] then [] else whereB ++ Lib.join (cs.map showC) andB) ++ (withinB ++ Lib.itoa wi)

def fitS (s : GS) : Prop := (0 ≤ s.k ∧ s.k ≤ 255) ∧ (0 ≤ s.nm ∧ s.nm ≤ 255) ∧ (-9223372036854775808 ≤ s.lo ∧ s.lo ≤ 9223372036854775807) ∧ (-9223372036854775808 ≤ s.hi ∧ s.hi ≤ 9223372036854775807)
def fitC (c : GC) : Prop := (0 ≤ c.l ∧ c.l ≤ 255) ∧ (0 ≤ c.r ∧ c.r ≤ 255) ∧ (-9223372036854775808 ≤ c.op ∧ c.op ≤ 9223372036854775807) ∧ (-9223372036854775808 ≤ c.k ∧ c.k ≤ 9223372036854775807)
theorem cntB_len {s : GS} (h : fitS s) : (cntB s).length ≤ 45 := by
  unfold cntB
  have h1 := Lib.itoa_length_le s.lo h.2.2.1.1 h.2.2.1.2
  have h2 := Lib.itoa_length_le s.hi h.2.2.2.1 h.2.2.2.2
  split <;> simp <;> omega
theorem showS_len {s : GS} (h : fitS s) : (showS s).length ≤ 49 := by
  have := cntB_len h
  unfold showS
  split <;> simp <;> omega
theorem signB_len (op : Int) : (signB op).length ≤ 2 := by
  unfold signB
  repeat' split
  all_goals simp
theorem tailC_len {c : GC} (h : fitC c) : (tailC c).length ≤ 23 := by
  have h1 := Lib.itoa_length_le c.k h.2.2.2.1 h.2.2.2.2
  unfold tailC
  split
  · omega
  · split
    · simp; omega
    · split <;> simp <;> omega
theorem showC_len {c : GC} (h : fitC c) : (showC c).length ≤ 26 := by
  have h1 := tailC_len h
  have h2 := signB_len c.op
  unfold showC
  simp; omega

/-! ### A list's elements, one behind the other -/
theorem join_snoc (l : List (List UInt8)) (x sep : List UInt8) : Lib.join (l ++ [x]) sep = Lib.join l sep ++ (if l = [] then [] else sep) ++ x := by
  induction l with
  | nil => simp [Lib.join, List.intercalate]
  | cons a r ih =>
    cases r with
    | nil => simp [Lib.join, List.intercalate]
    | cons b t =>
      have e1 : Lib.join (a :: (b :: t)) sep = a ++ sep ++ Lib.join (b :: t) sep := by simp [Lib.join, List.intercalate]
      have e2 : Lib.join ((a :: b :: t) ++ [x]) sep = a ++ sep ++ Lib.join ((b :: t) ++ [x]) sep := by simp [Lib.join, List.intercalate]
      rw [e2, ih, e1]
      simp
theorem join_take {α : Type} (f : α → List UInt8) (l : List α) (sep : List UInt8) (k : Nat) (h : k < l.length) :
    Lib.join ((l.take (k + 1)).map f) sep = Lib.join ((l.take k).map f) sep ++ (if k = 0 then [] else sep) ++ f l[k] := by
  rw [List.take_succ_eq_append_getElem h, List.map_append, List.map_cons, List.map_nil, join_snoc]
  congr 2
  by_cases hk : k = 0
  · subst hk; simp
  · rw [if_neg hk, if_neg]
    intro e
    have h0 : ((l.take k).map f).length = 0 := by rw [e]; rfl
    rw [List.length_map, List.length_take] at h0
    omega
theorem join_len {α : Type} (f : α → List UInt8) (sep : List UInt8) (m : Nat) : ∀ (l : List α), (∀ x ∈ l, (f x).length ≤ m) → (Lib.join (l.map f) sep).length ≤ l.length * (m + sep.length)
  | [], _ => by simp [Lib.join, List.intercalate]
  | [x], h => by
    have := h x (by simp)
    simp [Lib.join, List.intercalate]; omega
  | x :: y :: t, h => by
    have e1 : Lib.join ((x :: y :: t).map f) sep = f x ++ sep ++ Lib.join ((y :: t).map f) sep := by simp [Lib.join, List.intercalate]
    have h1 := h x (by simp)
    have h2 := join_len f sep m (y :: t) fun z hz => h z (List.mem_cons_of_mem _ hz)
    rw [e1]
    simp only [List.length_append, List.length_cons] at h2 ⊢
    rw [Nat.add_mul (t.length + 1) 1, Nat.one_mul]
    omega

/-! ### Decimals as the document reckons them -/
/-- One digit more. -/
def digB (m : Int) : UInt8 := UInt8.ofNat (48 + (if m.tmod 10 < 0 then -(m.tmod 10) else m.tmod 10).toNat)
theorem tdiv_abs (m : Int) : (m.tdiv 10).natAbs = m.natAbs / 10 := by
  rw [Int.natAbs_tdiv]; rfl
theorem digB_abs (m : Int) : digB m = UInt8.ofNat (48 + m.natAbs % 10) := by
  have h : (m.tmod 10).natAbs = m.natAbs % 10 := by rw [Int.natAbs_tmod]; rfl
  unfold digB
  congr 2
  split <;> omega
/-- The digits of a number but 0; of 0: none. -/
def digs (n : Int) : List UInt8 := if n = 0 then [] else Lib.decDigits n.natAbs
theorem digs_step {m : Int} (h : m ≠ 0) : digs m = digs (m.tdiv 10) ++ [digB m] := by
  have h1 := tdiv_abs m
  unfold digs
  rw [if_neg h, Lib.decDigits]
  by_cases h2 : m.natAbs < 10
  · rw [dif_pos h2]
    have e : m.tdiv 10 = 0 := Int.natAbs_eq_zero.1 (by rw [h1]; omega)
    rw [if_pos e, digB_abs, Nat.mod_eq_of_lt h2]
    rfl
  · rw [dif_neg h2]
    have e : m.tdiv 10 ≠ 0 := fun e => by rw [e] at h1; simp at h1; omega
    rw [if_neg e, h1, digB_abs]
theorem digs_itoa {n : Int} (h : n ≠ 0) : Lib.itoa n = if n < 0 then 45 :: digs n else digs n := by
  unfold Lib.itoa digs
  by_cases hn : n < 0
  · rw [if_pos hn, if_pos hn, if_neg h]
  · rw [if_neg hn, if_neg hn, if_neg h]
    congr 1
    omega
theorem itoa_zero : Lib.itoa 0 = [48] := by
  unfold Lib.itoa
  rw [if_neg (by decide), Lib.decDigits, dif_pos (by decide)]
  rfl
end Go.Proofs.YtcfimponmioneaaDoor.PS
