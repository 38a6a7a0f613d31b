/- The matches of an A, no greater B between, and a C: each pair that two loops find, in order. No program in sight. -/
import Derived.Test.YtcojnojdgigmdaaDoorPWin
import Derived.Test.YtcojnojdgigmdaaDoorPText
namespace Go.Proofs.YtcojnojdgigmdaaDoor.PR
open Go Go.Proofs.YtcojnojdgigmdaaDoor.PL Go.Proofs.YtcojnojdgigmdaaDoor.Mem Go.Proofs.YtcojnojdgigmdaaDoor.DG

/-- The plan: an A; no B between whose value is above the A's; a C whose value is at least the A's and n. -/
def pairP (n m : Int) : RPlan := ⟨[⟨65, 1, 1, [], [⟨66, [⟨5, 0, 0, false⟩]⟩]⟩, ⟨67, 1, 1, [⟨4, 0, n, false⟩], []⟩], m⟩
def oneR (a : Ev) (b : Bool) : RRun := ⟨[1], [a], b⟩
/-- The text of a pair. -/
def pairT (a c : Ev) : List UInt8 := Lib.itoa a.id ++ 124 :: Lib.itoa c.id
theorem pair_text (a c : Ev) (b : Bool) : textR ⟨[1, 1], [a, c], b⟩ = pairT a c := by
  rw [textR_parts]
  show Lib.join [txtP [a.id], txtP [c.id]] [124] = _
  rw [join_two, txtP_one, txtP_one, Lib.join_one]; rfl
/-- Is a pair told at its second event? -/
def pairB (n : Int) (a : Ev) (b : Bool) (e : Ev) : Bool := !b && (e.kind == 67) && decide (a.val + n ≤ e.val)
def stopB (a e : Ev) : Bool := (e.kind == 66) && decide (a.val < e.val)
theorem adv_one (n m : Int) (a : Ev) (b : Bool) (e : Ev) :
    advR (pairP n m) (oneR a b) e = if a.time + m < e.time then noRes else ⟨true, oneR a (b || stopB a e), [], if pairB n a b e then [pairT a e] else []⟩ := by
  have h1 : fitsS ⟨67, 1, 1, [⟨4, 0, n, false⟩], []⟩ (oneR a b) 1 e = ((e.kind == 67) && decide (a.val + n ≤ e.val)) := by
    unfold fitsS allT holdsT
    simp [oneR, ofR, hB]
  have h2 : (advR (pairP n m) (oneR a b) e) = if untilR (pairP n m) (oneR a b) < e.time then noRes else
      (⟨true, ⟨[1], [a], b || ([⟨66, [⟨5, 0, 0, false⟩]⟩] : List RBar).any fun b' => (e.kind == b'.kind) && allT b'.tests (oneR a b) 0 e⟩, (if (1 : Int) ≤ 1 ∧ b = false ∧ fitsS ⟨67, 1, 1, [⟨4, 0, n, false⟩], []⟩ (oneR a b) 1 e = true then addR (pairP n m) noRes (withR (oneR a b) 1 e) else noRes).grown, (if (1 : Int) ≤ 1 ∧ b = false ∧ fitsS ⟨67, 1, 1, [⟨4, 0, n, false⟩], []⟩ (oneR a b) 1 e = true then addR (pairP n m) noRes (withR (oneR a b) 1 e) else noRes).done⟩ : RRes) := rfl
  have h3 : withR (oneR a b) 1 e = ⟨[1, 1], [a, e], false⟩ := rfl
  have h4 : addGrown (pairP n m) ⟨[1, 1], [a, e], false⟩ = false := rfl
  have h5 : addDone (pairP n m) ⟨[1, 1], [a, e], false⟩ = true := rfl
  have h6 : (([⟨66, [⟨5, 0, 0, false⟩]⟩] : List RBar).any fun b' => (e.kind == b'.kind) && allT b'.tests (oneR a b) 0 e) = stopB a e := by
    unfold stopB allT holdsT
    simp [oneR, ofR, hB]
  rw [h2, h3, h6, h1]
  have h7 : untilR (pairP n m) (oneR a b) = a.time + m := rfl
  rw [h7]
  split
  · rfl
  · by_cases hp : pairB n a b e = true
    · have h9 : (1 : Int) ≤ 1 ∧ b = false ∧ ((e.kind == 67) && decide (a.val + n ≤ e.val)) = true := by
        unfold pairB at hp
        simp at hp ⊢
        exact ⟨hp.1.1, hp.1.2, hp.2⟩
      rw [if_pos h9, if_pos hp, addR_grown, addR_done, h4, h5, pair_text]; rfl
    · have h9 : ¬ ((1 : Int) ≤ 1 ∧ b = false ∧ ((e.kind == 67) && decide (a.val + n ≤ e.val)) = true) := by
        intro h
        apply hp
        unfold pairB
        simp at h ⊢
        exact ⟨⟨h.1, h.2.1⟩, h.2.2⟩
      rw [if_neg h9, if_neg hp]; rfl
theorem start_pair (n m : Int) (e : Ev) : startR (pairP n m) e = if e.kind = 65 then ⟨false, noRun, [oneR e false], []⟩ else noRes := by
  have h1 : startR (pairP n m) e = if fitsS ⟨65, 1, 1, [], [⟨66, [⟨5, 0, 0, false⟩]⟩]⟩ noRun 0 e then addR (pairP n m) noRes (oneR e false) else noRes := rfl
  have h2 : fitsS ⟨65, 1, 1, [], [⟨66, [⟨5, 0, 0, false⟩]⟩]⟩ noRun 0 e = (e.kind == 65) := by simp [fitsS, allT]
  have h3 : addGrown (pairP n m) (oneR e false) = true := rfl
  have h4 : addDone (pairP n m) (oneR e false) = false := rfl
  rw [h1, h2]
  by_cases h : e.kind = 65
  · rw [if_pos (by simp [h]), if_pos h]
    unfold addR
    rw [h3, h4]; rfl
  · rw [if_neg (by simp [h]), if_neg h]
/-- Is an A still asked at place j? -/
def aliveT (m : Int) (l : List Ev) (k j : Nat) : Bool := (List.range' (k + 1) (j - (k + 1))).all fun i => decide ((evAt l i).time ≤ (evAt l k).time + m)
def barT (l : List Ev) (k j : Nat) : Bool := (List.range' (k + 1) (j - (k + 1))).any fun i => stopB (evAt l k) (evAt l i)
theorem range_more (k j : Nat) (h : k < j) : List.range' (k + 1) (j + 1 - (k + 1)) = List.range' (k + 1) (j - (k + 1)) ++ [j] := by
  rw [show j + 1 - (k + 1) = (j - (k + 1)) + 1 by omega, List.range'_concat]
  congr 2; omega
theorem alive_more (m : Int) (l : List Ev) (k j : Nat) (h : k < j) : aliveT m l k (j + 1) = (aliveT m l k j && decide ((evAt l j).time ≤ (evAt l k).time + m)) := by
  unfold aliveT
  rw [range_more k j h, List.all_append]; simp
theorem bar_more (l : List Ev) (k j : Nat) (h : k < j) : barT l k (j + 1) = (barT l k j || stopB (evAt l k) (evAt l j)) := by
  unfold barT
  rw [range_more k j h, List.any_append]; simp
def pairRuns (m : Int) (l : List Ev) (j : Nat) : List RRun := (List.range j).flatMap fun k => if (evAt l k).kind = 65 ∧ aliveT m l k j = true then [oneR (evAt l k) (barT l k j)] else []
def pairAt (n m : Int) (l : List Ev) (i k : Nat) : List (List UInt8) := if (evAt l k).kind = 65 ∧ aliveT m l k (i + 1) = true ∧ pairB n (evAt l k) (barT l k i) (evAt l i) = true then [pairT (evAt l k) (evAt l i)] else []
def pairDone (n m : Int) (l : List Ev) (j : Nat) : List (List UInt8) := (List.range j).flatMap fun i => (List.range i).flatMap fun k => pairAt n m l i k
theorem flatMap_mem_congr {α β : Type} {f g : α → List β} : ∀ {l : List α}, (∀ a ∈ l, f a = g a) → l.flatMap f = l.flatMap g := by
  intro l h
  rw [List.flatMap_def, List.flatMap_def, List.map_congr_left h]
theorem runs_pair (n m : Int) (l : List Ev) : ∀ j, j ≤ l.length → runA (pairP n m) (l.take j) = (pairRuns m l j, pairDone n m l j) := by
  intro j
  induction j with
  | zero => intro _; rfl
  | succ j ih =>
    intro h
    have hj : j < l.length := by omega
    have he : l[j] = evAt l j := by unfold evAt; rw [List.getD_eq_getElem?_getD, List.getElem?_eq_getElem hj]; rfl
    rw [List.take_succ_eq_append_getElem hj, runA_snoc, ih (by omega), he]
    unfold stepA
    rw [turnR_inn, inn_flat, start_pair]
    simp only []
    have key1 : (pairRuns m l j).flatMap (fun r => if (advR (pairP n m) r (evAt l j)).keep then [(advR (pairP n m) r (evAt l j)).run] else []) = (List.range j).flatMap fun k => if (evAt l k).kind = 65 ∧ aliveT m l k (j + 1) = true then [oneR (evAt l k) (barT l k (j + 1))] else [] := by
      unfold pairRuns
      rw [List.flatMap_assoc]
      refine flatMap_mem_congr fun k hk => ?_
      have hkj := List.mem_range.1 hk
      rw [alive_more m l k j hkj, bar_more l k j hkj]
      by_cases h1 : (evAt l k).kind = 65 ∧ aliveT m l k j = true
      · rw [if_pos h1, List.flatMap_singleton, adv_one]
        by_cases h2 : (evAt l k).time + m < (evAt l j).time
        · rw [if_pos h2]
          show ([] : List RRun) = _
          rw [if_neg (fun h => by have := h.2; simp at this; omega)]
        · rw [if_neg h2]
          show [oneR (evAt l k) (barT l k j || stopB (evAt l k) (evAt l j))] = _
          rw [if_pos (⟨h1.1, by rw [h1.2]; simp; omega⟩)]
      · rw [if_neg h1, if_neg (fun h => h1 ⟨h.1, by have := h.2; simp at this; exact this.1⟩)]; rfl
    have key2 : (pairRuns m l j).flatMap (fun r => (advR (pairP n m) r (evAt l j)).grown) = [] := by
      rw [List.flatMap_eq_nil_iff]
      intro r hr
      unfold pairRuns at hr
      obtain ⟨k, _, hr⟩ := List.mem_flatMap.1 hr
      split at hr
      · rw [List.mem_singleton.1 hr, adv_one]
        split <;> rfl
      · cases hr
    have key3 : (pairRuns m l j).flatMap (fun r => (advR (pairP n m) r (evAt l j)).done) = (List.range j).flatMap fun k => pairAt n m l j k := by
      unfold pairRuns
      rw [List.flatMap_assoc]
      refine flatMap_mem_congr fun k hk => ?_
      have hkj := List.mem_range.1 hk
      unfold pairAt
      rw [alive_more m l k j hkj]
      by_cases h1 : (evAt l k).kind = 65 ∧ aliveT m l k j = true
      · rw [if_pos h1, List.flatMap_singleton, adv_one]
        by_cases h2 : (evAt l k).time + m < (evAt l j).time
        · rw [if_pos h2]
          show ([] : List (List UInt8)) = _
          rw [if_neg (fun h => by have := h.2.1; simp at this; omega)]
        · rw [if_neg h2]
          show (if pairB n (evAt l k) (barT l k j) (evAt l j) = true then [pairT (evAt l k) (evAt l j)] else []) = _
          have h3 : (aliveT m l k j && decide ((evAt l j).time ≤ (evAt l k).time + m)) = true := by rw [h1.2]; simp; omega
          rw [h3]
          by_cases h4 : pairB n (evAt l k) (barT l k j) (evAt l j) = true
          · rw [if_pos h4, if_pos ⟨h1.1, rfl, h4⟩]
          · rw [if_neg h4, if_neg (fun h => h4 h.2.2)]
      · rw [if_neg h1, if_neg (fun h => h1 ⟨h.1, by have := h.2.1; simp at this; exact this.1⟩)]; rfl
    rw [key1, key2, key3]
    unfold pairRuns pairDone
    rw [List.range_succ, List.flatMap_append, List.flatMap_append, List.flatMap_singleton, List.flatMap_singleton]
    have e1 : aliveT m l j (j + 1) = true := by unfold aliveT; simp
    have e2 : barT l j (j + 1) = false := by unfold barT; simp
    rw [e1, e2]
    by_cases h5 : (evAt l j).kind = 65
    · rw [if_pos h5, if_pos ⟨h5, rfl⟩]; simp
    · rw [if_neg h5, if_neg (fun h => h5 h.1)]; simp [noRes]
/-- What two loops find, behind k of the events ahead of the i-th. -/
def pairOk (n m : Int) (l : List Ev) (i k : Nat) : Bool := (evAt l i).kind == 67 && ((evAt l k).kind == 65 && (decide ((evAt l i).time - (evAt l k).time ≤ m) && (decide ((evAt l k).val + n ≤ (evAt l i).val) && !barT l k i)))
theorem pair_at (n m : Int) (l : List Ev) (hs : ∀ x y, x < y → y < l.length → (evAt l x).time ≤ (evAt l y).time) {i k : Nat} (hk : k < i) (hi : i < l.length) : pairAt n m l i k = if pairOk n m l i k then [pairT (evAt l k) (evAt l i)] else [] := by
  have ha : aliveT m l k (i + 1) = decide ((evAt l i).time - (evAt l k).time ≤ m) := by
    rw [Bool.eq_iff_iff]
    unfold aliveT
    rw [List.all_eq_true]
    simp only [decide_eq_true_eq]
    constructor
    · intro h
      have := h i (by rw [List.mem_range']; exact ⟨i - (k + 1), by omega, by omega⟩)
      omega
    · intro h x hx
      rw [List.mem_range'] at hx
      obtain ⟨d, hd, rfl⟩ := hx
      rcases Nat.lt_or_ge (k + 1 + 1 * d) i with h1 | h1
      · have := hs _ _ h1 hi; omega
      · have : k + 1 + 1 * d = i := by omega
        rw [this]; omega
  unfold pairAt pairOk pairB
  rw [ha]
  by_cases h1 : (evAt l k).kind = 65
  · by_cases h2 : (evAt l i).time - (evAt l k).time ≤ m
    · by_cases h3 : (evAt l i).kind = 67
      · by_cases h4 : (evAt l k).val + n ≤ (evAt l i).val
        · cases h5 : barT l k i <;> simp [h1, h2, h3, h4]
        · simp [h1, h2, h3, h4]
      · simp [h1, h2, h3]
    · simp [h1, h2]
  · simp [h1]
theorem run_pairs (n m : Int) (l : List Ev) (hs : ∀ x y, x < y → y < l.length → (evAt l x).time ≤ (evAt l y).time) : (runA (pairP n m) l).2 = (List.range l.length).flatMap fun i => (List.range i).flatMap fun k => if pairOk n m l i k then [pairT (evAt l k) (evAt l i)] else [] := by
  have h := runs_pair n m l l.length (Nat.le_refl _)
  rw [List.take_length] at h
  rw [h]
  unfold pairDone
  refine flatMap_mem_congr fun i hi => flatMap_mem_congr fun k hk => ?_
  exact pair_at n m l hs (List.mem_range.1 hk) (List.mem_range.1 hi)
theorem flat_len_le {α β : Type} {f : α → List β} {c : Nat} : ∀ {l : List α}, (∀ a ∈ l, (f a).length ≤ c) → (l.flatMap f).length ≤ l.length * c := by
  intro l
  induction l with
  | nil => intro _; simp
  | cons x l ih =>
    intro h
    have h1 := h x List.mem_cons_self
    have h2 := ih fun a ha => h a (List.mem_cons_of_mem _ ha)
    rw [List.flatMap_cons, List.length_append, List.length_cons, Nat.add_mul]; omega
theorem pair_few (n m : Int) (l : List Ev) (j : Nat) (hj : j ≤ l.length) (hl : l.length ≤ 60) : (runA (pairP n m) (l.take j)).1.length ≤ 3600 ∧ (runA (pairP n m) (l.take j)).2.length ≤ 3600 := by
  rw [runs_pair n m l j hj]
  constructor
  · have : (pairRuns m l j).length ≤ (List.range j).length * 1 := flat_len_le fun k _ => by split <;> simp
    rw [List.length_range] at this
    show (pairRuns m l j).length ≤ 3600
    omega
  · have : (pairDone n m l j).length ≤ (List.range j).length * 60 := flat_len_le fun i hi => by
      have h1 : ((List.range i).flatMap fun k => pairAt n m l i k).length ≤ (List.range i).length * 1 := flat_len_le fun k _ => by unfold pairAt; split <;> simp
      have := List.mem_range.1 hi
      rw [List.length_range] at h1
      omega
    rw [List.length_range] at this
    show (pairDone n m l j).length ≤ 3600
    omega
end Go.Proofs.YtcojnojdgigmdaaDoor.PR
