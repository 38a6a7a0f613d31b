/- What a row of events is told as, event by event (layer 21), in plain Lean. No program in sight. -/
import Derived.Test.YtcojnojdgigmdaaDoorPGrow2
namespace Go.Proofs.YtcojnojdgigmdaaDoor.PR
open Go Go.Proofs.YtcojnojdgigmdaaDoor.PL Go.Proofs.YtcojnojdgigmdaaDoor.Mem

theorem join_snoc (x : List UInt8) (r : List (List UInt8)) (y sep : List UInt8) : Lib.join (x :: r ++ [y]) sep = Lib.join (x :: r) sep ++ (sep ++ y) := by
  rw [List.cons_append, Lib.join_cons, Lib.join_cons]
  simp [Lib.joinTail]
theorem join_snoc' {l : List (List UInt8)} (h : l ≠ []) (y sep : List UInt8) : Lib.join (l ++ [y]) sep = Lib.join l sep ++ (sep ++ y) := by
  cases l with
  | nil => exact absurd rfl h
  | cons x r => exact join_snoc x r y sep
theorem parts_snoc {α : Type} : ∀ (c : List Nat) (n : Nat) (l : List α), parts (c ++ [n]) l = parts c l ++ [(l.drop c.sum).take n]
  | [], n, l => by simp [parts]
  | a :: c, n, l => by
    rw [List.cons_append, parts, parts, parts_snoc c n, List.drop_drop, List.sum_cons]; rfl
theorem parts_app {α : Type} : ∀ (c : List Nat) (l m : List α), c.sum ≤ l.length → parts c (l ++ m) = parts c l
  | [], l, m, _ => rfl
  | a :: c, l, m, h => by
    rw [List.sum_cons] at h
    rw [parts, parts, List.take_append_of_le_length (by omega), List.drop_append_of_le_length (by omega), parts_app c _ m (by rw [List.length_drop]; omega)]
theorem txtP_snoc {x : List Int} (h : x ≠ []) (n : Int) : txtP (x ++ [n]) = txtP x ++ (44 :: Lib.itoa n) := by
  unfold txtP
  rw [List.map_append, List.map_cons, List.map_nil, join_snoc' (by simpa using h)]; rfl
theorem txtP_one (n : Int) : txtP [n] = Lib.itoa n := by simp [txtP, Lib.join_one]
def idsM (l : List Ev) (m : Mt) : List Int := (m.map fun x => evAt l x.1).map (·.id)
theorem textM_parts (l : List Ev) (m : Mt) : textM l m = Lib.join ((parts (cntM m) (idsM l m)).map txtP) [124] := textR_parts _
theorem idsM_snoc (l : List Ev) (m : Mt) (i s : Nat) : idsM l (m ++ [(i, s)]) = idsM l m ++ [(evAt l i).id] := by simp [idsM]
theorem ids_sum {m : Mt} (h : SOk m) (l : List Ev) : (cntM m).sum = (idsM l m).length := by rw [h.counts.2]; simp [idsM]
theorem text_one (l : List Ev) (i : Nat) : textM l [(i, 0)] = Lib.itoa (evAt l i).id := by
  rw [textM_parts, cntM_one]
  simp [idsM, parts, txtP_one, Lib.join_one]
theorem text_same {m : Mt} (h : SOk m) (hm : m ≠ []) (l : List Ev) (i : Nat) : textM l (m ++ [(i, lastS m)]) = textM l m ++ (44 :: Lib.itoa (evAt l i).id) := by
  have hs := ids_sum h l
  have hp := h.counts.1
  rw [cntM_ne hm] at hs hp
  rw [List.sum_append, List.sum_singleton] at hs
  have hn := hp (countM m) (by simp)
  rw [textM_parts, textM_parts, cntM_same, cntM_ne hm, idsM_snoc, parts_snoc, parts_snoc, parts_app _ _ _ (by omega), List.drop_append_of_le_length (by omega), List.take_of_length_le (by simp; omega), List.take_of_length_le (by simp; omega), List.map_append, List.map_append, List.map_cons, List.map_nil, List.map_cons, List.map_nil]
  have hne : (idsM l m).drop (cntI m).sum ≠ [] := by
    intro h0
    have := congrArg List.length h0
    rw [List.length_drop, List.length_nil] at this
    omega
  rw [txtP_snoc hne]
  cases hq : (parts (cntI m) (idsM l m)).map txtP with
  | nil => simp [Lib.join_one]
  | cons a r =>
    rw [join_snoc, join_snoc]; simp
theorem text_next {m : Mt} (h : SOk m) (hm : m ≠ []) (l : List Ev) (i : Nat) : textM l (m ++ [(i, lastS m + 1)]) = textM l m ++ (124 :: Lib.itoa (evAt l i).id) := by
  have hs := ids_sum h l
  rw [textM_parts, textM_parts, cntM_next h hm, show cntI m ++ [countM m, 1] = (cntI m ++ [countM m]) ++ [1] by simp, ← cntM_ne hm, idsM_snoc, parts_snoc, parts_app _ _ _ (by omega), hs, List.drop_append_of_le_length (Nat.le_refl _), List.drop_length, List.nil_append, List.take_of_length_le (by simp), List.map_append, List.map_cons, List.map_nil, txtP_one]
  rw [join_snoc']
  · rfl
  · rw [cntM_ne hm, parts_snoc]; simp
/-- The text of the first n of a row. -/
def textTo (l : List Ev) (m : Mt) : Nat → List UInt8
  | 0 => []
  | n + 1 => textTo l m n ++ ((if 0 < n ∧ (m.getD n (0, 0)).2 = (m.getD (n - 1) (0, 0)).2 then [44] else []) ++ (if 0 < n ∧ (m.getD n (0, 0)).2 ≠ (m.getD (n - 1) (0, 0)).2 then [124] else [])) ++ Lib.itoa (evAt l (m.getD n (0, 0)).1).id
theorem textTo_app (l : List Ev) (m : Mt) (x : Nat × Nat) : ∀ n, n ≤ m.length → textTo l (m ++ [x]) n = textTo l m n
  | 0, _ => rfl
  | n + 1, h => by
    rw [textTo, textTo, textTo_app l m x n (by omega), getD_left (by omega : n < m.length), getD_left (by omega : n - 1 < m.length)]
theorem getD_last (m : Mt) (hm : m ≠ []) (x y : Nat × Nat) : ((m ++ [x]).getD (m.length - 1) y).2 = lastS m := by
  rcases List.eq_nil_or_concat m with rfl | ⟨a, z, rfl⟩
  · exact absurd rfl hm
  · rw [List.concat_eq_append]
    obtain ⟨i, s⟩ := z
    rw [lastS_snoc]
    simp
theorem textTo_all (l : List Ev) {m : Mt} (h : SOk m) : textTo l m m.length = textM l m := by
  have hl : ∀ (m : Mt) (x : Nat × Nat), (m ++ [x]).getD m.length (0, 0) = x := by intro m x; simp
  induction h with
  | nil => rw [textM_parts]; rfl
  | one i => rw [text_one]; simp [textTo]
  | @same m i h hm ih =>
    have hp : 0 < m.length := List.length_pos_iff.2 hm
    rw [text_same h hm, List.length_append, List.length_singleton, textTo, textTo_app l m _ _ (Nat.le_refl _), ih, hl, getD_last m hm, if_pos ⟨hp, rfl⟩, if_neg (fun h => h.2 rfl)]
    simp
  | @next m i h hm ih =>
    have hp : 0 < m.length := List.length_pos_iff.2 hm
    rw [text_next h hm, List.length_append, List.length_singleton, textTo, textTo_app l m _ _ (Nat.le_refl _), ih, hl, getD_last m hm, if_neg (fun h => absurd h.2 (by simp)), if_pos ⟨hp, by simp⟩]
    simp
end Go.Proofs.YtcojnojdgigmdaaDoor.PR
