/- Stable sorting of events: two stretches in order are merged by turning blocks. Plain lists and arrays; no program in sight. -/
import Derived.Test.YtcojnojdgigmdaaDoorB11
import Derived.Sort.LotA
import Derived.Sort.WalkA
namespace Go.Proofs.YtcojnojdgigmdaaDoor.ST
open Go Go.Proofs Go.Sort Go.Proofs.YtcojnojdgigmdaaDoor.Mem

/-- Does one event stand ahead of the other? -/
def ltS (x y : Ev) : Bool := decide (x.time < y.time ∨ x.time = y.time ∧ x.id < y.id)
def keyS (x : Ev) : Int × Int := (x.time, x.id)
theorem ltS_iff {x y : Ev} : ltS x y = true ↔ x.time < y.time ∨ x.time = y.time ∧ x.id < y.id := by unfold ltS; exact decide_eq_true_iff
theorem ltS_not {x y : Ev} : ltS x y = false ↔ ¬ (x.time < y.time ∨ x.time = y.time ∧ x.id < y.id) := by unfold ltS; exact decide_eq_false_iff_not
theorem ltS_swo : SWO ltS := by
  refine ⟨fun x => ltS_not.2 (by omega), fun x y z h1 h2 => ?_, fun x y z h1 h2 => ?_⟩
  · rw [ltS_iff] at *; omega
  · rw [ltS_not] at *; omega
theorem key_ne {x y : Ev} (h : ltS x y = true) : keyS x ≠ keyS y := by
  intro e
  rw [ltS_iff] at h
  have e1 : x.time = y.time := congrArg Prod.fst e
  have e2 : x.id = y.id := congrArg Prod.snd e
  omega
theorem key_eq {x y : Ev} (h1 : ltS x y = false) (h2 : ltS y x = false) : keyS x = keyS y := by
  rw [ltS_not] at h1 h2
  exact Prod.ext (show x.time = y.time by omega) (show x.id = y.id by omega)
theorem lt_of_le {x y z : Ev} (h1 : ltS x y = true) (h2 : ltS z y = false) : ltS x z = true := by
  rw [ltS_iff] at h1 ⊢; rw [ltS_not] at h2; omega
theorem lt_of_le2 {x y z : Ev} (h1 : ltS y x = false) (h2 : ltS y z = true) : ltS x z = true := by
  rw [ltS_iff] at h2 ⊢; rw [ltS_not] at h1; omega
theorem le_of_lt {x y : Ev} (h : ltS x y = true) : ltS y x = false := by
  rw [ltS_iff] at h; rw [ltS_not]; omega
/-- In order. -/
def Srt (l : List Ev) : Prop := l.Pairwise fun x y => ltS y x = false
/-- The same events, those of one key in the same order. -/
def Stab (l l' : List Ev) : Prop := ∀ k : Int × Int, l'.filter (fun x => keyS x == k) = l.filter (fun x => keyS x == k)
section
variable {l l' l'' a a' b b' c : List Ev}
theorem Stab.refl (l : List Ev) : Stab l l := fun _ => rfl
theorem Stab.trans (h : Stab l l') (h' : Stab l' l'') : Stab l l'' := fun k => (h' k).trans (h k)
theorem Stab.symm (h : Stab l l') : Stab l' l := fun k => (h k).symm
theorem Stab.app (h1 : Stab a a') (h2 : Stab b b') : Stab (a ++ b) (a' ++ b') := fun k => by rw [List.filter_append, List.filter_append, h1 k, h2 k]
theorem Stab.turn {X Y : List Ev} (h : ∀ x ∈ X, ∀ y ∈ Y, keyS x ≠ keyS y) : Stab (X ++ Y) (Y ++ X) := by
  intro k
  rw [List.filter_append, List.filter_append]
  by_cases hx : X.filter (fun x => keyS x == k) = []
  · rw [hx]; simp
  · have hy : Y.filter (fun x => keyS x == k) = [] := by
      obtain ⟨x, hx⟩ := List.exists_mem_of_ne_nil _ hx
      rw [List.mem_filter] at hx
      rw [List.filter_eq_nil_iff]
      intro y hy he
      exact h x hx.1 y hy ((beq_iff_eq.1 hx.2).trans (beq_iff_eq.1 he).symm)
    rw [hy]; simp
theorem mem_key (m : List Ev) (x : Ev) : x ∈ m ↔ x ∈ m.filter (fun y => keyS y == keyS x) := by simp [List.mem_filter]
theorem Stab.mem (h : Stab l l') {x : Ev} : x ∈ l' ↔ x ∈ l := by
  rw [mem_key l', mem_key l, h (keyS x)]
theorem Stab.cancel (h : Stab (a ++ l ++ c) (a ++ l' ++ c)) : Stab l l' := by
  intro k
  have := h k
  rw [List.filter_append, List.filter_append, List.filter_append, List.filter_append] at this
  exact List.append_cancel_left (List.append_cancel_right this)
theorem Stab.perm (h : Stab l l') : l'.Perm l := by
  rw [List.perm_iff_count]
  intro x
  have e : ∀ m : List Ev, m.count x = (m.filter (fun y => keyS y == keyS x)).count x := fun m => (List.count_filter (by simp)).symm
  rw [e l', e l, h]
theorem Stab.uniq : ∀ {l l' : List Ev}, Srt l → Srt l' → Stab l l' → l' = l := by
  intro l
  induction l with
  | nil =>
    intro l' _ _ h
    cases l' with
    | nil => rfl
    | cons y u => exact absurd (h.mem.1 (List.mem_cons_self (a := y) (l := u))) (by simp)
  | cons x t ih =>
    intro l' h1 h2 h
    cases l' with
    | nil => exact absurd (h.mem.2 (List.mem_cons_self (a := x) (l := t))) (by simp)
    | cons y u =>
      have hx : ltS x y = false := by
        rcases List.mem_cons.1 (h.mem.2 (List.mem_cons_self (a := x) (l := t))) with e | hm
        · rw [e]; exact ltS_swo.irrefl y
        · exact (List.pairwise_cons.1 h2).1 x hm
      have hy : ltS y x = false := by
        rcases List.mem_cons.1 (h.mem.1 (List.mem_cons_self (a := y) (l := u))) with e | hm
        · rw [e]; exact ltS_swo.irrefl x
        · exact (List.pairwise_cons.1 h1).1 y hm
      have hk := key_eq hx hy
      have h3 := h (keyS x)
      rw [List.filter_cons, List.filter_cons, if_pos (by simp [hk]), if_pos (by simp)] at h3
      injection h3 with h3 _
      subst h3
      rw [ih (List.pairwise_cons.1 h1).2 (List.pairwise_cons.1 h2).2 (fun k => by
        have h4 := h k
        rw [List.filter_cons, List.filter_cons] at h4
        split at h4
        · injection h4
        · exact h4)]
end

/-! ### One exchange, many exchanges -/
theorem swp_list {d : Array Ev} {A M C : List Ev} {x y : Ev} (h : d.toList = A ++ x :: (M ++ y :: C)) : (swp d A.length (A.length + 1 + M.length)).toList = A ++ y :: (M ++ x :: C) := by
  obtain ⟨l⟩ := d
  simp only at h
  subst h
  unfold swp
  have e1 : (A ++ x :: (M ++ y :: C)).toArray[A.length]! = x := by simp
  have e2 : (A ++ x :: (M ++ y :: C)).toArray[A.length + 1 + M.length]! = y := by
    simp [List.getElem?_append, show ¬ A.length + 1 + M.length < A.length by omega, show A.length + 1 + M.length - A.length = M.length + 1 by omega]
  rw [e1, e2]
  simp only [Array.toList_setIfInBounds]
  rw [List.set_append_right _ _ (by omega)]
  simp only [Nat.sub_self, List.set_cons_zero]
  rw [List.set_append_right _ _ (by omega), show A.length + 1 + M.length - A.length = M.length + 1 by omega, List.set_cons_succ, List.set_append_right _ _ (by omega)]
  simp
theorem swp_back {d : Array Ev} {A C : List Ev} {x y : Ev} (h : d.toList = A ++ x :: y :: C) : (swp d (A.length + 1) A.length).toList = A ++ y :: x :: C := by
  obtain ⟨l⟩ := d
  simp only at h
  subst h
  unfold swp
  have e1 : (A ++ x :: y :: C).toArray[A.length]! = x := by simp
  have e2 : (A ++ x :: y :: C).toArray[A.length + 1]! = y := by
    simp
  rw [e1, e2]
  simp only [Array.toList_setIfInBounds]
  rw [List.set_append_right _ _ (by omega), show A.length + 1 - A.length = 1 by omega]
  simp only [List.set_cons_succ, List.set_cons_zero]
  rw [List.set_append_right _ _ (by omega), Nat.sub_self]
  simp
/-- 'swapRange': so many exchanges. -/
def swapR : Nat → Nat → Nat → Array Ev → Array Ev
  | _, _, 0, d => d
  | a, b, n + 1, d => swapR (a + 1) (b + 1) n (swp d a b)
theorem swapR_size : ∀ (n a b : Nat) (d : Array Ev), (swapR a b n d).size = d.size := by
  intro n
  induction n with
  | zero => intro a b d; rfl
  | succ n ih => intro a b d; rw [swapR, ih, size_swp]
theorem swapR_list : ∀ (X Y A B C : List Ev) (d : Array Ev), X.length = Y.length → d.toList = A ++ (X ++ (B ++ (Y ++ C))) → (swapR A.length (A.length + X.length + B.length) X.length d).toList = A ++ (Y ++ (B ++ (X ++ C))) := by
  intro X
  induction X with
  | nil =>
    intro Y A B C d hl h
    have : Y = [] := List.eq_nil_of_length_eq_zero hl.symm
    subst this
    simpa [swapR] using h
  | cons x X ih =>
    intro Y A B C d hl h
    cases Y with
    | nil => simp at hl
    | cons y Y =>
      rw [List.length_cons, swapR]
      have h1 : d.toList = A ++ x :: ((X ++ B) ++ y :: (Y ++ C)) := by rw [h]; simp
      have h2 := swp_list h1
      rw [show A.length + 1 + (X ++ B).length = A.length + (X.length + 1) + B.length by rw [List.length_append]; omega] at h2
      have h3 := ih Y (A ++ [y]) (B ++ [x]) C (swp d A.length (A.length + (X.length + 1) + B.length)) (by simpa using hl) (by rw [h2]; simp)
      rw [List.length_append, List.length_append, List.length_singleton] at h3
      simp only [List.length_singleton] at h3
      rw [show A.length + 1 + X.length + (B.length + 1) = A.length + (X.length + 1) + B.length + 1 by omega] at h3
      rw [h3]; simp
/-- Where a turn stands: between here and there two blocks are still to be turned. -/
def Rot (m : Nat) (F : List Ev) (i j : Nat) (d : Array Ev) : Prop :=
  ∃ A X Y C : List Ev, d.toList = A ++ (X ++ (Y ++ C)) ∧ F = A ++ (Y ++ (X ++ C)) ∧ A.length + i = m ∧ X.length = i ∧ Y.length = j ∧ 0 < i ∧ 0 < j
theorem Rot.gt {m i j : Nat} {F : List Ev} {d : Array Ev} (h : Rot m F i j d) (hij : j < i) : Rot m F (i - j) j (swapR (m - i) m j d) := by
  obtain ⟨A, X, Y, C, h1, h2, h3, h4, h5, h6, h7⟩ := h
  obtain ⟨X1, X2, rfl, hX1⟩ : ∃ X1 X2, X = X1 ++ X2 ∧ X1.length = j := ⟨X.take j, X.drop j, (List.take_append_drop j X).symm, by rw [List.length_take]; omega⟩
  rw [List.length_append] at h4
  have h8 := swapR_list X1 Y A X2 C d (by omega) (by rw [h1]; simp)
  rw [show A.length = m - i by omega, show m - i + X1.length + X2.length = m by omega, hX1] at h8
  exact ⟨A ++ Y, X2, X1, C, by rw [h8]; simp, by rw [h2]; simp, by rw [List.length_append]; omega, by omega, by omega, by omega, by omega⟩
theorem Rot.lt {m i j : Nat} {F : List Ev} {d : Array Ev} (h : Rot m F i j d) (hij : i < j) : Rot m F i (j - i) (swapR (m - i) (m + j - i) i d) := by
  obtain ⟨A, X, Y, C, h1, h2, h3, h4, h5, h6, h7⟩ := h
  obtain ⟨Y1, Y2, rfl, hY1⟩ : ∃ Y1 Y2, Y = Y1 ++ Y2 ∧ Y1.length = j - i := ⟨Y.take (j - i), Y.drop (j - i), (List.take_append_drop _ Y).symm, by rw [List.length_take]; omega⟩
  rw [List.length_append] at h5
  have h8 := swapR_list X Y2 A Y1 C d (by omega) (by rw [h1]; simp)
  rw [show A.length = m - i by omega, show m - i + X.length + Y1.length = m + j - i by omega, h4] at h8
  exact ⟨A, Y2, Y1, X ++ C, by rw [h8], by rw [h2]; simp, by omega, by omega, by omega, by omega, by omega⟩
theorem Rot.eq {m i : Nat} {F : List Ev} {d : Array Ev} (h : Rot m F i i d) : (swapR (m - i) m i d).toList = F := by
  obtain ⟨A, X, Y, C, h1, h2, h3, h4, h5, h6, h7⟩ := h
  have h8 := swapR_list X Y A [] C d (by omega) (by rw [h1]; simp)
  rw [show A.length = m - i by omega, show m - i + X.length + ([] : List Ev).length = m by simp; omega, h4] at h8
  rw [h8, h2]; simp
theorem Rot.bounds {m i j : Nat} {F : List Ev} {d : Array Ev} (h : Rot m F i j d) : 0 < i ∧ 0 < j ∧ i ≤ m ∧ m + j ≤ d.size := by
  obtain ⟨A, X, Y, C, h1, h2, h3, h4, h5, h6, h7⟩ := h
  have := congrArg List.length h1
  simp only [Array.length_toList, List.length_append] at this
  omega
/-- An event is taken up behind so many. -/
def bubU : Nat → Nat → Array Ev → Array Ev
  | _, 0, d => d
  | k, n + 1, d => bubU (k + 1) n (swp d k (k + 1))
/-- An event is taken down ahead of so many. -/
def bubD : Nat → Nat → Array Ev → Array Ev
  | _, 0, d => d
  | k, n + 1, d => bubD (k - 1) n (swp d k (k - 1))
theorem bubU_size : ∀ (n k : Nat) (d : Array Ev), (bubU k n d).size = d.size := by
  intro n
  induction n with
  | zero => intro k d; rfl
  | succ n ih => intro k d; rw [bubU, ih, size_swp]
theorem bubD_size : ∀ (n k : Nat) (d : Array Ev), (bubD k n d).size = d.size := by
  intro n
  induction n with
  | zero => intro k d; rfl
  | succ n ih => intro k d; rw [bubD, ih, size_swp]
theorem bubU_list : ∀ (R A C : List Ev) (x : Ev) (d : Array Ev), d.toList = A ++ x :: (R ++ C) → (bubU A.length R.length d).toList = A ++ (R ++ x :: C) := by
  intro R
  induction R with
  | nil => intro A C x d h; simpa [bubU] using h
  | cons y R ih =>
    intro A C x d h
    rw [List.length_cons, bubU]
    have h2 := swp_list (A := A) (M := []) (x := x) (y := y) (C := R ++ C) (d := d) (by rw [h]; simp)
    have h3 := ih (A ++ [y]) C x (swp d A.length (A.length + 1)) (by simpa using h2)
    rw [List.length_append, List.length_singleton] at h3
    rw [h3]; simp
theorem bubD_list : ∀ (n : Nat) (L A C : List Ev) (y : Ev) (d : Array Ev), L.length = n → d.toList = A ++ (L ++ y :: C) → (bubD (A.length + n) n d).toList = A ++ y :: (L ++ C) := by
  intro n
  induction n with
  | zero =>
    intro L A C y d hl h
    have : L = [] := List.eq_nil_of_length_eq_zero hl
    subst this
    simpa [bubD] using h
  | succ n ih =>
    intro L A C y d hl h
    rw [bubD]
    obtain ⟨L', z, rfl⟩ : ∃ L' z, L = L' ++ [z] := ⟨L.dropLast, L.getLast (by intro e; subst e; simp at hl), (List.dropLast_concat_getLast _).symm⟩
    rw [List.length_append, List.length_singleton] at hl
    have h2 := swp_back (A := A ++ L') (x := z) (y := y) (C := C) (d := d) (by rw [h]; simp)
    rw [List.length_append, show A.length + L'.length + 1 = A.length + (n + 1) by omega, show A.length + L'.length = A.length + (n + 1) - 1 by omega] at h2
    have h3 := ih L' A (z :: C) y (swp d (A.length + (n + 1)) (A.length + (n + 1) - 1)) (by omega) (by rw [h2]; simp)
    rw [show A.length + (n + 1) - 1 = A.length + n by omega] at h3 ⊢
    rw [h3]; simp

/-! ### What a merge leaves -/
/-- The stretch from a to b is in order, the rest as it was; events of one key keep their order. -/
structure MergeA (d : Array Ev) (a b : Nat) (d' : Array Ev) : Prop where
  size : d'.size = d.size
  out : ∀ i, i < a ∨ b ≤ i → d'[i]! = d[i]!
  srt : SortedIn ltS a b d'
  stab : Stab d.toList d'.toList
/-- The same in lists. -/
def MergeL (A L R C : List Ev) (d' : Array Ev) : Prop := ∃ M : List Ev, d'.toList = A ++ (M ++ C) ∧ Srt M ∧ Stab (L ++ R) M
theorem at_list {d : Array Ev} {l : List Ev} (h : d.toList = l) (i : Nat) : d[i]! = l[i]! := by
  subst h
  obtain ⟨l⟩ := d
  simp
theorem srt_of {d : Array Ev} {A L C : List Ev} (h : d.toList = A ++ (L ++ C)) (hs : SortedIn ltS A.length (A.length + L.length) d) : Srt L := by
  unfold Srt
  rw [List.pairwise_iff_getElem]
  intro i j hi hj hij
  have := hs (A.length + i) (A.length + j) (by omega) (by omega) (by omega)
  rw [at_list h, at_list h] at this
  have e : ∀ t (ht : t < L.length), (A ++ (L ++ C))[A.length + t]! = L[t] := fun t ht => by
    rw [getElem!_pos _ _ (by simp; omega), List.getElem_append_right (by omega)]
    simp only [Nat.add_sub_cancel_left]
    rw [List.getElem_append_left ht]
  rwa [e i hi, e j hj] at this
theorem srt_to {d : Array Ev} {A M C : List Ev} (h : d.toList = A ++ (M ++ C)) (hs : Srt M) : SortedIn ltS A.length (A.length + M.length) d := by
  intro i j hi hij hj
  obtain ⟨i, rfl⟩ : ∃ t, i = A.length + t := ⟨i - A.length, by omega⟩
  obtain ⟨j, rfl⟩ : ∃ t, j = A.length + t := ⟨j - A.length, by omega⟩
  rw [at_list h, at_list h]
  have e : ∀ t (ht : t < M.length), (A ++ (M ++ C))[A.length + t]! = M[t] := fun t ht => by
    rw [getElem!_pos _ _ (by simp; omega), List.getElem_append_right (by omega)]
    simp only [Nat.add_sub_cancel_left]
    rw [List.getElem_append_left ht]
  rw [e i (by omega), e j (by omega)]
  exact List.pairwise_iff_getElem.1 hs i j _ _ (by omega)
/-- The stretches, as lists. -/
theorem cut3 (d : Array Ev) (a m b : Nat) (h1 : a ≤ m) (h2 : m ≤ b) (h3 : b ≤ d.size) : ∃ A L R C : List Ev, d.toList = A ++ (L ++ (R ++ C)) ∧ A.length = a ∧ L.length = m - a ∧ R.length = b - m := by
  refine ⟨d.toList.take a, (d.toList.drop a).take (m - a), (d.toList.drop m).take (b - m), d.toList.drop b, ?_, by simp; omega, by simp; omega, by simp; omega⟩
  have e1 : (d.toList.drop m).take (b - m) ++ d.toList.drop b = d.toList.drop m := by
    have := List.take_append_drop (b - m) (d.toList.drop m)
    rwa [List.drop_drop, show m + (b - m) = b by omega] at this
  have e2 : (d.toList.drop a).take (m - a) ++ d.toList.drop m = d.toList.drop a := by
    have := List.take_append_drop (m - a) (d.toList.drop a)
    rwa [List.drop_drop, show a + (m - a) = m by omega] at this
  rw [e1, e2, List.take_append_drop]
theorem MergeL.arr {d d' : Array Ev} {A L R C : List Ev} (h : d.toList = A ++ (L ++ (R ++ C))) (hm : MergeL A L R C d') : MergeA d A.length (A.length + L.length + R.length) d' := by
  obtain ⟨M, h1, h2, h3⟩ := hm
  have hl : M.length = L.length + R.length := by rw [h3.perm.length_eq, List.length_append]
  have hs : d'.size = d.size := by
    have e1 := congrArg List.length h1
    have e2 := congrArg List.length h
    simp only [Array.length_toList, List.length_append] at e1 e2
    omega
  refine ⟨hs, fun i hi => ?_, ?_, ?_⟩
  · rw [at_list h1, at_list h]
    rcases hi with hi | hi
    · rw [List.getElem!_eq_getElem?_getD, List.getElem!_eq_getElem?_getD, List.getElem?_append_left hi, List.getElem?_append_left hi]
    · have e1 : (A ++ (M ++ C))[i]? = C[i - (A.length + M.length)]? := by
        rw [← List.append_assoc, List.getElem?_append_right (by rw [List.length_append]; omega), List.length_append]
      have e2 : (A ++ (L ++ (R ++ C)))[i]? = C[i - (A.length + M.length)]? := by
        rw [← List.append_assoc L, ← List.append_assoc, List.getElem?_append_right (by rw [List.length_append, List.length_append]; omega), List.length_append, List.length_append, hl]
      rw [List.getElem!_eq_getElem?_getD, List.getElem!_eq_getElem?_getD, e1, e2]
  · rw [Nat.add_assoc, ← hl]; exact srt_to h1 h2
  · rw [h, h1, ← List.append_assoc L]
    exact (Stab.refl A).app (h3.app (Stab.refl C))
theorem sym_done {L1 L2 R1 R2 M1 M2 : List Ev} (h1 : ∀ x ∈ L1, ∀ y ∈ R2, ltS y x = false) (h2 : ∀ x ∈ L2, ∀ y ∈ R1, ltS y x = true) (hL : Srt (L1 ++ L2)) (hR : Srt (R1 ++ R2))
    (s1 : Srt M1) (t1 : Stab (L1 ++ R1) M1) (s2 : Srt M2) (t2 : Stab (L2 ++ R2) M2) : Srt (M1 ++ M2) ∧ Stab (L1 ++ L2 ++ (R1 ++ R2)) (M1 ++ M2) := by
  refine ⟨List.pairwise_append.2 ⟨s1, s2, fun x hx y hy => ?_⟩, ?_⟩
  · have hx := t1.mem.1 hx
    have hy := t2.mem.1 hy
    rcases List.mem_append.1 hx with hx | hx <;> rcases List.mem_append.1 hy with hy | hy
    · exact (List.pairwise_append.1 hL).2.2 x hx y hy
    · exact h1 x hx y hy
    · exact le_of_lt (h2 y hy x hx)
    · exact (List.pairwise_append.1 hR).2.2 x hx y hy
  · have e1 : Stab (L1 ++ L2 ++ (R1 ++ R2)) ((L1 ++ R1) ++ (L2 ++ R2)) := by
      have := ((Stab.refl L1).app ((Stab.turn (X := L2) (Y := R1) fun x hx y hy => (key_ne (h2 x hx y hy)).symm).app (Stab.refl R2)))
      simpa [List.append_assoc] using this
    exact e1.trans (t1.app t2)
/-- Where the stretches are parted. -/
theorem sym_cut {d : Array Ev} {A L R C : List Ev} (h : d.toList = A ++ (L ++ (R ++ C))) (hL : Srt L) (hR : Srt R) {s e : Nat} (hs1 : A.length ≤ s) (hs2 : s ≤ A.length + L.length) (he1 : A.length + L.length ≤ e) (he2 : e ≤ A.length + L.length + R.length)
    (hl : s = A.length ∨ e = A.length + L.length + R.length ∨ ltS d[e]! d[s - 1]! = false) (hr : s = A.length + L.length ∨ e = A.length + L.length ∨ ltS d[e - 1]! d[s]! = true) :
    ∃ L1 L2 R1 R2 : List Ev, L = L1 ++ L2 ∧ R = R1 ++ R2 ∧ A.length + L1.length = s ∧ A.length + L.length + R1.length = e ∧ (∀ x ∈ L1, ∀ y ∈ R2, ltS y x = false) ∧ ∀ x ∈ L2, ∀ y ∈ R1, ltS y x = true := by
  have atL : ∀ t (ht : t < L.length), d[A.length + t]! = L[t] := fun t ht => by
    rw [at_list h, getElem!_pos _ _ (by simp; omega), List.getElem_append_right (by omega)]
    simp only [Nat.add_sub_cancel_left]
    rw [List.getElem_append_left ht]
  have atR : ∀ t (ht : t < R.length), d[A.length + L.length + t]! = R[t] := fun t ht => by
    rw [at_list h, getElem!_pos _ _ (by simp; omega), List.getElem_append_right (by omega), List.getElem_append_right (by omega)]
    simp only [show A.length + L.length + t - A.length - L.length = t by omega]
    rw [List.getElem_append_left ht]
  have sL := List.pairwise_iff_getElem.1 hL
  have sR := List.pairwise_iff_getElem.1 hR
  refine ⟨L.take (s - A.length), L.drop (s - A.length), R.take (e - (A.length + L.length)), R.drop (e - (A.length + L.length)), (List.take_append_drop _ L).symm, (List.take_append_drop _ R).symm, by rw [List.length_take]; omega, by rw [List.length_take]; omega, fun x hx y hy => ?_, fun x hx y hy => ?_⟩
  · obtain ⟨i, hi, rfl⟩ := List.mem_iff_getElem.1 hx
    obtain ⟨j, hj, rfl⟩ := List.mem_iff_getElem.1 hy
    rw [List.length_take] at hi
    rw [List.length_drop] at hj
    rw [List.getElem_take, List.getElem_drop]
    rcases hl with hl | hl | hl
    · omega
    · omega
    · obtain ⟨p, rfl⟩ : ∃ p, s = A.length + (p + 1) := ⟨s - A.length - 1, by omega⟩
      obtain ⟨q, rfl⟩ : ∃ q, e = A.length + L.length + q := ⟨e - (A.length + L.length), by omega⟩
      rw [show A.length + (p + 1) - 1 = A.length + p by omega, atL p (by omega), atR q (by omega)] at hl
      have h1 : ltS L[p] L[i] = false := by
        by_cases hip : i = p
        · subst hip; exact ltS_swo.irrefl _
        · exact sL i p (by omega) (by omega) (by omega)
      have h2 : ltS (R[A.length + L.length + q - (A.length + L.length) + j]'(by omega)) R[q] = false := by
        by_cases hj0 : j = 0
        · subst hj0
          have : A.length + L.length + q - (A.length + L.length) + 0 = q := by omega
          simp only [this]; exact ltS_swo.irrefl _
        · exact sR q _ (by omega) (by omega) (by omega)
      exact ltS_swo.ntrans _ _ _ h2 (ltS_swo.ntrans _ _ _ hl h1)
  · obtain ⟨i, hi, rfl⟩ := List.mem_iff_getElem.1 hx
    obtain ⟨j, hj, rfl⟩ := List.mem_iff_getElem.1 hy
    rw [List.length_drop] at hi
    rw [List.length_take] at hj
    rw [List.getElem_take, List.getElem_drop]
    rcases hr with hr | hr | hr
    · omega
    · omega
    · obtain ⟨p, rfl⟩ : ∃ p, s = A.length + p := ⟨s - A.length, by omega⟩
      obtain ⟨q, rfl⟩ : ∃ q, e = A.length + L.length + (q + 1) := ⟨e - (A.length + L.length) - 1, by omega⟩
      rw [show A.length + L.length + (q + 1) - 1 = A.length + L.length + q by omega, atL p (by omega), atR q (by omega)] at hr
      have h1 : ltS (L[A.length + p - A.length + i]'(by omega)) L[p] = false := by
        by_cases hi0 : i = 0
        · subst hi0
          have : A.length + p - A.length + 0 = p := by omega
          simp only [this]; exact ltS_swo.irrefl _
        · exact sL p _ (by omega) (by omega) (by omega)
      have h2 : ltS R[q] R[j] = false := by
        by_cases hjq : j = q
        · subst hjq; exact ltS_swo.irrefl _
        · exact sR j q (by omega) (by omega) (by omega)
      exact lt_of_le (lt_of_le2 h2 hr) h1
/-! ### The insertion sort; the blocks -/
theorem adj {d : Array Ev} (j : Nat) (h : j + 1 < d.size) : d.toList = d.toList.take j ++ d[j]! :: d[j + 1]! :: d.toList.drop (j + 2) := by
  have h0 : j < d.toList.length := by simp; omega
  have h1 : j + 1 < d.toList.length := by simpa using h
  rw [getElem!_pos d j (by omega), getElem!_pos d (j + 1) h]
  conv => lhs; rw [← List.take_append_drop j d.toList, List.drop_eq_getElem_cons h0, List.drop_eq_getElem_cons h1]
  simp
theorem stab_adj {A C : List Ev} {x y : Ev} (h : ltS y x = true) : Stab (A ++ x :: y :: C) (A ++ y :: x :: C) := by
  have := (Stab.refl A).app ((Stab.turn (X := [x]) (Y := [y]) fun u hu v hv => by
    rw [List.mem_singleton.1 hu, List.mem_singleton.1 hv]; exact (key_ne h).symm).app (Stab.refl C))
  simpa using this
theorem insInner_stab (a : Nat) : ∀ (j : Nat) (d : Array Ev), j < d.size → (insInner ltS a j d).size = d.size ∧ Stab d.toList (insInner ltS a j d).toList := by
  intro j
  induction j with
  | zero => intro d _; rw [insInner]; exact ⟨rfl, Stab.refl _⟩
  | succ j ih =>
    intro d hj
    rw [insInner]
    split
    · rename_i hc
      rw [Bool.and_eq_true] at hc
      have h1 := adj j hj
      have h2 := swp_back h1
      rw [List.length_take, Array.length_toList, show min j d.size = j by omega] at h2
      obtain ⟨i1, i2⟩ := ih (swp d (j + 1) j) (by rw [size_swp]; omega)
      refine ⟨by rw [i1, size_swp], Stab.trans ?_ i2⟩
      rw [h2]
      conv => arg 1; rw [h1]
      exact stab_adj hc.2
    · exact ⟨rfl, Stab.refl _⟩
theorem insOuter_stab (a b : Nat) : ∀ (t i : Nat) (d : Array Ev), b - i = t → b ≤ d.size → Stab d.toList (insOuter ltS a b i d).toList := by
  intro t
  induction t with
  | zero => intro i d h _; rw [insOuter_stop _ _ _ _ _ (by omega)]; exact Stab.refl _
  | succ t ih =>
    intro i d h hb
    rw [insOuter_go _ _ _ _ _ (by omega)]
    obtain ⟨h1, h2⟩ := insInner_stab a i d (by omega)
    exact h2.trans (ih (i + 1) _ (by omega) (by omega))
theorem ins_merge (d : Array Ev) (a b : Nat) (h1 : a ≤ b) (h2 : b ≤ d.size) : MergeA d a b (insertionSort ltS d a b) := by
  obtain ⟨⟨p1, p2, _⟩, p3⟩ := insertionSort_holds ltS_swo d a b h1 h2
  exact ⟨p1, p2, p3, insOuter_stab a b _ _ d rfl h2⟩
section
variable {d d' : Array Ev} {a b x y n p q bs : Nat}
theorem MergeA.keep (h : MergeA d a b d') (hs : SortedIn ltS x y d) (ho : y ≤ a ∨ b ≤ x) : SortedIn ltS x y d' := fun i j h1 h2 h3 => by
  rw [h.out i (by omega), h.out j (by omega)]; exact hs i j h1 h2 h3
theorem srt_sub (h : SortedIn ltS a b d) (h1 : a ≤ x) (h2 : y ≤ b) : SortedIn ltS x y d := fun i j k1 k2 k3 => h i j (by omega) k2 (by omega)
/-- The blocks from one on are in order. -/
def BlkFrom (bs n p : Nat) (d : Array Ev) : Prop := ∀ q, p ≤ q → SortedIn ltS (q * bs) (min ((q + 1) * bs) n) d
/-- The blocks up to one are in order. -/
def BlkTo (bs n p : Nat) (d : Array Ev) : Prop := ∀ q, q < p → SortedIn ltS (q * bs) (min ((q + 1) * bs) n) d
theorem blk0 : BlkTo bs n 0 d := fun q h => absurd h (by omega)
theorem blk1_step (h : BlkTo 20 n q d) (hm : MergeA d (q * 20) (q * 20 + 20) d') : BlkTo 20 n (q + 1) d' := by
  intro r hr
  by_cases e : r = q
  · subst e; exact srt_sub hm.srt (Nat.le_refl _) (by omega)
  · exact hm.keep (h r (by omega)) (.inl (by omega))
theorem blk1_end (h : BlkTo 20 n q d) (hm : MergeA d (q * 20) n d') (hn : n < q * 20 + 20) : BlkFrom 20 n 0 d' := by
  intro r _
  rcases Nat.lt_trichotomy r q with e | e | e
  · exact hm.keep (h r e) (.inl (by omega))
  · subst e; exact srt_sub hm.srt (Nat.le_refl _) (by omega)
  · intro i j h1 h2 h3; omega
theorem two_mul_blk (p bs : Nat) : 2 * p * bs = p * (2 * bs) := by rw [Nat.mul_comm 2 p, Nat.mul_assoc]
theorem sm (q bs : Nat) : (q + 1) * bs = q * bs + bs := Nat.succ_mul q bs
theorem blk2_in1 (h : BlkFrom bs n (2 * p) d) (hn : p * (2 * bs) + bs ≤ n) : SortedIn ltS (p * (2 * bs)) (p * (2 * bs) + bs) d := by
  have := h (2 * p) (Nat.le_refl _)
  rw [sm (2 * p), two_mul_blk] at this
  exact srt_sub this (Nat.le_refl _) (by omega)
theorem blk2_in2 (h : BlkFrom bs n (2 * p) d) : SortedIn ltS (p * (2 * bs) + bs) (min (p * (2 * bs) + 2 * bs) n) d := by
  have := h (2 * p + 1) (by omega)
  rw [sm (2 * p + 1), sm (2 * p), two_mul_blk] at this
  exact srt_sub this (Nat.le_refl _) (by omega)
theorem blk2_step (h1 : BlkTo (2 * bs) n p d) (h2 : BlkFrom bs n (2 * p) d) (hm : MergeA d (p * (2 * bs)) (p * (2 * bs) + 2 * bs) d') : BlkTo (2 * bs) n (p + 1) d' ∧ BlkFrom bs n (2 * (p + 1)) d' := by
  refine ⟨fun r hr => ?_, fun r hr => ?_⟩
  · by_cases e : r = p
    · subst e; rw [sm r]; exact srt_sub hm.srt (Nat.le_refl _) (by omega)
    · have := Nat.mul_le_mul_right (2 * bs) (show r + 1 ≤ p by omega)
      exact hm.keep (h1 r (by omega)) (.inl (by omega))
  · have := Nat.mul_le_mul_right bs hr
    rw [two_mul_blk, sm p] at this
    exact hm.keep (h2 r (by omega)) (.inr (by omega))
theorem blk2_end (h1 : BlkTo (2 * bs) n p d) (hm : MergeA d (p * (2 * bs)) n d') (hn : n < p * (2 * bs) + 2 * bs) : BlkFrom (2 * bs) n 0 d' := by
  intro r _
  rcases Nat.lt_trichotomy r p with e | e | e
  · have := Nat.mul_le_mul_right (2 * bs) (show r + 1 ≤ p by omega)
    exact hm.keep (h1 r e) (.inl (by omega))
  · subst e; exact srt_sub hm.srt (Nat.le_refl _) (by omega)
  · have := Nat.mul_le_mul_right (2 * bs) (show p + 1 ≤ r by omega)
    rw [sm p] at this
    intro i j k1 k2 k3; omega
theorem blk2_none (h1 : BlkTo (2 * bs) n p d) (h2 : BlkFrom bs n (2 * p) d) (hn : n ≤ p * (2 * bs) + bs) : BlkFrom (2 * bs) n 0 d := by
  intro r _
  rcases Nat.lt_trichotomy r p with e | e | e
  · exact h1 r e
  · subst e
    have := h2 (2 * r) (Nat.le_refl _)
    rw [sm (2 * r), two_mul_blk] at this
    exact srt_sub this (Nat.le_refl _) (by omega)
  · have := Nat.mul_le_mul_right (2 * bs) (show p + 1 ≤ r by omega)
    rw [sm p] at this
    intro i j k1 k2 k3; omega
theorem blk_all (h : BlkFrom bs n 0 d) (hn : n ≤ bs) : SortedIn ltS 0 n d := by
  have := h 0 (Nat.le_refl _)
  exact srt_sub this (by omega) (by omega)
theorem srt_all (h : SortedIn ltS 0 d.size d) : Srt d.toList := srt_of (d := d) (A := []) (L := d.toList) (C := []) (by simp) (by simpa using h)
end
/-! ### symMerge's ways -/
theorem atA {d : Array Ev} {A X C : List Ev} (h : d.toList = A ++ (X ++ C)) (t : Nat) (ht : t < X.length) : d[A.length + t]! = X[t] := by
  rw [at_list h, getElem!_pos _ _ (by simp; omega), List.getElem_append_right (by omega)]
  simp only [Nat.add_sub_cancel_left]
  rw [List.getElem_append_left ht]
theorem merge_triv {d : Array Ev} {A L R C : List Ev} (h : d.toList = A ++ (L ++ (R ++ C))) (he : L = [] ∨ R = []) (hL : Srt L) (hR : Srt R) : MergeL A L R C d := by
  refine ⟨L ++ R, by rw [h]; simp, ?_, Stab.refl _⟩
  rcases he with rfl | rfl
  · simpa using hR
  · simpa using hL
theorem merge_one {d : Array Ev} {A R C : List Ev} {x : Ev} (h : d.toList = A ++ ([x] ++ (R ++ C))) (hR : Srt R) (t : Nat) (ht : t ≤ R.length) (h1 : t = 0 ∨ ltS d[A.length + t]! d[A.length]! = true) (h2 : t = R.length ∨ ltS d[A.length + 1 + t]! d[A.length]! = false) :
    MergeL A [x] R C (bubU A.length t d) := by
  have h' : d.toList = (A ++ [x]) ++ (R ++ C) := by rw [h]; simp
  have ex : d[A.length]! = x := by have := atA h 0 (by simp); simpa using this
  have eR : ∀ j (hj : j < R.length), d[A.length + 1 + j]! = R[j] := fun j hj => by have := atA h' j hj; simpa using this
  have sR := List.pairwise_iff_getElem.1 hR
  have a1 : ∀ y ∈ R.take t, ltS y x = true := by
    intro y hy
    obtain ⟨j, hj, rfl⟩ := List.mem_iff_getElem.1 hy
    rw [List.length_take] at hj
    rw [List.getElem_take]
    rcases h1 with h1 | h1
    · omega
    · obtain ⟨p, rfl⟩ : ∃ p, t = p + 1 := ⟨t - 1, by omega⟩
      rw [ex, show A.length + (p + 1) = A.length + 1 + p by omega, eR p (by omega)] at h1
      by_cases e : j = p
      · subst e; exact h1
      · exact lt_of_le2 (sR j p (by omega) (by omega) (by omega)) h1
  have a2 : ∀ y ∈ R.drop t, ltS y x = false := by
    intro y hy
    obtain ⟨j, hj, rfl⟩ := List.mem_iff_getElem.1 hy
    rw [List.length_drop] at hj
    rw [List.getElem_drop]
    rcases h2 with h2 | h2
    · omega
    · rw [ex, eR t (by omega)] at h2
      by_cases e : j = 0
      · subst e; exact h2
      · exact ltS_swo.ntrans _ _ _ (sR t (t + j) (by omega) (by omega) (by omega)) h2
  have h3 := bubU_list (R.take t) A (R.drop t ++ C) x d (by rw [h, ← List.append_assoc (R.take t), List.take_append_drop]; rfl)
  rw [List.length_take, show min t R.length = t by omega] at h3
  have hR2 : Srt (R.take t ++ R.drop t) := by rw [List.take_append_drop]; exact hR
  refine ⟨R.take t ++ x :: R.drop t, by rw [h3]; simp, List.pairwise_append.2 ⟨(List.pairwise_append.1 hR2).1, List.pairwise_cons.2 ⟨a2, (List.pairwise_append.1 hR2).2.1⟩, fun y hy z hz => ?_⟩, ?_⟩
  · rcases List.mem_cons.1 hz with rfl | hz
    · exact le_of_lt (a1 y hy)
    · exact (List.pairwise_append.1 hR2).2.2 y hy z hz
  · have h4 := (Stab.turn (X := [x]) (Y := R.take t) fun u hu v hv => by
      rw [List.mem_singleton.1 hu]; exact (key_ne (a1 v hv)).symm).app (Stab.refl (R.drop t))
    rw [List.append_assoc, List.append_assoc, List.take_append_drop] at h4
    exact h4
theorem merge_two {d : Array Ev} {A L C : List Ev} {y : Ev} (h : d.toList = A ++ (L ++ ([y] ++ C))) (hL : Srt L) (t : Nat) (ht : t ≤ L.length) (h1 : t = 0 ∨ ltS d[A.length + L.length]! d[A.length + t - 1]! = false) (h2 : t = L.length ∨ ltS d[A.length + L.length]! d[A.length + t]! = true) :
    MergeL A L [y] C (bubD (A.length + L.length) (L.length - t) d) := by
  have h' : d.toList = (A ++ L) ++ ([y] ++ C) := by rw [h]; simp
  have ey : d[A.length + L.length]! = y := by have := atA h' 0 (by simp); simpa using this
  have eL : ∀ j (hj : j < L.length), d[A.length + j]! = L[j] := fun j hj => atA h j hj
  have sL := List.pairwise_iff_getElem.1 hL
  have a1 : ∀ x ∈ L.take t, ltS y x = false := by
    intro x hx
    obtain ⟨j, hj, rfl⟩ := List.mem_iff_getElem.1 hx
    rw [List.length_take] at hj
    rw [List.getElem_take]
    rcases h1 with h1 | h1
    · omega
    · obtain ⟨p, rfl⟩ : ∃ p, t = p + 1 := ⟨t - 1, by omega⟩
      rw [ey, show A.length + (p + 1) - 1 = A.length + p by omega, eL p (by omega)] at h1
      by_cases e : j = p
      · subst e; exact h1
      · exact ltS_swo.ntrans _ _ _ h1 (sL j p (by omega) (by omega) (by omega))
  have a2 : ∀ x ∈ L.drop t, ltS y x = true := by
    intro x hx
    obtain ⟨j, hj, rfl⟩ := List.mem_iff_getElem.1 hx
    rw [List.length_drop] at hj
    rw [List.getElem_drop]
    rcases h2 with h2 | h2
    · omega
    · rw [ey, eL t (by omega)] at h2
      by_cases e : j = 0
      · subst e; exact h2
      · exact lt_of_le h2 (sL t (t + j) (by omega) (by omega) (by omega))
  have h3 := bubD_list (L.length - t) (L.drop t) (A ++ L.take t) C y d (by simp) (by rw [h, List.append_assoc A, ← List.append_assoc (L.take t), List.take_append_drop]; rfl)
  rw [List.length_append, List.length_take, show A.length + min t L.length + (L.length - t) = A.length + L.length by omega] at h3
  have hL2 : Srt (L.take t ++ L.drop t) := by rw [List.take_append_drop]; exact hL
  refine ⟨L.take t ++ y :: L.drop t, by rw [h3]; simp, List.pairwise_append.2 ⟨(List.pairwise_append.1 hL2).1, List.pairwise_cons.2 ⟨fun x hx => le_of_lt (a2 x hx), (List.pairwise_append.1 hL2).2.1⟩, fun u hu z hz => ?_⟩, ?_⟩
  · rcases List.mem_cons.1 hz with rfl | hz
    · exact a1 u hu
    · exact (List.pairwise_append.1 hL2).2.2 u hu z hz
  · have h4 := (Stab.refl (L.take t)).app (Stab.turn (X := L.drop t) (Y := [y]) fun u hu v hv => by
      rw [List.mem_singleton.1 hv]; exact (key_ne (a2 u hu)).symm)
    rw [← List.append_assoc, List.take_append_drop] at h4
    exact h4
theorem merge_join {A L1 L2 R1 R2 C M1 : List Ev} {d3 : Array Ev} (h1 : ∀ x ∈ L1, ∀ y ∈ R2, ltS y x = false) (h2 : ∀ x ∈ L2, ∀ y ∈ R1, ltS y x = true) (hL : Srt (L1 ++ L2)) (hR : Srt (R1 ++ R2)) (s1 : Srt M1) (t1 : Stab (L1 ++ R1) M1) (hm : MergeL (A ++ M1) L2 R2 C d3) :
    MergeL A (L1 ++ L2) (R1 ++ R2) C d3 := by
  obtain ⟨M2, k1, k2, k3⟩ := hm
  obtain ⟨j1, j2⟩ := sym_done h1 h2 hL hR s1 t1 k2 k3
  exact ⟨M1 ++ M2, by rw [k1]; simp, j1, j2⟩
theorem srt_nil : Srt [] := List.Pairwise.nil
theorem srt_left {X Y : List Ev} (h : Srt (X ++ Y)) : Srt X := (List.pairwise_append.1 h).1
theorem srt_right {X Y : List Ev} (h : Srt (X ++ Y)) : Srt Y := (List.pairwise_append.1 h).2.1
end Go.Proofs.YtcojnojdgigmdaaDoor.ST
