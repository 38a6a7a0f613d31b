/- What is above a beginning, in plain Lean: the order of texts. No code is walked here. -/
import Derived.Test.YtceeijamhhokaaaDoorWKWake
namespace Go.Proofs.YtceeijamhhokaaaDoor.WK
open Go Go.RowKit Go.Proofs.YtceeijamhhokaaaDoor Go.Proofs.YtceeijamhhokaaaDoor.PK Go.Proofs.YtceeijamhhokaaaDoor.Mem

theorem cut_parts : ∀ (l : List UInt8) (k : Nat), cutN l = k + 1 → ∃ (p : List UInt8) (c : UInt8) (n : Nat), l = p ++ c :: List.replicate n 255 ∧ c ≠ 255 ∧ p.length = k := by
  have zero : ∀ l : List UInt8, cutN l = 0 → l = List.replicate l.length 255 := by
    intro l
    induction l with
    | nil => intro _; rfl
    | cons b l ih =>
      intro h
      unfold cutN at h
      split at h
      · rename_i h1
        split at h
        · rename_i h2
          have := ih h1
          rw [h2, List.length_cons, List.replicate_succ, ← this]
        · omega
      · omega
  intro l
  induction l with
  | nil => intro k h; unfold cutN at h; omega
  | cons b l ih =>
    intro k h
    unfold cutN at h
    split at h
    · rename_i h1
      split at h
      · omega
      · rename_i h2
        obtain rfl : k = 0 := by omega
        exact ⟨[], b, l.length, by rw [List.nil_append, ← zero l h1], h2, rfl⟩
    · rename_i h1
      obtain ⟨p, c, n, e, hc, hp⟩ := ih (k - 1) (by omega)
      exact ⟨b :: p, c, n, by rw [e]; rfl, hc, by simp; omega⟩
theorem cut_zero : ∀ (l : List UInt8), cutN l = 0 → ∀ j, j < l.length → l[j]? = some 255 := by
  intro l
  induction l with
  | nil => intro _ j hj; simp at hj
  | cons b l ih =>
    intro h j hj
    unfold cutN at h
    split at h
    · rename_i h1
      split at h
      · rename_i h2
        cases j with
        | zero => rw [h2]; rfl
        | succ j => exact ih h1 j (by simpa using hj)
      · omega
    · omega
theorem lt_next {c : UInt8} (hc : c ≠ 255) : c < c + 1 := by
  rw [UInt8.lt_iff_toNat_lt, UInt8.toNat_add]
  have h1 := c.toNat_lt
  have h2 : c.toNat ≠ 255 := fun e => hc (UInt8.toNat_inj.1 (by rw [e]; rfl))
  have h3 : (1 : UInt8).toNat = 1 := rfl
  rw [h3]
  omega
theorem less_next (p : List UInt8) {c : UInt8} (hc : c ≠ 255) (x : List UInt8) : Op.bytesLess (p ++ c :: x) (p ++ [c + 1]) = true := by
  induction p with
  | nil => simp [Op.bytesLess, lt_next hc]
  | cons a p ih => simp [Op.bytesLess, ih]
theorem less_ff : ∀ (n : Nat) (u : List UInt8), Op.bytesLess u (List.replicate n 255) = false → n ≤ u.length ∧ u.take n = List.replicate n 255 := by
  intro n
  induction n with
  | zero => intro u _; simp
  | succ n ih =>
    intro u h
    cases u with
    | nil => simp [List.replicate_succ, Op.bytesLess] at h
    | cons y u =>
      rw [List.replicate_succ] at h ⊢
      simp only [Op.bytesLess, Bool.or_eq_false_iff, decide_eq_false_iff_not, Bool.and_eq_false_iff] at h
      obtain ⟨h1, h2⟩ := h
      have hy : y = 255 := by
        apply UInt8.toNat_inj.1
        have h3 := y.toNat_lt
        have h4 : ¬ y.toNat < (255 : UInt8).toNat := fun e => h1 (UInt8.lt_iff_toNat_lt.2 e)
        have h5 : (255 : UInt8).toNat = 255 := rfl
        rw [h5] at h4 ⊢
        omega
      subst hy
      rcases h2 with h2 | h2
      · simp at h2
      · obtain ⟨h3, h4⟩ := ih u h2
        refine ⟨by simp; omega, ?_⟩
        rw [List.take_succ_cons, h4]
theorem between : ∀ (p : List UInt8) {c : UInt8} (_ : c ≠ 255) (n : Nat) (u : List UInt8), Op.bytesLess u (p ++ c :: List.replicate n 255) = false → Op.bytesLess u (p ++ [c + 1]) = true →
    (p ++ c :: List.replicate n 255).length ≤ u.length ∧ u.take (p ++ c :: List.replicate n 255).length = p ++ c :: List.replicate n 255 := by
  intro p
  induction p with
  | nil =>
    intro c hc n u h1 h2
    cases u with
    | nil => simp [Op.bytesLess] at h1
    | cons y u =>
      simp only [List.nil_append, Op.bytesLess, Bool.or_eq_false_iff, decide_eq_false_iff_not, Bool.and_eq_false_iff] at h1
      simp only [List.nil_append, Op.bytesLess, Bool.and_false, Bool.or_false, decide_eq_true_eq] at h2
      have hy : y = c := by
        apply UInt8.toNat_inj.1
        have h3 : ¬ y.toNat < c.toNat := fun e => h1.1 (UInt8.lt_iff_toNat_lt.2 e)
        have h4 := UInt8.lt_iff_toNat_lt.1 h2
        rw [UInt8.toNat_add] at h4
        have h5 : (1 : UInt8).toNat = 1 := rfl
        rw [h5] at h4
        have := c.toNat_lt
        omega
      subst hy
      rcases h1.2 with h3 | h3
      · simp at h3
      · obtain ⟨h4, h5⟩ := less_ff n u h3
        simp only [List.nil_append, List.length_cons, List.length_replicate, List.take_succ_cons]
        exact ⟨by omega, by rw [h5]⟩
  | cons a p ih =>
    intro c hc n u h1 h2
    cases u with
    | nil => simp [Op.bytesLess] at h1
    | cons y u =>
      simp only [List.cons_append, Op.bytesLess, Bool.or_eq_false_iff, decide_eq_false_iff_not, Bool.and_eq_false_iff] at h1
      simp only [List.cons_append, Op.bytesLess, Bool.or_eq_true, decide_eq_true_eq, Bool.and_eq_true] at h2
      rcases h2 with h2 | ⟨h2, h3⟩
      · exact absurd h2 h1.1
      · rcases h1.2 with h4 | h4
        · rw [h2] at h4; cases h4
        · obtain ⟨h5, h6⟩ := ih hc n u h4 h3
          have hy : y = a := by simpa using h2
          subst hy
          simp only [List.cons_append, List.length_cons, List.take_succ_cons]
          exact ⟨by omega, by rw [h6]⟩

/-- What is so of the text above another. -/
theorem above_all {s a : ByteArray} {k : Nat} (hk : cutN s.data.toList = k + 1) (ha : (⟨(s.data.toList.take k ++ [(s.data.toList[k]!) + 1]).toArray⟩ : ByteArray) = a) (t u : ByteArray) :
    Op.bytesLess (s ++ t).toList a.toList = true ∧ a.size ≤ s.size ∧ (Op.bytesLess u.toList s.toList = false → Op.bytesLess u.toList a.toList = true → s.size ≤ u.size ∧ u.extract 0 s.size = s) := by
  obtain ⟨p, c, n, e, hc, hp⟩ := cut_parts _ _ hk
  have e1 : a.data.toList = p ++ [c + 1] := by
    rw [← ha, e, ← hp]
    simp
  have el : s.data.toList.length = s.size := Array.length_toList
  have eu : u.data.toList.length = u.size := Array.length_toList
  have ea : a.data.toList.length = a.size := Array.length_toList
  refine ⟨?_, ?_, fun h1 h2 => ?_⟩
  · rw [Lib.toList_data, Lib.toList_data, e1, ByteArray.data_append, Array.toList_append, e, List.append_assoc]
    exact less_next p hc _
  · rw [e1] at ea
    rw [e] at el
    simp only [List.length_append, List.length_cons, List.length_nil] at ea el
    omega
  · rw [Lib.toList_data, Lib.toList_data, e] at h1
    rw [Lib.toList_data, Lib.toList_data, e1] at h2
    obtain ⟨h3, h4⟩ := between p hc n _ h1 h2
    rw [← e, el] at h3 h4
    rw [eu] at h3
    refine ⟨h3, ?_⟩
    apply ByteArray.ext
    rw [ByteArray.data_extract]
    apply Array.ext'
    rw [Array.toList_extract]
    simpa using h4
end Go.Proofs.YtceeijamhhokaaaDoor.WK
