/- All matches of a shorter window are, in order, among those of a longer one, in plain Lean. No program in sight. -/
import Derived.Test.YtcojnojdgigmdaaDoorB01
namespace Go.Proofs.YtcojnojdgigmdaaDoor.PR
open Go Go.Proofs.YtcojnojdgigmdaaDoor.PL Go.Proofs.YtcojnojdgigmdaaDoor.Mem

/-- The plan with another window. -/
def winR (p : RPlan) (w : Int) : RPlan := ⟨p.steps, w⟩
theorem addR_win (p : RPlan) (w : Int) (x : RRes) (r : RRun) : addR (winR p w) x r = addR p x r := rfl
theorem start_win (p : RPlan) (w : Int) (e : Ev) : startR (winR p w) e = startR p e := rfl
theorem adv_win (p : RPlan) (w : Int) (h : p.within ≤ w) (r : RRun) (e : Ev) : advR p r e = noRes ∨ advR p r e = advR (winR p w) r e := by
  unfold advR
  cases r.counts.getLast? with
  | none => exact .inl rfl
  | some n =>
    simp only []
    show (match p.steps[r.counts.length - 1]? with | none => noRes | some s => _) = noRes ∨ (match p.steps[r.counts.length - 1]? with | none => noRes | some s => _) = (match p.steps[r.counts.length - 1]? with | none => noRes | some s => _)
    cases p.steps[r.counts.length - 1]? with
    | none => exact .inl rfl
    | some s =>
      simp only []
      by_cases hd : untilR p r < e.time
      · left; rw [if_pos hd]
      · right
        have hd2 : ¬ untilR (winR p w) r < e.time := by
          unfold untilR at *
          cases hE : r.evs with
          | nil => rw [hE] at hd; exact hd
          | cons y l =>
            rw [hE] at hd
            show ¬ y.time + w < e.time
            simp only [] at hd
            omega
        rw [if_neg hd, if_neg hd2]
        rfl
theorem flat_sub {α β : Type} {f g : α → List β} (h : ∀ a, f a = [] ∨ f a = g a) {x y : List α} (hs : x.Sublist y) : (x.flatMap f).Sublist (y.flatMap g) := by
  induction hs with
  | slnil => exact List.Sublist.refl _
  | cons a _ ih => rw [List.flatMap_cons]; exact ih.trans (List.sublist_append_right _ _)
  | cons_cons a _ ih =>
    rw [List.flatMap_cons, List.flatMap_cons]
    rcases h a with e | e
    · rw [e, List.nil_append]; exact ih.trans (List.sublist_append_right _ _)
    · rw [e]; exact List.Sublist.append (List.Sublist.refl _) ih
theorem inn_flat (p : RPlan) (e : Ev) (rs : List RRun) : innR p e rs = (rs.flatMap (fun r => if (advR p r e).keep then [(advR p r e).run] else []), rs.flatMap (fun r => (advR p r e).grown), rs.flatMap fun r => (advR p r e).done) := by
  induction rs with
  | nil => rfl
  | cons r rs ih =>
    unfold innR at ih ⊢
    simp only [Prod.mk.injEq] at ih
    obtain ⟨i1, i2, i3⟩ := ih
    simp only [List.map_cons, List.filter_cons, List.flatMap_cons, i2, i3]
    cases (advR p r e).keep with
    | false => simp only [Bool.false_eq_true, if_false, i1, List.nil_append]
    | true => simp only [if_true, List.map_cons, i1, List.singleton_append]
theorem step_win (p : RPlan) (w : Int) (h : p.within ≤ w) (e : Ev) {s t : List RRun × List (List UInt8)} (h1 : s.1.Sublist t.1) (h2 : s.2.Sublist t.2) : (stepA p s e).1.Sublist (stepA (winR p w) t e).1 ∧ (stepA p s e).2.Sublist (stepA (winR p w) t e).2 := by
  unfold stepA
  rw [turnR_inn, turnR_inn, inn_flat, inn_flat, start_win]
  have ha := fun r => adv_win p w h r e
  refine ⟨List.Sublist.append (List.Sublist.append (flat_sub (fun r => ?_) h1) (flat_sub (fun r => ?_) h1)) (List.Sublist.refl _), List.Sublist.append h2 (List.Sublist.append (flat_sub (fun r => ?_) h1) (List.Sublist.refl _))⟩
  · rcases ha r with e1 | e1
    · left; rw [e1]; rfl
    · right; rw [e1]
  · rcases ha r with e1 | e1
    · left; rw [e1]; rfl
    · right; rw [e1]
  · rcases ha r with e1 | e1
    · left; rw [e1]; rfl
    · right; rw [e1]
theorem run_win (p : RPlan) (w : Int) (h : p.within ≤ w) (l : List Ev) : (runA p l).2.Sublist (runA (winR p w) l).2 := by
  have go : ∀ (l : List Ev) (s t : List RRun × List (List UInt8)), s.1.Sublist t.1 → s.2.Sublist t.2 → (l.foldl (stepA p) s).2.Sublist (l.foldl (stepA (winR p w)) t).2 := by
    intro l
    induction l with
    | nil => intro s t _ h2; exact h2
    | cons e l ih =>
      intro s t h1 h2
      obtain ⟨a, b⟩ := step_win p w h e h1 h2
      exact ih _ _ a b
  exact go l ([], []) ([], []) (List.Sublist.refl _) (List.Sublist.refl _)
/-- Taking away, one behind the other, what stands at the head. -/
def eat {α : Type} [DecidableEq α] : List α → List α → List α
  | s, [] => s
  | [], _ :: _ => []
  | x :: s, m :: l => if x = m then eat s l else eat (x :: s) l
theorem eat_nil {α : Type} [DecidableEq α] (l : List α) : eat [] l = [] := by cases l <;> rfl
/-- A part, in order, is eaten up. -/
theorem eat_sub {α : Type} [DecidableEq α] : ∀ (l s : List α), s.Sublist l → eat s l = [] := by
  intro l
  induction l with
  | nil => intro s h; rw [List.sublist_nil.1 h]; rfl
  | cons m l ih =>
    intro s h
    cases s with
    | nil => rfl
    | cons x s =>
      unfold eat
      split
      · rename_i hx
        subst hx
        exact ih s (List.cons_sublist_cons.1 h)
      · rename_i hx
        refine ih (x :: s) ?_
        cases h with
        | cons _ h => exact h
        | cons_cons _ _ => exact absurd rfl hx
end Go.Proofs.YtcojnojdgigmdaaDoor.PR
