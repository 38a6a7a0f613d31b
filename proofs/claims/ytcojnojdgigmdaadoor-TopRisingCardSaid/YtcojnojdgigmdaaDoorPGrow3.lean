/- The order of all matches (layer 21), in plain Lean: what stands ahead, the rows in order; the document's sort. No program in sight. -/
import Derived.Test.YtcojnojdgigmdaaDoorPGrow2
namespace Go.Proofs.YtcojnojdgigmdaaDoor.PR
open Go Go.Proofs.YtcojnojdgigmdaaDoor.PL Go.Proofs.YtcojnojdgigmdaaDoor.Mem

/-- The places, from the last one: none: they are the same. -/
def cmpAt : List Nat → List Nat → Option Bool
  | [], [] => none
  | [], _ :: _ => some false
  | _ :: _, [] => some true
  | x :: xs, y :: ys => if x = y then cmpAt xs ys else some (decide (x < y))
/-- The steps, from the first one, of rows of one length. -/
def cmpSt : List Nat → List Nat → Bool
  | x :: x' :: xs, y :: y' :: ys => if (x' == x) = (y' == y) then cmpSt (x' :: xs) (y' :: ys) else x' == x
  | _, _ => false
/-- Does one row stand ahead of another? -/
def aheadM (a b : Mt) : Bool := match cmpAt (a.map (·.1)).reverse (b.map (·.1)).reverse with
  | some r => r
  | none => cmpSt (a.map (·.2)) (b.map (·.2))
theorem cmpAt_swap : ∀ a b, cmpAt b a = (cmpAt a b).map not
  | [], [] => rfl
  | [], _ :: _ => rfl
  | _ :: _, [] => rfl
  | x :: xs, y :: ys => by
    unfold cmpAt
    by_cases h : x = y
    · rw [if_pos h, if_pos h.symm, cmpAt_swap xs ys]
    · rw [if_neg h, if_neg (Ne.symm h)]
      simp
      rcases Nat.lt_trichotomy x y with h1 | h1 | h1
      · simp [h1]; omega
      · exact absurd h1 h
      · simp [h1]; omega
theorem cmpAt_self : ∀ a, cmpAt a a = none
  | [] => rfl
  | x :: xs => by unfold cmpAt; rw [if_pos rfl, cmpAt_self xs]
theorem cmpAt_none : ∀ {a b}, cmpAt a b = none → a = b
  | [], [], _ => rfl
  | [], _ :: _, h => by cases h
  | _ :: _, [], h => by cases h
  | x :: xs, y :: ys, h => by
    unfold cmpAt at h
    by_cases hx : x = y
    · rw [if_pos hx] at h; rw [hx, cmpAt_none h]
    · rw [if_neg hx] at h; cases h
theorem cmpSt_self : ∀ a, cmpSt a a = false
  | [] => rfl
  | [_] => rfl
  | x :: x' :: xs => by unfold cmpSt; rw [if_pos rfl, cmpSt_self (x' :: xs)]
theorem cmpSt_asym : ∀ a b, cmpSt a b = true → cmpSt b a = false
  | [], _, h => by simp [cmpSt] at h
  | [_], _, h => by simp [cmpSt] at h
  | _ :: _ :: _, [], h => by simp [cmpSt] at h
  | _ :: _ :: _, [_], h => by simp [cmpSt] at h
  | x :: x' :: xs, y :: y' :: ys, h => by
    unfold cmpSt at h ⊢
    by_cases he : (x' == x) = (y' == y)
    · rw [if_pos he] at h
      rw [if_pos he.symm]
      exact cmpSt_asym (x' :: xs) (y' :: ys) h
    · rw [if_neg he] at h
      rw [if_neg (Ne.symm he)]
      rw [h] at he
      cases hy : (y' == y) with
      | false => rfl
      | true => rw [hy] at he; exact absurd rfl he
theorem ahead_self (a : Mt) : aheadM a a = false := by unfold aheadM; rw [cmpAt_self]; exact cmpSt_self _
theorem ahead_asym {a b : Mt} (h : aheadM a b = true) : aheadM b a = false := by
  unfold aheadM at h ⊢
  rw [cmpAt_swap (a.map (·.1)).reverse]
  cases hc : cmpAt (a.map (·.1)).reverse (b.map (·.1)).reverse with
  | none => rw [hc] at h; exact cmpSt_asym _ _ h
  | some r => rw [hc] at h; simp only [] at h; rw [h]; rfl
theorem cmpSt_app : ∀ (a b : List Nat) (s t : Nat), cmpSt a b = true → cmpSt (a ++ [s]) (b ++ [t]) = true
  | [], _, _, _, h => by simp [cmpSt] at h
  | [_], _, _, _, h => by simp [cmpSt] at h
  | _ :: _ :: _, [], _, _, h => by simp [cmpSt] at h
  | _ :: _ :: _, [_], _, _, h => by simp [cmpSt] at h
  | x :: x' :: xs, y :: y' :: ys, s, t, h => by
    have e : ∀ (x x' : Nat) (xs : List Nat) (s : Nat), x :: x' :: xs ++ [s] = x :: x' :: (xs ++ [s]) := fun _ _ _ _ => rfl
    rw [e, e]
    unfold cmpSt at h ⊢
    by_cases he : (x' == x) = (y' == y)
    · rw [if_pos he] at h ⊢
      exact cmpSt_app (x' :: xs) (y' :: ys) s t h
    · rw [if_neg he] at h ⊢
      exact h
theorem cmpSt_last : ∀ (a : List Nat) (x : Nat), cmpSt (a ++ [x] ++ [x]) (a ++ [x] ++ [x + 1]) = true
  | [], x => by simp [cmpSt]
  | [y], x => by simp [cmpSt]
  | y :: y' :: ys, x => by
    have := cmpSt_last (y' :: ys) x
    simp only [List.cons_append, List.append_assoc] at this ⊢
    unfold cmpSt
    rw [if_pos rfl]
    exact this
theorem ahead_last {a b : Mt} {i j s t : Nat} (h : i < j) : aheadM (a ++ [(i, s)]) (b ++ [(j, t)]) = true := by
  unfold aheadM
  have : cmpAt ((a ++ [(i, s)]).map (·.1)).reverse ((b ++ [(j, t)]).map (·.1)).reverse = some true := by
    simp only [List.map_append, List.map_cons, List.map_nil, List.reverse_append, List.reverse_cons, List.reverse_nil, List.nil_append, List.singleton_append, cmpAt]
    rw [if_neg (by omega)]
    simp [h]
  rw [this]
theorem ahead_par {a b : Mt} {i s t : Nat} (h : aheadM a b = true) : aheadM (a ++ [(i, s)]) (b ++ [(i, t)]) = true := by
  unfold aheadM at h ⊢
  have : cmpAt ((a ++ [(i, s)]).map (·.1)).reverse ((b ++ [(i, t)]).map (·.1)).reverse = cmpAt (a.map (·.1)).reverse (b.map (·.1)).reverse := by
    simp only [List.map_append, List.map_cons, List.map_nil, List.reverse_append, List.reverse_cons, List.reverse_nil, List.nil_append, List.singleton_append, cmpAt]
    rw [if_pos trivial]
  rw [this]
  cases hc : cmpAt (a.map (·.1)).reverse (b.map (·.1)).reverse with
  | none =>
    rw [hc] at h
    simp only [List.map_append, List.map_cons, List.map_nil] at h ⊢
    exact cmpSt_app _ _ _ _ h
  | some r => rw [hc] at h; exact h
theorem ahead_nil {a : Mt} (h : a ≠ []) : aheadM a [] = true := by
  unfold aheadM
  rcases List.eq_nil_or_concat a with rfl | ⟨b, x, rfl⟩
  · exact absurd rfl h
  · rw [List.concat_eq_append]
    simp [cmpAt]
theorem ahead_two {a : Mt} (h : a ≠ []) (i : Nat) : aheadM (a ++ [(i, lastS a)]) (a ++ [(i, lastS a + 1)]) = true := by
  unfold aheadM
  simp only [List.map_append, List.map_cons, List.map_nil, List.reverse_append, List.reverse_cons, List.reverse_nil, List.nil_append, List.singleton_append, cmpAt]
  rw [if_pos trivial, cmpAt_self]
  simp only []
  rcases List.eq_nil_or_concat a with rfl | ⟨b, x, rfl⟩
  · exact absurd rfl h
  · rw [List.concat_eq_append]
    obtain ⟨j, s⟩ := x
    rw [lastS_snoc, List.map_append]
    exact cmpSt_last _ _
/-- A row by its last one. -/
theorem from_last {m : Mt} {k : Nat} (h : m ≠ []) (hf : fromM m = k + 1) : ∃ a s, m = a ++ [(k, s)] := by
  rcases List.eq_nil_or_concat m with rfl | ⟨a, x, rfl⟩
  · exact absurd rfl h
  · rw [List.concat_eq_append] at hf ⊢
    obtain ⟨i, s⟩ := x
    rw [fromM_snoc] at hf
    have : i = k := by omega
    exact ⟨a, s, by rw [this]⟩
theorem ahead_from {a b : Mt} (ha : a ≠ []) (hb : b ≠ []) (h : fromM a < fromM b) : aheadM a b = true := by
  rcases List.eq_nil_or_concat a with rfl | ⟨a', x, rfl⟩
  · exact absurd rfl ha
  rcases List.eq_nil_or_concat b with rfl | ⟨b', y, rfl⟩
  · exact absurd rfl hb
  rw [List.concat_eq_append, List.concat_eq_append] at h ⊢
  obtain ⟨i, s⟩ := x
  obtain ⟨j, t⟩ := y
  rw [fromM_snoc, fromM_snoc] at h
  exact ahead_last (by omega)
def InOrd (l : List Mt) : Prop := l.Pairwise fun x y => aheadM x y = true
theorem kids_ord (p : RPlan) (l : List Ev) (m : Mt) (i : Nat) (hm : m ≠ [] ∨ ∀ g ∈ kidsM p l m i, ∀ s, g = m ++ [(i, s)] → s = 0) : InOrd (kidsM p l m i) := by
  rw [kids_two] at hm ⊢
  unfold InOrd
  cases h1 : kidOk p l m i (lastS m) <;> cases h2 : kidOk p l m i (lastS m + 1) <;> simp
  rcases hm with hm | hm
  · exact ahead_two hm i
  · exfalso
    have := hm (m ++ [(i, lastS m + 1)]) (by simp [h2]) _ rfl
    omega
theorem kids_form {p : RPlan} {l : List Ev} {m : Mt} {i : Nat} {g : Mt} (h : g ∈ kidsM p l m i) : ∃ s, g = m ++ [(i, s)] := by
  unfold kidsM at h
  obtain ⟨s, _, rfl⟩ := List.mem_map.1 h
  exact ⟨s, rfl⟩
theorem ord_flat (p : RPlan) (l : List Ev) (i : Nat) : ∀ ms : List Mt, (∀ m ∈ ms, m ≠ []) → InOrd ms → InOrd (ms.flatMap fun m => kidsM p l m i)
  | [], _, _ => by rw [List.flatMap_nil]; exact .nil
  | m :: ms, hn, h => by
    have h' := List.pairwise_cons.1 h
    unfold InOrd
    rw [List.flatMap_cons, List.pairwise_append]
    refine ⟨kids_ord p l m i (.inl (hn m (by simp))), ord_flat p l i ms (fun x hx => hn x (List.mem_cons_of_mem _ hx)) h'.2, ?_⟩
    intro x hx y hy
    obtain ⟨b, hb, hy⟩ := List.mem_flatMap.1 hy
    obtain ⟨s, rfl⟩ := kids_form hx
    obtain ⟨t, rfl⟩ := kids_form hy
    exact ahead_par (h'.1 b hb)
theorem rowsC_ord {p : RPlan} (hp : ∀ s ∈ p.steps, 1 ≤ s.lo ∧ s.lo ≤ s.hi) (l : List Ev) (ms : List Mt) (i : Nat) (hn : ∀ m ∈ ms, m ≠ []) (h : InOrd ms) : InOrd (rowsC p l ms i) := by
  unfold rowsC InOrd
  rw [List.pairwise_append]
  refine ⟨ord_flat p l i _ (fun m hm => hn m (List.mem_filter.1 hm).1) (h.filter _), kids_ord p l [] i (.inr ?_), ?_⟩
  · intro g hg s hs
    have h1 := (kids_ok SOk.nil hg fun _ => hp).1.ok
    rw [hs] at h1
    generalize hq : ([] ++ [(i, s)] : Mt) = q at h1
    cases h1 with
    | nil => simp at hq
    | one j => simp at hq; omega
    | @same m j h2 hm2 =>
      have := congrArg List.length hq
      simp at this
      exact absurd this hm2
    | @next m j h2 hm2 =>
      have := congrArg List.length hq
      simp at this
      exact absurd this hm2
  · intro x hx y hy
    obtain ⟨b, hb, hx⟩ := List.mem_flatMap.1 hx
    obtain ⟨s, rfl⟩ := kids_form hx
    obtain ⟨t, rfl⟩ := kids_form hy
    exact ahead_par (ahead_nil (hn b (List.mem_filter.1 hb).1))
theorem rows_ord {p : RPlan} (hp : ∀ s ∈ p.steps, 1 ≤ s.lo ∧ s.lo ≤ s.hi) (l : List Ev) : ∀ k, InOrd (rowsM p l k).1 ∧ InOrd (rowsM p l k).2 := by
  intro k
  induction k with
  | zero => exact ⟨.nil, .nil⟩
  | succ k ih =>
    have hok := rowsM_ok hp l k
    have hc := rowsC_ord hp l (rowsM p l k).1 k (fun m hm => (hok.1 m hm).ne) ih.1
    have hf : ∀ g ∈ rowsC p l (rowsM p l k).1 k, g ≠ [] ∧ fromM g = k + 1 := by
      intro g hg
      have := rowsC_ok hp (fun m hm => (hok.1 m hm).ok) hg
      refine ⟨this.ne, ?_⟩
      unfold rowsC at hg
      rcases List.mem_append.1 hg with hg | hg
      · obtain ⟨m, _, hg⟩ := List.mem_flatMap.1 hg
        obtain ⟨s, rfl⟩ := kids_form hg
        exact fromM_snoc _ _ _
      · obtain ⟨s, rfl⟩ := kids_form hg
        exact fromM_snoc _ _ _
    refine ⟨?_, ?_⟩
    · show List.Pairwise _ (_ ++ _)
      rw [List.pairwise_append]
      refine ⟨ih.1.filter _, hc.filter _, ?_⟩
      intro x hx y hy
      have h1 := hok.1 x (List.mem_filter.1 hx).1
      have h2 := hf y (List.mem_filter.1 hy).1
      exact ahead_from h1.ne h2.1 (by have := h1.le; omega)
    · show List.Pairwise _ (_ ++ _)
      rw [List.pairwise_append]
      refine ⟨ih.2, hc.filter _, ?_⟩
      intro x hx y hy
      have h1 := hok.2 x hx
      have h2 := hf y (List.mem_filter.1 hy).1
      exact ahead_from h1.ne h2.1 (by have := h1.le; omega)

/-- May the row go on with the i-th event as one of the step? -/
structure Kid (p : RPlan) (l : List Ev) (m : Mt) (i s : Nat) : Prop where
  le : fromM m ≤ i
  lt : i < l.length
  alive : ∀ j, fromM m ≤ j → j ≤ i → aliveM p l m j = true
  two : s = lastS m ∨ s = lastS m + 1
  ok : kidOk p l m i s = true
theorem mem_kids {p : RPlan} {l : List Ev} {m g : Mt} {i : Nat} : g ∈ kidsM p l m i ↔ ∃ s, g = m ++ [(i, s)] ∧ (s = lastS m ∨ s = lastS m + 1) ∧ kidOk p l m i s = true := by
  unfold kidsM
  rw [List.mem_map]
  constructor
  · rintro ⟨s, hs, rfl⟩
    obtain ⟨h1, h2⟩ := List.mem_filter.1 hs
    exact ⟨s, rfl, by simpa using h1, h2⟩
  · rintro ⟨s, rfl, h1, h2⟩
    exact ⟨s, List.mem_filter.2 ⟨by simpa using h1, h2⟩, rfl⟩
/-- The rows that may be. -/
inductive Val (p : RPlan) (l : List Ev) : Mt → Prop
  | nil : Val p l []
  | snoc {m : Mt} (i s : Nat) : Val p l m → Kid p l m i s → Val p l (m ++ [(i, s)])
/-- One row goes on to another. -/
inductive Ext (p : RPlan) (l : List Ev) : Mt → Mt → Prop
  | refl (m : Mt) : Ext p l m m
  | step {m m' : Mt} (i s : Nat) : Kid p l m i s → Ext p l (m ++ [(i, s)]) m' → Ext p l m m'
theorem Ext.snoc {p : RPlan} {l : List Ev} {a b : Mt} (h : Ext p l a b) {i s : Nat} (hk : Kid p l b i s) : Ext p l a (b ++ [(i, s)]) := by
  induction h with
  | refl m => exact .step i s hk (.refl _)
  | step i' s' hk' _ ih => exact .step i' s' hk' (ih hk)
theorem Val.ext {p : RPlan} {l : List Ev} {m : Mt} (h : Val p l m) : Ext p l [] m := by
  induction h with
  | nil => exact .refl _
  | snoc i s _ hk ih => exact ih.snoc hk
theorem Ext.val {p : RPlan} {l : List Ev} {a b : Mt} (h : Ext p l a b) (ha : Val p l a) : Val p l b := by
  induction h with
  | refl m => exact ha
  | step i s hk _ ih => exact ih (.snoc i s ha hk)
theorem Ext.pre {p : RPlan} {l : List Ev} {a b : Mt} (h : Ext p l a b) : a <+: b := by
  induction h with
  | refl m => exact List.prefix_refl _
  | step i s _ _ ih => exact (List.prefix_append _ _).trans ih
theorem mem_while {p : Nat → Bool} : ∀ {n a i : Nat}, i ∈ (List.range' a n).takeWhile p ↔ a ≤ i ∧ i < a + n ∧ ∀ j, a ≤ j → j ≤ i → p j = true
  | 0, a, i => by simp; omega
  | n + 1, a, i => by
    rw [List.range'_succ, List.takeWhile_cons]
    by_cases hp : p a = true
    · rw [if_pos hp, List.mem_cons, mem_while]
      constructor
      · rintro (rfl | ⟨h1, h2, h3⟩)
        · exact ⟨Nat.le_refl _, by omega, fun j h4 h5 => by rw [show j = i by omega]; exact hp⟩
        · refine ⟨by omega, by omega, fun j h4 h5 => ?_⟩
          by_cases hj : j = a
          · rw [hj]; exact hp
          · exact h3 j (by omega) h5
      · rintro ⟨h1, h2, h3⟩
        by_cases hi : i = a
        · exact .inl hi
        · exact .inr ⟨by omega, by omega, fun j h4 h5 => h3 j (by omega) h5⟩
    · rw [if_neg hp]
      constructor
      · intro h; cases h
      · rintro ⟨h1, _, h3⟩
        exact absurd (h3 a (Nat.le_refl _) h1) hp
theorem mem_step {p : RPlan} {l : List Ev} {m : Mt} {i : Nat} {g : Mt} : (i ∈ (List.range' (fromM m) (l.length - fromM m)).takeWhile (aliveM p l m) ∧ g ∈ kidsM p l m i) ↔ ∃ s, g = m ++ [(i, s)] ∧ Kid p l m i s := by
  rw [mem_while, mem_kids]
  constructor
  · rintro ⟨⟨h1, h2, h3⟩, s, rfl, h4, h5⟩
    exact ⟨s, rfl, h1, by omega, h3, h4, h5⟩
  · rintro ⟨s, rfl, h⟩
    exact ⟨⟨h.le, by have := h.le; have := h.lt; omega, h.alive⟩, s, rfl, h.two, h.ok⟩
theorem mem_grow {p : RPlan} {l : List Ev} : ∀ {f : Nat} {m m' : Mt}, l.length < f + fromM m → fromM m ≤ l.length → (m' ∈ growM p l f m ↔ Ext p l m m' ∧ doneM p m' = true)
  | 0, m, m', hf, hl => by omega
  | f + 1, m, m', hf, hl => by
    unfold growM
    rw [List.mem_append, List.mem_flatMap]
    constructor
    · rintro (h | ⟨i, hi, h⟩)
      · split at h
        · rename_i hd
          rw [List.mem_singleton.1 h]
          exact ⟨.refl _, hd⟩
        · cases h
      · obtain ⟨g, hg, h⟩ := List.mem_flatMap.1 h
        obtain ⟨s, rfl, hk⟩ := mem_step.1 ⟨hi, hg⟩
        have h1 := hk.le
        have h2 := hk.lt
        have := (mem_grow (by rw [fromM_snoc]; omega) (by rw [fromM_snoc]; omega)).1 h
        exact ⟨.step i s hk this.1, this.2⟩
    · rintro ⟨he, hd⟩
      cases he with
      | refl => left; rw [if_pos hd]; simp
      | step i s hk h =>
        right
        have h1 := hk.le
        have h2 := hk.lt
        obtain ⟨h3, h4⟩ := mem_step.2 ⟨s, rfl, hk⟩
        exact ⟨i, h3, List.mem_flatMap.2 ⟨_, h4, (mem_grow (by rw [fromM_snoc]; omega) (by rw [fromM_snoc]; omega)).2 ⟨h, hd⟩⟩⟩
theorem grow_pre {p : RPlan} {l : List Ev} {f : Nat} {m m' : Mt} (h : m' ∈ growM p l f m) : m <+: m' := by
  induction f generalizing m with
  | zero => cases h
  | succ f ih =>
    unfold growM at h
    rcases List.mem_append.1 h with h | h
    · split at h
      · rw [List.mem_singleton.1 h]; exact List.prefix_refl _
      · cases h
    · obtain ⟨i, _, h⟩ := List.mem_flatMap.1 h
      obtain ⟨g, hg, h⟩ := List.mem_flatMap.1 h
      obtain ⟨s, rfl⟩ := kids_form hg
      exact (List.prefix_append _ _).trans (ih h)
theorem grow_nodup (p : RPlan) (l : List Ev) : ∀ (f : Nat) (m : Mt), (growM p l f m).Nodup := by
  intro f
  induction f with
  | zero => intro m; exact .nil
  | succ f ih =>
    intro m
    have two : ∀ {x : Mt} {i j s t : Nat}, m ++ [(i, s)] <+: x → m ++ [(j, t)] <+: x → i = j ∧ s = t := by
      intro x i j s t h1 h2
      obtain ⟨u, rfl⟩ := h1
      obtain ⟨v, hv⟩ := h2
      rw [List.append_assoc, List.append_assoc] at hv
      have := List.append_cancel_left hv
      simp only [List.singleton_append, List.cons.injEq, Prod.mk.injEq] at this
      exact ⟨this.1.1.symm, this.1.2.symm⟩
    unfold growM
    rw [List.nodup_append]
    refine ⟨by split <;> simp, ?_, ?_⟩
    · unfold List.Nodup
      rw [List.pairwise_flatMap]
      refine ⟨fun i _ => ?_, ?_⟩
      · rw [List.pairwise_flatMap]
        refine ⟨fun g _ => ih g, ?_⟩
        rw [kids_two]
        have h2 : ∀ x ∈ growM p l f (m ++ [(i, lastS m)]), ∀ y ∈ growM p l f (m ++ [(i, lastS m + 1)]), x ≠ y := by
          intro x hx y hy hxy
          rw [← hxy] at hy
          have := two (grow_pre hx) (grow_pre hy)
          omega
        cases kidOk p l m i (lastS m) <;> cases kidOk p l m i (lastS m + 1) <;> simp
        intro x hx y hy
        exact h2 x hx y hy
      · have h1 : ((List.range' (fromM m) (l.length - fromM m)).takeWhile (aliveM p l m)).Pairwise (· ≠ ·) := (List.nodup_range').sublist (List.takeWhile_sublist _)
        refine h1.imp ?_
        intro i j hij x hx y hy hxy
        rw [← hxy] at hy
        obtain ⟨g, hg, hx⟩ := List.mem_flatMap.1 hx
        obtain ⟨g', hg', hy⟩ := List.mem_flatMap.1 hy
        obtain ⟨s, rfl⟩ := kids_form hg
        obtain ⟨t, rfl⟩ := kids_form hg'
        exact hij (two (grow_pre hx) (grow_pre hy)).1
    · intro x hx y hy hxy
      rw [← hxy] at hy
      obtain ⟨i, _, hy⟩ := List.mem_flatMap.1 hy
      obtain ⟨g, hg, hy⟩ := List.mem_flatMap.1 hy
      obtain ⟨s, rfl⟩ := kids_form hg
      have h1 := grow_pre hy
      split at hx
      · rw [List.mem_singleton.1 hx] at h1
        have := h1.length_le
        simp at this
        omega
      · cases hx
theorem kid_growable {p : RPlan} {l : List Ev} {m : Mt} {i s : Nat} (h : Kid p l m i s) : growableM p m = true := by
  unfold growableM
  by_cases h1 : lastS m + 1 = p.steps.length
  · have hok := h.ok
    rcases h.two with rfl | rfl
    · unfold kidOk at hok
      cases hs : p.steps[lastS m]? with
      | none => rw [hs] at hok; cases hok
      | some x =>
        rw [hs] at hok
        simp only [if_true, Bool.and_eq_true] at hok
        simp [hok.1]
        try (have := hok.1; simp at this; omega)
    · unfold kidOk at hok
      have : p.steps[lastS m + 1]? = none := by rw [List.getElem?_eq_none_iff]; omega
      rw [this] at hok; cases hok
  · simp [h1]
theorem Val.le {p : RPlan} {l : List Ev} {m : Mt} (h : Val p l m) : fromM m ≤ l.length := by
  cases h with
  | nil => exact Nat.zero_le _
  | snoc i s _ hk => rw [fromM_snoc]; exact hk.lt
theorem mem_rows {p : RPlan} (l : List Ev) : ∀ k, k ≤ l.length → (∀ m, m ∈ (rowsM p l k).1 ↔ Val p l m ∧ m ≠ [] ∧ fromM m ≤ k ∧ growableM p m = true ∧ ∀ j, fromM m ≤ j → j < k → aliveM p l m j = true) ∧ ∀ m, m ∈ (rowsM p l k).2 ↔ Val p l m ∧ m ≠ [] ∧ fromM m ≤ k ∧ doneM p m = true := by
  intro k
  induction k with
  | zero =>
    intro _
    have h0 : ∀ m : Mt, m ≠ [] → ¬ fromM m ≤ 0 := by
      intro m hm hf
      rcases List.eq_nil_or_concat m with rfl | ⟨a, x, rfl⟩
      · exact hm rfl
      · rw [List.concat_eq_append] at hf
        obtain ⟨i, s⟩ := x
        rw [fromM_snoc] at hf
        omega
    refine ⟨fun m => ⟨fun h => (by cases h), fun h => absurd h.2.2.1 (h0 m h.2.1)⟩, fun m => ⟨fun h => (by cases h), fun h => absurd h.2.2.1 (h0 m h.2.1)⟩⟩
  | succ k ih =>
    intro hk
    obtain ⟨ih1, ih2⟩ := ih (by omega)
    have hc : ∀ g, g ∈ rowsC p l (rowsM p l k).1 k ↔ Val p l g ∧ g ≠ [] ∧ fromM g = k + 1 := by
      intro g
      unfold rowsC
      rw [List.mem_append, List.mem_flatMap]
      constructor
      · rintro (⟨m, hm, hg⟩ | hg)
        · obtain ⟨hm1, hm2⟩ := List.mem_filter.1 hm
          obtain ⟨v, _, v2, _, v3⟩ := (ih1 m).1 hm1
          obtain ⟨s, rfl, h1, h2⟩ := mem_kids.1 hg
          refine ⟨.snoc k s v ⟨v2, by omega, fun j h3 h4 => ?_, h1, h2⟩, snoc_ne _ _, fromM_snoc _ _ _⟩
          by_cases hj : j = k
          · rw [hj]; exact hm2
          · exact v3 j h3 (by omega)
        · obtain ⟨s, rfl, h1, h2⟩ := mem_kids.1 hg
          exact ⟨.snoc k s .nil ⟨Nat.zero_le _, by omega, fun _ _ _ => rfl, h1, h2⟩, snoc_ne _ _, fromM_snoc _ _ _⟩
      · rintro ⟨v, hn, hf⟩
        cases v with
        | nil => exact absurd rfl hn
        | @snoc m i s v hkid =>
          rw [fromM_snoc] at hf
          have : i = k := by omega
          subst this
          by_cases hm : m = []
          · subst hm
            exact .inr (mem_kids.2 ⟨s, rfl, hkid.two, hkid.ok⟩)
          · left
            refine ⟨m, List.mem_filter.2 ⟨(ih1 m).2 ⟨v, hm, hkid.le, kid_growable hkid, fun j h1 h2 => hkid.alive j h1 (by omega)⟩, hkid.alive i hkid.le (Nat.le_refl _)⟩, mem_kids.2 ⟨s, rfl, hkid.two, hkid.ok⟩⟩
    refine ⟨fun m => ?_, fun m => ?_⟩
    · show m ∈ _ ++ _ ↔ _
      rw [List.mem_append, List.mem_filter, List.mem_filter, hc, ih1]
      constructor
      · rintro (⟨⟨v, h1, h2, h3, h4⟩, h5⟩ | ⟨⟨v, h1, h2⟩, h3⟩)
        · refine ⟨v, h1, by omega, h3, fun j h6 h7 => ?_⟩
          by_cases hj : j = k
          · rw [hj]; exact h5
          · exact h4 j h6 (by omega)
        · exact ⟨v, h1, by omega, h3, fun j h6 h7 => by omega⟩
      · rintro ⟨v, h1, h2, h3, h4⟩
        by_cases hf : fromM m = k + 1
        · exact .inr ⟨⟨v, h1, hf⟩, h3⟩
        · exact .inl ⟨⟨v, h1, by omega, h3, fun j h6 h7 => h4 j h6 (by omega)⟩, h4 k (by omega) (by omega)⟩
    · show m ∈ _ ++ _ ↔ _
      rw [List.mem_append, List.mem_filter, hc, ih2]
      constructor
      · rintro (⟨v, h1, h2, h3⟩ | ⟨⟨v, h1, h2⟩, h3⟩)
        · exact ⟨v, h1, by omega, h3⟩
        · exact ⟨v, h1, by omega, h3⟩
      · rintro ⟨v, h1, h2, h3⟩
        by_cases hf : fromM m = k + 1
        · exact .inr ⟨⟨v, h1, hf⟩, h3⟩
        · exact .inl ⟨v, h1, by omega, h3⟩
/-- The document's order: each one ahead of the first that it stands ahead of. -/
def insM (o : List Mt) (x : Mt) : List Mt := o.takeWhile (fun y => !aheadM x y) ++ x :: o.dropWhile fun y => !aheadM x y
def sortM (f : List Mt) : List Mt := f.foldl insM []
theorem ins_ord {A : List Mt} (hA : InOrd A) {P : Mt → Bool} {x : Mt} (hx : x ∈ A) (hP : P x = false) : insM (A.filter P) x = A.filter fun y => P y || y == x := by
  obtain ⟨a, b, rfl⟩ := List.append_of_mem hx
  have h1 := List.pairwise_append.1 hA
  have h2 := List.pairwise_cons.1 h1.2.1
  have ha : ∀ y ∈ a, aheadM x y = false := fun y hy => ahead_asym (h1.2.2 y hy x (by simp))
  have hb : ∀ y ∈ b, aheadM x y = true := fun y hy => h2.1 y hy
  have na : ∀ y ∈ a, y ≠ x := fun y hy he => by
    have := h1.2.2 y hy x (by simp)
    rw [he, ahead_self] at this; cases this
  have nb : ∀ y ∈ b, y ≠ x := fun y hy he => by
    have := hb y hy
    rw [he, ahead_self] at this; cases this
  rw [List.filter_append, List.filter_append, List.filter_cons, List.filter_cons, hP]
  simp only [Bool.false_eq_true, if_false, Bool.false_or, beq_self_eq_true, if_true]
  have fa : (a.filter fun y => P y || y == x) = a.filter P := by
    apply List.filter_congr
    intro y hy
    simp [na y hy]
  have fb : (b.filter fun y => P y || y == x) = b.filter P := by
    apply List.filter_congr
    intro y hy
    simp [nb y hy]
  rw [fa, fb]
  unfold insM
  have ta : ∀ y ∈ a.filter P, (!aheadM x y) = true := fun y hy => by rw [ha y (List.mem_filter.1 hy).1]; rfl
  have tb : (b.filter P).takeWhile (fun y => !aheadM x y) = [] ∧ (b.filter P).dropWhile (fun y => !aheadM x y) = b.filter P := by
    cases hbb : b.filter P with
    | nil => exact ⟨rfl, rfl⟩
    | cons y r =>
      have hy : y ∈ b := (List.mem_filter.1 (by rw [hbb]; simp : y ∈ b.filter P)).1
      simp [hb y hy]
  rw [List.takeWhile_append_of_pos ta, List.dropWhile_append_of_pos ta, tb.1, tb.2, List.append_nil]
theorem sort_ord {A : List Mt} (hA : InOrd A) : ∀ (F : List Mt) (P : Mt → Bool), F.Nodup → (∀ x ∈ F, x ∈ A ∧ P x = false) → F.foldl insM (A.filter P) = A.filter fun y => P y || decide (y ∈ F)
  | [], P, _, _ => by simp
  | x :: F, P, hn, hF => by
    have hn' := List.nodup_cons.1 hn
    rw [List.foldl_cons, ins_ord hA (hF x (by simp)).1 (hF x (by simp)).2, sort_ord hA F _ hn'.2]
    · apply List.filter_congr
      intro y _
      by_cases hy : y = x
      · simp [hy]
      · have h2 : (y == x) = false := beq_eq_false_iff_ne.2 hy
        rw [h2]
        simp [hy]
    · intro y hy
      refine ⟨(hF y (List.mem_cons_of_mem _ hy)).1, ?_⟩
      have : y ≠ x := fun h => hn'.1 (h ▸ hy)
      simp [(hF y (List.mem_cons_of_mem _ hy)).2, this]
/-- All matches, as the document tries and orders them, are those that the runs come to, in their order. -/
theorem grow_all {p : RPlan} (hp : ∀ s ∈ p.steps, 1 ≤ s.lo ∧ s.lo ≤ s.hi) (l : List Ev) : sortM (growM p l (l.length + 1) []) = (rowsM p l l.length).2 := by
  have hA := (rows_ord hp l l.length).2
  have hm : ∀ m, m ∈ growM p l (l.length + 1) [] ↔ m ∈ (rowsM p l l.length).2 := by
    intro m
    rw [(mem_rows l l.length (Nat.le_refl _)).2, mem_grow (by show l.length < _ + 0; omega) (Nat.zero_le _)]
    constructor
    · rintro ⟨h1, h2⟩
      have v := h1.val .nil
      refine ⟨v, ?_, v.le, h2⟩
      intro h0
      subst h0
      simp [doneM] at h2
    · rintro ⟨v, _, _, h2⟩
      exact ⟨v.ext, h2⟩
  have h := sort_ord hA (growM p l (l.length + 1) []) (fun _ => false) (grow_nodup p l _ _) fun x hx => ⟨(hm x).1 hx, rfl⟩
  unfold sortM
  have e : (rowsM p l l.length).2.filter (fun _ => false) = [] := by simp
  rw [e] at h
  rw [h, List.filter_eq_self]
  intro y hy
  simp [(hm y).2 hy]
theorem all_rows {p : RPlan} (hp : ∀ s ∈ p.steps, 1 ≤ s.lo ∧ s.lo ≤ s.hi) (l : List Ev) : (runA p l).2 = (sortM (growM p l (l.length + 1) [])).map (textM l) := by
  rw [grow_all hp]
  have := sim hp l l.length (Nat.le_refl _)
  rw [List.take_length] at this
  rw [this]
theorem four_pos (n : Nat) : 1 ≤ 4 ^ n := Nat.pow_pos (by decide)
/-- How many there are. -/
theorem grow_len (p : RPlan) (l : List Ev) : ∀ (f : Nat) (m : Mt), fromM m ≤ l.length → (growM p l f m).length ≤ 4 ^ (l.length - fromM m) := by
  intro f
  induction f with
  | zero => intro m _; exact Nat.zero_le _
  | succ f ih =>
    intro m hm
    have hk : ∀ i, fromM m ≤ i → i < l.length → ((kidsM p l m i).flatMap (growM p l f)).length ≤ 2 * 4 ^ (l.length - (i + 1)) := by
      intro i _ h2
      have h3 : ∀ s, (growM p l f (m ++ [(i, s)])).length ≤ 4 ^ (l.length - (i + 1)) := by
        intro s
        have := ih (m ++ [(i, s)]) (by rw [fromM_snoc]; omega)
        rwa [fromM_snoc] at this
      have a := h3 (lastS m)
      have b := h3 (lastS m + 1)
      rw [kids_two]
      cases kidOk p l m i (lastS m) <;> cases kidOk p l m i (lastS m + 1) <;> simp <;> omega
    have hs : ∀ (n a : Nat), fromM m ≤ a → a + n = l.length → ∀ (q : Nat → Bool), (((List.range' a n).takeWhile q).flatMap fun i => (kidsM p l m i).flatMap (growM p l f)).length + 1 ≤ 4 ^ n := by
      intro n
      induction n with
      | zero => intro a _ _ q; simp
      | succ n ihn =>
        intro a ha hl q
        rw [List.range'_succ, List.takeWhile_cons]
        have h1 := hk a ha (by omega)
        have h2 := ihn (a + 1) (by omega) (by omega) q
        have h4 : l.length - (a + 1) = n := by omega
        rw [h4] at h1
        have h5 : 4 ^ (n + 1) = 4 * 4 ^ n := by rw [Nat.pow_succ]; omega
        have h6 : 1 ≤ 4 ^ n := four_pos n
        split
        · rw [List.flatMap_cons, List.length_append]; omega
        · simp; omega
    unfold growM
    have := hs (l.length - fromM m) (fromM m) (Nat.le_refl _) (by omega) (aliveM p l m)
    rw [List.length_append]
    split
    · simp only [List.length_singleton]; omega
    · simp only [List.length_nil]; omega
end Go.Proofs.YtcojnojdgigmdaaDoor.PR
