/- Events of other kinds than the pattern's make no difference, in plain Lean. No program in sight. -/
import Derived.Test.YtcojnojdgigmdaaDoorB13
namespace Go.Proofs.YtcojnojdgigmdaaDoor.WR
open Go Go.Proofs.YtcojnojdgigmdaaDoor.PL Go.Proofs.YtcojnojdgigmdaaDoor.PR Go.Proofs.YtcojnojdgigmdaaDoor.Mem

/-- May the run still go on at that time? -/
def aliveR (p : RPlan) (T : Int) (r : RRun) : Bool := !decide (untilR p r < T)
/-- No step and no bar of the plan asks for that kind. -/
def NoKind (p : RPlan) (z : Int) : Prop := ∀ s ∈ p.steps, s.kind ≠ z ∧ ∀ b ∈ s.bars, b.kind ≠ z
theorem fits_no {p : RPlan} {z : Int} (h : NoKind p z) {s : RPos} (hs : s ∈ p.steps) {e : Ev} (he : e.kind = z) (r : RRun) (k : Nat) : fitsS s r k e = false := by
  unfold fitsS
  have : (e.kind == s.kind) = false := by
    rw [beq_eq_false_iff_ne, he]
    exact fun h' => (h s hs).1 h'.symm
  rw [this]; rfl
theorem adv_dead {p : RPlan} {r : RRun} {e : Ev} (h : untilR p r < e.time) : advR p r e = noRes := by
  unfold advR
  cases r.counts.getLast? with
  | none => rfl
  | some n =>
    simp only []
    cases p.steps[r.counts.length - 1]? with
    | none => rfl
    | some s => simp only []; rw [if_pos h]
theorem start_no {p : RPlan} {z : Int} (h : NoKind p z) {e : Ev} (he : e.kind = z) : startR p e = noRes := by
  unfold startR
  cases hS : p.steps with
  | nil => rfl
  | cons s l =>
    simp only []
    rw [fits_no h (by rw [hS]; simp) he]; rfl
theorem adv_no {p : RPlan} {z : Int} (h : NoKind p z) {e : Ev} (he : e.kind = z) {r : RRun} (hg : 0 < r.counts.length ∧ r.counts.length ≤ p.steps.length) : (advR p r e).grown = [] ∧ (advR p r e).done = [] ∧ ((advR p r e).keep = aliveR p e.time r) ∧ ((advR p r e).keep = true → (advR p r e).run = r) := by
  by_cases hd : untilR p r < e.time
  · rw [adv_dead hd]
    have ha : aliveR p e.time r = false := by unfold aliveR; rw [decide_eq_true hd]; rfl
    rw [ha]
    exact ⟨rfl, rfl, rfl, fun h => by cases h⟩
  · have ha : aliveR p e.time r = true := by unfold aliveR; rw [decide_eq_false hd]; rfl
    rw [ha]
    unfold advR
    obtain ⟨n, hn⟩ : ∃ n, r.counts.getLast? = some n := by
      cases hc : r.counts.getLast? with
      | none => rw [List.getLast?_eq_none_iff] at hc; rw [hc] at hg; exact absurd hg.1 (by simp)
      | some n => exact ⟨n, rfl⟩
    have hlt : r.counts.length - 1 < p.steps.length := by omega
    rw [hn]
    simp only []
    rw [List.getElem?_eq_getElem hlt]
    simp only []
    rw [if_neg hd]
    have f1 := fits_no h (List.getElem_mem hlt) he r (r.counts.length - 1)
    have hb : ((p.steps[r.counts.length - 1]).bars.any fun b => (e.kind == b.kind) && allT b.tests r (r.counts.length - 1) e) = false := by
      rw [List.any_eq_false]
      intro b hb
      have : (e.kind == b.kind) = false := by
        rw [beq_eq_false_iff_ne, he]
        exact fun h' => (h _ (List.getElem_mem hlt)).2 b hb h'.symm
      rw [this]; simp
    rw [f1, hb]
    simp only [Bool.or_false]
    cases hS2 : p.steps[r.counts.length - 1 + 1]? with
    | none => exact ⟨by simp [noRes], by simp [noRes], trivial, fun _ => by trivial⟩
    | some s2 =>
      have f2 := fits_no h (List.mem_of_getElem? hS2) he r (r.counts.length - 1 + 1)
      simp only []
      rw [f2]
      exact ⟨by simp [noRes], by simp [noRes], trivial, fun _ => by trivial⟩
/-- A turn with such an event: those that may go on. -/
theorem turn_no {p : RPlan} {z : Int} (h : NoKind p z) {e : Ev} (he : e.kind = z) : ∀ (rs : List RRun), (∀ r ∈ rs, 0 < r.counts.length ∧ r.counts.length ≤ p.steps.length) → turnR p rs e = (rs.filter (aliveR p e.time), []) := by
  intro rs hg
  rw [turnR_inn, start_no h he]
  have hi : innR p e rs = (rs.filter (aliveR p e.time), [], []) := by
    induction rs with
    | nil => rfl
    | cons r rs ih =>
      have ih' := ih fun r hr => hg r (List.mem_cons_of_mem _ hr)
      obtain ⟨a1, a2, a3, a4⟩ := adv_no h he (hg r List.mem_cons_self)
      unfold innR at ih' ⊢
      simp only [Prod.mk.injEq] at ih'
      obtain ⟨i1, i2, i3⟩ := ih'
      simp only [List.map_cons, List.filter_cons, List.flatMap_cons, a1, a2, List.nil_append, i2, i3]
      rw [← a3]
      cases hk : (advR p r e).keep with
      | false => simp only [Bool.false_eq_true, if_false, i1]
      | true => simp only [if_true, List.map_cons, i1, a4 hk]
  rw [hi]
  simp [noRes]
/-- The runs that can't go on any more make no difference. -/
theorem turn_alive (p : RPlan) (T : Int) (e : Ev) (hT : T ≤ e.time) (rs : List RRun) : turnR p (rs.filter (aliveR p T)) e = turnR p rs e := by
  rw [turnR_inn, turnR_inn]
  have hi : innR p e (rs.filter (aliveR p T)) = innR p e rs := by
    induction rs with
    | nil => rfl
    | cons r rs ih =>
      rw [List.filter_cons]
      cases ha : aliveR p T r with
      | true =>
        rw [if_pos rfl]
        unfold innR at ih ⊢
        simp only [Prod.mk.injEq] at ih
        obtain ⟨i1, i2, i3⟩ := ih
        simp only [List.map_cons, List.filter_cons, List.flatMap_cons, i2, i3]
        cases (advR p r e).keep with
        | false => simp only [Bool.false_eq_true, if_false, i1]
        | true => simp only [if_true, List.map_cons, i1]
      | false =>
        rw [if_neg (by decide), ih]
        have hd : untilR p r < e.time := by
          unfold aliveR at ha
          have h1 : untilR p r < T := by simpa using ha
          omega
        unfold innR
        simp only [List.map_cons, List.filter_cons, List.flatMap_cons, adv_dead hd]
        simp [noRes]
  rw [hi]
theorem filter_alive (p : RPlan) (T T' : Int) (h : T ≤ T') (rs : List RRun) : (rs.filter (aliveR p T)).filter (aliveR p T') = rs.filter (aliveR p T') := by
  rw [List.filter_filter]
  congr 1
  funext r
  unfold aliveR
  by_cases h1 : untilR p r < T'
  · simp [h1]
  · have h2 : ¬ untilR p r < T := by omega
    simp [h1, h2]
theorem more_fold {p : RPlan} {z : Int} (h : NoKind p z) : ∀ (l : List Ev) (s1 s2 : List RRun × List (List UInt8)) (k : Nat), l.Pairwise (fun x y => x.time ≤ y.time) → (∀ r ∈ s1.1, GoodR p (fun _ => True) k r) → s2.2 = s1.2 → (s2.1 = s1.1 ∨ ∃ T, (∀ e ∈ l, T ≤ e.time) ∧ s2.1 = s1.1.filter (aliveR p T)) →
    (l.foldl (stepA p) s2).2 = ((l.filter fun e => e.kind != z).foldl (stepA p) s1).2 := by
  intro l
  induction l with
  | nil => intro s1 s2 k _ _ h2 _; exact h2
  | cons e l ih =>
    intro s1 s2 k hl hg h2 hr
    have hl' := List.pairwise_cons.1 hl
    have hturn : turnR p s2.1 e = turnR p s1.1 e := by
      rcases hr with hr | ⟨T, hT, hr⟩
      · rw [hr]
      · rw [hr]; exact turn_alive p T e (hT e List.mem_cons_self) _
    rw [List.foldl_cons, List.filter_cons]
    by_cases hz : e.kind = z
    · have hzb : (e.kind != z) = false := by simp [hz]
      rw [hzb, if_neg (by decide)]
      have ht := turn_no h hz s1.1 fun r hr => ⟨(hg r hr).pos, (hg r hr).le⟩
      refine ih s1 (stepA p s2 e) k hl'.2 hg ?_ (.inr ⟨e.time, hl'.1, ?_⟩)
      · unfold stepA; rw [hturn, ht]; simp [h2]
      · unfold stepA; rw [hturn, ht]
    · have hzb : (e.kind != z) = true := by simp [hz]
      rw [hzb, if_pos rfl, List.foldl_cons]
      refine ih (stepA p s1 e) (stepA p s2 e) (k + 1) hl'.2 ?_ ?_ (.inl ?_)
      · have h3 := (stepA_ok p (fun _ => True) k (s1.1.length + s1.2.length + 1) s1 e trivial hg (by omega) (by omega) (by omega)).1
        exact h3
      · unfold stepA; rw [hturn, h2]
      · unfold stepA; rw [hturn]
theorem sorted_time {l : List Ev} (h : SortedE l) : l.Pairwise fun x y => x.time ≤ y.time := by
  refine h.imp ?_
  intro x y h1
  unfold ltE at h1
  simp only [decide_eq_false_iff_not] at h1
  omega
/-- The law, in plain Lean. -/
theorem more_plain {p : RPlan} {z : Int} (h : NoKind p z) {a b l1 l2 : List Ev} (ha : ∀ e ∈ a, e.kind ≠ z) (hb : ∀ e ∈ b, e.kind = z) (hd : DistE a) (p1 : l1.Perm a) (s1 : SortedE l1) (p2 : l2.Perm (a ++ b)) (s2 : SortedE l2) : (runA p l1).2 = (runA p l2).2 := by
  have e1 : l1 = l2.filter fun e => e.kind != z := by
    refine sort_eq p1 ?_ s1 (s2.filter _) hd
    have h1 := p2.filter fun e => e.kind != z
    rw [List.filter_append] at h1
    have h2 : (b.filter fun e => e.kind != z) = [] := by
      rw [List.filter_eq_nil_iff]
      intro e he
      simp [hb e he]
    have h3 : (a.filter fun e => e.kind != z) = a := by
      rw [List.filter_eq_self]
      intro e he
      simp [ha e he]
    rw [h2, h3, List.append_nil] at h1
    exact h1
  unfold runA
  rw [more_fold h l2 ([], []) ([], []) 0 (sorted_time s2) (fun r hr => by cases hr) rfl (.inl rfl), ← e1]
end Go.Proofs.YtcojnojdgigmdaaDoor.WR
