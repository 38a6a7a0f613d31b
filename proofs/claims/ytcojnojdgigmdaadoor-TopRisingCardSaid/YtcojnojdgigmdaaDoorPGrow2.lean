/- All matches are the document's, in order (layer 21), in plain Lean. No program in sight. -/
import Derived.Test.YtcojnojdgigmdaaDoorPGrow
import Derived.Test.YtcojnojdgigmdaaDoorPWin
namespace Go.Proofs.YtcojnojdgigmdaaDoor.PR
open Go Go.Proofs.YtcojnojdgigmdaaDoor.PL Go.Proofs.YtcojnojdgigmdaaDoor.Mem

/-- What a row is told as. -/
def textM (l : List Ev) (m : Mt) : List UInt8 := textR ⟨cntM m, m.map fun x => evAt l x.1, false⟩
theorem text_row (p : RPlan) (l : List Ev) (k : Nat) (m : Mt) : textR (toR p l k m) = textM l m := rfl
theorem noRun_row (p : RPlan) (l : List Ev) (k : Nat) (ts : List PT) (e : Ev) : allT ts noRun 0 e = allP ts (pmM l []) 0 e := by
  have h := all_row p l k SOk.nil ts (step := 0) (Nat.le_refl _) e
  rw [← h]
  rfl
/-- A row of runs, behind k events. -/
structure RowOk (p : RPlan) (k : Nat) (m : Mt) : Prop where
  ok : SOk m
  ne : m ≠ []
  lt : lastS m < p.steps.length
  le : fromM m ≤ k
theorem barred_none (p : RPlan) (l : List Ev) (m : Mt) (s k : Nat) (h : fromM m = k) : barredM p l m s k = false := by
  unfold barredM
  rw [h, Nat.sub_self]; rfl
theorem barred_more (p : RPlan) (l : List Ev) (m : Mt) (s k : Nat) (h : fromM m ≤ k) : barredM p l m s (k + 1) = (barredM p l m s k || barB' p l m s k) := by
  unfold barredM
  rw [show k + 1 - fromM m = (k - fromM m) + 1 by omega, List.range'_concat, List.any_append]
  simp
  rw [show fromM m + (k - fromM m) = k by omega]
theorem alive_row (p : RPlan) (l : List Ev) (k : Nat) {m : Mt} (hm : m ≠ []) : untilR p (toR p l k m) < (evAt l k).time ↔ aliveM p l m k = false := by
  cases m with
  | nil => exact absurd rfl hm
  | cons x r =>
    unfold untilR toR aliveM
    simp only [List.map_cons, List.head?_cons, Bool.not_eq_eq_eq_not, Bool.not_false, decide_eq_true_eq]
    omega
theorem same_row (p : RPlan) (l : List Ev) (k : Nat) {m : Mt} (hm : m ≠ []) : withR (toR p l k m) (lastS m) (evAt l k) = toR p l (k + 1) (m ++ [(k, lastS m)]) := by
  have h1 := with_same (r := toR p l k m) (c := cntI m) (n := countM m) (cntM_ne hm) (evAt l k)
  have h2 : (toR p l k m).counts.length - 1 = lastS m := by show (cntM m).length - 1 = _; rw [cntM_ne hm]; simp [cntI_len]
  rw [h2] at h1
  rw [h1]
  unfold toR
  rw [cntM_same, barred_none _ _ _ _ _ (fromM_snoc _ _ _), List.map_append]; rfl
theorem next_row (p : RPlan) (l : List Ev) (k : Nat) {m : Mt} (h : SOk m) (hm : m ≠ []) : withR (toR p l k m) (lastS m + 1) (evAt l k) = toR p l (k + 1) (m ++ [(k, lastS m + 1)]) := by
  have h1 := with_next (r := toR p l k m) (c := cntI m) (n := countM m) (cntM_ne hm) (evAt l k)
  have h2 : (toR p l k m).counts.length - 1 = lastS m := by show (cntM m).length - 1 = _; rw [cntM_ne hm]; simp [cntI_len]
  rw [h2] at h1
  rw [h1]
  unfold toR
  rw [cntM_next h hm, barred_none _ _ _ _ _ (fromM_snoc _ _ _), List.map_append]; rfl
theorem kids_two (p : RPlan) (l : List Ev) (m : Mt) (i : Nat) : kidsM p l m i = (if kidOk p l m i (lastS m) then [m ++ [(i, lastS m)]] else []) ++ (if kidOk p l m i (lastS m + 1) then [m ++ [(i, lastS m + 1)]] else []) := by
  unfold kidsM
  cases h1 : kidOk p l m i (lastS m) <;> cases h2 : kidOk p l m i (lastS m + 1) <;> simp [h1, h2]
theorem cands_row (p : RPlan) (l : List Ev) (k : Nat) {m : Mt} (h : SOk m) (hm : m ≠ []) : cands p (toR p l k m) (evAt l k) = if aliveM p l m k then (kidsM p l m k).map (toR p l (k + 1)) else [] := by
  have hc : (toR p l k m).counts = cntI m ++ [countM m] := cntM_ne hm
  have hn : (toR p l k m).counts.getLast? = some (countM m) := by rw [hc]; simp
  have hl : (toR p l k m).counts.length - 1 = lastS m := by rw [hc]; simp [cntI_len]
  unfold cands
  rw [hn, hl]
  simp only []
  have hal := alive_row p l k hm
  cases hs : p.steps[lastS m]? with
  | none =>
    have hs2 : p.steps[lastS m + 1]? = none := by
      rw [List.getElem?_eq_none_iff] at hs ⊢; omega
    have k1 : kidOk p l m k (lastS m) = false := by unfold kidOk; rw [hs]
    have k2 : kidOk p l m k (lastS m + 1) = false := by unfold kidOk; rw [hs2]
    rw [kids_two, k1, k2]
    simp
  | some s =>
    simp only []
    cases ha : aliveM p l m k with
    | false => rw [if_pos (hal.2 ha)]; rfl
    | true =>
      have hna : ¬ untilR p (toR p l k m) < (evAt l k).time := fun h => by rw [hal.1 h] at ha; cases ha
      rw [if_neg hna, if_pos rfl, kids_two, List.map_append]
      have f1 : fitsS s (toR p l k m) (lastS m) (evAt l k) = (((evAt l k).kind == s.kind) && allP s.tests (pmM l m) (lastS m) (evAt l k)) := by
        unfold fitsS; rw [all_row p l k h _ (Nat.le_refl _)]
      have k1 : kidOk p l m k (lastS m) = (decide ((countM m : Int) < s.hi) && fitsS s (toR p l k m) (lastS m) (evAt l k)) := by
        unfold kidOk; rw [hs, f1]; simp
      congr 1
      · rw [k1, same_row p l k hm]
        by_cases c1 : (countM m : Int) < s.hi
        · cases hf : fitsS s (toR p l k m) (lastS m) (evAt l k) <;> simp [c1]
        · simp [c1]
      · cases hs2 : p.steps[lastS m + 1]? with
        | none =>
          have k2 : kidOk p l m k (lastS m + 1) = false := by unfold kidOk; rw [hs2]
          rw [k2]; rfl
        | some s2 =>
          simp only []
          have f2 : fitsS s2 (toR p l k m) (lastS m + 1) (evAt l k) = (((evAt l k).kind == s2.kind) && allP s2.tests (pmM l m) (lastS m + 1) (evAt l k)) := by
            unfold fitsS; rw [all_row p l k h _ (Nat.le_succ _)]
          have k2 : kidOk p l m k (lastS m + 1) = (decide (s.lo ≤ (countM m : Int)) && !barredM p l m (lastS m) k && fitsS s2 (toR p l k m) (lastS m + 1) (evAt l k)) := by
            unfold kidOk; rw [hs2, hs, f2]; simp
          have hb : (toR p l k m).blocked = barredM p l m (lastS m) k := rfl
          rw [k2, hb, next_row p l k h hm]
          by_cases c1 : s.lo ≤ (countM m : Int)
          · cases hf : fitsS s2 (toR p l k m) (lastS m + 1) (evAt l k) <;> cases hbb : barredM p l m (lastS m) k <;> simp [c1]
          · simp [c1]
theorem keep_row (p : RPlan) (l : List Ev) (k : Nat) {m : Mt} (h : RowOk p k m) : (advR p (toR p l k m) (evAt l k)).keep = aliveM p l m k ∧ (aliveM p l m k = true → (advR p (toR p l k m) (evAt l k)).run = toR p l (k + 1) m) := by
  have hc : (toR p l k m).counts = cntI m ++ [countM m] := cntM_ne h.ne
  have hn : (toR p l k m).counts.getLast? = some (countM m) := by rw [hc]; simp
  have hl : (toR p l k m).counts.length - 1 = lastS m := by rw [hc]; simp [cntI_len]
  have hal := alive_row p l k h.ne
  unfold advR
  rw [hn, hl]
  simp only []
  rw [List.getElem?_eq_getElem h.lt]
  simp only []
  cases ha : aliveM p l m k with
  | false => rw [if_pos (hal.2 ha)]; exact ⟨rfl, fun h => by cases h⟩
  | true =>
    have hna : ¬ untilR p (toR p l k m) < (evAt l k).time := fun h => by rw [hal.1 h] at ha; cases ha
    rw [if_neg hna]
    refine ⟨rfl, fun _ => ?_⟩
    unfold toR
    rw [barred_more p l m _ k h.le]
    congr 1
    congr 1
    unfold barB'
    rw [List.getElem?_eq_getElem h.lt]
    simp only []
    congr 1
    congr 1
    congr 1
    funext b
    rw [← all_row p l k h.ok _ (Nat.le_refl _)]
    rfl
theorem starts_row (p : RPlan) (hp : ∀ s ∈ p.steps, 1 ≤ s.lo ∧ s.lo ≤ s.hi) (l : List Ev) (k : Nat) : starts p (evAt l k) = (kidsM p l [] k).map (toR p l (k + 1)) := by
  rw [kids_two]
  have k2 : kidOk p l [] k (lastS [] + 1) = false := by
    unfold kidOk
    cases p.steps[lastS [] + 1]? with
    | none => rfl
    | some x =>
      simp only [lastS, List.getLast?_nil, countM]
      cases hs : p.steps[0]? with
      | none => simp
      | some y =>
        have := hp y (List.mem_of_getElem? hs)
        have h0 : ¬ y.lo ≤ 0 := by omega
        simp [h0]
  rw [k2]
  unfold starts
  cases hs : p.steps with
  | nil =>
    have : kidOk p l [] k (lastS []) = false := by unfold kidOk; rw [hs]; rfl
    rw [this]; rfl
  | cons s r =>
    have := hp s (by rw [hs]; simp)
    have h1 : kidOk p l [] k (lastS []) = fitsS s noRun 0 (evAt l k) := by
      unfold kidOk fitsS
      rw [hs, noRun_row p l k]
      have h0 : (0 : Int) < s.hi := by omega
      simp [lastS, countM, h0]
    rw [h1]
    simp only []
    have hb : toR p l (k + 1) ([] ++ [(k, lastS [])]) = withR noRun 0 (evAt l k) := by
      unfold toR
      rw [barred_none _ _ _ _ _ (fromM_snoc _ _ _)]; rfl
    cases fitsS s noRun 0 (evAt l k) with
    | false => rfl
    | true => rw [if_pos rfl, if_pos rfl, if_neg (by decide), List.append_nil, List.map_cons, List.map_nil, hb]
theorem kids_ok {p : RPlan} {l : List Ev} {m : Mt} (h : SOk m) {i : Nat} {g : Mt} (hg : g ∈ kidsM p l m i) (h0 : m = [] → ∀ s ∈ p.steps, 1 ≤ s.lo ∧ s.lo ≤ s.hi) : RowOk p (i + 1) g ∧ ∃ s, g = m ++ [(i, s)] ∧ kidOk p l m i s = true ∧ (s = lastS m ∨ s = lastS m + 1) := by
  unfold kidsM at hg
  obtain ⟨s, hs, rfl⟩ := List.mem_map.1 hg
  obtain ⟨hs1, hk⟩ := List.mem_filter.1 hs
  have hs2 : s = lastS m ∨ s = lastS m + 1 := by simpa using hs1
  have hlt : s < p.steps.length := by
    unfold kidOk at hk
    cases hss : p.steps[s]? with
    | none => rw [hss] at hk; cases hk
    | some x => exact (List.getElem?_eq_some_iff.1 hss).1
  refine ⟨⟨?_, snoc_ne _ _, by rw [lastS_snoc]; exact hlt, by rw [fromM_snoc]; exact Nat.le_refl _⟩, s, rfl, hk, hs2⟩
  by_cases hm : m = []
  · subst hm
    rcases hs2 with rfl | rfl
    · exact SOk.one i
    · exfalso
      have h1 := h0 rfl
      unfold kidOk at hk
      split at hk
      · cases hk
      · rename_i x hx
        cases hs0 : p.steps[0]? with
        | none =>
          rw [List.getElem?_eq_none_iff] at hs0
          have := (List.getElem?_eq_some_iff.1 hx).1
          omega
        | some y =>
          have := h1 y (List.mem_of_getElem? hs0)
          have h00 : ¬ y.lo ≤ 0 := by omega
          simp [lastS, countM, hs0, h00] at hk
  · rcases hs2 with rfl | rfl
    · exact SOk.same i h hm
    · exact SOk.next i h hm
theorem rowsC_ok {p : RPlan} (hp : ∀ s ∈ p.steps, 1 ≤ s.lo ∧ s.lo ≤ s.hi) {l : List Ev} {ms : List Mt} {i : Nat} (h : ∀ m ∈ ms, SOk m) {g : Mt} (hg : g ∈ rowsC p l ms i) : RowOk p (i + 1) g := by
  unfold rowsC at hg
  rcases List.mem_append.1 hg with hg | hg
  · obtain ⟨m, hm, hg⟩ := List.mem_flatMap.1 hg
    exact (kids_ok (h m (List.mem_filter.1 hm).1) hg fun _ => hp).1
  · exact (kids_ok SOk.nil hg fun _ => hp).1
theorem rowsM_ok {p : RPlan} (hp : ∀ s ∈ p.steps, 1 ≤ s.lo ∧ s.lo ≤ s.hi) (l : List Ev) : ∀ k, (∀ m ∈ (rowsM p l k).1, RowOk p k m) ∧ ∀ m ∈ (rowsM p l k).2, RowOk p k m := by
  intro k
  induction k with
  | zero => exact ⟨fun m hm => (by cases hm), fun m hm => (by cases hm)⟩
  | succ k ih =>
    have hc := fun g hg => rowsC_ok hp (l := l) (i := k) (fun m hm => (ih.1 m hm).ok) (g := g) hg
    refine ⟨fun m hm => ?_, fun m hm => ?_⟩
    · rcases List.mem_append.1 hm with hm | hm
      · have := ih.1 m (List.mem_filter.1 hm).1
        exact ⟨this.ok, this.ne, this.lt, Nat.le_succ_of_le this.le⟩
      · exact hc m (List.mem_filter.1 hm).1
    · rcases List.mem_append.1 hm with hm | hm
      · have := ih.2 m hm
        exact ⟨this.ok, this.ne, this.lt, Nat.le_succ_of_le this.le⟩
      · exact hc m (List.mem_filter.1 hm).1
theorem grown_row (p : RPlan) (l : List Ev) (k : Nat) {g : Mt} (h : g ≠ []) : addGrown p (toR p l k g) = growableM p g ∧ addDone p (toR p l k g) = doneM p g := by
  have hc : (toR p l k g).counts = cntI g ++ [countM g] := cntM_ne h
  have hn : (toR p l k g).counts.getLast? = some (countM g) := by rw [hc]; simp
  have hl : (toR p l k g).counts.length = lastS g + 1 := by rw [hc]; simp [cntI_len]
  unfold addGrown addDone growableM doneM
  rw [hn, hl]
  have he : g.isEmpty = false := by simpa using h
  rw [he]
  by_cases h1 : lastS g + 1 = p.steps.length
  · have h2 : p.steps.getLast? = p.steps[lastS g]? := by
      rw [List.getLast?_eq_getElem?]; congr 1; omega
    rw [h2]
    cases p.steps[lastS g]? <;> simp [h1]
  · have h2 : (lastS g + 1 == p.steps.length) = false := beq_eq_false_iff_ne.2 h1
    rw [h2]
    exact ⟨rfl, rfl⟩
theorem flat_map' {α β γ : Type} (f : α → List β) (g : β → γ) : ∀ l : List α, (l.flatMap f).map g = l.flatMap fun a => (f a).map g
  | [] => rfl
  | a :: l => by rw [List.flatMap_cons, List.map_append, flat_map' f g l, List.flatMap_cons]
/-- The runs are the rows. -/
theorem sim {p : RPlan} (hp : ∀ s ∈ p.steps, 1 ≤ s.lo ∧ s.lo ≤ s.hi) (l : List Ev) : ∀ k, k ≤ l.length → runA p (l.take k) = ((rowsM p l k).1.map (toR p l k), (rowsM p l k).2.map (textM l)) := by
  intro k
  induction k with
  | zero => intro _; rfl
  | succ k ih =>
    intro hk
    have hx : l.take (k + 1) = l.take k ++ [evAt l k] := by
      rw [List.take_succ_eq_append_getElem (by omega)]
      congr 1
      unfold evAt
      rw [List.getD_eq_getElem?_getD, List.getElem?_eq_getElem (by omega)]; rfl
    rw [hx, runA_snoc, ih (by omega)]
    unfold stepA
    rw [turn_cands]
    have hok := (rowsM_ok hp l k).1
    have hC : candsAll p ((rowsM p l k).1.map (toR p l k)) (evAt l k) = (rowsC p l (rowsM p l k).1 k).map (toR p l (k + 1)) := by
      unfold candsAll rowsC
      rw [List.map_append, starts_row p hp l k]
      congr 1
      rw [List.flatMap_map, flat_map']
      generalize (rowsM p l k).1 = ms at hok
      induction ms with
      | nil => rfl
      | cons m ms ih2 =>
        have hm := hok m List.mem_cons_self
        rw [List.flatMap_cons, ih2 fun m hm => hok m (List.mem_cons_of_mem _ hm), cands_row p l k hm.ok hm.ne, List.filter_cons]
        cases aliveM p l m k with
        | false => simp
        | true => simp
    have hK : (innR p (evAt l k) ((rowsM p l k).1.map (toR p l k))).1 = ((rowsM p l k).1.filter fun m => aliveM p l m k).map (toR p l (k + 1)) := by
      rw [inn_flat]
      show List.flatMap _ (List.map _ _) = _
      rw [List.flatMap_map]
      generalize (rowsM p l k).1 = ms at hok
      induction ms with
      | nil => rfl
      | cons m ms ih2 =>
        have hm := hok m List.mem_cons_self
        obtain ⟨k1, k2⟩ := keep_row p l k hm
        rw [List.flatMap_cons, ih2 fun m hm => hok m (List.mem_cons_of_mem _ hm), k1, List.filter_cons]
        cases ha : aliveM p l m k with
        | false => simp
        | true => simp [k2 ha]
    rw [hC, hK]
    have hne : ∀ g ∈ rowsC p l (rowsM p l k).1 k, g ≠ [] := fun g hg => (rowsC_ok hp (fun m hm => (hok m hm).ok) hg).ne
    show (_ ++ _, _ ++ _) = (List.map _ (_ ++ _), List.map _ (_ ++ _))
    rw [List.map_append, List.map_append, List.filter_map, List.filter_map, List.map_map]
    refine Prod.ext ?_ ?_
    · simp only []
      congr 2
      apply List.filter_congr
      intro g hg
      exact (grown_row p l (k + 1) (hne g hg)).1
    · simp only []
      congr 1
      have : (rowsC p l (rowsM p l k).1 k).filter (addDone p ∘ toR p l (k + 1)) = (rowsC p l (rowsM p l k).1 k).filter (doneM p) := by
        apply List.filter_congr
        intro g hg
        exact (grown_row p l (k + 1) (hne g hg)).2
      rw [this]
      apply List.map_congr_left
      intro g _
      rfl
end Go.Proofs.YtcojnojdgigmdaaDoor.PR
