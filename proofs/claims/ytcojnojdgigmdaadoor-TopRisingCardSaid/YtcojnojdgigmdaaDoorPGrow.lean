/- The document's matches (layer 21): rows of events, in plain Lean; the runs as rows. No program in sight. -/
import Derived.Test.YtcojnojdgigmdaaDoorPTwice
namespace Go.Proofs.YtcojnojdgigmdaaDoor.PR
open Go Go.Proofs.YtcojnojdgigmdaaDoor.PL Go.Proofs.YtcojnojdgigmdaaDoor.Mem

/-- A row of events: the place and the step of each. -/
abbrev Mt := List (Nat × Nat)
def evAt (l : List Ev) (i : Nat) : Ev := l.getD i ⟨0, 0, 0, 0⟩
def pmM (l : List Ev) (m : Mt) : List (Nat × Ev) := m.map fun x => (x.2, evAt l x.1)
def testP (t : PT) (pm : List (Nat × Ev)) (step : Nat) (x : Ev) : Bool :=
  if t.step = -1 then hB t.op x.val t.add
  else if t.step = -2 then
    match pm.getLast? with
    | none => true
    | some y => if y.1 = step then hB t.op x.val (y.2.val + t.add) else true
  else pm.all fun y => if y.1 = t.step.toNat then (if t.turn then hB t.op y.2.val (x.val + t.add) else hB t.op x.val (y.2.val + t.add)) else true
def allP (ts : List PT) (pm : List (Nat × Ev)) (step : Nat) (x : Ev) : Bool := ts.all fun t => testP t pm step x
def lastS (m : Mt) : Nat := match m.getLast? with
  | none => 0
  | some x => x.2
def fromM (m : Mt) : Nat := match m.getLast? with
  | none => 0
  | some x => x.1 + 1
def countM (m : Mt) : Nat := (m.filter fun x => x.2 == lastS m).length
def aliveM (p : RPlan) (l : List Ev) (m : Mt) (i : Nat) : Bool := match m.head? with
  | none => true
  | some x => !decide (p.within < (evAt l i).time - (evAt l x.1).time)
def barB' (p : RPlan) (l : List Ev) (m : Mt) (step i : Nat) : Bool := match p.steps[step]? with
  | none => false
  | some s => s.bars.any fun b => ((evAt l i).kind == b.kind) && allP b.tests (pmM l m) step (evAt l i)
def barredM (p : RPlan) (l : List Ev) (m : Mt) (step to : Nat) : Bool := (List.range' (fromM m) (to - fromM m)).any (barB' p l m step)
/-- May the i-th event stand behind the row, as one of the step? -/
def kidOk (p : RPlan) (l : List Ev) (m : Mt) (i s : Nat) : Bool :=
  match p.steps[s]? with
  | none => false
  | some x => (if s = lastS m then decide ((countM m : Int) < x.hi) else (match p.steps[lastS m]? with
      | none => false
      | some y => decide (y.lo ≤ (countM m : Int))) && !barredM p l m (lastS m) i) && (((evAt l i).kind == x.kind) && allP x.tests (pmM l m) s (evAt l i))
def kidsM (p : RPlan) (l : List Ev) (m : Mt) (i : Nat) : List Mt := ([lastS m, lastS m + 1].filter (kidOk p l m i)).map fun s => m ++ [(i, s)]
def doneM (p : RPlan) (m : Mt) : Bool := !m.isEmpty && (lastS m + 1 == p.steps.length) && match p.steps[lastS m]? with
  | none => false
  | some s => decide (s.lo ≤ (countM m : Int))
def growableM (p : RPlan) (m : Mt) : Bool := !(lastS m + 1 == p.steps.length) || match p.steps[lastS m]? with
  | none => false
  | some s => decide ((countM m : Int) < s.hi)
/-- All rows that begin so and are matches. -/
def growM (p : RPlan) (l : List Ev) : Nat → Mt → List Mt
  | 0, _ => []
  | f + 1, m => (if doneM p m then [m] else []) ++ ((List.range' (fromM m) (l.length - fromM m)).takeWhile (aliveM p l m)).flatMap fun i => (kidsM p l m i).flatMap (growM p l f)
/-- The runs, as rows. -/
def rowsC (p : RPlan) (l : List Ev) (ms : List Mt) (i : Nat) : List Mt := (ms.filter fun m => aliveM p l m i).flatMap (fun m => kidsM p l m i) ++ kidsM p l [] i
def rowsM (p : RPlan) (l : List Ev) : Nat → List Mt × List Mt
  | 0 => ([], [])
  | i + 1 => (((rowsM p l i).1.filter fun m => aliveM p l m i) ++ (rowsC p l (rowsM p l i).1 i).filter (growableM p), (rowsM p l i).2 ++ (rowsC p l (rowsM p l i).1 i).filter (doneM p))

theorem lastS_snoc (m : Mt) (i s : Nat) : lastS (m ++ [(i, s)]) = s := by simp [lastS]
theorem fromM_snoc (m : Mt) (i s : Nat) : fromM (m ++ [(i, s)]) = i + 1 := by simp [fromM]
theorem pmM_snoc (l : List Ev) (m : Mt) (i s : Nat) : pmM l (m ++ [(i, s)]) = pmM l m ++ [(s, evAt l i)] := by simp [pmM]
/-- Rows whose steps are in order, none left out. -/
inductive SOk : Mt → Prop
  | nil : SOk []
  | one (i : Nat) : SOk [(i, 0)]
  | same {m : Mt} (i : Nat) : SOk m → m ≠ [] → SOk (m ++ [(i, lastS m)])
  | next {m : Mt} (i : Nat) : SOk m → m ≠ [] → SOk (m ++ [(i, lastS m + 1)])
theorem SOk.le {m : Mt} (h : SOk m) : ∀ x ∈ m, x.2 ≤ lastS m := by
  induction h with
  | nil => intro x hx; cases hx
  | one i => intro x hx; rw [List.mem_singleton.1 hx]; exact Nat.le_refl _
  | same i _ _ ih =>
    intro x hx
    rw [lastS_snoc]
    rcases List.mem_append.1 hx with hx | hx
    · exact ih x hx
    · rw [List.mem_singleton.1 hx]; exact Nat.le_refl _
  | next i _ _ ih =>
    intro x hx
    rw [lastS_snoc]
    rcases List.mem_append.1 hx with hx | hx
    · exact Nat.le_succ_of_le (ih x hx)
    · rw [List.mem_singleton.1 hx]; exact Nat.le_refl _
def cntS (m : Mt) (s : Nat) : Nat := (m.filter fun x => x.2 == s).length
def cntM (m : Mt) : List Nat := if m.isEmpty then [] else (List.range (lastS m + 1)).map (cntS m)
theorem countM_eq (m : Mt) : countM m = cntS m (lastS m) := rfl
theorem cntS_snoc (m : Mt) (i s t : Nat) : cntS (m ++ [(i, s)]) t = cntS m t + if s = t then 1 else 0 := by
  unfold cntS
  rw [List.filter_append, List.length_append]
  by_cases h : s = t
  · simp [h]
  · simp [h]
theorem cntS_above {m : Mt} (h : SOk m) {s : Nat} (hs : lastS m < s) : cntS m s = 0 := by
  unfold cntS
  rw [List.length_eq_zero_iff, List.filter_eq_nil_iff]
  intro x hx
  have := h.le x hx
  simp; omega
theorem cntM_one (i : Nat) : cntM [(i, 0)] = [1] := rfl
/-- The counts but the last. -/
def cntI (m : Mt) : List Nat := (List.range (lastS m)).map (cntS m)
theorem cntI_len (m : Mt) : (cntI m).length = lastS m := by simp [cntI]
theorem cntM_ne {m : Mt} (h : m ≠ []) : cntM m = cntI m ++ [countM m] := by
  unfold cntM cntI
  rw [if_neg (by simpa using h), List.range_succ, List.map_append, countM_eq]; rfl
theorem snoc_ne {α : Type} (m : List α) (x : α) : m ++ [x] ≠ [] := by simp
theorem cntI_same (m : Mt) (i : Nat) : cntI (m ++ [(i, lastS m)]) = cntI m := by
  unfold cntI
  rw [lastS_snoc]
  apply List.map_congr_left
  intro s hs
  have := List.mem_range.1 hs
  rw [cntS_snoc, if_neg (by omega)]; omega
theorem countM_same (m : Mt) (i : Nat) : countM (m ++ [(i, lastS m)]) = countM m + 1 := by
  rw [countM_eq, lastS_snoc, cntS_snoc, if_pos rfl, countM_eq]
theorem cntI_next {m : Mt} (hm : m ≠ []) (i : Nat) : cntI (m ++ [(i, lastS m + 1)]) = cntI m ++ [countM m] := by
  rw [← cntM_ne hm]
  unfold cntI cntM
  rw [lastS_snoc, if_neg (by simpa using hm)]
  apply List.map_congr_left
  intro s hs
  have := List.mem_range.1 hs
  rw [cntS_snoc, if_neg (by omega)]; omega
theorem countM_next {m : Mt} (h : SOk m) (i : Nat) : countM (m ++ [(i, lastS m + 1)]) = 1 := by
  rw [countM_eq, lastS_snoc, cntS_snoc, if_pos rfl, cntS_above h (by omega)]
theorem cntM_same {m : Mt} (i : Nat) : cntM (m ++ [(i, lastS m)]) = cntI m ++ [countM m + 1] := by
  rw [cntM_ne (snoc_ne _ _), cntI_same, countM_same]
theorem cntM_next {m : Mt} (h : SOk m) (hm : m ≠ []) (i : Nat) : cntM (m ++ [(i, lastS m + 1)]) = cntI m ++ [countM m, 1] := by
  rw [cntM_ne (snoc_ne _ _), cntI_next hm, countM_next h]; simp
/-- The run of a row, behind k events. -/
def toR (p : RPlan) (l : List Ev) (k : Nat) (m : Mt) : RRun := ⟨cntM m, m.map fun x => evAt l x.1, barredM p l m (lastS m) k⟩
theorem SOk.counts {m : Mt} (h : SOk m) : (∀ c ∈ cntM m, 1 ≤ c) ∧ (cntM m).sum = m.length := by
  induction h with
  | nil => exact ⟨fun c hc => (by cases hc), rfl⟩
  | one i => exact ⟨fun c hc => by rw [cntM_one] at hc; rw [List.mem_singleton.1 hc]; exact Nat.le_refl _, rfl⟩
  | @same m i h hm ih =>
    rw [cntM_ne hm] at ih
    rw [cntM_same]
    refine ⟨fun c hc => ?_, ?_⟩
    · rcases List.mem_append.1 hc with hc | hc
      · exact ih.1 c (List.mem_append_left _ hc)
      · rw [List.mem_singleton.1 hc]; omega
    · have := ih.2
      simp only [List.sum_append, List.sum_singleton, List.length_append, List.length_singleton] at this ⊢
      omega
  | @next m i h hm ih =>
    rw [cntM_ne hm] at ih
    rw [cntM_next h hm]
    refine ⟨fun c hc => ?_, ?_⟩
    · rcases List.mem_append.1 hc with hc | hc
      · exact ih.1 c (List.mem_append_left _ hc)
      · simp only [List.mem_cons, List.not_mem_nil, or_false] at hc
        rcases hc with rfl | rfl
        · exact ih.1 _ (by simp)
        · exact Nat.le_refl _
    · have := ih.2
      simp only [List.sum_append, List.sum_cons, List.sum_nil, List.length_append, List.length_singleton] at this ⊢
      omega
theorem toR_ok (p : RPlan) (l : List Ev) (k : Nat) {m : Mt} (h : SOk m) (hm : m ≠ []) : OkK (toR p l k m) := by
  refine ⟨?_, h.counts.1, ?_⟩
  · show cntM m ≠ []
    rw [cntM_ne hm]; simp
  · show (cntM m).sum = (m.map _).length
    rw [h.counts.2, List.length_map]
theorem getD_left {α : Type} {l m : List α} {s : Nat} {d : α} (h : s < l.length) : (l ++ m).getD s d = l.getD s d := by
  rw [List.getD_eq_getElem?_getD, List.getD_eq_getElem?_getD, List.getElem?_append_left h]
theorem getD_len {α : Type} {l m : List α} {x d : α} : (l ++ x :: m).getD l.length d = x := by
  rw [List.getD_eq_getElem?_getD, List.getElem?_append_right (Nat.le_refl _), Nat.sub_self]; rfl
theorem take_get_le : ∀ (cs : List Nat) (s : Nat), (cs.take s).sum + cs.getD s 0 ≤ cs.sum
  | [], s => by simp
  | c :: cs, 0 => by simp
  | c :: cs, s + 1 => by
    have := take_get_le cs s
    simp only [List.take_succ_cons, List.sum_cons, List.getD_cons_succ]
    omega
theorem ofR_old {cs cs' : List Nat} {evs : List Ev} {e : Ev} {b b' : Bool} {s : Nat} (hs : s < cs.length) (hs' : s < cs'.length) (ht : cs'.take s = cs.take s) (hg : cs'.getD s 0 = cs.getD s 0) (hl : cs.sum ≤ evs.length) : ofR ⟨cs', evs ++ [e], b'⟩ s = ofR ⟨cs, evs, b⟩ s := by
  unfold ofR
  rw [if_pos hs, if_pos hs', ht, hg]
  have := take_get_le cs s
  rw [List.drop_append_of_le_length (by omega), List.take_append_of_le_length (by rw [List.length_drop]; omega)]
theorem ofR_same {c : List Nat} {n : Nat} {evs : List Ev} {e : Ev} (b b' : Bool) (hs : (c ++ [n]).sum = evs.length) (s : Nat) : ofR ⟨c ++ [n + 1], evs ++ [e], b'⟩ s = ofR ⟨c ++ [n], evs, b⟩ s ++ if c.length = s then [e] else [] := by
  rw [List.sum_append, List.sum_singleton] at hs
  rcases Nat.lt_trichotomy s c.length with h | rfl | h
  · rw [if_neg (by omega), List.append_nil]
    refine ofR_old (by simp; omega) (by simp; omega) ?_ ?_ (by simp; omega)
    · rw [List.take_append_of_le_length (by omega), List.take_append_of_le_length (by omega)]
    · rw [getD_left h, getD_left h]
  · unfold ofR
    rw [if_pos (by simp), if_pos (by simp), if_pos rfl]
    simp only [List.take_left, getD_len]
    rw [List.drop_append_of_le_length (by omega), List.take_of_length_le (by simp; omega), List.take_of_length_le (by simp; omega)]
  · unfold ofR
    rw [if_neg (by simp; omega), if_neg (by simp; omega), if_neg (by omega)]; rfl
theorem ofR_next {c : List Nat} {evs : List Ev} {e : Ev} (b b' : Bool) (hs : c.sum = evs.length) (s : Nat) : ofR ⟨c ++ [1], evs ++ [e], b'⟩ s = ofR ⟨c, evs, b⟩ s ++ if c.length = s then [e] else [] := by
  rcases Nat.lt_trichotomy s c.length with h | rfl | h
  · rw [if_neg (by omega), List.append_nil]
    refine ofR_old h (by simp; omega) ?_ ?_ (by omega)
    · rw [List.take_append_of_le_length (by omega)]
    · rw [getD_left h]
  · unfold ofR
    rw [if_pos (by simp), if_neg (by simp), if_pos rfl]
    simp only [List.take_left, getD_len]
    rw [hs, List.drop_append_of_le_length (by omega), List.drop_length]; rfl
  · unfold ofR
    rw [if_neg (by simp; omega), if_neg (by simp; omega), if_neg (by omega)]; rfl
theorem evs_sum {m : Mt} (h : SOk m) (l : List Ev) : (cntM m).sum = (m.map fun x => evAt l x.1).length := by rw [h.counts.2, List.length_map]
/-- The events that a step took, of a row. -/
theorem ofR_row (p : RPlan) (l : List Ev) {m : Mt} (h : SOk m) : ∀ (k s : Nat), ofR (toR p l k m) s = (m.filter fun x => x.2 == s).map fun x => evAt l x.1 := by
  induction h with
  | nil => intro k s; unfold ofR toR; simp [cntM]
  | one i =>
    intro k s
    unfold toR
    rw [cntM_one]
    have := ofR_next (c := []) (evs := []) (e := evAt l i) false (barredM p l [(i, 0)] (lastS [(i, 0)]) k) rfl s
    simp only [List.nil_append] at this
    show ofR ⟨[1], [evAt l i], _⟩ s = _
    rw [this]
    by_cases hs : 0 = s
    · subst hs; simp [ofR]
    · have : ¬ (s = 0) := fun h => hs h.symm
      simp [ofR, hs]
  | @same m i h hm ih =>
    intro k s
    have h1 := ofR_same (c := cntI m) (n := countM m) (evs := m.map fun x => evAt l x.1) (e := evAt l i) (barredM p l m (lastS m) k) (barredM p l (m ++ [(i, lastS m)]) (lastS (m ++ [(i, lastS m)])) k) (by rw [← cntM_ne hm]; exact evs_sum h l) s
    have h2 := ih k s
    unfold toR at h2 ⊢
    rw [cntM_ne hm] at h2
    rw [cntM_same, List.map_append, List.map_cons, List.map_nil, h1, h2, cntI_len, List.filter_append, List.map_append]
    congr 1
    by_cases hs : lastS m = s <;> simp [hs]
  | @next m i h hm ih =>
    intro k s
    have h1 := ofR_next (c := cntI m ++ [countM m]) (evs := m.map fun x => evAt l x.1) (e := evAt l i) (barredM p l m (lastS m) k) (barredM p l (m ++ [(i, lastS m + 1)]) (lastS (m ++ [(i, lastS m + 1)])) k) (by rw [← cntM_ne hm]; exact evs_sum h l) s
    have h2 := ih k s
    unfold toR at h2 ⊢
    rw [cntM_ne hm] at h2
    rw [cntM_next h hm, List.map_append, List.map_cons, List.map_nil, show cntI m ++ [countM m, 1] = cntI m ++ [countM m] ++ [1] by simp, h1, h2, List.length_append, cntI_len, List.length_singleton, List.filter_append, List.map_append]
    congr 1
    by_cases hs : lastS m + 1 = s <;> simp [hs]
def OkT0 (t : PT) : Prop := t.step = -1 ∨ t.step = -2 ∨ 0 ≤ t.step
theorem test_row (p : RPlan) (l : List Ev) (k : Nat) {m : Mt} (h : SOk m) {t : PT} {step : Nat} (hs : lastS m ≤ step) (e : Ev) : holdsT t (toR p l k m) step e = testP t (pmM l m) step e := by
  unfold holdsT testP
  by_cases h1 : t.step = -1
  · rw [if_pos h1, if_pos h1]
  · rw [if_neg h1, if_neg h1]
    by_cases h2 : t.step = -2
    · rw [if_pos h2, if_pos h2, ofR_row p l h]
      rcases List.eq_nil_or_concat m with rfl | ⟨a, x, rfl⟩
      · rfl
      · rw [List.concat_eq_append] at h hs ⊢
        obtain ⟨i, s⟩ := x
        rw [lastS_snoc] at hs
        rw [pmM_snoc, List.getLast?_append, List.filter_append, List.map_append]
        simp only [List.getLast?_singleton, Option.some_or]
        by_cases hst : s = step
        · rw [if_pos hst]
          subst hst
          simp
        · rw [if_neg hst]
          have hn : (List.filter (fun x => x.2 == step) (a ++ [(i, s)])) = [] := by
            rw [List.filter_eq_nil_iff]
            intro x hx
            have := h.le x hx
            rw [lastS_snoc] at this
            simp; omega
          rw [List.filter_append, List.append_eq_nil_iff] at hn
          rw [hn.1, hn.2]
          rfl
    · rw [if_neg h2, if_neg h2, ofR_row p l h, pmM, List.all_map, List.all_map, List.all_filter]
      congr 1
      funext x
      simp only [Function.comp_apply]
      by_cases hx : x.2 = t.step.toNat
      · simp [hx]
      · simp [hx]
theorem all_row (p : RPlan) (l : List Ev) (k : Nat) {m : Mt} (h : SOk m) (ts : List PT) {step : Nat} (hs : lastS m ≤ step) (e : Ev) : allT ts (toR p l k m) step e = allP ts (pmM l m) step e := by
  unfold allT allP
  congr 1
  funext t
  exact test_row p l k h hs e
end Go.Proofs.YtcojnojdgigmdaaDoor.PR
