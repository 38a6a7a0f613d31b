/- Other names of a pattern's steps: the same plan. No program in sight. -/
import Derived.Test.YtcfimponmioneaaPSteps
import Derived.Test.YtcfimponmioneaaPLen
import Derived.Test.YtcfimponmioneaaWPlan5
namespace Go.Proofs.Ytcfimponmioneaa.WL
open Go Go.RowKit Go.Proofs.Ytcfimponmioneaa Go.Proofs.Ytcfimponmioneaa.PL Go.Proofs.Ytcfimponmioneaa.PP Go.Proofs.Ytcfimponmioneaa.Mem Go.Proofs.Ytcfimponmioneaa.WP

/-! ### the names that the reader yields -/
theorem one_in {l : List UInt8} {a lo hi v a' : Nat} (h : pOne l a lo hi = .inr (v, a')) : lo ≤ v ∧ v ≤ hi := by
  unfold pOne at h
  split at h
  · split at h
    · rename_i h1; cases h; exact h1
    · cases h
  · cases h
def okS (s : Stp) : Prop := 97 ≤ s.nm ∧ s.nm ≤ 122
def okC (c : Cnd) : Prop := (97 ≤ c.l ∧ c.l ≤ 122) ∧ (c.r = 0 ∨ (97 ≤ c.r ∧ c.r ≤ 122))
theorem cond_ok {l : List UInt8} {a n : Nat} {c : Cnd} {a' : Nat} (h : pCond l a n = .inr (c, a')) : okC c := by
  unfold pCond at h
  split at h
  · obtain ⟨_, _, _, h⟩ := PLen.bind_get h
    cases h
  obtain ⟨x, _, hx, h⟩ := PLen.bind_get h
  obtain ⟨o, _, _, h⟩ := PLen.bind_get h
  split at h
  · obtain ⟨_, _, _, h⟩ := PLen.bind_get h
    cases h
    exact ⟨one_in hx, .inl rfl⟩
  split at h
  · obtain ⟨_, _, _, h⟩ := PLen.bind_get h
    cases h
    exact ⟨one_in hx, .inl rfl⟩
  obtain ⟨r, _, hr, h⟩ := PLen.bind_get h
  split at h
  · obtain ⟨_, _, _, h⟩ := PLen.bind_get h
    cases h
    exact ⟨one_in hx, .inr (one_in hr)⟩
  split at h
  · obtain ⟨_, _, _, h⟩ := PLen.bind_get h
    cases h
    exact ⟨one_in hx, .inr (one_in hr)⟩
  · cases h
    exact ⟨one_in hx, .inr (one_in hr)⟩
theorem step_ok {l : List UInt8} {a n : Nat} {s : Stp} {a' : Nat} (h : pStep l a n = .inr (s, a')) : okS s := by
  unfold pStep at h
  split at h
  · split at h
    · cases h
    · obtain ⟨_, _, _, h⟩ := PLen.bind_get h
      cases h
  obtain ⟨_, _, _, h⟩ := PLen.bind_get h
  obtain ⟨_, _, _, h⟩ := PLen.bind_get h
  obtain ⟨_, _, _, h⟩ := PLen.bind_get h
  obtain ⟨nm, _, hn, h⟩ := PLen.bind_get h
  split at h
  · split at h
    · cases h
    obtain ⟨_, _, _, h⟩ := PLen.bind_get h
    obtain ⟨_, _, _, h⟩ := PLen.bind_get h
    obtain ⟨_, _, _, h⟩ := PLen.bind_get h
    obtain ⟨_, _, _, h⟩ := PLen.bind_get h
    split at h
    · cases h
    · cases h; exact one_in hn
  · cases h; exact one_in hn
theorem steps_ok {l : List UInt8} : ∀ (f a : Nat) (ss r : List Stp) (a' : Nat), (∀ s ∈ ss, okS s) → pSteps l f a ss = .inr (r, a') → ∀ s ∈ r, okS s := by
  intro f
  induction f with
  | zero => intro a ss r a' hl h; simp only [pSteps] at h; cases h; exact hl
  | succ f ih =>
    intro a ss r a' hl h
    simp only [pSteps] at h
    split at h
    · obtain ⟨x, _, hx, h⟩ := PLen.bind_get h
      refine ih _ _ r a' (fun s hs => ?_) h
      rcases List.mem_append.1 hs with hs | hs
      · exact hl s hs
      · simp only [List.mem_cons, List.not_mem_nil, or_false] at hs
        subst hs
        exact step_ok hx
    · cases h; exact hl
theorem conds_ok {l : List UInt8} : ∀ (f a : Nat) (cs r : List Cnd) (a' : Nat), (∀ c ∈ cs, okC c) → pConds l f a cs = .inr (r, a') → ∀ c ∈ r, okC c := by
  intro f
  induction f with
  | zero => intro a ss r a' hl h; simp only [pConds] at h; cases h; exact hl
  | succ f ih =>
    intro a cs r a' hl h
    simp only [pConds] at h
    split at h
    · obtain ⟨_, _, _, h⟩ := PLen.bind_get h
      obtain ⟨x, _, hx, h⟩ := PLen.bind_get h
      obtain ⟨_, _, _, h⟩ := PLen.bind_get h
      refine ih _ _ r a' (fun s hs => ?_) h
      rcases List.mem_append.1 hs with hs | hs
      · exact hl s hs
      · simp only [List.mem_cons, List.not_mem_nil, or_false] at hs
        subst hs
        exact cond_ok hx
    · cases h; exact hl
theorem pat_ok {l : List UInt8} {r : Ptn × Nat} (h : pPat l = .inr r) : (∀ s ∈ r.1.ss, okS s) ∧ ∀ c ∈ r.1.cs, okC c := by
  unfold pPat at h
  obtain ⟨_, _, _, h⟩ := PLen.bind_get h
  obtain ⟨x, _, hx, h⟩ := PLen.bind_get h
  obtain ⟨ss, _, hs, h⟩ := PLen.bind_get h
  have hso := steps_ok _ _ _ _ _ (fun s hs => by simp only [List.mem_cons, List.not_mem_nil, or_false] at hs; subst hs; exact step_ok hx) hs
  unfold pRest at h
  obtain ⟨_, _, _, h⟩ := PLen.bind_get h
  split at h
  · obtain ⟨_, _, _, h⟩ := PLen.bind_get h
    obtain ⟨c, _, hc0, h⟩ := PLen.bind_get h
    obtain ⟨_, _, _, h⟩ := PLen.bind_get h
    obtain ⟨cs, _, hc, h⟩ := PLen.bind_get h
    have hco := conds_ok _ _ _ _ _ (fun s hs => by simp only [List.mem_cons, List.not_mem_nil, or_false] at hs; subst hs; exact cond_ok hc0) hc
    obtain ⟨_, _, _, h⟩ := PLen.bind_get h
    obtain ⟨e1, e2⟩ := PLen.pEnd_get h
    rw [e1, e2]
    exact ⟨hso, hco⟩
  · obtain ⟨e1, e2⟩ := PLen.pEnd_get h
    rw [e1, e2]
    exact ⟨hso, fun c hc => absurd hc (by simp)⟩
theorem parse_ok {l : List UInt8} {p : Ptn} (h : pParse l = .inr p) : (∀ s ∈ p.ss, okS s) ∧ ∀ c ∈ p.cs, okC c := by
  unfold pParse at h
  split at h
  · cases h
  · cases hp : pPat l with
    | inl f => rw [hp] at h; cases h
    | inr f =>
      have := pat_ok hp
      rw [hp] at h
      simp only at h
      split at h
      · cases h
      · cases h; exact this

/-! ### other names -/
/-- A letter's other name. -/
def tn (by' b : Int) : Int := if b = 0 then 0 else 97 + (b - 97 + by') % 26
def isNm (b : Int) : Prop := 97 ≤ b ∧ b ≤ 122
def tS (k : Int) (s : GS) : GS := ⟨s.k, tn k s.nm, s.neg, s.lo, s.hi⟩
def tC (k : Int) (c : GC) : GC := ⟨tn k c.l, c.op, tn k c.r, c.k⟩
section
variable {k : Int}
theorem tn_nm {b : Int} (h : isNm b) : isNm (tn k b) := by
  unfold isNm at h ⊢
  unfold tn
  rw [if_neg (by omega)]
  omega
theorem tn_inj {b c : Int} (hb : b = 0 ∨ isNm b) (hc : isNm c) : (tn k c = tn k b) ↔ c = b := by
  unfold isNm at hb hc
  unfold tn
  rw [if_neg (show ¬ c = 0 by omega)]
  split
  · constructor <;> intro h <;> omega
  · constructor
    · intro h; omega
    · intro h; rw [h]
end
theorem findIdx_map {α : Type} (f : α → α) (p q : α → Bool) : ∀ (l : List α), (∀ x ∈ l, p (f x) = q x) → (l.map f).findIdx? p = l.findIdx? q
  | [], _ => rfl
  | x :: r, h => by
    rw [List.map_cons, List.findIdx?_cons, List.findIdx?_cons, h x (List.mem_cons_self ..), findIdx_map f p q r fun y hy => h y (List.mem_cons_of_mem _ hy)]
section
variable {k : Int} {ss : List GS} {cs : List GC} (hs : ∀ s ∈ ss, isNm s.nm) (hc : ∀ c ∈ cs, isNm c.l ∧ (c.r = 0 ∨ isNm c.r))
include hs
theorem find_t {b : Int} (hb : b = 0 ∨ isNm b) : findP (ss.map (tS k)) (tn k b) = findP ss b := by
  unfold findP
  rw [findIdx_map (tS k) _ (fun s => s.nm == b) ss fun x hx => by
    have h := tn_inj (k := k) hb (hs x hx)
    show (tn k x.nm == tn k b) = (x.nm == b)
    rw [Bool.eq_iff_iff, beq_iff_eq, beq_iff_eq]
    exact h]
omit hs in
theorem get_t (i : Nat) : ((ss.map (tS k))[i]!).neg = (ss[i]!).neg ∧ ((ss.map (tS k))[i]!).lo = (ss[i]!).lo ∧ ((ss.map (tS k))[i]!).hi = (ss[i]!).hi ∧ ((ss.map (tS k))[i]!).k = (ss[i]!).k := by
  by_cases h : i < ss.length
  · rw [getElem!_pos (ss.map (tS k)) i (by simpa using h), getElem!_pos ss i h]
    simp [tS]
  · rw [getElem!_neg (ss.map (tS k)) i (by simpa using h), getElem!_neg ss i h]
    exact ⟨rfl, rfl, rfl, rfl⟩
theorem stepE_t {i : Nat} (hi : i < ss.length) : stepE (ss.map (tS k)) i = stepE ss i := by
  unfold stepE
  obtain ⟨e1, e2, e3, e4⟩ := get_t (k := k) (ss := ss) i
  have hn := hs ss[i] (List.getElem_mem hi)
  have e5 : ((ss.map (tS k))[i]!).nm = tn k (ss[i]!).nm := by
    rw [getElem!_pos (ss.map (tS k)) i (by simpa using hi), getElem!_pos ss i hi]
    simp [tS]
  have e6 : isNm (ss[i]!).nm := by rw [getElem!_pos ss i hi]; exact hn
  have e7 := tn_nm (k := k) e6
  simp only
  rw [e1, e2, e3, e4, e5, find_t hs (.inr e6), List.length_map]
  unfold isNm at e6 e7
  have c1 : (¬(65 ≤ (ss[i]!).k ∧ (ss[i]!).k ≤ 90) ∨ ¬(97 ≤ tn k (ss[i]!).nm ∧ tn k (ss[i]!).nm ≤ 122)) ↔ (¬(65 ≤ (ss[i]!).k ∧ (ss[i]!).k ≤ 90) ∨ ¬(97 ≤ (ss[i]!).nm ∧ (ss[i]!).nm ≤ 122)) := by
    generalize tn k (ss[i]!).nm = a at *
    omega
  simp only [c1]
omit hs in
theorem bindsTo_t (n : Nat) : bindsTo (ss.map (tS k)) n = bindsTo ss n := by
  induction n with
  | zero => rfl
  | succ n ih =>
    obtain ⟨e1, e2, e3, e4⟩ := get_t (k := k) (ss := ss) n
    simp only [bindsTo]
    rw [ih, e1, e3]
omit hs in
theorem posTo_t (n : Nat) : posTo (ss.map (tS k)) n = posTo ss n := by
  induction n with
  | zero => rfl
  | succ n ih =>
    obtain ⟨e1, e2, e3, e4⟩ := get_t (k := k) (ss := ss) n
    simp only [posTo]
    rw [ih, e1]
theorem condE_t {c : GC} (hl : isNm c.l) (hr : c.r = 0 ∨ isNm c.r) : condE (ss.map (tS k)) (tC k c) = condE ss c := by
  unfold condE
  have e0 : (tC k c).r = 0 ↔ c.r = 0 := by
    show tn k c.r = 0 ↔ _
    unfold tn
    split
    · rename_i h; simp [h]
    · rename_i h
      constructor
      · intro h2; omega
      · intro h2; exact absurd h2 h
  show (if c.op < 0 ∨ 5 < c.op then _ else _) = _
  have e1 : findP (ss.map (tS k)) (tC k c).l = findP ss c.l := find_t hs (.inr hl)
  have e2 : findP (ss.map (tS k)) (tC k c).r = findP ss c.r := find_t hs hr
  rw [e1, e2, (get_t (k := k) (ss := ss) _).1]
  simp only [e0, ne_eq]
  rfl
theorem testOf_t {c : GC} (hl : isNm c.l) (hr : c.r = 0 ∨ isNm c.r) : testOf (ss.map (tS k)) (tC k c) = testOf ss c := by
  unfold testOf
  have e0 : (tC k c).r = 0 ↔ c.r = 0 := by
    show tn k c.r = 0 ↔ _
    unfold tn
    split
    · rename_i h; simp [h]
    · rename_i h
      constructor
      · intro h2; omega
      · intro h2; exact absurd h2 h
  have e1 : findP (ss.map (tS k)) (tC k c).l = findP ss c.l := find_t hs (.inr hl)
  have e2 : findP (ss.map (tS k)) (tC k c).r = findP ss c.r := find_t hs hr
  rw [e1, e2, posTo_t, posTo_t]
  simp only [e0]
  rfl
include hc
theorem testsAt_t (i : Nat) : testsAt (ss.map (tS k)) (cs.map (tC k)) i = testsAt ss cs i := by
  induction cs with
  | nil => rfl
  | cons c r ih =>
    have h1 := hc c (List.mem_cons_self ..)
    have h2 := ih fun x hx => hc x (List.mem_cons_of_mem _ hx)
    unfold testsAt at h2 ⊢
    rw [List.map_cons, List.filterMap_cons, List.filterMap_cons, testOf_t hs h1.1 h1.2, h2]
omit hs hc in
theorem firstBad_congr {f g : Nat → Int} {n : Nat} (h : ∀ j, j < n → f j = g j) : firstBad f n = firstBad g n := by
  induction n with
  | zero => rfl
  | succ n ih =>
    unfold firstBad
    rw [ih fun j hj => h j (by omega), h n (by omega)]
theorem checkP_t (wi : Int) : checkP (ss.map (tS k)) (cs.map (tC k)) wi = checkP ss cs wi := by
  have e1 : firstBad (stepE (ss.map (tS k))) ss.length = firstBad (stepE ss) ss.length := firstBad_congr fun j hj => stepE_t hs hj
  have e2 : firstBad (fun i => condE (ss.map (tS k)) (cs.map (tC k))[i]!) cs.length = firstBad (fun i => condE ss cs[i]!) cs.length := firstBad_congr fun j hj => by
    rw [getElem!_pos (cs.map (tC k)) j (by simpa using hj), getElem!_pos cs j hj, List.getElem_map]
    exact condE_t hs (hc _ (List.getElem_mem hj)).1 (hc _ (List.getElem_mem hj)).2
  unfold checkP
  rw [List.length_map, List.length_map, e1, e2, bindsTo_t]
end
/-! ### the groups -/
def tG (k : Int) (g : Grp Unit) : Grp Unit := ((tS k g.1.1, g.1.2), g.2.map fun b => (tS k b.1, b.2))
theorem pushG_t (k : Int) (x : GS × Unit) : ∀ l : List (Grp Unit), pushG (l.map (tG k)) (tS k x.1, x.2) = (pushG l x).map (tG k)
  | [] => rfl
  | [g] => by
    show (if (tS k x.1).neg = true then _ else _) = _
    show (if x.1.neg = true then _ else _) = (if x.1.neg = true then _ else _ : List (Grp Unit)).map (tG k)
    split
    · simp [tG]
    · simp [tG]
  | g :: g' :: r => by
    show tG k g :: pushG ((g' :: r).map (tG k)) (tS k x.1, x.2) = _
    rw [pushG_t k x (g' :: r)]
    rfl
theorem groups_t (k : Int) (ss : List GS) : groups (unitl (ss.map (tS k))) = (groups (unitl ss)).map (tG k) := by
  have h : ∀ (l : List GS) (a : List (Grp Unit)), (unitl (l.map (tS k))).foldl pushG (a.map (tG k)) = ((unitl l).foldl pushG a).map (tG k) := by
    intro l
    induction l with
    | nil => intro a; rfl
    | cons x r ih =>
      intro a
      show (unitl (r.map (tS k))).foldl pushG (pushG (a.map (tG k)) (tS k x, ())) = ((unitl r).foldl pushG (pushG a (x, ()))).map (tG k)
      rw [pushG_t k (x, ()) a]
      exact ih _
  exact h ss []
theorem startG_t (k : Int) (gs : List (Grp Unit)) (q : Nat) : startG (gs.map (tG k)) q = startG gs q := by
  unfold startG
  rw [← List.map_take]
  generalize gs.take q = l
  unfold flat
  induction l with
  | nil => rfl
  | cons g r ih => simp only [List.map_cons, List.flatMap_cons, List.length_append, List.length_cons] at ih ⊢; rw [ih]; simp [tG]
theorem PlanAt.named {w : World} {L B : Nat} {vs : Value} {k : Int} {gs : List (Grp Unit)} {ts : Nat → List PT} (h : PlanAt w L B vs (gs.map (tG k)) ts) : PlanAt w L B vs gs ts := by
  obtain ⟨ad, c, e, hq⟩ := h
  rw [List.length_map] at e
  refine ⟨ad, c, e, fun q hlt => ?_⟩
  obtain ⟨gv, e1, hgv, p0, p1, p2, ⟨vt, p3, ht1⟩, vb, p4, hbars⟩ := hq q (by simpa using hlt)
  have eg : (gs.map (tG k))[q]'(by simpa using hlt) = tG k gs[q] := List.getElem_map _
  rw [eg] at p0 p1 p2 hbars
  rw [startG_t] at ht1 hbars
  obtain ⟨ab, cb, e2, hr⟩ := hbars
  refine ⟨gv, e1, hgv, p0, p1, p2, ⟨vt, p3, ht1⟩, vb, p4, ab, cb, by rw [e2]; simp [tG], fun r hrl => ?_⟩
  obtain ⟨gb, e3, hgb, b0, vt2, b1, b2⟩ := hr r (by simpa [tG] using hrl)
  refine ⟨gb, e3, hgb, ?_, vt2, b1, b2⟩
  rw [b0]
  simp [tG, tS]
end Go.Proofs.Ytcfimponmioneaa.WL
