/- The plan of a pattern (layer 20) in plain Lean: what is wrong with a pattern, and where; the tests of each step. No program in sight. -/
namespace Go.Proofs.YtcfimponmioneaaDoor.PL

/-- A step: kind, name, whether it stands as a bar, how often. -/
structure GS where
  k : Int
  nm : Int
  neg : Bool
  lo : Int
  hi : Int
deriving DecidableEq
/-- A condition. -/
structure GC where
  l : Int
  op : Int
  r : Int
  k : Int
deriving DecidableEq
/-- A test. -/
structure PT where
  op : Int
  step : Int
  add : Int
  turn : Bool
deriving DecidableEq

instance : Inhabited GS := ⟨⟨0, 0, false, 0, 0⟩⟩
instance : Inhabited GC := ⟨⟨0, 0, 0, 0⟩⟩

/-- The number of a name's first step, -1 where there is none. -/
def findP (ss : List GS) (nm : Int) : Int := match ss.findIdx? (fun s => s.nm == nm) with
  | some i => i
  | none => -1
theorem findP_hit {ss : List GS} {nm : Int} {i : Nat} (hi : i < ss.length) (h : ss[i].nm = nm) (hb : ∀ j (hj : j < i), (ss[j]'(Nat.lt_trans hj hi)).nm ≠ nm) : findP ss nm = i := by
  have : ss.findIdx? (fun s => s.nm == nm) = some i := by
    rw [List.findIdx?_eq_some_iff_getElem]
    exact ⟨hi, by simpa using h, fun j hj => by simpa using hb j hj⟩
  unfold findP; rw [this]
theorem findP_miss {ss : List GS} {nm : Int} (hb : ∀ j (hj : j < ss.length), ss[j].nm ≠ nm) : findP ss nm = -1 := by
  have : ss.findIdx? (fun s => s.nm == nm) = none := by
    rw [List.findIdx?_eq_none_iff]
    intro x hx
    obtain ⟨j, hj, rfl⟩ := List.mem_iff_getElem.1 hx
    simpa using hb j hj
  unfold findP; rw [this]
theorem findP_cases (ss : List GS) (nm : Int) : findP ss nm = -1 ∨ ∃ i : Nat, findP ss nm = i ∧ ∃ hi : i < ss.length, ss[i].nm = nm ∧ ∀ j (hj : j < i), (ss[j]'(Nat.lt_trans hj hi)).nm ≠ nm := by
  unfold findP
  cases h : ss.findIdx? (fun s => s.nm == nm) with
  | none => exact .inl rfl
  | some i =>
    rw [List.findIdx?_eq_some_iff_getElem] at h
    obtain ⟨hi, h1, h2⟩ := h
    exact .inr ⟨i, rfl, hi, by simpa using h1, fun j hj => by simpa using h2 j hj⟩
theorem findP_lt (ss : List GS) (nm : Int) : -1 ≤ findP ss nm ∧ findP ss nm < ss.length := by
  rcases findP_cases ss nm with h | ⟨i, h, hi, _⟩ <;> omega
theorem findP_le_self {ss : List GS} {i : Nat} (hi : i < ss.length) : 0 ≤ findP ss ss[i].nm ∧ findP ss ss[i].nm ≤ i := by
  rcases findP_cases ss ss[i].nm with h | ⟨j, h, hj, h1, h2⟩
  · exfalso
    unfold findP at h
    cases h' : ss.findIdx? (fun s => s.nm == ss[i].nm) with
    | none =>
      rw [List.findIdx?_eq_none_iff] at h'
      have := h' ss[i] (List.getElem_mem hi)
      simp at this
    | some j => rw [h'] at h; simp at h
  · rw [h]
    refine ⟨by omega, ?_⟩
    rcases Nat.lt_or_ge i j with hl | hl
    · exact absurd rfl (h2 i hl)
    · omega

/-- What is wrong with the i-th step. -/
def stepE (ss : List GS) (i : Nat) : Int :=
  let s := ss[i]!
  if ¬ (65 ≤ s.k ∧ s.k ≤ 90) ∨ ¬ (97 ≤ s.nm ∧ s.nm ≤ 122) then 20
  else if findP ss s.nm < i then 21
  else if s.neg = true ∧ (i = 0 ∨ i + 1 = ss.length) then 23
  else if (s.neg = true ∧ (s.lo ≠ 1 ∨ s.hi ≠ 1)) ∨ s.lo < 1 ∨ s.hi < s.lo ∨ 4 < s.hi then 22
  else 0
/-- What is wrong with a condition. -/
def condE (ss : List GS) (c : GC) : Int :=
  if c.op < 0 ∨ 5 < c.op then 20
  else if c.k < -9007199254740992 ∨ 9007199254740992 < c.k then 2
  else if findP ss c.l < 0 ∨ (c.r ≠ 0 ∧ findP ss c.r < 0) then 21
  else if c.r = 0 then 0
  else if (ss[(min (findP ss c.l) (findP ss c.r)).toNat]!).neg = true then 23
  else 0
/-- The first of n that is at fault. -/
def firstBad (f : Nat → Int) : Nat → Option (Nat × Int)
  | 0 => none
  | n + 1 => match firstBad f n with
    | some x => some x
    | none => if f n = 0 then none else some (n, f n)
theorem firstBad_none {f : Nat → Int} {n : Nat} (h : ∀ j, j < n → f j = 0) : firstBad f n = none := by
  induction n with
  | zero => rfl
  | succ n ih => unfold firstBad; rw [ih fun j hj => h j (by omega)]; simp [h n (by omega)]
theorem firstBad_some {f : Nat → Int} {n i : Nat} (hi : i < n) (he : f i ≠ 0) (h : ∀ j, j < i → f j = 0) : firstBad f n = some (i, f i) := by
  induction n with
  | zero => omega
  | succ n ih =>
    unfold firstBad
    rcases Nat.lt_or_ge i n with hl | hl
    · rw [ih hl]
    · have : i = n := by omega
      subst this
      rw [firstBad_none h]
      simp [he]
theorem firstBad_cases (f : Nat → Int) (n : Nat) : (firstBad f n = none ∧ ∀ j, j < n → f j = 0) ∨ ∃ i, i < n ∧ f i ≠ 0 ∧ (∀ j, j < i → f j = 0) ∧ firstBad f n = some (i, f i) := by
  induction n with
  | zero => exact .inl ⟨rfl, fun j hj => absurd hj (by omega)⟩
  | succ n ih =>
    rcases ih with ⟨h1, h2⟩ | ⟨i, hi, h1, h2, h3⟩
    · by_cases he : f n = 0
      · refine .inl ⟨?_, fun j hj => ?_⟩
        · unfold firstBad; rw [h1]; simp [he]
        · rcases Nat.lt_or_ge j n with hl | hl
          · exact h2 j hl
          · have : j = n := by omega
            rw [this]; exact he
      · exact .inr ⟨n, by omega, he, h2, firstBad_some (by omega) he h2⟩
    · exact .inr ⟨i, by omega, h1, h2, firstBad_some (by omega) h1 h2⟩
/-- How many events the first n steps take at most. -/
def bindsTo (ss : List GS) : Nat → Int
  | 0 => 0
  | n + 1 => bindsTo ss n + if (ss[n]!).neg = true then 0 else (ss[n]!).hi
/-- What is wrong with a pattern, and where. -/
def checkP (ss : List GS) (cs : List GC) (wi : Int) : Int × Int :=
  if ss.length < 1 ∨ 8 < ss.length ∨ 16 < cs.length then (0, 24)
  else if wi < 0 ∨ 9007199254740992 < wi then (0, 2)
  else match firstBad (stepE ss) ss.length with
    | some (i, e) => (i, e)
    | none => if 16 < bindsTo ss ss.length then (0, 24)
      else match firstBad (fun i => condE ss cs[i]!) cs.length with
        | some (i, e) => (ss.length + i, e)
        | none => (0, 0)
/-- How many of the first i steps are no bars. -/
def posTo (ss : List GS) : Nat → Nat
  | 0 => 0
  | n + 1 => posTo ss n + if (ss[n]!).neg = true then 0 else 1
/-- The step at which a condition is tested, and the test. -/
def testOf (ss : List GS) (c : GC) : Nat × PT :=
  if c.r = 0 then ((findP ss c.l).toNat, ⟨c.op, -1, c.k, false⟩)
  else if findP ss c.l = findP ss c.r then ((findP ss c.l).toNat, ⟨c.op, -2, c.k, false⟩)
  else if findP ss c.r < findP ss c.l then ((findP ss c.l).toNat, ⟨c.op, posTo ss ((findP ss c.r).toNat + 1) - 1, c.k, false⟩)
  else ((findP ss c.r).toNat, ⟨c.op, posTo ss ((findP ss c.l).toNat + 1) - 1, c.k, true⟩)
/-- The tests of the i-th step, of these conditions. -/
def testsAt (ss : List GS) (cs : List GC) (i : Nat) : List PT := cs.filterMap fun c => if (testOf ss c).1 = i then some (testOf ss c).2 else none
theorem testsAt_snoc (ss : List GS) (cs : List GC) (c : GC) (i : Nat) : testsAt ss (cs ++ [c]) i = testsAt ss cs i ++ if (testOf ss c).1 = i then [(testOf ss c).2] else [] := by
  unfold testsAt
  rw [List.filterMap_append]
  by_cases h : (testOf ss c).1 = i <;> simp [h]

/-- A step that takes events, and the bars behind it, each with a thing of its own. -/
abbrev Grp (α : Type) := (GS × α) × List (GS × α)
/-- One step more. -/
def pushG {α : Type} : List (Grp α) → GS × α → List (Grp α)
  | [], x => [(x, [])]
  | [g], x => if x.1.neg = true then [(g.1, g.2 ++ [x])] else [g, (x, [])]
  | g :: g' :: r, x => g :: pushG (g' :: r) x
/-- The steps, in groups. -/
def groups {α : Type} (l : List (GS × α)) : List (Grp α) := l.foldl pushG []
theorem groups_snoc {α : Type} (l : List (GS × α)) (x : GS × α) : groups (l ++ [x]) = pushG (groups l) x := by simp [groups, List.foldl_append]
theorem pushG_ne {α : Type} (l : List (Grp α)) (x : GS × α) : pushG l x ≠ [] := by
  match l with
  | [] => simp [pushG]
  | [g] => unfold pushG; split <;> simp
  | g :: g' :: r => simp [pushG]
theorem pushG_pos {α : Type} (l : List (Grp α)) (x : GS × α) (h : x.1.neg = false) : pushG l x = l ++ [(x, [])] := by
  induction l with
  | nil => rfl
  | cons g r ih =>
    match r with
    | [] => simp [pushG, h]
    | g' :: r => simp only [pushG, ih, List.cons_append]
theorem pushG_bar {α : Type} (l : List (Grp α)) (g : Grp α) (x : GS × α) (h : x.1.neg = true) : pushG (l ++ [g]) x = l ++ [(g.1, g.2 ++ [x])] := by
  induction l with
  | nil => simp [pushG, h]
  | cons a r ih =>
    match r with
    | [] => simp [pushG, h]
    | a' :: r => simpa only [pushG, List.cons_append, List.cons.injEq, true_and] using ih
/-- The groups, one behind the other. -/
def flat {α : Type} (l : List (Grp α)) : List (GS × α) := l.flatMap fun g => g.1 :: g.2
theorem flat_push {α : Type} (l : List (Grp α)) (x : GS × α) : flat (pushG l x) = flat l ++ [x] := by
  match l with
  | [] => rfl
  | [g] => unfold pushG; split <;> simp [flat]
  | g :: g' :: r =>
    have := flat_push (g' :: r) x
    unfold pushG
    simp only [flat, List.flatMap_cons] at this ⊢
    rw [this]; simp
theorem flat_groups {α : Type} (l : List (GS × α)) : flat (groups l) = l := by
  have : ∀ (a : List (Grp α)), flat (l.foldl pushG a) = flat a ++ l := by
    induction l with
    | nil => intro a; simp
    | cons x r ih => intro a; rw [List.foldl_cons, ih, flat_push]; simp
  simpa [groups, flat] using this []
end Go.Proofs.YtcfimponmioneaaDoor.PL
