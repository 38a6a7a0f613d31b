/- A region that draws its order and holds one chain of operations that change memory, each waiting for the one ahead of it, among others that hand back known values wherever they come: whatever the order, it is as if the chain were run alone. No program in sight. -/
import Derived.Orders
import Derived.StillTail
import Derived.Deep.AppendLies
namespace Go.Proofs.Ytceeijamhhokaaa.Ord


section
variable {P : Program} {ops : Array Oper} {Q : Exit → Act → World → Prop}

/-- Each of the first h operations waits for earlier ones alone; each other one waits for all of the first h, or for number h. -/
def chkH (ops : Array Oper) (h : Nat) : Bool := (List.range h).all fun i => match ops[i]? with
  | some o => o.after.all fun e => decide (e.on < i)
  | none => false
/-- What an operation waits for. -/
def preds (ops : Array Oper) (i : Nat) : List Nat := match ops[i]? with
  | some o => (o.after.toList.filter (Region.binds .any)).map (·.on)
  | none => []
/-- .. and what those wait for, so many steps on. -/
def clos (ops : Array Oper) : Nat → List Nat → List Nat
  | 0, l => l
  | f + 1, l => l ++ clos ops f (l.flatMap (preds ops))
def chkT (ops : Array Oper) (h t : Nat) : Bool := (List.range t).all fun r =>
  (decide (0 < r) && (preds ops (h + r)).contains h) || (List.range h).all fun j => (clos ops 9 (preds ops (h + r))).contains j
theorem clos_listed {ops : Array Oper} {listed : Array Bool} (hc : ∀ i, listed.getD i false = true → ∀ j ∈ preds ops i, listed.getD j false = true) :
    ∀ (f : Nat) (l : List Nat), (∀ i ∈ l, listed.getD i false = true) → ∀ i ∈ clos ops f l, listed.getD i false = true := by
  intro f
  induction f with
  | zero => intro l hl i hi; exact hl i hi
  | succ f ih =>
    intro l hl i hi
    rcases List.mem_append.1 hi with hi | hi
    · exact hl i hi
    · refine ih _ (fun j hj => ?_) i hi
      obtain ⟨k, hk, hj⟩ := List.mem_flatMap.1 hj
      exact hc k (hl k hk) j hj
theorem preds_of {ops : Array Oper} {i : Nat} {o : Oper} (ho : ops[i]? = some o) {j : Nat} (h : j ∈ preds ops i) : ∃ e ∈ o.after, Region.binds .any e = true ∧ e.on = j := by
  unfold preds at h
  rw [ho] at h
  obtain ⟨e, he, rfl⟩ := List.mem_map.1 h
  obtain ⟨h1, h2⟩ := List.mem_filter.1 he
  exact ⟨e, by simpa using h1, h2, rfl⟩

/-- How many of the first h are still to come. -/
def todo (listed : Array Bool) : Nat → Nat
  | 0 => 0
  | h + 1 => (if listed.getD h false then 0 else 1) + todo listed h
theorem todo_zero {listed : Array Bool} : ∀ {h : Nat}, todo listed h = 0 → ∀ i, i < h → listed.getD i false = true := by
  intro h
  induction h with
  | zero => intro _ i hi; omega
  | succ h ih =>
    intro h0 i hi
    simp only [todo] at h0
    by_cases hc : listed.getD h false = true
    · by_cases hih : i = h
      · rw [hih]; exact hc
      · exact ih (by omega) i (by omega)
    · rw [if_neg hc] at h0; omega
theorem todo_pos {listed : Array Bool} : ∀ {h : Nat}, todo listed h ≠ 0 → ∃ i, i < h ∧ listed.getD i false = false ∧ ∀ j, j < i → listed.getD j false = true := by
  intro h
  induction h with
  | zero => intro h0; exact absurd rfl h0
  | succ h ih =>
    intro h0
    by_cases hh : todo listed h = 0
    · refine ⟨h, by omega, ?_, todo_zero hh⟩
      simp only [todo, hh] at h0
      by_cases hc : listed.getD h false = true
      · rw [if_pos hc] at h0; omega
      · simpa using hc
    · obtain ⟨i, hi, h1, h2⟩ := ih hh
      exact ⟨i, by omega, h1, h2⟩
theorem getD_set {listed : Array Bool} {i j : Nat} (hi : i < listed.size) : (listed.setIfInBounds i true).getD j false = if i = j then true else listed.getD j false := by
  simp only [Array.getD_eq_getD_getElem?, Array.getElem?_setIfInBounds]
  by_cases h : i = j
  · subst h; simp [hi]
  · simp [h]
theorem todo_set {listed : Array Bool} {i : Nat} (hs : i < listed.size) : ∀ {h : Nat}, i < h → listed.getD i false = false → todo (listed.setIfInBounds i true) h + 1 = todo listed h := by
  have out : ∀ h, h ≤ i → todo (listed.setIfInBounds i true) h = todo listed h := by
    intro h
    induction h with
    | zero => intro _; rfl
    | succ h ih =>
      intro hle
      have e := getD_set (listed := listed) (i := i) (j := h) hs
      rw [if_neg (by omega)] at e
      simp only [todo]; rw [ih (by omega), e]
  intro h
  induction h with
  | zero => intro hi; omega
  | succ h ih =>
    intro hi h0
    simp only [todo]
    by_cases hih : i = h
    · subst hih
      rw [out i (Nat.le_refl _), getD_set hs, if_pos rfl, h0]
      simp; omega
    · rw [getD_set hs, if_neg hih]
      have := ih (by omega) h0
      omega

theorem any_order {h t : Nat} (hsz : ops.size = h + t) (hH : chkH ops h = true) (hTl : chkT ops h t = true) (Inv : Array Bool → Act → World → Prop)
    (hS : ∀ listed a w i, Inv listed a w → listed.size = h + t → i < h → i ∈ Region.ready .any ops listed → wpOp P ops Q i (Inv (listed.setIfInBounds i true)) a w)
    (hT : ∀ listed a w, Inv listed a w → listed = (List.replicate h true ++ List.replicate t false).toArray → wpAny P .any ops Q t listed a w) :
    ∀ k listed a w, todo listed h = k → listed.size = h + t → (∀ i, h ≤ i → listed.getD i false = false) → (∀ i, listed.getD i false = true → ∀ j ∈ preds ops i, listed.getD j false = true) → Inv listed a w → wpAny P .any ops Q (k + t) listed a w := by
  intro k
  induction k with
  | zero =>
    intro listed a w hk hls htl hclo hi
    rw [Nat.zero_add]
    refine hT listed a w hi ?_
    apply Array.ext_getElem?
    intro j
    simp only [List.getElem?_toArray, List.getElem?_append, List.getElem?_replicate, List.length_replicate]
    by_cases hj : j < h
    · have := todo_zero hk j hj
      simp only [Array.getD_eq_getD_getElem?] at this
      simp only [hj, if_true]
      cases hx : listed[j]? with
      | none => rw [hx] at this; simp at this
      | some b => rw [hx] at this; simpa using this
    · simp only [hj, if_false]
      have := htl j (by omega)
      simp only [Array.getD_eq_getD_getElem?] at this
      by_cases hjt : j < h + t
      · rw [if_pos (by omega)]
        have hx : listed[j]? = some listed[j] := by simp [hls, hjt]
        rw [hx] at this ⊢
        simpa using this
      · rw [if_neg (by omega)]
        exact Array.getElem?_eq_none (by omega)
  | succ k ih =>
    intro listed a w hk hls htl hclo hi
    have hlt : ∀ i ∈ Region.ready .any ops listed, i < h := by
      intro i hir
      obtain ⟨hun, o, ho, hall⟩ := mem_ready.1 hir
      rcases Nat.lt_or_ge i h with hih | hih
      · exact hih
      · exfalso
        have hio : i < ops.size := by
          rcases Nat.lt_or_ge i ops.size with h' | h'
          · exact h'
          · rw [Array.getElem?_eq_none h'] at ho; cases ho
        obtain ⟨j, hj, hju, _⟩ := todo_pos (h := h) (listed := listed) (by omega)
        have h1 := List.all_eq_true.1 hTl (i - h) (List.mem_range.2 (by omega))
        rw [show h + (i - h) = i by omega] at h1
        simp only [Bool.or_eq_true, Bool.and_eq_true, decide_eq_true_eq, List.contains_iff_mem] at h1
        have hpl : ∀ q ∈ preds ops i, listed.getD q false = true := fun q hq => by
          obtain ⟨e, he, hb, rfl⟩ := preds_of ho hq
          exact hall e he hb
        rcases h1 with ⟨_, h1⟩ | h1
        · have := hpl h h1
          rw [htl h (Nat.le_refl _)] at this
          cases this
        · have h2 := List.all_eq_true.1 h1 j (List.mem_range.2 hj)
          have := clos_listed hclo 9 _ hpl j (by simpa using h2)
          rw [hju] at this
          cases this
    rw [show k + 1 + t = (k + t) + 1 by omega]
    refine ⟨fun h0 => ?_, fun i hir => ?_⟩
    · exfalso
      obtain ⟨j, hj, hju, hjb⟩ := todo_pos (h := h) (listed := listed) (by omega)
      have h1 := List.all_eq_true.1 hH j (List.mem_range.2 hj)
      have hjo : ops[j]? = some ops[j] := by simp
      rw [hjo] at h1
      have : j ∈ Region.ready .any ops listed := by
        refine mem_ready.2 ⟨?_, _, hjo, fun e he hb => ?_⟩
        · have : j < listed.size := by omega
          simp only [Array.getD_eq_getD_getElem?] at hju ⊢
          simpa [this] using hju
        · have := Array.all_eq_true'.1 h1 e he
          exact hjb _ (by simpa using this)
      rw [h0] at this
      cases this
    · have hih := hlt i hir
      have hun : listed.getD i false = false := by
        have := (mem_ready.1 hir).1
        have hl : i < listed.size := by omega
        simp only [Array.getD_eq_getD_getElem?] at this ⊢
        simpa [hl] using this
      exact wpOp_mono (fun a' w' h' => ih _ a' w' (by have := todo_set (by omega) hih hun; omega) (by simpa using hls)
        (fun j hj => by rw [getD_set (by omega), if_neg (by omega)]; exact htl j hj)
        (fun q hq j hj => by
          have hset : ∀ x, listed.getD x false = true → (listed.setIfInBounds i true).getD x false = true := by
            intro x hx
            rw [getD_set (by omega)]
            split
            · rfl
            · exact hx
          rw [getD_set (by omega)] at hq
          by_cases hiq : i = q
          · subst hiq
            obtain ⟨_, o, ho, hall⟩ := mem_ready.1 hir
            obtain ⟨e, he, hb, rfl⟩ := preds_of ho hj
            exact hset _ (hall e he hb)
          · rw [if_neg hiq] at hq
            exact hset _ (hclo q hq j hj)) h') (hS listed a w i hi hls hih hir)

theorem wp_any_order {id : Nat} {l : List Oper} {a : Act} {w : World} {h t : Nat} (hm : P.follows .mixedOrders = true) (hl : l.length = h + t) (hH : chkH l.toArray h = true) (hTl : chkT l.toArray h t = true)
    (hseq : Region.seqB .any l.toArray t h (List.replicate h true ++ List.replicate t false).toArray = true)
    (Inv : Array Bool → Act → World → Prop)
    (hS : ∀ listed a w i, Inv listed a w → listed.size = h + t → i < h → i ∈ Region.ready .any l.toArray listed → wpOp P l.toArray Q i (Inv (listed.setIfInBounds i true)) a w)
    (hi : Inv (Array.replicate (h + t) false) a w.drew)
    (hT : ∀ listed a w, Inv listed a w → (∀ i, i < h → listed.getD i false = true) → wpList P l.toArray Q (l.drop h) a w) : (Code.region id l.toArray true).wp P Q a w := by
  refine wp_region_any hm ?_
  have e : l.toArray.size = h + t := by simpa using hl
  have hz : ∀ h', todo (Array.replicate (h + t) false) h' = h' := by
    intro h'
    induction h' with
    | zero => rfl
    | succ h' ih => simp only [todo, ih]; rw [if_neg (by simp [Array.getD_eq_getD_getElem?, Array.getElem?_replicate]; split <;> simp)]; omega
  have := any_order (P := P) (Q := Q) e hH hTl Inv hS (fun listed a w hi hli => by
    have hs := wpAny_of_seq (P := P) (md := .any) (Q' := Q) (l.drop h) h listed a w (fun j => by simp [List.getElem?_drop]) (by
      have : (l.drop h).length = t := by simp; omega
      rw [this, hli]; exact hseq) (hT listed a w hi (fun i hih => by rw [hli]; simp [Array.getD_eq_getD_getElem?, List.getElem?_append, hih]))
    have ht : (l.drop h).length = t := by simp; omega
    rwa [ht] at hs) h (Array.replicate (h + t) false) a w.drew (hz h) (by simp) (fun i _ => by simp [Array.getD_eq_getD_getElem?, Array.getElem?_replicate]; split <;> simp) (fun i hi' => by
      have : (Array.replicate (h + t) false).getD i false = false := by simp [Array.getD_eq_getD_getElem?, Array.getElem?_replicate]; split <;> simp
      rw [this] at hi'; cases hi') hi
  rw [e]
  exact this

/-- One operation that hands back a value. -/
theorem wpOp_val {i : Nat} {o : Oper} {a : Act} {w w' : World} {v : Value} {K : Act → World → Prop} (ho : ops[i]? = some o) (hg : o.guard = none) (hr : (execOp a.eval o).run P w = .ok (.value v) w') (hK : K (a.put o.dst v) w') : wpOp P ops Q i K a w := by
  unfold wpOp
  simp only [ho, Region.wanted, hg, if_true]
  refine .inl ?_
  unfold Oper.wp
  rw [hr]
  exact hK
end

/-- Puts, one behind the other. -/
def puts : List (Nat × Value) → Act → Act
  | [], a => a
  | (s, v) :: l, a => puts l (a.put (some s) v)
theorem puts_size (l : List (Nat × Value)) : ∀ a, (puts l a).tmps.size = a.tmps.size := by
  induction l with
  | nil => intro a; rfl
  | cons x l ih => intro a; obtain ⟨s, v⟩ := x; rw [puts, ih]; simp [Act.put]
theorem puts_defers (l : List (Nat × Value)) : ∀ a, (puts l a).defers = a.defers := by
  induction l with
  | nil => intro a; rfl
  | cons x l ih => intro a; obtain ⟨s, v⟩ := x; rw [puts, ih]; simp [Act.put]
theorem puts_out (l : List (Nat × Value)) : ∀ a s, s ∉ l.map (·.1) → (puts l a).tmps[s]? = a.tmps[s]? := by
  induction l with
  | nil => intro a s _; rfl
  | cons x l ih =>
    intro a s hs
    obtain ⟨s', v⟩ := x
    simp only [List.map_cons, List.mem_cons, not_or] at hs
    rw [puts, ih _ _ hs.2]
    simp [Act.put, Ne.symm hs.1]
theorem puts_in (l : List (Nat × Value)) : ∀ a s v, (l.map (·.1)).Nodup → (s, v) ∈ l → s < a.tmps.size → (puts l a).tmps[s]? = some v := by
  induction l with
  | nil => intro a s v _ h; cases h
  | cons x l ih =>
    intro a s v hn h hlt
    obtain ⟨s', v'⟩ := x
    simp only [List.map_cons, List.nodup_cons] at hn
    rw [puts]
    rcases List.mem_cons.1 h with h | h
    · injection h with h1 h2
      subst h1; subst h2
      rw [puts_out l _ _ hn.1]
      simp [Act.put, hlt]
    · exact ih _ _ _ hn.2 h (by simpa [Act.put] using hlt)
theorem act_eq {a a0 : Act} {l : List (Nat × Value)} (hs : a.tmps.size = a0.tmps.size) (hd : a.defers = a0.defers) (hout : ∀ s, s ∉ l.map (·.1) → a.tmps[s]? = a0.tmps[s]?)
    (hn : (l.map (·.1)).Nodup) (hlt : ∀ s ∈ l.map (·.1), s < a0.tmps.size) (hin : ∀ s v, (s, v) ∈ l → a.tmps[s]? = some v) : a = puts l a0 := by
  have h1 : a.tmps = (puts l a0).tmps := by
    apply Array.ext_getElem?
    intro s
    by_cases hm : s ∈ l.map (·.1)
    · obtain ⟨⟨s', v⟩, hx, rfl⟩ := List.mem_map.1 hm
      rw [hin _ _ hx, puts_in l a0 _ _ hn hx (hlt _ hm)]
    · rw [hout s hm, puts_out l a0 s hm]
  have h2 : a.defers = (puts l a0).defers := hd.trans (puts_defers l a0).symm
  cases a; cases hp : puts l a0
  rw [hp] at h1 h2
  simp_all

theorem put_other {a : Act} {s s' : Nat} (h : s ≠ s') (v : Value) : (a.put (some s) v).tmps[s']? = a.tmps[s']? := by simp [Act.put, h]
theorem put_same {a : Act} {s : Nat} (h : s < a.tmps.size) (v : Value) : (a.put (some s) v).tmps[s]? = some v := by simp [Act.put, h]

/-- Does an operation wait for number j? -/
def waits (o : Oper) (j : Nat) : Prop := ∃ e ∈ o.after, Region.binds .any e = true ∧ e.on = j

theorem waits_of {o : Oper} {j : Nat} (h : (o.after.any fun e => Region.binds .any e && decide (e.on = j)) = true) : waits o j := by
  simp only [Array.any_eq_true', Bool.and_eq_true, decide_eq_true_eq] at h
  obtain ⟨e, he, hb, hj⟩ := h
  exact ⟨e, he, hb, hj⟩

theorem listed_of_waits {ops : Array Oper} {listed : Array Bool} {i j : Nat} {o : Oper} (hr : i ∈ Region.ready .any ops listed) (ho : ops[i]? = some o) (hw : waits o j) : listed.getD j false = true := by
  obtain ⟨_, o', ho', hall⟩ := mem_ready.1 hr
  rw [ho] at ho'
  injection ho' with ho'
  subst ho'
  obtain ⟨e, he, hb, rfl⟩ := hw
  exact hall e he hb

theorem eval_tmp {a : Act} {s : Nat} {x : Value} (h : a.tmps[s]? = some x) : a.eval (.tmp s) = x := by simp [Act.eval, Array.getD_eq_getD_getElem?, h]

theorem nodup_fst {known : List (Nat × Nat × Value)} : ∀ {i s s' : Nat} {x x' : Value}, (known.map (·.1)).Nodup → (i, s, x) ∈ known → (i, s', x') ∈ known → s = s' ∧ x = x' := by
  induction known with
  | nil => intro i s s' x x' _ h; cases h
  | cons y l ih =>
    intro i s s' x x' hn h h'
    simp only [List.map_cons, List.nodup_cons] at hn
    rcases List.mem_cons.1 h with k | k
    · rcases List.mem_cons.1 h' with k' | k'
      · rw [← k] at k'
        injection k' with _ k'
        injection k' with h1 h2
        exact ⟨h1.symm, h2.symm⟩
      · rw [← k] at hn
        exact absurd (List.mem_map.2 ⟨(i, s', x'), k', rfl⟩) hn.1
    · rcases List.mem_cons.1 h' with k' | k'
      · rw [← k'] at hn
        exact absurd (List.mem_map.2 ⟨(i, s, x), k, rfl⟩) hn.1
      · exact ih hn.2 k k'
theorem nodup_snd {known : List (Nat × Nat × Value)} : ∀ {i i' s : Nat} {x x' : Value}, (known.map (·.2.1)).Nodup → (i, s, x) ∈ known → (i', s, x') ∈ known → i = i' := by
  induction known with
  | nil => intro i i' s x x' _ h; cases h
  | cons y l ih =>
    intro i i' s x x' hn h h'
    simp only [List.map_cons, List.nodup_cons] at hn
    rcases List.mem_cons.1 h with k | k
    · rcases List.mem_cons.1 h' with k' | k'
      · rw [← k] at k'
        injection k' with k' _
        exact k'.symm
      · rw [← k] at hn
        exact absurd (List.mem_map.2 ⟨(i', s, x'), k', rfl⟩) hn.1
    · rcases List.mem_cons.1 h' with k' | k'
      · rw [← k'] at hn
        exact absurd (List.mem_map.2 ⟨(i, s, x), k, rfl⟩) hn.1
      · exact ih hn.2 k k'


/-- The slots outside of the region's own are as they were. -/
structure Sees (a0 : Act) (slots : List Nat) (a : Act) : Prop where
  size : a.tmps.size = a0.tmps.size
  defers : a.defers = a0.defers
  out : ∀ s, s ∉ slots → a.tmps[s]? = a0.tmps[s]?
theorem Sees.put {a0 : Act} {slots : List Nat} {a : Act} (h : Sees a0 slots a) {s : Nat} (hs : s ∈ slots) (v : Value) : Sees a0 slots (a.put (some s) v) :=
  ⟨by simpa [Act.put] using h.size, h.defers, fun s' hs' => by rw [← h.out s' hs']; simp [Act.put, Array.getElem?_setIfInBounds]; intro he; subst he; exact absurd hs hs'⟩

/-- Does each of the chain wait for the one ahead of it? -/
def chkC (ops : Array Oper) : List Nat → Bool
  | [] => true
  | [_] => true
  | p :: q :: r => (preds ops q).contains p && chkC ops (q :: r)
theorem chkC_at {ops : Array Oper} : ∀ {c : List Nat} {m p q : Nat}, chkC ops c = true → c[m]? = some p → c[m + 1]? = some q → p ∈ preds ops q := by
  intro c
  induction c with
  | nil => intro m p q _ h; simp at h
  | cons x r ih =>
    intro m p q hc hp hq
    cases r with
    | nil => simp at hq
    | cons y r =>
      simp only [chkC, Bool.and_eq_true, List.contains_iff_mem] at hc
      cases m with
      | zero =>
        simp only [List.getElem?_cons_zero, Option.some.injEq, List.getElem?_cons_succ, Nat.zero_add] at hp hq
        subst hp; subst hq
        exact hc.1
      | succ m =>
        simp only [List.getElem?_cons_succ] at hp hq
        exact ih hc.2 hp (by simpa using hq)

theorem nodup_at {l : List Nat} : ∀ {m m' x : Nat}, l.Nodup → l[m]? = some x → l[m']? = some x → m = m' := by
  induction l with
  | nil => intro m m' x _ h; simp at h
  | cons y l ih =>
    intro m m' x hn h h'
    simp only [List.nodup_cons] at hn
    cases m with
    | zero =>
      cases m' with
      | zero => rfl
      | succ m' =>
        simp only [List.getElem?_cons_zero, Option.some.injEq, List.getElem?_cons_succ] at h h'
        subst h
        exact absurd (List.mem_of_getElem? h') hn.1
    | succ m =>
      cases m' with
      | zero =>
        simp only [List.getElem?_cons_zero, Option.some.injEq, List.getElem?_cons_succ] at h h'
        subst h'
        exact absurd (List.mem_of_getElem? h) hn.1
      | succ m' =>
        simp only [List.getElem?_cons_succ] at h h'
        rw [ih hn.2 h h']

theorem chain_order {P : Program} {id : Nat} {l : List Oper} {Q : Exit → Act → World → Prop} {a0 : Act} {w0 : World} {floats : List (Nat × Nat × Value)} {chain : List (Nat × Nat)} {h t : Nat}
    (hm : P.follows .mixedOrders = true) (hl : l.length = h + t) (hH : chkH l.toArray h = true) (hTl : chkT l.toArray h t = true)
    (hseq : Region.seqB .any l.toArray t h (List.replicate h true ++ List.replicate t false).toArray = true)
    (hch : chkC l.toArray (chain.map (·.1)) = true)
    (hidx : (floats.map (·.1) ++ chain.map (·.1)).Nodup) (hall : ∀ i, i < h → i ∈ floats.map (·.1) ++ chain.map (·.1)) (hin : ∀ i ∈ floats.map (·.1) ++ chain.map (·.1), i < h)
    (hsl : (floats.map (·.2.1) ++ chain.map (·.2)).Nodup) (hlt : ∀ s ∈ floats.map (·.2.1) ++ chain.map (·.2), s < a0.tmps.size)
    (J : List Value → World → Prop) (hJ0 : J [] w0.drew)
    (hF : ∀ (i s : Nat) (x : Value), (i, s, x) ∈ floats → ∃ o, l[i]? = some o ∧ o.guard = none ∧ o.dst = some s ∧
      ∀ (a : Act) (w : World) (vs : List Value), Sees a0 (floats.map (·.2.1) ++ chain.map (·.2)) a → (∀ (j s' : Nat) (x' : Value), (j, s', x') ∈ floats → waits o j → a.tmps[s']? = some x') → J vs w → (execOp a.eval o).run P w = .ok (.value x) w)
    (hC : ∀ (m i s : Nat), chain[m]? = some (i, s) → ∀ (a : Act) (w : World) (vs : List Value) (K : Act → World → Prop), vs.length = m → Sees a0 (floats.map (·.2.1) ++ chain.map (·.2)) a →
      (∀ (o : Oper) (j s' : Nat) (x' : Value), l[i]? = some o → (j, s', x') ∈ floats → waits o j → a.tmps[s']? = some x') → (∀ (m' i' s' : Nat) (v : Value), chain[m']? = some (i', s') → vs[m']? = some v → a.tmps[s']? = some v) → J vs w →
      (∀ v w', J (vs ++ [v]) w' → K (a.put (some s) v) w') → wpOp P l.toArray Q i K a w)
    (hT : ∀ w vs, vs.length = chain.length → J vs w → wpList P l.toArray Q (l.drop h) (puts (floats.map (·.2) ++ (chain.map (·.2)).zip vs) a0) w) :
    (Code.region id l.toArray true).wp P Q a0 w0 := by
  have hnf := (List.nodup_append.1 hidx).1
  have hnc := (List.nodup_append.1 hidx).2.1
  have hx := (List.nodup_append.1 hidx).2.2
  have hsf := (List.nodup_append.1 hsl).1
  have hsc := (List.nodup_append.1 hsl).2.1
  have hxs := (List.nodup_append.1 hsl).2.2
  have chIdx : ∀ {m i s : Nat}, chain[m]? = some (i, s) → (chain.map (·.1))[m]? = some i := fun hc => by simp [hc]
  have chSl : ∀ {m i s : Nat}, chain[m]? = some (i, s) → (chain.map (·.2))[m]? = some s := fun hc => by simp [hc]
  have chMem : ∀ {m i s : Nat}, chain[m]? = some (i, s) → i ∈ chain.map (·.1) := fun hc => List.mem_of_getElem? (chIdx hc)
  have chMemS : ∀ {m i s : Nat}, chain[m]? = some (i, s) → s ∈ chain.map (·.2) := fun hc => List.mem_of_getElem? (chSl hc)
  refine wp_any_order (h := h) (t := t) hm hl hH hTl hseq
    (fun listed a w => Sees a0 (floats.map (·.2.1) ++ chain.map (·.2)) a ∧ (∀ (j s : Nat) (x : Value), (j, s, x) ∈ floats → listed.getD j false = true → a.tmps[s]? = some x) ∧
      ∃ vs : List Value, vs.length ≤ chain.length ∧ (∀ (m i s : Nat), chain[m]? = some (i, s) → (listed.getD i false = true ↔ m < vs.length)) ∧ (∀ (m i s : Nat) (v : Value), chain[m]? = some (i, s) → vs[m]? = some v → a.tmps[s]? = some v) ∧ J vs w) ?_ ?_ ?_
  · rintro listed a w i ⟨hs, hk, vs, hvl, hpr, hcv, hJ⟩ hsz hih hr
    have hil : i < listed.size := by omega
    have hun : listed.getD i false = false := by
      have h1 := (mem_ready.1 hr).1
      simp only [Array.getD_eq_getD_getElem?] at h1 ⊢
      simpa [hil] using h1
    rcases List.mem_append.1 (hall i hih) with hik | hik
    · obtain ⟨⟨i', s, x⟩, hm', rfl⟩ := List.mem_map.1 hik
      obtain ⟨o, ho, hg, hd, hrun⟩ := hF i' s x hm'
      have ho' : l.toArray[i']? = some o := by simpa using ho
      have hsk : s ∈ floats.map (·.2.1) := List.mem_map.2 ⟨_, hm', rfl⟩
      have hsm := List.mem_append.2 (.inl (b := s ∈ chain.map (·.2)) hsk)
      have hlt' : s < a.tmps.size := by rw [hs.size]; exact hlt s hsm
      refine wpOp_val (o := o) ho' hg (hrun a w vs hs (fun j s' x' hm2 hw => hk j s' x' hm2 (listed_of_waits hr ho' hw)) hJ) ?_
      rw [hd]
      refine ⟨hs.put hsm x, fun j s' x' hm2 hl' => ?_, vs, hvl, fun m i2 s2 hc => ?_, fun m i2 s2 v hc hv => ?_, hJ⟩
      · by_cases hj : i' = j
        · subst hj
          obtain ⟨rfl, rfl⟩ := nodup_fst hnf hm' hm2
          exact put_same hlt' _
        · rw [getD_set hil, if_neg hj] at hl'
          have hne' : s ≠ s' := by
            intro he
            subst he
            exact hj (nodup_snd hsf hm' hm2)
          rw [put_other hne']
          exact hk j s' x' hm2 hl'
      · rw [getD_set hil, if_neg (hx _ hik _ (chMem hc))]
        exact hpr m i2 s2 hc
      · rw [put_other (hxs _ hsk _ (chMemS hc))]
        exact hcv m i2 s2 v hc hv
    · obtain ⟨⟨i', s⟩, hm', rfl⟩ := List.mem_map.1 hik
      obtain ⟨m, hm2⟩ := List.mem_iff_getElem?.1 hm'
      have hle : vs.length ≤ m := by
        rcases Nat.lt_or_ge m vs.length with hlt' | hge
        · have := (hpr m i' s hm2).2 hlt'
          simp only at hun
          rw [hun] at this; cases this
        · exact hge
      have hlen : vs.length = m := by
        cases m with
        | zero => omega
        | succ m' =>
          have hmc : m' < chain.length := by
            have := (List.getElem?_eq_some_iff.1 hm2).1
            omega
          rcases hch0 : chain[m'] with ⟨i0, s0⟩
          have hc0 : chain[m']? = some (i0, s0) := by rw [List.getElem?_eq_getElem hmc, hch0]
          have hpd := chkC_at hch (chIdx hc0) (chIdx hm2)
          obtain ⟨_, o, ho, hall'⟩ := mem_ready.1 hr
          obtain ⟨e, he, hb, hj⟩ := preds_of ho hpd
          have hl0 := hall' e he hb
          rw [hj] at hl0
          have := (hpr m' i0 s0 hc0).1 hl0
          omega
      have hsm := List.mem_append.2 (.inr (a := s ∈ floats.map (·.2.1)) (chMemS hm2))
      have hlt' : s < a.tmps.size := by rw [hs.size]; exact hlt s hsm
      refine hC m i' s hm2 a w vs _ hlen hs (fun o j s' x' ho hm3 hw => hk j s' x' hm3 (listed_of_waits hr (by simpa using ho) hw)) hcv hJ ?_
      intro v w' hJ'
      refine ⟨hs.put hsm v, fun j s' x' hm3 hl' => ?_, vs ++ [v], ?_, fun m2 i2 s2 hc => ?_, fun m2 i2 s2 v2 hc hv => ?_, hJ'⟩
      · have hne : i' ≠ j := fun he => hx j (List.mem_map.2 ⟨_, hm3, rfl⟩) i' hik (he.symm)
        have hne' : s ≠ s' := fun he => hxs s' (List.mem_map.2 ⟨_, hm3, rfl⟩) s (chMemS hm2) he.symm
        rw [getD_set hil, if_neg hne] at hl'
        rw [put_other hne']
        exact hk j s' x' hm3 hl'
      · have := (List.getElem?_eq_some_iff.1 hm2).1
        simp only [List.length_append, List.length_cons, List.length_nil]
        omega
      · rw [getD_set hil]
        simp only [List.length_append, List.length_cons, List.length_nil]
        by_cases he : i' = i2
        · subst he
          have := nodup_at hnc (chIdx hm2) (chIdx hc)
          rw [if_pos rfl]
          constructor
          · intro _; omega
          · intro _; rfl
        · rw [if_neg he, hpr m2 i2 s2 hc]
          have hne : m2 ≠ m := by
            intro hq
            subst hq
            rw [hm2] at hc
            injection hc with hc
            injection hc with h1 _
            exact he h1
          omega
      · rcases Nat.lt_or_ge m2 m with hlt2 | hge2
        · rw [List.getElem?_append_left (by omega)] at hv
          have hne' : s ≠ s2 := by
            intro hq
            subst hq
            have := nodup_at hsc (chSl hm2) (chSl hc)
            omega
          rw [put_other hne']
          exact hcv m2 i2 s2 v2 hc hv
        · have hm2e : m2 = m := by
            have := (List.getElem?_eq_some_iff.1 hv).1
            simp only [List.length_append, List.length_cons, List.length_nil] at this
            omega
          subst hm2e
          rw [hm2] at hc
          injection hc with hc
          injection hc with _ h2
          subst h2
          rw [← hlen] at hv
          simp at hv
          subst hv
          exact put_same hlt' _
  · have hz : ∀ j, (Array.replicate (h + t) false).getD j false = false := by
      intro j
      simp [Array.getD_eq_getD_getElem?, Array.getElem?_replicate]
      split <;> simp
    refine ⟨⟨rfl, rfl, fun _ _ => rfl⟩, fun j s x _ hl' => ?_, [], by simp, fun m i s _ => ?_, fun m i s v _ hv => by simp at hv, hJ0⟩
    · rw [hz] at hl'; cases hl'
    · rw [hz]; simp
  · rintro listed a w ⟨hs, hk, vs, hvl, hpr, hcv, hJ⟩ hdone
    have hvl2 : vs.length = chain.length := by
      rcases Nat.lt_or_ge vs.length chain.length with hlt' | hge
      · rcases hch0 : chain[vs.length] with ⟨i0, s0⟩
        have hc0 : chain[vs.length]? = some (i0, s0) := by rw [List.getElem?_eq_getElem hlt', hch0]
        have := (hpr _ _ _ hc0).1 (hdone _ (hin _ (List.mem_append.2 (.inr (chMem hc0)))))
        omega
      · omega
    have e : a = puts (floats.map (·.2) ++ (chain.map (·.2)).zip vs) a0 := by
      have hmap : (floats.map (·.2) ++ (chain.map (·.2)).zip vs).map (·.1) = floats.map (·.2.1) ++ chain.map (·.2) := by
        rw [List.map_append, List.map_map, List.map_fst_zip (by simp; omega)]; rfl
      refine act_eq hs.size hs.defers ?_ ?_ ?_ ?_
      · rw [hmap]; exact hs.out
      · rw [hmap]; exact hsl
      · rw [hmap]; exact hlt
      · intro s v hsv
        rcases List.mem_append.1 hsv with hh | hh
        · obtain ⟨⟨j, s', x⟩, hm', hh⟩ := List.mem_map.1 hh
          injection hh with e1 e2
          subst e1; subst e2
          exact hk j s' x hm' (hdone _ (hin _ (List.mem_append.2 (.inl (List.mem_map.2 ⟨_, hm', rfl⟩)))))
        · obtain ⟨m, hm3⟩ := List.mem_iff_getElem?.1 hh
          rw [List.getElem?_zip_eq_some] at hm3
          obtain ⟨h1, h2⟩ := hm3
          simp only [List.getElem?_map, Option.map_eq_some_iff] at h1
          obtain ⟨⟨i1, s1⟩, hc1, hs1⟩ := h1
          simp only at hs1
          subst hs1
          exact hcv m i1 s1 v hc1 h2
    rw [e]
    exact hT w vs hvl2 hJ

theorem run_move {P : Program} {a : Act} {w : World} {x : Operand} {v : Value} {d : Option Tmp} {ty : TypeId} {pos : String} {af : Array Edge} {g : Option (Nat × Bool)} (h : a.eval x = v) :
    (execOp a.eval { dst := d, op := .move x, type := ty, pos := pos, after := af, guard := g }).run P w = .ok (.value v) w := by
  subst h; rfl
theorem run_load {P : Program} {a : Act} {w : World} {x : Operand} {v q : Value} {d : Option Tmp} {ty T : TypeId} {pos : String} {af : Array Edge} {g : Option (Nat × Bool)} (h : a.eval x = q) (hl : (Instr.loadAt T q).run P w = .ok v w) :
    (execOp a.eval { dst := d, op := .load T x, type := ty, pos := pos, after := af, guard := g }).run P w = .ok (.value v) w := by
  subst h
  simp only [execOp, Sem.run_bind, hl]
  rfl
theorem run_build {P : Program} {a : Act} {w w' : World} {x : Operand} {v q : Value} {d : Option Tmp} {ty T : TypeId} {pos : String} {af : Array Edge} {g : Option (Nat × Bool)} (h : a.eval x = q) (hl : (Instr.buildSlice T 1 #[(0, q)]).run P w = .ok v w') :
    (execOp a.eval { dst := d, op := .buildSlice T 1 #[(0, x)], type := ty, pos := pos, after := af, guard := g }).run P w = .ok (.value v) w' := by
  subst h
  simp only [execOp, Sem.run_bind]
  have e : Array.map (fun x => (x.1, a.eval x.2)) #[(0, x)] = #[(0, a.eval x)] := by simp
  rw [e, hl]
  rfl
end Go.Proofs.Ytceeijamhhokaaa.Ord
