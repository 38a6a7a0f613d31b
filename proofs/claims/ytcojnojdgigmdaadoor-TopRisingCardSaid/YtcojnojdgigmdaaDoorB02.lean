/- Regions that draw their order. -/
import Derived.Orders
import Derived.StillTail
import Derived.Deep.AppendLies
import Derived.Test.YtcojnojdgigmdaaDoorB01
import Derived.WalkKit
import Derived.Laws.AppendOwnNone
import Derived.Maps.AppendAt
/- A region that draws its order and holds one chain of operations that change memory, each waiting for the one ahead of it, among others that hand back known values wherever they come: whatever the order, it is as if the chain were run alone. No program in sight. -/
namespace Go.Proofs.YtcojnojdgigmdaaDoor.Ord


section
variable {P : Program} {ops : Array Oper} {Q : Exit → Act → World → Prop}

/-- Each of the first h operations waits for earlier ones alone; each other one waits for all of the first h, or for number h. -/
def chkH (ops : Array Oper) (h : Nat) : Bool := (List.range h).all fun i => match ops[i]? with
  | some o => o.after.all fun e => decide (e.on < i)
  | none => false
/-- What an operation waits for. -/
def preds (ops : Array Oper) (i : Nat) : List Nat := match ops[i]? with
  | some o => (o.after.toList.filter (Region.binds .any)).map (·.on)
  | none => []
/-- .. and what those wait for, so many steps on. -/
def clos (ops : Array Oper) : Nat → List Nat → List Nat
  | 0, l => l
  | f + 1, l => l ++ clos ops f (l.flatMap (preds ops))
def chkT (ops : Array Oper) (h t : Nat) : Bool := (List.range t).all fun r =>
  (decide (0 < r) && (preds ops (h + r)).contains h) || (List.range h).all fun j => (clos ops 9 (preds ops (h + r))).contains j
theorem clos_listed {ops : Array Oper} {listed : Array Bool} (hc : ∀ i, listed.getD i false = true → ∀ j ∈ preds ops i, listed.getD j false = true) :
    ∀ (f : Nat) (l : List Nat), (∀ i ∈ l, listed.getD i false = true) → ∀ i ∈ clos ops f l, listed.getD i false = true := by
  intro f
  induction f with
  | zero => intro l hl i hi; exact hl i hi
  | succ f ih =>
    intro l hl i hi
    rcases List.mem_append.1 hi with hi | hi
    · exact hl i hi
    · refine ih _ (fun j hj => ?_) i hi
      obtain ⟨k, hk, hj⟩ := List.mem_flatMap.1 hj
      exact hc k (hl k hk) j hj
theorem preds_of {ops : Array Oper} {i : Nat} {o : Oper} (ho : ops[i]? = some o) {j : Nat} (h : j ∈ preds ops i) : ∃ e ∈ o.after, Region.binds .any e = true ∧ e.on = j := by
  unfold preds at h
  rw [ho] at h
  obtain ⟨e, he, rfl⟩ := List.mem_map.1 h
  obtain ⟨h1, h2⟩ := List.mem_filter.1 he
  exact ⟨e, by simpa using h1, h2, rfl⟩

/-- How many of the first h are still to come. -/
def todo (listed : Array Bool) : Nat → Nat
  | 0 => 0
  | h + 1 => (if listed.getD h false then 0 else 1) + todo listed h
theorem todo_zero {listed : Array Bool} : ∀ {h : Nat}, todo listed h = 0 → ∀ i, i < h → listed.getD i false = true := by
  intro h
  induction h with
  | zero => intro _ i hi; omega
  | succ h ih =>
    intro h0 i hi
    simp only [todo] at h0
    by_cases hc : listed.getD h false = true
    · by_cases hih : i = h
      · rw [hih]; exact hc
      · exact ih (by omega) i (by omega)
    · rw [if_neg hc] at h0; omega
theorem todo_pos {listed : Array Bool} : ∀ {h : Nat}, todo listed h ≠ 0 → ∃ i, i < h ∧ listed.getD i false = false ∧ ∀ j, j < i → listed.getD j false = true := by
  intro h
  induction h with
  | zero => intro h0; exact absurd rfl h0
  | succ h ih =>
    intro h0
    by_cases hh : todo listed h = 0
    · refine ⟨h, by omega, ?_, todo_zero hh⟩
      simp only [todo, hh] at h0
      by_cases hc : listed.getD h false = true
      · rw [if_pos hc] at h0; omega
      · simpa using hc
    · obtain ⟨i, hi, h1, h2⟩ := ih hh
      exact ⟨i, by omega, h1, h2⟩
theorem getD_set {listed : Array Bool} {i j : Nat} (hi : i < listed.size) : (listed.setIfInBounds i true).getD j false = if i = j then true else listed.getD j false := by
  simp only [Array.getD_eq_getD_getElem?, Array.getElem?_setIfInBounds]
  by_cases h : i = j
  · subst h; simp [hi]
  · simp [h]
theorem todo_set {listed : Array Bool} {i : Nat} (hs : i < listed.size) : ∀ {h : Nat}, i < h → listed.getD i false = false → todo (listed.setIfInBounds i true) h + 1 = todo listed h := by
  have out : ∀ h, h ≤ i → todo (listed.setIfInBounds i true) h = todo listed h := by
    intro h
    induction h with
    | zero => intro _; rfl
    | succ h ih =>
      intro hle
      have e := getD_set (listed := listed) (i := i) (j := h) hs
      rw [if_neg (by omega)] at e
      simp only [todo]; rw [ih (by omega), e]
  intro h
  induction h with
  | zero => intro hi; omega
  | succ h ih =>
    intro hi h0
    simp only [todo]
    by_cases hih : i = h
    · subst hih
      rw [out i (Nat.le_refl _), getD_set hs, if_pos rfl, h0]
      simp; omega
    · rw [getD_set hs, if_neg hih]
      have := ih (by omega) h0
      omega

theorem any_order {h t : Nat} (hsz : ops.size = h + t) (hH : chkH ops h = true) (hTl : chkT ops h t = true) (Inv : Array Bool → Act → World → Prop)
    (hS : ∀ listed a w i, Inv listed a w → listed.size = h + t → i < h → i ∈ Region.ready .any ops listed → wpOp P ops Q i (Inv (listed.setIfInBounds i true)) a w)
    (hT : ∀ listed a w, Inv listed a w → listed = (List.replicate h true ++ List.replicate t false).toArray → wpAny P .any ops Q t listed a w) :
    ∀ k listed a w, todo listed h = k → listed.size = h + t → (∀ i, h ≤ i → listed.getD i false = false) → (∀ i, listed.getD i false = true → ∀ j ∈ preds ops i, listed.getD j false = true) → Inv listed a w → wpAny P .any ops Q (k + t) listed a w := by
  intro k
  induction k with
  | zero =>
    intro listed a w hk hls htl hclo hi
    rw [Nat.zero_add]
    refine hT listed a w hi ?_
    apply Array.ext_getElem?
    intro j
    simp only [List.getElem?_toArray, List.getElem?_append, List.getElem?_replicate, List.length_replicate]
    by_cases hj : j < h
    · have := todo_zero hk j hj
      simp only [Array.getD_eq_getD_getElem?] at this
      simp only [hj, if_true]
      cases hx : listed[j]? with
      | none => rw [hx] at this; simp at this
      | some b => rw [hx] at this; simpa using this
    · simp only [hj, if_false]
      have := htl j (by omega)
      simp only [Array.getD_eq_getD_getElem?] at this
      by_cases hjt : j < h + t
      · rw [if_pos (by omega)]
        have hx : listed[j]? = some listed[j] := by simp [hls, hjt]
        rw [hx] at this ⊢
        simpa using this
      · rw [if_neg (by omega)]
        exact Array.getElem?_eq_none (by omega)
  | succ k ih =>
    intro listed a w hk hls htl hclo hi
    have hlt : ∀ i ∈ Region.ready .any ops listed, i < h := by
      intro i hir
      obtain ⟨hun, o, ho, hall⟩ := mem_ready.1 hir
      rcases Nat.lt_or_ge i h with hih | hih
      · exact hih
      · exfalso
        have hio : i < ops.size := by
          rcases Nat.lt_or_ge i ops.size with h' | h'
          · exact h'
          · rw [Array.getElem?_eq_none h'] at ho; cases ho
        obtain ⟨j, hj, hju, _⟩ := todo_pos (h := h) (listed := listed) (by omega)
        have h1 := List.all_eq_true.1 hTl (i - h) (List.mem_range.2 (by omega))
        rw [show h + (i - h) = i by omega] at h1
        simp only [Bool.or_eq_true, Bool.and_eq_true, decide_eq_true_eq, List.contains_iff_mem] at h1
        have hpl : ∀ q ∈ preds ops i, listed.getD q false = true := fun q hq => by
          obtain ⟨e, he, hb, rfl⟩ := preds_of ho hq
          exact hall e he hb
        rcases h1 with ⟨_, h1⟩ | h1
        · have := hpl h h1
          rw [htl h (Nat.le_refl _)] at this
          cases this
        · have h2 := List.all_eq_true.1 h1 j (List.mem_range.2 hj)
          have := clos_listed hclo 9 _ hpl j (by simpa using h2)
          rw [hju] at this
          cases this
    rw [show k + 1 + t = (k + t) + 1 by omega]
    refine ⟨fun h0 => ?_, fun i hir => ?_⟩
    · exfalso
      obtain ⟨j, hj, hju, hjb⟩ := todo_pos (h := h) (listed := listed) (by omega)
      have h1 := List.all_eq_true.1 hH j (List.mem_range.2 hj)
      have hjo : ops[j]? = some ops[j] := by simp
      rw [hjo] at h1
      have : j ∈ Region.ready .any ops listed := by
        refine mem_ready.2 ⟨?_, _, hjo, fun e he hb => ?_⟩
        · have : j < listed.size := by omega
          simp only [Array.getD_eq_getD_getElem?] at hju ⊢
          simpa [this] using hju
        · have := Array.all_eq_true'.1 h1 e he
          exact hjb _ (by simpa using this)
      rw [h0] at this
      cases this
    · have hih := hlt i hir
      have hun : listed.getD i false = false := by
        have := (mem_ready.1 hir).1
        have hl : i < listed.size := by omega
        simp only [Array.getD_eq_getD_getElem?] at this ⊢
        simpa [hl] using this
      exact wpOp_mono (fun a' w' h' => ih _ a' w' (by have := todo_set (by omega) hih hun; omega) (by simpa using hls)
        (fun j hj => by rw [getD_set (by omega), if_neg (by omega)]; exact htl j hj)
        (fun q hq j hj => by
          have hset : ∀ x, listed.getD x false = true → (listed.setIfInBounds i true).getD x false = true := by
            intro x hx
            rw [getD_set (by omega)]
            split
            · rfl
            · exact hx
          rw [getD_set (by omega)] at hq
          by_cases hiq : i = q
          · subst hiq
            obtain ⟨_, o, ho, hall⟩ := mem_ready.1 hir
            obtain ⟨e, he, hb, rfl⟩ := preds_of ho hj
            exact hset _ (hall e he hb)
          · rw [if_neg hiq] at hq
            exact hset _ (hclo q hq j hj)) h') (hS listed a w i hi hls hih hir)

theorem wp_any_order {id : Nat} {l : List Oper} {a : Act} {w : World} {h t : Nat} (hm : P.follows .mixedOrders = true) (hl : l.length = h + t) (hH : chkH l.toArray h = true) (hTl : chkT l.toArray h t = true)
    (hseq : Region.seqB .any l.toArray t h (List.replicate h true ++ List.replicate t false).toArray = true)
    (Inv : Array Bool → Act → World → Prop)
    (hS : ∀ listed a w i, Inv listed a w → listed.size = h + t → i < h → i ∈ Region.ready .any l.toArray listed → wpOp P l.toArray Q i (Inv (listed.setIfInBounds i true)) a w)
    (hi : Inv (Array.replicate (h + t) false) a w.drew)
    (hT : ∀ listed a w, Inv listed a w → (∀ i, i < h → listed.getD i false = true) → wpList P l.toArray Q (l.drop h) a w) : (Code.region id l.toArray true).wp P Q a w := by
  refine wp_region_any hm ?_
  have e : l.toArray.size = h + t := by simpa using hl
  have hz : ∀ h', todo (Array.replicate (h + t) false) h' = h' := by
    intro h'
    induction h' with
    | zero => rfl
    | succ h' ih => simp only [todo, ih]; rw [if_neg (by simp [Array.getD_eq_getD_getElem?, Array.getElem?_replicate]; split <;> simp)]; omega
  have := any_order (P := P) (Q := Q) e hH hTl Inv hS (fun listed a w hi hli => by
    have hs := wpAny_of_seq (P := P) (md := .any) (Q' := Q) (l.drop h) h listed a w (fun j => by simp [List.getElem?_drop]) (by
      have : (l.drop h).length = t := by simp; omega
      rw [this, hli]; exact hseq) (hT listed a w hi (fun i hih => by rw [hli]; simp [Array.getD_eq_getD_getElem?, List.getElem?_append, hih]))
    have ht : (l.drop h).length = t := by simp; omega
    rwa [ht] at hs) h (Array.replicate (h + t) false) a w.drew (hz h) (by simp) (fun i _ => by simp [Array.getD_eq_getD_getElem?, Array.getElem?_replicate]; split <;> simp) (fun i hi' => by
      have : (Array.replicate (h + t) false).getD i false = false := by simp [Array.getD_eq_getD_getElem?, Array.getElem?_replicate]; split <;> simp
      rw [this] at hi'; cases hi') hi
  rw [e]
  exact this

/-- One operation that hands back a value. -/
theorem wpOp_val {i : Nat} {o : Oper} {a : Act} {w w' : World} {v : Value} {K : Act → World → Prop} (ho : ops[i]? = some o) (hg : o.guard = none) (hr : (execOp a.eval o).run P w = .ok (.value v) w') (hK : K (a.put o.dst v) w') : wpOp P ops Q i K a w := by
  unfold wpOp
  simp only [ho, Region.wanted, hg, if_true]
  refine .inl ?_
  unfold Oper.wp
  rw [hr]
  exact hK
end

/-- Puts, one behind the other. -/
def puts : List (Nat × Value) → Act → Act
  | [], a => a
  | (s, v) :: l, a => puts l (a.put (some s) v)
theorem puts_size (l : List (Nat × Value)) : ∀ a, (puts l a).tmps.size = a.tmps.size := by
  induction l with
  | nil => intro a; rfl
  | cons x l ih => intro a; obtain ⟨s, v⟩ := x; rw [puts, ih]; simp [Act.put]
theorem puts_defers (l : List (Nat × Value)) : ∀ a, (puts l a).defers = a.defers := by
  induction l with
  | nil => intro a; rfl
  | cons x l ih => intro a; obtain ⟨s, v⟩ := x; rw [puts, ih]; simp [Act.put]
theorem puts_out (l : List (Nat × Value)) : ∀ a s, s ∉ l.map (·.1) → (puts l a).tmps[s]? = a.tmps[s]? := by
  induction l with
  | nil => intro a s _; rfl
  | cons x l ih =>
    intro a s hs
    obtain ⟨s', v⟩ := x
    simp only [List.map_cons, List.mem_cons, not_or] at hs
    rw [puts, ih _ _ hs.2]
    simp [Act.put, Ne.symm hs.1]
theorem puts_in (l : List (Nat × Value)) : ∀ a s v, (l.map (·.1)).Nodup → (s, v) ∈ l → s < a.tmps.size → (puts l a).tmps[s]? = some v := by
  induction l with
  | nil => intro a s v _ h; cases h
  | cons x l ih =>
    intro a s v hn h hlt
    obtain ⟨s', v'⟩ := x
    simp only [List.map_cons, List.nodup_cons] at hn
    rw [puts]
    rcases List.mem_cons.1 h with h | h
    · injection h with h1 h2
      subst h1; subst h2
      rw [puts_out l _ _ hn.1]
      simp [Act.put, hlt]
    · exact ih _ _ _ hn.2 h (by simpa [Act.put] using hlt)
theorem act_eq {a a0 : Act} {l : List (Nat × Value)} (hs : a.tmps.size = a0.tmps.size) (hd : a.defers = a0.defers) (hout : ∀ s, s ∉ l.map (·.1) → a.tmps[s]? = a0.tmps[s]?)
    (hn : (l.map (·.1)).Nodup) (hlt : ∀ s ∈ l.map (·.1), s < a0.tmps.size) (hin : ∀ s v, (s, v) ∈ l → a.tmps[s]? = some v) : a = puts l a0 := by
  have h1 : a.tmps = (puts l a0).tmps := by
    apply Array.ext_getElem?
    intro s
    by_cases hm : s ∈ l.map (·.1)
    · obtain ⟨⟨s', v⟩, hx, rfl⟩ := List.mem_map.1 hm
      rw [hin _ _ hx, puts_in l a0 _ _ hn hx (hlt _ hm)]
    · rw [hout s hm, puts_out l a0 s hm]
  have h2 : a.defers = (puts l a0).defers := hd.trans (puts_defers l a0).symm
  cases a; cases hp : puts l a0
  rw [hp] at h1 h2
  simp_all

theorem put_other {a : Act} {s s' : Nat} (h : s ≠ s') (v : Value) : (a.put (some s) v).tmps[s']? = a.tmps[s']? := by simp [Act.put, h]
theorem put_same {a : Act} {s : Nat} (h : s < a.tmps.size) (v : Value) : (a.put (some s) v).tmps[s]? = some v := by simp [Act.put, h]

/-- Does an operation wait for number j? -/
def waits (o : Oper) (j : Nat) : Prop := ∃ e ∈ o.after, Region.binds .any e = true ∧ e.on = j

theorem waits_of {o : Oper} {j : Nat} (h : (o.after.any fun e => Region.binds .any e && decide (e.on = j)) = true) : waits o j := by
  simp only [Array.any_eq_true', Bool.and_eq_true, decide_eq_true_eq] at h
  obtain ⟨e, he, hb, hj⟩ := h
  exact ⟨e, he, hb, hj⟩

theorem listed_of_waits {ops : Array Oper} {listed : Array Bool} {i j : Nat} {o : Oper} (hr : i ∈ Region.ready .any ops listed) (ho : ops[i]? = some o) (hw : waits o j) : listed.getD j false = true := by
  obtain ⟨_, o', ho', hall⟩ := mem_ready.1 hr
  rw [ho] at ho'
  injection ho' with ho'
  subst ho'
  obtain ⟨e, he, hb, rfl⟩ := hw
  exact hall e he hb

theorem eval_tmp {a : Act} {s : Nat} {x : Value} (h : a.tmps[s]? = some x) : a.eval (.tmp s) = x := by simp [Act.eval, Array.getD_eq_getD_getElem?, h]

theorem nodup_fst {known : List (Nat × Nat × Value)} : ∀ {i s s' : Nat} {x x' : Value}, (known.map (·.1)).Nodup → (i, s, x) ∈ known → (i, s', x') ∈ known → s = s' ∧ x = x' := by
  induction known with
  | nil => intro i s s' x x' _ h; cases h
  | cons y l ih =>
    intro i s s' x x' hn h h'
    simp only [List.map_cons, List.nodup_cons] at hn
    rcases List.mem_cons.1 h with k | k
    · rcases List.mem_cons.1 h' with k' | k'
      · rw [← k] at k'
        injection k' with _ k'
        injection k' with h1 h2
        exact ⟨h1.symm, h2.symm⟩
      · rw [← k] at hn
        exact absurd (List.mem_map.2 ⟨(i, s', x'), k', rfl⟩) hn.1
    · rcases List.mem_cons.1 h' with k' | k'
      · rw [← k'] at hn
        exact absurd (List.mem_map.2 ⟨(i, s, x), k, rfl⟩) hn.1
      · exact ih hn.2 k k'
theorem nodup_snd {known : List (Nat × Nat × Value)} : ∀ {i i' s : Nat} {x x' : Value}, (known.map (·.2.1)).Nodup → (i, s, x) ∈ known → (i', s, x') ∈ known → i = i' := by
  induction known with
  | nil => intro i i' s x x' _ h; cases h
  | cons y l ih =>
    intro i i' s x x' hn h h'
    simp only [List.map_cons, List.nodup_cons] at hn
    rcases List.mem_cons.1 h with k | k
    · rcases List.mem_cons.1 h' with k' | k'
      · rw [← k] at k'
        injection k' with k' _
        exact k'.symm
      · rw [← k] at hn
        exact absurd (List.mem_map.2 ⟨(i', s, x'), k', rfl⟩) hn.1
    · rcases List.mem_cons.1 h' with k' | k'
      · rw [← k'] at hn
        exact absurd (List.mem_map.2 ⟨(i, s, x), k, rfl⟩) hn.1
      · exact ih hn.2 k k'


/-- The slots outside of the region's own are as they were. -/
structure Sees (a0 : Act) (slots : List Nat) (a : Act) : Prop where
  size : a.tmps.size = a0.tmps.size
  defers : a.defers = a0.defers
  out : ∀ s, s ∉ slots → a.tmps[s]? = a0.tmps[s]?
theorem Sees.put {a0 : Act} {slots : List Nat} {a : Act} (h : Sees a0 slots a) {s : Nat} (hs : s ∈ slots) (v : Value) : Sees a0 slots (a.put (some s) v) :=
  ⟨by simpa [Act.put] using h.size, h.defers, fun s' hs' => by rw [← h.out s' hs']; simp [Act.put, Array.getElem?_setIfInBounds]; intro he; subst he; exact absurd hs hs'⟩

/-- Does each of the chain wait for the one ahead of it? -/
def chkC (ops : Array Oper) : List Nat → Bool
  | [] => true
  | [_] => true
  | p :: q :: r => (preds ops q).contains p && chkC ops (q :: r)
theorem chkC_at {ops : Array Oper} : ∀ {c : List Nat} {m p q : Nat}, chkC ops c = true → c[m]? = some p → c[m + 1]? = some q → p ∈ preds ops q := by
  intro c
  induction c with
  | nil => intro m p q _ h; simp at h
  | cons x r ih =>
    intro m p q hc hp hq
    cases r with
    | nil => simp at hq
    | cons y r =>
      simp only [chkC, Bool.and_eq_true, List.contains_iff_mem] at hc
      cases m with
      | zero =>
        simp only [List.getElem?_cons_zero, Option.some.injEq, List.getElem?_cons_succ, Nat.zero_add] at hp hq
        subst hp; subst hq
        exact hc.1
      | succ m =>
        simp only [List.getElem?_cons_succ] at hp hq
        exact ih hc.2 hp (by simpa using hq)

theorem nodup_at {l : List Nat} : ∀ {m m' x : Nat}, l.Nodup → l[m]? = some x → l[m']? = some x → m = m' := by
  induction l with
  | nil => intro m m' x _ h; simp at h
  | cons y l ih =>
    intro m m' x hn h h'
    simp only [List.nodup_cons] at hn
    cases m with
    | zero =>
      cases m' with
      | zero => rfl
      | succ m' =>
        simp only [List.getElem?_cons_zero, Option.some.injEq, List.getElem?_cons_succ] at h h'
        subst h
        exact absurd (List.mem_of_getElem? h') hn.1
    | succ m =>
      cases m' with
      | zero =>
        simp only [List.getElem?_cons_zero, Option.some.injEq, List.getElem?_cons_succ] at h h'
        subst h'
        exact absurd (List.mem_of_getElem? h) hn.1
      | succ m' =>
        simp only [List.getElem?_cons_succ] at h h'
        rw [ih hn.2 h h']

theorem chain_order {P : Program} {id : Nat} {l : List Oper} {Q : Exit → Act → World → Prop} {a0 : Act} {w0 : World} {floats : List (Nat × Nat × Value)} {chain : List (Nat × Nat)} {h t : Nat}
    (hm : P.follows .mixedOrders = true) (hl : l.length = h + t) (hH : chkH l.toArray h = true) (hTl : chkT l.toArray h t = true)
    (hseq : Region.seqB .any l.toArray t h (List.replicate h true ++ List.replicate t false).toArray = true)
    (hch : chkC l.toArray (chain.map (·.1)) = true)
    (hidx : (floats.map (·.1) ++ chain.map (·.1)).Nodup) (hall : ∀ i, i < h → i ∈ floats.map (·.1) ++ chain.map (·.1)) (hin : ∀ i ∈ floats.map (·.1) ++ chain.map (·.1), i < h)
    (hsl : (floats.map (·.2.1) ++ chain.map (·.2)).Nodup) (hlt : ∀ s ∈ floats.map (·.2.1) ++ chain.map (·.2), s < a0.tmps.size)
    (J : List Value → World → Prop) (hJ0 : J [] w0.drew)
    (hF : ∀ (i s : Nat) (x : Value), (i, s, x) ∈ floats → ∃ o, l[i]? = some o ∧ o.guard = none ∧ o.dst = some s ∧
      ∀ (a : Act) (w : World) (vs : List Value), Sees a0 (floats.map (·.2.1) ++ chain.map (·.2)) a → (∀ (j s' : Nat) (x' : Value), (j, s', x') ∈ floats → waits o j → a.tmps[s']? = some x') → J vs w → (execOp a.eval o).run P w = .ok (.value x) w)
    (hC : ∀ (m i s : Nat), chain[m]? = some (i, s) → ∀ (a : Act) (w : World) (vs : List Value) (K : Act → World → Prop), vs.length = m → Sees a0 (floats.map (·.2.1) ++ chain.map (·.2)) a →
      (∀ (o : Oper) (j s' : Nat) (x' : Value), l[i]? = some o → (j, s', x') ∈ floats → waits o j → a.tmps[s']? = some x') → (∀ (m' i' s' : Nat) (v : Value), chain[m']? = some (i', s') → vs[m']? = some v → a.tmps[s']? = some v) → J vs w →
      (∀ v w', J (vs ++ [v]) w' → K (a.put (some s) v) w') → wpOp P l.toArray Q i K a w)
    (hT : ∀ w vs, vs.length = chain.length → J vs w → wpList P l.toArray Q (l.drop h) (puts (floats.map (·.2) ++ (chain.map (·.2)).zip vs) a0) w) :
    (Code.region id l.toArray true).wp P Q a0 w0 := by
  have hnf := (List.nodup_append.1 hidx).1
  have hnc := (List.nodup_append.1 hidx).2.1
  have hx := (List.nodup_append.1 hidx).2.2
  have hsf := (List.nodup_append.1 hsl).1
  have hsc := (List.nodup_append.1 hsl).2.1
  have hxs := (List.nodup_append.1 hsl).2.2
  have chIdx : ∀ {m i s : Nat}, chain[m]? = some (i, s) → (chain.map (·.1))[m]? = some i := fun hc => by simp [hc]
  have chSl : ∀ {m i s : Nat}, chain[m]? = some (i, s) → (chain.map (·.2))[m]? = some s := fun hc => by simp [hc]
  have chMem : ∀ {m i s : Nat}, chain[m]? = some (i, s) → i ∈ chain.map (·.1) := fun hc => List.mem_of_getElem? (chIdx hc)
  have chMemS : ∀ {m i s : Nat}, chain[m]? = some (i, s) → s ∈ chain.map (·.2) := fun hc => List.mem_of_getElem? (chSl hc)
  refine wp_any_order (h := h) (t := t) hm hl hH hTl hseq
    (fun listed a w => Sees a0 (floats.map (·.2.1) ++ chain.map (·.2)) a ∧ (∀ (j s : Nat) (x : Value), (j, s, x) ∈ floats → listed.getD j false = true → a.tmps[s]? = some x) ∧
      ∃ vs : List Value, vs.length ≤ chain.length ∧ (∀ (m i s : Nat), chain[m]? = some (i, s) → (listed.getD i false = true ↔ m < vs.length)) ∧ (∀ (m i s : Nat) (v : Value), chain[m]? = some (i, s) → vs[m]? = some v → a.tmps[s]? = some v) ∧ J vs w) ?_ ?_ ?_
  · rintro listed a w i ⟨hs, hk, vs, hvl, hpr, hcv, hJ⟩ hsz hih hr
    have hil : i < listed.size := by omega
    have hun : listed.getD i false = false := by
      have h1 := (mem_ready.1 hr).1
      simp only [Array.getD_eq_getD_getElem?] at h1 ⊢
      simpa [hil] using h1
    rcases List.mem_append.1 (hall i hih) with hik | hik
    · obtain ⟨⟨i', s, x⟩, hm', rfl⟩ := List.mem_map.1 hik
      obtain ⟨o, ho, hg, hd, hrun⟩ := hF i' s x hm'
      have ho' : l.toArray[i']? = some o := by simpa using ho
      have hsk : s ∈ floats.map (·.2.1) := List.mem_map.2 ⟨_, hm', rfl⟩
      have hsm := List.mem_append.2 (.inl (b := s ∈ chain.map (·.2)) hsk)
      have hlt' : s < a.tmps.size := by rw [hs.size]; exact hlt s hsm
      refine wpOp_val (o := o) ho' hg (hrun a w vs hs (fun j s' x' hm2 hw => hk j s' x' hm2 (listed_of_waits hr ho' hw)) hJ) ?_
      rw [hd]
      refine ⟨hs.put hsm x, fun j s' x' hm2 hl' => ?_, vs, hvl, fun m i2 s2 hc => ?_, fun m i2 s2 v hc hv => ?_, hJ⟩
      · by_cases hj : i' = j
        · subst hj
          obtain ⟨rfl, rfl⟩ := nodup_fst hnf hm' hm2
          exact put_same hlt' _
        · rw [getD_set hil, if_neg hj] at hl'
          have hne' : s ≠ s' := by
            intro he
            subst he
            exact hj (nodup_snd hsf hm' hm2)
          rw [put_other hne']
          exact hk j s' x' hm2 hl'
      · rw [getD_set hil, if_neg (hx _ hik _ (chMem hc))]
        exact hpr m i2 s2 hc
      · rw [put_other (hxs _ hsk _ (chMemS hc))]
        exact hcv m i2 s2 v hc hv
    · obtain ⟨⟨i', s⟩, hm', rfl⟩ := List.mem_map.1 hik
      obtain ⟨m, hm2⟩ := List.mem_iff_getElem?.1 hm'
      have hle : vs.length ≤ m := by
        rcases Nat.lt_or_ge m vs.length with hlt' | hge
        · have := (hpr m i' s hm2).2 hlt'
          simp only at hun
          rw [hun] at this; cases this
        · exact hge
      have hlen : vs.length = m := by
        cases m with
        | zero => omega
        | succ m' =>
          have hmc : m' < chain.length := by
            have := (List.getElem?_eq_some_iff.1 hm2).1
            omega
          rcases hch0 : chain[m'] with ⟨i0, s0⟩
          have hc0 : chain[m']? = some (i0, s0) := by rw [List.getElem?_eq_getElem hmc, hch0]
          have hpd := chkC_at hch (chIdx hc0) (chIdx hm2)
          obtain ⟨_, o, ho, hall'⟩ := mem_ready.1 hr
          obtain ⟨e, he, hb, hj⟩ := preds_of ho hpd
          have hl0 := hall' e he hb
          rw [hj] at hl0
          have := (hpr m' i0 s0 hc0).1 hl0
          omega
      have hsm := List.mem_append.2 (.inr (a := s ∈ floats.map (·.2.1)) (chMemS hm2))
      have hlt' : s < a.tmps.size := by rw [hs.size]; exact hlt s hsm
      refine hC m i' s hm2 a w vs _ hlen hs (fun o j s' x' ho hm3 hw => hk j s' x' hm3 (listed_of_waits hr (by simpa using ho) hw)) hcv hJ ?_
      intro v w' hJ'
      refine ⟨hs.put hsm v, fun j s' x' hm3 hl' => ?_, vs ++ [v], ?_, fun m2 i2 s2 hc => ?_, fun m2 i2 s2 v2 hc hv => ?_, hJ'⟩
      · have hne : i' ≠ j := fun he => hx j (List.mem_map.2 ⟨_, hm3, rfl⟩) i' hik (he.symm)
        have hne' : s ≠ s' := fun he => hxs s' (List.mem_map.2 ⟨_, hm3, rfl⟩) s (chMemS hm2) he.symm
        rw [getD_set hil, if_neg hne] at hl'
        rw [put_other hne']
        exact hk j s' x' hm3 hl'
      · have := (List.getElem?_eq_some_iff.1 hm2).1
        simp only [List.length_append, List.length_cons, List.length_nil]
        omega
      · rw [getD_set hil]
        simp only [List.length_append, List.length_cons, List.length_nil]
        by_cases he : i' = i2
        · subst he
          have := nodup_at hnc (chIdx hm2) (chIdx hc)
          rw [if_pos rfl]
          constructor
          · intro _; omega
          · intro _; rfl
        · rw [if_neg he, hpr m2 i2 s2 hc]
          have hne : m2 ≠ m := by
            intro hq
            subst hq
            rw [hm2] at hc
            injection hc with hc
            injection hc with h1 _
            exact he h1
          omega
      · rcases Nat.lt_or_ge m2 m with hlt2 | hge2
        · rw [List.getElem?_append_left (by omega)] at hv
          have hne' : s ≠ s2 := by
            intro hq
            subst hq
            have := nodup_at hsc (chSl hm2) (chSl hc)
            omega
          rw [put_other hne']
          exact hcv m2 i2 s2 v2 hc hv
        · have hm2e : m2 = m := by
            have := (List.getElem?_eq_some_iff.1 hv).1
            simp only [List.length_append, List.length_cons, List.length_nil] at this
            omega
          subst hm2e
          rw [hm2] at hc
          injection hc with hc
          injection hc with _ h2
          subst h2
          rw [← hlen] at hv
          simp at hv
          subst hv
          exact put_same hlt' _
  · have hz : ∀ j, (Array.replicate (h + t) false).getD j false = false := by
      intro j
      simp [Array.getD_eq_getD_getElem?, Array.getElem?_replicate]
      split <;> simp
    refine ⟨⟨rfl, rfl, fun _ _ => rfl⟩, fun j s x _ hl' => ?_, [], by simp, fun m i s _ => ?_, fun m i s v _ hv => by simp at hv, hJ0⟩
    · rw [hz] at hl'; cases hl'
    · rw [hz]; simp
  · rintro listed a w ⟨hs, hk, vs, hvl, hpr, hcv, hJ⟩ hdone
    have hvl2 : vs.length = chain.length := by
      rcases Nat.lt_or_ge vs.length chain.length with hlt' | hge
      · rcases hch0 : chain[vs.length] with ⟨i0, s0⟩
        have hc0 : chain[vs.length]? = some (i0, s0) := by rw [List.getElem?_eq_getElem hlt', hch0]
        have := (hpr _ _ _ hc0).1 (hdone _ (hin _ (List.mem_append.2 (.inr (chMem hc0)))))
        omega
      · omega
    have e : a = puts (floats.map (·.2) ++ (chain.map (·.2)).zip vs) a0 := by
      have hmap : (floats.map (·.2) ++ (chain.map (·.2)).zip vs).map (·.1) = floats.map (·.2.1) ++ chain.map (·.2) := by
        rw [List.map_append, List.map_map, List.map_fst_zip (by simp; omega)]; rfl
      refine act_eq hs.size hs.defers ?_ ?_ ?_ ?_
      · rw [hmap]; exact hs.out
      · rw [hmap]; exact hsl
      · rw [hmap]; exact hlt
      · intro s v hsv
        rcases List.mem_append.1 hsv with hh | hh
        · obtain ⟨⟨j, s', x⟩, hm', hh⟩ := List.mem_map.1 hh
          injection hh with e1 e2
          subst e1; subst e2
          exact hk j s' x hm' (hdone _ (hin _ (List.mem_append.2 (.inl (List.mem_map.2 ⟨_, hm', rfl⟩)))))
        · obtain ⟨m, hm3⟩ := List.mem_iff_getElem?.1 hh
          rw [List.getElem?_zip_eq_some] at hm3
          obtain ⟨h1, h2⟩ := hm3
          simp only [List.getElem?_map, Option.map_eq_some_iff] at h1
          obtain ⟨⟨i1, s1⟩, hc1, hs1⟩ := h1
          simp only at hs1
          subst hs1
          exact hcv m i1 s1 v hc1 h2
    rw [e]
    exact hT w vs hvl2 hJ

theorem run_move {P : Program} {a : Act} {w : World} {x : Operand} {v : Value} {d : Option Tmp} {ty : TypeId} {pos : String} {af : Array Edge} {g : Option (Nat × Bool)} (h : a.eval x = v) :
    (execOp a.eval { dst := d, op := .move x, type := ty, pos := pos, after := af, guard := g }).run P w = .ok (.value v) w := by
  subst h; rfl
theorem run_load {P : Program} {a : Act} {w : World} {x : Operand} {v q : Value} {d : Option Tmp} {ty T : TypeId} {pos : String} {af : Array Edge} {g : Option (Nat × Bool)} (h : a.eval x = q) (hl : (Instr.loadAt T q).run P w = .ok v w) :
    (execOp a.eval { dst := d, op := .load T x, type := ty, pos := pos, after := af, guard := g }).run P w = .ok (.value v) w := by
  subst h
  simp only [execOp, Sem.run_bind, hl]
  rfl
theorem run_build {P : Program} {a : Act} {w w' : World} {x : Operand} {v q : Value} {d : Option Tmp} {ty T : TypeId} {pos : String} {af : Array Edge} {g : Option (Nat × Bool)} (h : a.eval x = q) (hl : (Instr.buildSlice T 1 #[(0, q)]).run P w = .ok v w') :
    (execOp a.eval { dst := d, op := .buildSlice T 1 #[(0, x)], type := ty, pos := pos, after := af, guard := g }).run P w = .ok (.value v) w' := by
  subst h
  simp only [execOp, Sem.run_bind]
  have e : Array.map (fun x => (x.1, a.eval x.2)) #[(0, x)] = #[(0, a.eval x)] := by simp
  rw [e, hl]
  rfl
end Go.Proofs.YtcojnojdgigmdaaDoor.Ord
/- A region that draws its order and holds one chain of operations that change memory, each waiting for the one ahead of it, among others that hand back known values wherever they come: whatever the order, it is as if the chain were run alone. No program in sight. -/
namespace Go.Proofs.YtcojnojdgigmdaaDoor.OrdB


section
variable {P : Program} {ops : Array Oper} {Q : Exit → Act → World → Prop}

/-- Each of the first h operations waits for earlier ones alone; each other one waits for all of the first h, or for number h. -/
def chkH (ops : Array Oper) (h : Nat) : Bool := (List.range h).all fun i => match ops[i]? with
  | some o => o.after.all fun e => !Region.binds .any e || decide (e.on < i)
  | none => false
/-- What an operation waits for. -/
def preds (ops : Array Oper) (i : Nat) : List Nat := match ops[i]? with
  | some o => (o.after.toList.filter (Region.binds .any)).map (·.on)
  | none => []
/-- .. and what those wait for, so many steps on. -/
def clos (ops : Array Oper) : Nat → List Nat → List Nat
  | 0, l => l
  | f + 1, l => l ++ clos ops f (l.flatMap (preds ops))
def chkT (ops : Array Oper) (h t : Nat) : Bool := (List.range t).all fun r =>
  (decide (0 < r) && (preds ops (h + r)).contains h) || (List.range h).all fun j => (clos ops 9 (preds ops (h + r))).contains j
theorem clos_listed {ops : Array Oper} {listed : Array Bool} (hc : ∀ i, listed.getD i false = true → ∀ j ∈ preds ops i, listed.getD j false = true) :
    ∀ (f : Nat) (l : List Nat), (∀ i ∈ l, listed.getD i false = true) → ∀ i ∈ clos ops f l, listed.getD i false = true := by
  intro f
  induction f with
  | zero => intro l hl i hi; exact hl i hi
  | succ f ih =>
    intro l hl i hi
    rcases List.mem_append.1 hi with hi | hi
    · exact hl i hi
    · refine ih _ (fun j hj => ?_) i hi
      obtain ⟨k, hk, hj⟩ := List.mem_flatMap.1 hj
      exact hc k (hl k hk) j hj
theorem preds_of {ops : Array Oper} {i : Nat} {o : Oper} (ho : ops[i]? = some o) {j : Nat} (h : j ∈ preds ops i) : ∃ e ∈ o.after, Region.binds .any e = true ∧ e.on = j := by
  unfold preds at h
  rw [ho] at h
  obtain ⟨e, he, rfl⟩ := List.mem_map.1 h
  obtain ⟨h1, h2⟩ := List.mem_filter.1 he
  exact ⟨e, by simpa using h1, h2, rfl⟩

/-- How many of the first h are still to come. -/
def todo (listed : Array Bool) : Nat → Nat
  | 0 => 0
  | h + 1 => (if listed.getD h false then 0 else 1) + todo listed h
theorem todo_zero {listed : Array Bool} : ∀ {h : Nat}, todo listed h = 0 → ∀ i, i < h → listed.getD i false = true := by
  intro h
  induction h with
  | zero => intro _ i hi; omega
  | succ h ih =>
    intro h0 i hi
    simp only [todo] at h0
    by_cases hc : listed.getD h false = true
    · by_cases hih : i = h
      · rw [hih]; exact hc
      · exact ih (by omega) i (by omega)
    · rw [if_neg hc] at h0; omega
theorem todo_pos {listed : Array Bool} : ∀ {h : Nat}, todo listed h ≠ 0 → ∃ i, i < h ∧ listed.getD i false = false ∧ ∀ j, j < i → listed.getD j false = true := by
  intro h
  induction h with
  | zero => intro h0; exact absurd rfl h0
  | succ h ih =>
    intro h0
    by_cases hh : todo listed h = 0
    · refine ⟨h, by omega, ?_, todo_zero hh⟩
      simp only [todo, hh] at h0
      by_cases hc : listed.getD h false = true
      · rw [if_pos hc] at h0; omega
      · simpa using hc
    · obtain ⟨i, hi, h1, h2⟩ := ih hh
      exact ⟨i, by omega, h1, h2⟩
theorem getD_set {listed : Array Bool} {i j : Nat} (hi : i < listed.size) : (listed.setIfInBounds i true).getD j false = if i = j then true else listed.getD j false := by
  simp only [Array.getD_eq_getD_getElem?, Array.getElem?_setIfInBounds]
  by_cases h : i = j
  · subst h; simp [hi]
  · simp [h]
theorem todo_set {listed : Array Bool} {i : Nat} (hs : i < listed.size) : ∀ {h : Nat}, i < h → listed.getD i false = false → todo (listed.setIfInBounds i true) h + 1 = todo listed h := by
  have out : ∀ h, h ≤ i → todo (listed.setIfInBounds i true) h = todo listed h := by
    intro h
    induction h with
    | zero => intro _; rfl
    | succ h ih =>
      intro hle
      have e := getD_set (listed := listed) (i := i) (j := h) hs
      rw [if_neg (by omega)] at e
      simp only [todo]; rw [ih (by omega), e]
  intro h
  induction h with
  | zero => intro hi; omega
  | succ h ih =>
    intro hi h0
    simp only [todo]
    by_cases hih : i = h
    · subst hih
      rw [out i (Nat.le_refl _), getD_set hs, if_pos rfl, h0]
      simp; omega
    · rw [getD_set hs, if_neg hih]
      have := ih (by omega) h0
      omega

theorem any_order {h t : Nat} (hsz : ops.size = h + t) (hH : chkH ops h = true) (hTl : chkT ops h t = true) (Inv : Array Bool → Act → World → Prop)
    (hS : ∀ listed a w i, Inv listed a w → listed.size = h + t → i < h → i ∈ Region.ready .any ops listed → wpOp P ops Q i (Inv (listed.setIfInBounds i true)) a w)
    (hT : ∀ listed a w, Inv listed a w → listed = (List.replicate h true ++ List.replicate t false).toArray → wpAny P .any ops Q t listed a w) :
    ∀ k listed a w, todo listed h = k → listed.size = h + t → (∀ i, h ≤ i → listed.getD i false = false) → (∀ i, listed.getD i false = true → ∀ j ∈ preds ops i, listed.getD j false = true) → Inv listed a w → wpAny P .any ops Q (k + t) listed a w := by
  intro k
  induction k with
  | zero =>
    intro listed a w hk hls htl hclo hi
    rw [Nat.zero_add]
    refine hT listed a w hi ?_
    apply Array.ext_getElem?
    intro j
    simp only [List.getElem?_toArray, List.getElem?_append, List.getElem?_replicate, List.length_replicate]
    by_cases hj : j < h
    · have := todo_zero hk j hj
      simp only [Array.getD_eq_getD_getElem?] at this
      simp only [hj, if_true]
      cases hx : listed[j]? with
      | none => rw [hx] at this; simp at this
      | some b => rw [hx] at this; simpa using this
    · simp only [hj, if_false]
      have := htl j (by omega)
      simp only [Array.getD_eq_getD_getElem?] at this
      by_cases hjt : j < h + t
      · rw [if_pos (by omega)]
        have hx : listed[j]? = some listed[j] := by simp [hls, hjt]
        rw [hx] at this ⊢
        simpa using this
      · rw [if_neg (by omega)]
        exact Array.getElem?_eq_none (by omega)
  | succ k ih =>
    intro listed a w hk hls htl hclo hi
    have hlt : ∀ i ∈ Region.ready .any ops listed, i < h := by
      intro i hir
      obtain ⟨hun, o, ho, hall⟩ := mem_ready.1 hir
      rcases Nat.lt_or_ge i h with hih | hih
      · exact hih
      · exfalso
        have hio : i < ops.size := by
          rcases Nat.lt_or_ge i ops.size with h' | h'
          · exact h'
          · rw [Array.getElem?_eq_none h'] at ho; cases ho
        obtain ⟨j, hj, hju, _⟩ := todo_pos (h := h) (listed := listed) (by omega)
        have h1 := List.all_eq_true.1 hTl (i - h) (List.mem_range.2 (by omega))
        rw [show h + (i - h) = i by omega] at h1
        simp only [Bool.or_eq_true, Bool.and_eq_true, decide_eq_true_eq, List.contains_iff_mem] at h1
        have hpl : ∀ q ∈ preds ops i, listed.getD q false = true := fun q hq => by
          obtain ⟨e, he, hb, rfl⟩ := preds_of ho hq
          exact hall e he hb
        rcases h1 with ⟨_, h1⟩ | h1
        · have := hpl h h1
          rw [htl h (Nat.le_refl _)] at this
          cases this
        · have h2 := List.all_eq_true.1 h1 j (List.mem_range.2 hj)
          have := clos_listed hclo 9 _ hpl j (by simpa using h2)
          rw [hju] at this
          cases this
    rw [show k + 1 + t = (k + t) + 1 by omega]
    refine ⟨fun h0 => ?_, fun i hir => ?_⟩
    · exfalso
      obtain ⟨j, hj, hju, hjb⟩ := todo_pos (h := h) (listed := listed) (by omega)
      have h1 := List.all_eq_true.1 hH j (List.mem_range.2 hj)
      have hjo : ops[j]? = some ops[j] := by simp
      rw [hjo] at h1
      have : j ∈ Region.ready .any ops listed := by
        refine mem_ready.2 ⟨?_, _, hjo, fun e he hb => ?_⟩
        · have : j < listed.size := by omega
          simp only [Array.getD_eq_getD_getElem?] at hju ⊢
          simpa [this] using hju
        · have := Array.all_eq_true'.1 h1 e he
          exact hjb _ (by simpa [hb] using this)
      rw [h0] at this
      cases this
    · have hih := hlt i hir
      have hun : listed.getD i false = false := by
        have := (mem_ready.1 hir).1
        have hl : i < listed.size := by omega
        simp only [Array.getD_eq_getD_getElem?] at this ⊢
        simpa [hl] using this
      exact wpOp_mono (fun a' w' h' => ih _ a' w' (by have := todo_set (by omega) hih hun; omega) (by simpa using hls)
        (fun j hj => by rw [getD_set (by omega), if_neg (by omega)]; exact htl j hj)
        (fun q hq j hj => by
          have hset : ∀ x, listed.getD x false = true → (listed.setIfInBounds i true).getD x false = true := by
            intro x hx
            rw [getD_set (by omega)]
            split
            · rfl
            · exact hx
          rw [getD_set (by omega)] at hq
          by_cases hiq : i = q
          · subst hiq
            obtain ⟨_, o, ho, hall⟩ := mem_ready.1 hir
            obtain ⟨e, he, hb, rfl⟩ := preds_of ho hj
            exact hset _ (hall e he hb)
          · rw [if_neg hiq] at hq
            exact hset _ (hclo q hq j hj)) h') (hS listed a w i hi hls hih hir)

theorem wp_any_order {id : Nat} {l : List Oper} {a : Act} {w : World} {h t : Nat} (hm : P.follows .mixedOrders = true) (hl : l.length = h + t) (hH : chkH l.toArray h = true) (hTl : chkT l.toArray h t = true)
    (hseq : Region.seqB .any l.toArray t h (List.replicate h true ++ List.replicate t false).toArray = true)
    (Inv : Array Bool → Act → World → Prop)
    (hS : ∀ listed a w i, Inv listed a w → listed.size = h + t → i < h → i ∈ Region.ready .any l.toArray listed → wpOp P l.toArray Q i (Inv (listed.setIfInBounds i true)) a w)
    (hi : Inv (Array.replicate (h + t) false) a w.drew)
    (hT : ∀ listed a w, Inv listed a w → (∀ i, i < h → listed.getD i false = true) → wpList P l.toArray Q (l.drop h) a w) : (Code.region id l.toArray true).wp P Q a w := by
  refine wp_region_any hm ?_
  have e : l.toArray.size = h + t := by simpa using hl
  have hz : ∀ h', todo (Array.replicate (h + t) false) h' = h' := by
    intro h'
    induction h' with
    | zero => rfl
    | succ h' ih => simp only [todo, ih]; rw [if_neg (by simp [Array.getD_eq_getD_getElem?, Array.getElem?_replicate]; split <;> simp)]; omega
  have := any_order (P := P) (Q := Q) e hH hTl Inv hS (fun listed a w hi hli => by
    have hs := wpAny_of_seq (P := P) (md := .any) (Q' := Q) (l.drop h) h listed a w (fun j => by simp [List.getElem?_drop]) (by
      have : (l.drop h).length = t := by simp; omega
      rw [this, hli]; exact hseq) (hT listed a w hi (fun i hih => by rw [hli]; simp [Array.getD_eq_getD_getElem?, List.getElem?_append, hih]))
    have ht : (l.drop h).length = t := by simp; omega
    rwa [ht] at hs) h (Array.replicate (h + t) false) a w.drew (hz h) (by simp) (fun i _ => by simp [Array.getD_eq_getD_getElem?, Array.getElem?_replicate]; split <;> simp) (fun i hi' => by
      have : (Array.replicate (h + t) false).getD i false = false := by simp [Array.getD_eq_getD_getElem?, Array.getElem?_replicate]; split <;> simp
      rw [this] at hi'; cases hi') hi
  rw [e]
  exact this

/-- One operation that hands back a value. -/
theorem wpOp_val {i : Nat} {o : Oper} {a : Act} {w w' : World} {v : Value} {K : Act → World → Prop} (ho : ops[i]? = some o) (hg : o.guard = none) (hr : (execOp a.eval o).run P w = .ok (.value v) w') (hK : K (a.put o.dst v) w') : wpOp P ops Q i K a w := by
  unfold wpOp
  simp only [ho, Region.wanted, hg, if_true]
  refine .inl ?_
  unfold Oper.wp
  rw [hr]
  exact hK
end

/-- Puts, one behind the other. -/
def puts : List (Nat × Value) → Act → Act
  | [], a => a
  | (s, v) :: l, a => puts l (a.put (some s) v)
theorem puts_size (l : List (Nat × Value)) : ∀ a, (puts l a).tmps.size = a.tmps.size := by
  induction l with
  | nil => intro a; rfl
  | cons x l ih => intro a; obtain ⟨s, v⟩ := x; rw [puts, ih]; simp [Act.put]
theorem puts_defers (l : List (Nat × Value)) : ∀ a, (puts l a).defers = a.defers := by
  induction l with
  | nil => intro a; rfl
  | cons x l ih => intro a; obtain ⟨s, v⟩ := x; rw [puts, ih]; simp [Act.put]
theorem puts_out (l : List (Nat × Value)) : ∀ a s, s ∉ l.map (·.1) → (puts l a).tmps[s]? = a.tmps[s]? := by
  induction l with
  | nil => intro a s _; rfl
  | cons x l ih =>
    intro a s hs
    obtain ⟨s', v⟩ := x
    simp only [List.map_cons, List.mem_cons, not_or] at hs
    rw [puts, ih _ _ hs.2]
    simp [Act.put, Ne.symm hs.1]
theorem puts_in (l : List (Nat × Value)) : ∀ a s v, (l.map (·.1)).Nodup → (s, v) ∈ l → s < a.tmps.size → (puts l a).tmps[s]? = some v := by
  induction l with
  | nil => intro a s v _ h; cases h
  | cons x l ih =>
    intro a s v hn h hlt
    obtain ⟨s', v'⟩ := x
    simp only [List.map_cons, List.nodup_cons] at hn
    rw [puts]
    rcases List.mem_cons.1 h with h | h
    · injection h with h1 h2
      subst h1; subst h2
      rw [puts_out l _ _ hn.1]
      simp [Act.put, hlt]
    · exact ih _ _ _ hn.2 h (by simpa [Act.put] using hlt)
theorem act_eq {a a0 : Act} {l : List (Nat × Value)} (hs : a.tmps.size = a0.tmps.size) (hd : a.defers = a0.defers) (hout : ∀ s, s ∉ l.map (·.1) → a.tmps[s]? = a0.tmps[s]?)
    (hn : (l.map (·.1)).Nodup) (hlt : ∀ s ∈ l.map (·.1), s < a0.tmps.size) (hin : ∀ s v, (s, v) ∈ l → a.tmps[s]? = some v) : a = puts l a0 := by
  have h1 : a.tmps = (puts l a0).tmps := by
    apply Array.ext_getElem?
    intro s
    by_cases hm : s ∈ l.map (·.1)
    · obtain ⟨⟨s', v⟩, hx, rfl⟩ := List.mem_map.1 hm
      rw [hin _ _ hx, puts_in l a0 _ _ hn hx (hlt _ hm)]
    · rw [hout s hm, puts_out l a0 s hm]
  have h2 : a.defers = (puts l a0).defers := hd.trans (puts_defers l a0).symm
  cases a; cases hp : puts l a0
  rw [hp] at h1 h2
  simp_all

theorem put_other {a : Act} {s s' : Nat} (h : s ≠ s') (v : Value) : (a.put (some s) v).tmps[s']? = a.tmps[s']? := by simp [Act.put, h]
theorem put_same {a : Act} {s : Nat} (h : s < a.tmps.size) (v : Value) : (a.put (some s) v).tmps[s]? = some v := by simp [Act.put, h]

/-- Does an operation wait for number j? -/
def waits (o : Oper) (j : Nat) : Prop := ∃ e ∈ o.after, Region.binds .any e = true ∧ e.on = j

theorem waits_of {o : Oper} {j : Nat} (h : (o.after.any fun e => Region.binds .any e && decide (e.on = j)) = true) : waits o j := by
  simp only [Array.any_eq_true', Bool.and_eq_true, decide_eq_true_eq] at h
  obtain ⟨e, he, hb, hj⟩ := h
  exact ⟨e, he, hb, hj⟩

theorem listed_of_waits {ops : Array Oper} {listed : Array Bool} {i j : Nat} {o : Oper} (hr : i ∈ Region.ready .any ops listed) (ho : ops[i]? = some o) (hw : waits o j) : listed.getD j false = true := by
  obtain ⟨_, o', ho', hall⟩ := mem_ready.1 hr
  rw [ho] at ho'
  injection ho' with ho'
  subst ho'
  obtain ⟨e, he, hb, rfl⟩ := hw
  exact hall e he hb

theorem eval_tmp {a : Act} {s : Nat} {x : Value} (h : a.tmps[s]? = some x) : a.eval (.tmp s) = x := by simp [Act.eval, Array.getD_eq_getD_getElem?, h]

theorem nodup_fst {known : List (Nat × Nat × Value)} : ∀ {i s s' : Nat} {x x' : Value}, (known.map (·.1)).Nodup → (i, s, x) ∈ known → (i, s', x') ∈ known → s = s' ∧ x = x' := by
  induction known with
  | nil => intro i s s' x x' _ h; cases h
  | cons y l ih =>
    intro i s s' x x' hn h h'
    simp only [List.map_cons, List.nodup_cons] at hn
    rcases List.mem_cons.1 h with k | k
    · rcases List.mem_cons.1 h' with k' | k'
      · rw [← k] at k'
        injection k' with _ k'
        injection k' with h1 h2
        exact ⟨h1.symm, h2.symm⟩
      · rw [← k] at hn
        exact absurd (List.mem_map.2 ⟨(i, s', x'), k', rfl⟩) hn.1
    · rcases List.mem_cons.1 h' with k' | k'
      · rw [← k'] at hn
        exact absurd (List.mem_map.2 ⟨(i, s, x), k, rfl⟩) hn.1
      · exact ih hn.2 k k'
theorem nodup_snd {known : List (Nat × Nat × Value)} : ∀ {i i' s : Nat} {x x' : Value}, (known.map (·.2.1)).Nodup → (i, s, x) ∈ known → (i', s, x') ∈ known → i = i' := by
  induction known with
  | nil => intro i i' s x x' _ h; cases h
  | cons y l ih =>
    intro i i' s x x' hn h h'
    simp only [List.map_cons, List.nodup_cons] at hn
    rcases List.mem_cons.1 h with k | k
    · rcases List.mem_cons.1 h' with k' | k'
      · rw [← k] at k'
        injection k' with k' _
        exact k'.symm
      · rw [← k] at hn
        exact absurd (List.mem_map.2 ⟨(i', s, x'), k', rfl⟩) hn.1
    · rcases List.mem_cons.1 h' with k' | k'
      · rw [← k'] at hn
        exact absurd (List.mem_map.2 ⟨(i, s, x), k, rfl⟩) hn.1
      · exact ih hn.2 k k'


/-- The slots outside of the region's own are as they were. -/
structure Sees (a0 : Act) (slots : List Nat) (a : Act) : Prop where
  size : a.tmps.size = a0.tmps.size
  defers : a.defers = a0.defers
  out : ∀ s, s ∉ slots → a.tmps[s]? = a0.tmps[s]?
theorem Sees.put {a0 : Act} {slots : List Nat} {a : Act} (h : Sees a0 slots a) {s : Nat} (hs : s ∈ slots) (v : Value) : Sees a0 slots (a.put (some s) v) :=
  ⟨by simpa [Act.put] using h.size, h.defers, fun s' hs' => by rw [← h.out s' hs']; simp [Act.put, Array.getElem?_setIfInBounds]; intro he; subst he; exact absurd hs hs'⟩

/-- Does each of the chain wait for the one ahead of it? -/
def chkC (ops : Array Oper) : List Nat → Bool
  | [] => true
  | [_] => true
  | p :: q :: r => (preds ops q).contains p && chkC ops (q :: r)
theorem chkC_at {ops : Array Oper} : ∀ {c : List Nat} {m p q : Nat}, chkC ops c = true → c[m]? = some p → c[m + 1]? = some q → p ∈ preds ops q := by
  intro c
  induction c with
  | nil => intro m p q _ h; simp at h
  | cons x r ih =>
    intro m p q hc hp hq
    cases r with
    | nil => simp at hq
    | cons y r =>
      simp only [chkC, Bool.and_eq_true, List.contains_iff_mem] at hc
      cases m with
      | zero =>
        simp only [List.getElem?_cons_zero, Option.some.injEq, List.getElem?_cons_succ, Nat.zero_add] at hp hq
        subst hp; subst hq
        exact hc.1
      | succ m =>
        simp only [List.getElem?_cons_succ] at hp hq
        exact ih hc.2 hp (by simpa using hq)

theorem nodup_at {l : List Nat} : ∀ {m m' x : Nat}, l.Nodup → l[m]? = some x → l[m']? = some x → m = m' := by
  induction l with
  | nil => intro m m' x _ h; simp at h
  | cons y l ih =>
    intro m m' x hn h h'
    simp only [List.nodup_cons] at hn
    cases m with
    | zero =>
      cases m' with
      | zero => rfl
      | succ m' =>
        simp only [List.getElem?_cons_zero, Option.some.injEq, List.getElem?_cons_succ] at h h'
        subst h
        exact absurd (List.mem_of_getElem? h') hn.1
    | succ m =>
      cases m' with
      | zero =>
        simp only [List.getElem?_cons_zero, Option.some.injEq, List.getElem?_cons_succ] at h h'
        subst h'
        exact absurd (List.mem_of_getElem? h) hn.1
      | succ m' =>
        simp only [List.getElem?_cons_succ] at h h'
        rw [ih hn.2 h h']

theorem chain_order {P : Program} {id : Nat} {l : List Oper} {Q : Exit → Act → World → Prop} {a0 : Act} {w0 : World} {floats : List (Nat × Nat × Value)} {chain : List (Nat × Nat)} {h t : Nat}
    (hm : P.follows .mixedOrders = true) (hl : l.length = h + t) (hH : chkH l.toArray h = true) (hTl : chkT l.toArray h t = true)
    (hseq : Region.seqB .any l.toArray t h (List.replicate h true ++ List.replicate t false).toArray = true)
    (hch : chkC l.toArray (chain.map (·.1)) = true)
    (hidx : (floats.map (·.1) ++ chain.map (·.1)).Nodup) (hall : ∀ i, i < h → i ∈ floats.map (·.1) ++ chain.map (·.1)) (hin : ∀ i ∈ floats.map (·.1) ++ chain.map (·.1), i < h)
    (hsl : (floats.map (·.2.1) ++ chain.map (·.2)).Nodup) (hlt : ∀ s ∈ floats.map (·.2.1) ++ chain.map (·.2), s < a0.tmps.size)
    (J : List Value → World → Prop) (hJ0 : J [] w0.drew)
    (hF : ∀ (i s : Nat) (x : Value), (i, s, x) ∈ floats → ∃ o, l[i]? = some o ∧ o.guard = none ∧ o.dst = some s ∧
      ∀ (a : Act) (w : World) (vs : List Value), Sees a0 (floats.map (·.2.1) ++ chain.map (·.2)) a → (∀ (j s' : Nat) (x' : Value), (j, s', x') ∈ floats → waits o j → a.tmps[s']? = some x') → J vs w → (execOp a.eval o).run P w = .ok (.value x) w)
    (hC : ∀ (m i s : Nat), chain[m]? = some (i, s) → ∀ (a : Act) (w : World) (vs : List Value) (K : Act → World → Prop), vs.length = m → Sees a0 (floats.map (·.2.1) ++ chain.map (·.2)) a →
      (∀ (o : Oper) (j s' : Nat) (x' : Value), l[i]? = some o → (j, s', x') ∈ floats → waits o j → a.tmps[s']? = some x') → (∀ (m' i' s' : Nat) (v : Value), chain[m']? = some (i', s') → vs[m']? = some v → a.tmps[s']? = some v) → J vs w →
      (∀ v w', J (vs ++ [v]) w' → K (a.put (some s) v) w') → wpOp P l.toArray Q i K a w)
    (hT : ∀ w vs, vs.length = chain.length → J vs w → wpList P l.toArray Q (l.drop h) (puts (floats.map (·.2) ++ (chain.map (·.2)).zip vs) a0) w) :
    (Code.region id l.toArray true).wp P Q a0 w0 := by
  have hnf := (List.nodup_append.1 hidx).1
  have hnc := (List.nodup_append.1 hidx).2.1
  have hx := (List.nodup_append.1 hidx).2.2
  have hsf := (List.nodup_append.1 hsl).1
  have hsc := (List.nodup_append.1 hsl).2.1
  have hxs := (List.nodup_append.1 hsl).2.2
  have chIdx : ∀ {m i s : Nat}, chain[m]? = some (i, s) → (chain.map (·.1))[m]? = some i := fun hc => by simp [hc]
  have chSl : ∀ {m i s : Nat}, chain[m]? = some (i, s) → (chain.map (·.2))[m]? = some s := fun hc => by simp [hc]
  have chMem : ∀ {m i s : Nat}, chain[m]? = some (i, s) → i ∈ chain.map (·.1) := fun hc => List.mem_of_getElem? (chIdx hc)
  have chMemS : ∀ {m i s : Nat}, chain[m]? = some (i, s) → s ∈ chain.map (·.2) := fun hc => List.mem_of_getElem? (chSl hc)
  refine wp_any_order (h := h) (t := t) hm hl hH hTl hseq
    (fun listed a w => Sees a0 (floats.map (·.2.1) ++ chain.map (·.2)) a ∧ (∀ (j s : Nat) (x : Value), (j, s, x) ∈ floats → listed.getD j false = true → a.tmps[s]? = some x) ∧
      ∃ vs : List Value, vs.length ≤ chain.length ∧ (∀ (m i s : Nat), chain[m]? = some (i, s) → (listed.getD i false = true ↔ m < vs.length)) ∧ (∀ (m i s : Nat) (v : Value), chain[m]? = some (i, s) → vs[m]? = some v → a.tmps[s]? = some v) ∧ J vs w) ?_ ?_ ?_
  · rintro listed a w i ⟨hs, hk, vs, hvl, hpr, hcv, hJ⟩ hsz hih hr
    have hil : i < listed.size := by omega
    have hun : listed.getD i false = false := by
      have h1 := (mem_ready.1 hr).1
      simp only [Array.getD_eq_getD_getElem?] at h1 ⊢
      simpa [hil] using h1
    rcases List.mem_append.1 (hall i hih) with hik | hik
    · obtain ⟨⟨i', s, x⟩, hm', rfl⟩ := List.mem_map.1 hik
      obtain ⟨o, ho, hg, hd, hrun⟩ := hF i' s x hm'
      have ho' : l.toArray[i']? = some o := by simpa using ho
      have hsk : s ∈ floats.map (·.2.1) := List.mem_map.2 ⟨_, hm', rfl⟩
      have hsm := List.mem_append.2 (.inl (b := s ∈ chain.map (·.2)) hsk)
      have hlt' : s < a.tmps.size := by rw [hs.size]; exact hlt s hsm
      refine wpOp_val (o := o) ho' hg (hrun a w vs hs (fun j s' x' hm2 hw => hk j s' x' hm2 (listed_of_waits hr ho' hw)) hJ) ?_
      rw [hd]
      refine ⟨hs.put hsm x, fun j s' x' hm2 hl' => ?_, vs, hvl, fun m i2 s2 hc => ?_, fun m i2 s2 v hc hv => ?_, hJ⟩
      · by_cases hj : i' = j
        · subst hj
          obtain ⟨rfl, rfl⟩ := nodup_fst hnf hm' hm2
          exact put_same hlt' _
        · rw [getD_set hil, if_neg hj] at hl'
          have hne' : s ≠ s' := by
            intro he
            subst he
            exact hj (nodup_snd hsf hm' hm2)
          rw [put_other hne']
          exact hk j s' x' hm2 hl'
      · rw [getD_set hil, if_neg (hx _ hik _ (chMem hc))]
        exact hpr m i2 s2 hc
      · rw [put_other (hxs _ hsk _ (chMemS hc))]
        exact hcv m i2 s2 v hc hv
    · obtain ⟨⟨i', s⟩, hm', rfl⟩ := List.mem_map.1 hik
      obtain ⟨m, hm2⟩ := List.mem_iff_getElem?.1 hm'
      have hle : vs.length ≤ m := by
        rcases Nat.lt_or_ge m vs.length with hlt' | hge
        · have := (hpr m i' s hm2).2 hlt'
          simp only at hun
          rw [hun] at this; cases this
        · exact hge
      have hlen : vs.length = m := by
        cases m with
        | zero => omega
        | succ m' =>
          have hmc : m' < chain.length := by
            have := (List.getElem?_eq_some_iff.1 hm2).1
            omega
          rcases hch0 : chain[m'] with ⟨i0, s0⟩
          have hc0 : chain[m']? = some (i0, s0) := by rw [List.getElem?_eq_getElem hmc, hch0]
          have hpd := chkC_at hch (chIdx hc0) (chIdx hm2)
          obtain ⟨_, o, ho, hall'⟩ := mem_ready.1 hr
          obtain ⟨e, he, hb, hj⟩ := preds_of ho hpd
          have hl0 := hall' e he hb
          rw [hj] at hl0
          have := (hpr m' i0 s0 hc0).1 hl0
          omega
      have hsm := List.mem_append.2 (.inr (a := s ∈ floats.map (·.2.1)) (chMemS hm2))
      have hlt' : s < a.tmps.size := by rw [hs.size]; exact hlt s hsm
      refine hC m i' s hm2 a w vs _ hlen hs (fun o j s' x' ho hm3 hw => hk j s' x' hm3 (listed_of_waits hr (by simpa using ho) hw)) hcv hJ ?_
      intro v w' hJ'
      refine ⟨hs.put hsm v, fun j s' x' hm3 hl' => ?_, vs ++ [v], ?_, fun m2 i2 s2 hc => ?_, fun m2 i2 s2 v2 hc hv => ?_, hJ'⟩
      · have hne : i' ≠ j := fun he => hx j (List.mem_map.2 ⟨_, hm3, rfl⟩) i' hik (he.symm)
        have hne' : s ≠ s' := fun he => hxs s' (List.mem_map.2 ⟨_, hm3, rfl⟩) s (chMemS hm2) he.symm
        rw [getD_set hil, if_neg hne] at hl'
        rw [put_other hne']
        exact hk j s' x' hm3 hl'
      · have := (List.getElem?_eq_some_iff.1 hm2).1
        simp only [List.length_append, List.length_cons, List.length_nil]
        omega
      · rw [getD_set hil]
        simp only [List.length_append, List.length_cons, List.length_nil]
        by_cases he : i' = i2
        · subst he
          have := nodup_at hnc (chIdx hm2) (chIdx hc)
          rw [if_pos rfl]
          constructor
          · intro _; omega
          · intro _; rfl
        · rw [if_neg he, hpr m2 i2 s2 hc]
          have hne : m2 ≠ m := by
            intro hq
            subst hq
            rw [hm2] at hc
            injection hc with hc
            injection hc with h1 _
            exact he h1
          omega
      · rcases Nat.lt_or_ge m2 m with hlt2 | hge2
        · rw [List.getElem?_append_left (by omega)] at hv
          have hne' : s ≠ s2 := by
            intro hq
            subst hq
            have := nodup_at hsc (chSl hm2) (chSl hc)
            omega
          rw [put_other hne']
          exact hcv m2 i2 s2 v2 hc hv
        · have hm2e : m2 = m := by
            have := (List.getElem?_eq_some_iff.1 hv).1
            simp only [List.length_append, List.length_cons, List.length_nil] at this
            omega
          subst hm2e
          rw [hm2] at hc
          injection hc with hc
          injection hc with _ h2
          subst h2
          rw [← hlen] at hv
          simp at hv
          subst hv
          exact put_same hlt' _
  · have hz : ∀ j, (Array.replicate (h + t) false).getD j false = false := by
      intro j
      simp [Array.getD_eq_getD_getElem?, Array.getElem?_replicate]
      split <;> simp
    refine ⟨⟨rfl, rfl, fun _ _ => rfl⟩, fun j s x _ hl' => ?_, [], by simp, fun m i s _ => ?_, fun m i s v _ hv => by simp at hv, hJ0⟩
    · rw [hz] at hl'; cases hl'
    · rw [hz]; simp
  · rintro listed a w ⟨hs, hk, vs, hvl, hpr, hcv, hJ⟩ hdone
    have hvl2 : vs.length = chain.length := by
      rcases Nat.lt_or_ge vs.length chain.length with hlt' | hge
      · rcases hch0 : chain[vs.length] with ⟨i0, s0⟩
        have hc0 : chain[vs.length]? = some (i0, s0) := by rw [List.getElem?_eq_getElem hlt', hch0]
        have := (hpr _ _ _ hc0).1 (hdone _ (hin _ (List.mem_append.2 (.inr (chMem hc0)))))
        omega
      · omega
    have e : a = puts (floats.map (·.2) ++ (chain.map (·.2)).zip vs) a0 := by
      have hmap : (floats.map (·.2) ++ (chain.map (·.2)).zip vs).map (·.1) = floats.map (·.2.1) ++ chain.map (·.2) := by
        rw [List.map_append, List.map_map, List.map_fst_zip (by simp; omega)]; rfl
      refine act_eq hs.size hs.defers ?_ ?_ ?_ ?_
      · rw [hmap]; exact hs.out
      · rw [hmap]; exact hsl
      · rw [hmap]; exact hlt
      · intro s v hsv
        rcases List.mem_append.1 hsv with hh | hh
        · obtain ⟨⟨j, s', x⟩, hm', hh⟩ := List.mem_map.1 hh
          injection hh with e1 e2
          subst e1; subst e2
          exact hk j s' x hm' (hdone _ (hin _ (List.mem_append.2 (.inl (List.mem_map.2 ⟨_, hm', rfl⟩)))))
        · obtain ⟨m, hm3⟩ := List.mem_iff_getElem?.1 hh
          rw [List.getElem?_zip_eq_some] at hm3
          obtain ⟨h1, h2⟩ := hm3
          simp only [List.getElem?_map, Option.map_eq_some_iff] at h1
          obtain ⟨⟨i1, s1⟩, hc1, hs1⟩ := h1
          simp only at hs1
          subst hs1
          exact hcv m i1 s1 v hc1 h2
    rw [e]
    exact hT w vs hvl2 hJ

theorem run_move {P : Program} {a : Act} {w : World} {x : Operand} {v : Value} {d : Option Tmp} {ty : TypeId} {pos : String} {af : Array Edge} {g : Option (Nat × Bool)} (h : a.eval x = v) :
    (execOp a.eval { dst := d, op := .move x, type := ty, pos := pos, after := af, guard := g }).run P w = .ok (.value v) w := by
  subst h; rfl
theorem run_load {P : Program} {a : Act} {w : World} {x : Operand} {v q : Value} {d : Option Tmp} {ty T : TypeId} {pos : String} {af : Array Edge} {g : Option (Nat × Bool)} (h : a.eval x = q) (hl : (Instr.loadAt T q).run P w = .ok v w) :
    (execOp a.eval { dst := d, op := .load T x, type := ty, pos := pos, after := af, guard := g }).run P w = .ok (.value v) w := by
  subst h
  simp only [execOp, Sem.run_bind, hl]
  rfl
theorem run_build {P : Program} {a : Act} {w w' : World} {x : Operand} {v q : Value} {d : Option Tmp} {ty T : TypeId} {pos : String} {af : Array Edge} {g : Option (Nat × Bool)} (h : a.eval x = q) (hl : (Instr.buildSlice T 1 #[(0, q)]).run P w = .ok v w') :
    (execOp a.eval { dst := d, op := .buildSlice T 1 #[(0, x)], type := ty, pos := pos, after := af, guard := g }).run P w = .ok (.value v) w' := by
  subst h
  simp only [execOp, Sem.run_bind]
  have e : Array.map (fun x => (x.1, a.eval x.2)) #[(0, x)] = #[(0, a.eval x)] := by simp
  rw [e, hl]
  rfl
end Go.Proofs.YtcojnojdgigmdaaDoor.OrdB
/- A region that draws its order and appends to a row of the call's own what a callee hands back ('p.xs = append(p.xs, f(..))'): whatever the order. No program in sight. -/
namespace Go.Proofs.YtcojnojdgigmdaaDoor.Ord
open Go.RowKit Go.Proofs.YtcojnojdgigmdaaDoor.Mem

theorem wpOp_enter {P : Program} {ops : Array Oper} {Q : Exit → Act → World → Prop} {i : Nat} {o : Oper} {a : Act} {w : World} {K : Act → World → Prop} {f : FuncId} {args : Array Value} (ho : ops[i]? = some o) (hg : o.guard = none)
    (hr : (execOp a.eval o).run P w = .ok (.enter f args) w)
    (h : Calls P f args w fun e w'' => match e, w'' with
      | .returned v, w'' => K (a.put o.dst v) w''
      | .panicked chain, w'' => Q (.panic chain) a w''
      | .outgrown, _ => LetsOut Q) : wpOp P ops Q i K a w := by
  unfold wpOp
  simp only [ho, Region.wanted, hg, if_true]
  refine .inl ?_
  unfold Oper.wp
  rw [hr]
  exact h
theorem run_enter2 {P : Program} {a : Act} {w : World} {x y : Operand} {vx vy : Value} {f : FuncId} {d : Option Tmp} {ty : TypeId} {pos : String} {af : Array Edge} {g : Option (Nat × Bool)} {ts : Array TypeId} (hx : a.eval x = vx) (hy : a.eval y = vy) (hf : (callFunc f #[vx, vy]).run P w = .ok (.enter f #[vx, vy]) w) :
    (execOp a.eval { dst := d, op := .call { callee := .value (.func f), args := #[x, y], argTypes := ts }, type := ty, pos := pos, after := af, guard := g }).run P w = .ok (.enter f #[vx, vy]) w := by
  have he : a.eval (.func f) = .func (.func f) #[] #[] := rfl
  simp only [execOp, resolve, he, Deferred.ofValue, invoke, Sem.run_bind, Sem.run_pure, Result.andThen_ok, List.map_toArray, List.map_cons, List.map_nil, hx, hy]
  exact hf
theorem run_fld {P : Program} {a : Act} {w : World} {x : Operand} {v q : Value} {T : TypeId} {n : Nat} {d : Option Tmp} {ty : TypeId} {pos : String} {af : Array Edge} {g : Option (Nat × Bool)} (h : a.eval x = q) (hl : (Instr.fieldAt T q n).run P w = .ok v w) :
    (execOp a.eval { dst := d, op := .fieldAddr T x n, type := ty, pos := pos, after := af, guard := g }).run P w = .ok (.value v) w := by
  subst h
  simp only [execOp, Sem.run_bind, hl]
  rfl
theorem run_len {P : Program} {a : Act} {w : World} {x : Operand} {ad : Option Addr} {n c : Nat} {d : Option Tmp} {ty : TypeId} {pos : String} {af : Array Edge} {g : Option (Nat × Bool)} {ts : Array TypeId} (h : a.eval x = .slice ad n c) (hl : (Builtin.len_ ts ty #[.slice ad n c]).run P w = .ok (.int .i64 n) w) :
    (execOp a.eval { dst := d, op := .call { callee := .builtin .len, args := #[x], argTypes := ts }, type := ty, pos := pos, after := af, guard := g }).run P w = .ok (.value (.int .i64 n)) w := by
  simp only [execOp, resolve, invoke, builtin, Sem.run_bind, Sem.run_pure, Result.andThen_ok, List.map_toArray, List.map_cons, List.map_nil, h]
  rw [hl]
  rfl

/-- See the head. -/
theorem call_append {P : Program} {id : Nat} {l : List Oper} {Q : Exit → Act → World → Prop} {a0 : Act} {w0 : World} {floats : List (Nat × Nat × Value)} {ic sc ib sb ip sp h t : Nat}
    (hm : P.follows .mixedOrders = true) (hl : l.length = h + t) (hH : chkH l.toArray h = true) (hTl : chkT l.toArray h t = true)
    (hseq : Region.seqB .any l.toArray t h (List.replicate h true ++ List.replicate t false).toArray = true)
    (hch : chkC l.toArray [ic, ib, ip] = true)
    (hidx : (floats.map (·.1) ++ [ic, ib, ip]).Nodup) (hall : ∀ i, i < h → i ∈ floats.map (·.1) ++ [ic, ib, ip]) (hin : ∀ i ∈ floats.map (·.1) ++ [ic, ib, ip], i < h)
    (hsl : (floats.map (·.2.1) ++ [sc, sb, sp]).Nodup) (hlt : ∀ s ∈ floats.map (·.2.1) ++ [sc, sb, sp], s < a0.tmps.size)
    (B : Nat) (cs : Array Value) (tB : TypeId) (hB : w0.heap[B]? = some (.cells cs tB (0, 0)))
    (base : Nat) (e : TypeId) (i : TypeInfo) (z : Value) (sz bytes : Nat) (v : Value) (n : Nat) (xs news : List Value) (vc : Value) (hne : e ≠ tB)
    (Mid : World → Prop) (hMid : ∀ w, Mid w → w.heap[B]? = some (.cells cs tB (0, 0)) ∧ w.ownsRow base e sz v n xs ∧ base ≤ w.heap.size)
    (hF : ∀ (i s : Nat) (x : Value), (i, s, x) ∈ floats → ∃ o, l[i]? = some o ∧ o.guard = none ∧ o.dst = some s ∧
      ∀ (a : Act) (w : World), Sees a0 (floats.map (·.2.1) ++ [sc, sb, sp]) a → (∀ (j s' : Nat) (x' : Value), (j, s', x') ∈ floats → waits o j → a.tmps[s']? = some x') → w.heap[B]? = some (.cells cs tB (0, 0)) → (execOp a.eval o).run P w = .ok (.value x) w)
    (hcall : ∀ (a : Act) (K : Act → World → Prop), Sees a0 (floats.map (·.2.1) ++ [sc, sb, sp]) a → (∀ (o : Oper) (j s' : Nat) (x' : Value), l[ic]? = some o → (j, s', x') ∈ floats → waits o j → a.tmps[s']? = some x') →
      (∀ w', Mid w' → K (a.put (some sc) vc) w') → wpOp P l.toArray Q ic K a w0.drew)
    (hbuild : ∃ o, l[ib]? = some o ∧ o.guard = none ∧ o.dst = some sb ∧ ∀ (a : Act) (w : World), a.tmps[sc]? = some vc → (execOp a.eval o).run P w = .ok (.value (.slice (some ⟨w.heap.size, 0, none⟩) 1 1)) (w.alloc (.cells news.toArray e)))
    (src js : Nat) (tS : TypeId)
    (happ : ∃ o, l[ip]? = some o ∧ o.guard = none ∧ o.dst = some sp ∧ o.op = .call { callee := .builtin .append, args := #[.tmp src, .tmp sb], argTypes := #[tS, tS] } ∧ waits o js)
    (hsrc : (js, src, v) ∈ floats)
    (ht : P.underlying tS = some (.slice e)) (hi : P.info? e = some i) (hz : i.zero = some z) (hsize : i.size = sz) (hby : i.bytes = bytes) (hzs : z.cells.size = sz) (hsz : 0 < sz) (hnl : news.length = sz) (h1 : ∀ u ∈ news, u.oneCell' = true)
    (h63 : n + 1 ≤ maxLen) (hbytes : (n + 1) * bytes ≤ 140737488355328)
    (hT : ∀ w1 w g cap, Mid w1 → (w1.alloc (.cells news.toArray e)).grownBy w v.ownBlock → w.ownsRow base e sz (.slice (some ⟨g, 0, none⟩) (n + 1) cap) (n + 1) (xs ++ news) → w.heap[B]? = some (.cells cs tB (0, 0)) →
      wpList P l.toArray Q (l.drop h) (puts (floats.map (·.2) ++ [(sc, vc), (sb, .slice (some ⟨w1.heap.size, 0, none⟩) 1 1), (sp, .slice (some ⟨g, 0, none⟩) (n + 1) cap)]) a0) w) :
    (Code.region id l.toArray true).wp P Q a0 w0 := by
  refine chain_order (chain := [(ic, sc), (ib, sb), (ip, sp)]) hm hl hH hTl hseq hch hidx hall hin hsl hlt
    (fun vs w => match vs with
      | [] => w = w0.drew
      | [x] => x = vc ∧ Mid w
      | [x, y] => x = vc ∧ ∃ w1, Mid w1 ∧ y = .slice (some ⟨w1.heap.size, 0, none⟩) 1 1 ∧ w = w1.alloc (.cells news.toArray e)
      | [x, y, r] => x = vc ∧ ∃ w1 g cap, Mid w1 ∧ y = .slice (some ⟨w1.heap.size, 0, none⟩) 1 1 ∧ r = .slice (some ⟨g, 0, none⟩) (n + 1) cap ∧ (w1.alloc (.cells news.toArray e)).grownBy w v.ownBlock ∧ w.ownsRow base e sz (.slice (some ⟨g, 0, none⟩) (n + 1) cap) (n + 1) (xs ++ news)
      | _ => False) rfl ?_ ?_ ?_
  · intro i' s x hm'
    obtain ⟨o, ho, hg, hd, hrun⟩ := hF i' s x hm'
    refine ⟨o, ho, hg, hd, fun a w vs hs hk hJ => hrun a w hs hk ?_⟩
    match vs, hJ with
    | [], hJ => rw [show w = w0.drew from hJ]; exact hB
    | [_], hJ => exact (hMid w hJ.2).1
    | [_, _], hJ =>
      obtain ⟨_, w1, hmid, _, rfl⟩ := hJ
      exact heap_alloc (hMid w1 hmid).1
    | [_, _, _], hJ =>
      obtain ⟨_, w1, g, cap, hmid, _, _, hgr, _⟩ := hJ
      exact heap_kept (heap_alloc (hMid w1 hmid).1) ((hMid w1 hmid).2.1.alloc _) hne hgr
  · intro m i' s hc a w vs K hvl hs hk hcv hJ hK
    match m, hc with
    | 0, hc =>
      simp only [List.getElem?_cons_zero, Option.some.injEq, Prod.mk.injEq] at hc
      obtain ⟨rfl, rfl⟩ := hc
      match vs, hvl, hJ with
      | [], _, hJ =>
        rw [show w = w0.drew from hJ]
        exact hcall a K hs hk fun w' hmid => hK vc w' ⟨rfl, hmid⟩
    | 1, hc =>
      simp only [List.getElem?_cons_succ, List.getElem?_cons_zero, Option.some.injEq, Prod.mk.injEq] at hc
      obtain ⟨rfl, rfl⟩ := hc
      match vs, hvl, hJ with
      | [x], _, hJ =>
        obtain ⟨rfl, hmid⟩ := hJ
        obtain ⟨o, ho, hg, hd, hrun⟩ := hbuild
        have hx := hcv 0 ic sc x rfl rfl
        refine wpOp_val (o := o) (by simpa using ho) hg (hrun a w hx) ?_
        rw [hd]
        exact hK _ _ ⟨rfl, w, hmid, rfl, rfl⟩
    | 2, hc =>
      simp only [List.getElem?_cons_succ, List.getElem?_cons_zero, Option.some.injEq, Prod.mk.injEq] at hc
      obtain ⟨rfl, rfl⟩ := hc
      match vs, hvl, hJ with
      | [x, y], _, hJ =>
        obtain ⟨rfl, w1, hmid, rfl, rfl⟩ := hJ
        obtain ⟨o, ho, hg, hd, hop, hw⟩ := happ
        have hy := hcv 1 ib sb _ rfl rfl
        have hsv := hk o js src v ho hsrc hw
        obtain ⟨_, hown, hbs⟩ := hMid w1 hmid
        unfold wpOp
        simp only [show l.toArray[ip]? = some o by simpa using ho, Region.wanted, hg, if_true]
        refine .inl ?_
        refine wp_append_lies _ (.tmp src) (.tmp sb) tS hop base e i z sz bytes ht hi hz hsize hby hzs hsz v n xs (eval_tmp hsv) (hown.alloc _) ⟨w1.heap.size, 0, none⟩ 1 1 news (eval_tmp hy) (by rw [hnl]; omega)
          (by
            have := World.news_of_block (heap_new (w := w1) (o := .cells news.toArray e) rfl)
            intro j u hu
            exact this j u (by simpa using hu)) h1 (by omega) h63 hbytes (by show base ≤ (w1.heap.push _).size; simp; omega) _ rfl ?_
        intro g cap w' hown' hgrow _ _
        rw [hd]
        exact hK _ _ ⟨rfl, w1, g, cap, hmid, rfl, rfl, hgrow, hown'⟩
    | m + 3, hc => simp at hc
  · intro w vs hvl hJ
    match vs, hvl, hJ with
    | [x, y, r], _, hJ =>
      obtain ⟨rfl, w1, g, cap, hmid, rfl, rfl, hgr, hown⟩ := hJ
      exact hT w1 w g cap hmid hgr hown (heap_kept (heap_alloc (hMid w1 hmid).1) ((hMid w1 hmid).2.1.alloc _) hne hgr)
end Go.Proofs.YtcojnojdgigmdaaDoor.Ord
/- A region that draws its order and appends one element to a row of the call's own ('last.Bars = append(last.Bars, Bar{..})'): whatever the order. No program in sight. -/
namespace Go.Proofs.YtcojnojdgigmdaaDoor.Ord
open Go.RowKit Go.Proofs.YtcojnojdgigmdaaDoor.Mem

/-- All that lay there is as it was, but for the row. -/
def Far (w0 : World) (v : Value) (w : World) : Prop := ∀ k, k < w0.heap.size → v.ownBlock ≠ some k → w.heap[k]? = w0.heap[k]?

/-- See the head. -/
theorem append_order {P : Program} {id : Nat} {l : List Oper} {Q : Exit → Act → World → Prop} {a0 : Act} {w0 : World} {floats : List (Nat × Nat × Value)} {ib sb ip sp h t : Nat}
    (hm : P.follows .mixedOrders = true) (hl : l.length = h + t) (hH : chkH l.toArray h = true) (hTl : chkT l.toArray h t = true)
    (hseq : Region.seqB .any l.toArray t h (List.replicate h true ++ List.replicate t false).toArray = true)
    (hch : chkC l.toArray [ib, ip] = true)
    (hidx : (floats.map (·.1) ++ [ib, ip]).Nodup) (hall : ∀ i, i < h → i ∈ floats.map (·.1) ++ [ib, ip]) (hin : ∀ i ∈ floats.map (·.1) ++ [ib, ip], i < h)
    (hsl : (floats.map (·.2.1) ++ [sb, sp]).Nodup) (hlt : ∀ s ∈ floats.map (·.2.1) ++ [sb, sp], s < a0.tmps.size)
    (base : Nat) (e : TypeId) (i : TypeInfo) (z : Value) (sz bytes : Nat) (v : Value) (n : Nat) (xs news : List Value) (hown : w0.ownsRow base e sz v n xs) (hbase : base ≤ w0.heap.size)
    (hF : ∀ (i s : Nat) (x : Value), (i, s, x) ∈ floats → ∃ o, l[i]? = some o ∧ o.guard = none ∧ o.dst = some s ∧
      ∀ (a : Act) (w : World), Sees a0 (floats.map (·.2.1) ++ [sb, sp]) a → (∀ (j s' : Nat) (x' : Value), (j, s', x') ∈ floats → waits o j → a.tmps[s']? = some x') → Far w0 v w → (execOp a.eval o).run P w = .ok (.value x) w)
    (jx sx : Nat) (vx : Value)
    (hbuild : ∃ o, l[ib]? = some o ∧ o.guard = none ∧ o.dst = some sb ∧ waits o jx ∧ ∀ (a : Act) (w : World), a.tmps[sx]? = some vx → (execOp a.eval o).run P w = .ok (.value (.slice (some ⟨w.heap.size, 0, none⟩) 1 1)) (w.alloc (.cells news.toArray e)))
    (hx : (jx, sx, vx) ∈ floats)
    (src js : Nat) (tS : TypeId)
    (happ : ∃ o, l[ip]? = some o ∧ o.guard = none ∧ o.dst = some sp ∧ o.op = .call { callee := .builtin .append, args := #[.tmp src, .tmp sb], argTypes := #[tS, tS] } ∧ waits o js)
    (hsrc : (js, src, v) ∈ floats)
    (ht : P.underlying tS = some (.slice e)) (hi : P.info? e = some i) (hz : i.zero = some z) (hsize : i.size = sz) (hby : i.bytes = bytes) (hzs : z.cells.size = sz) (hsz : 0 < sz) (hnl : news.length = sz) (h1 : ∀ u ∈ news, u.oneCell' = true)
    (h63 : n + 1 ≤ maxLen) (hbytes : (n + 1) * bytes ≤ 140737488355328)
    (hT : ∀ w g cap, (w0.drew.alloc (.cells news.toArray e)).grownBy w v.ownBlock → w.ownsRow base e sz (.slice (some ⟨g, 0, none⟩) (n + 1) cap) (n + 1) (xs ++ news) → (v.ownBlock = some g ∨ g = w0.heap.size + 1) → g < w.heap.size →
      wpList P l.toArray Q (l.drop h) (puts (floats.map (·.2) ++ [(sb, .slice (some ⟨w0.heap.size, 0, none⟩) 1 1), (sp, .slice (some ⟨g, 0, none⟩) (n + 1) cap)]) a0) w) :
    (Code.region id l.toArray true).wp P Q a0 w0 := by
  refine chain_order (chain := [(ib, sb), (ip, sp)]) hm hl hH hTl hseq hch hidx hall hin hsl hlt
    (fun vs w => match vs with
      | [] => w = w0.drew
      | [y] => y = .slice (some ⟨w0.heap.size, 0, none⟩) 1 1 ∧ w = w0.drew.alloc (.cells news.toArray e)
      | [y, r] => y = .slice (some ⟨w0.heap.size, 0, none⟩) 1 1 ∧ ∃ g cap, r = .slice (some ⟨g, 0, none⟩) (n + 1) cap ∧ (w0.drew.alloc (.cells news.toArray e)).grownBy w v.ownBlock ∧ w.ownsRow base e sz (.slice (some ⟨g, 0, none⟩) (n + 1) cap) (n + 1) (xs ++ news) ∧ (v.ownBlock = some g ∨ g = w0.heap.size + 1) ∧ g < w.heap.size
      | _ => False) rfl ?_ ?_ ?_
  · intro i' s x hm'
    obtain ⟨o, ho, hg, hd, hrun⟩ := hF i' s x hm'
    refine ⟨o, ho, hg, hd, fun a w vs hs hk hJ => hrun a w hs hk ?_⟩
    match vs, hJ with
    | [], hJ => rw [show w = w0.drew from hJ]; exact fun _ _ _ => rfl
    | [_], hJ =>
      obtain ⟨_, rfl⟩ := hJ
      exact fun k hk _ => Below.heap_alloc w0.drew _ k hk
    | [_, _], hJ =>
      obtain ⟨_, g, cap, _, hgr, _⟩ := hJ
      exact fun k hk hne => (hgr.block k (by show k < (w0.heap.push _).size; simp; omega) (fun e => hne e.symm)).trans (Below.heap_alloc w0.drew _ k hk)
  · intro m i' s hc a w vs K hvl hs hk hcv hJ hK
    match m, hc with
    | 0, hc =>
      simp only [List.getElem?_cons_zero, Option.some.injEq, Prod.mk.injEq] at hc
      obtain ⟨rfl, rfl⟩ := hc
      match vs, hvl, hJ with
      | [], _, hJ =>
        rw [show w = w0.drew from hJ]
        obtain ⟨o, ho, hg, hd, hw, hrun⟩ := hbuild
        refine wpOp_val (o := o) (by simpa using ho) hg (hrun a w0.drew (hk o jx sx vx ho hx hw)) ?_
        rw [hd]
        exact hK _ _ ⟨rfl, rfl⟩
    | 1, hc =>
      simp only [List.getElem?_cons_succ, List.getElem?_cons_zero, Option.some.injEq, Prod.mk.injEq] at hc
      obtain ⟨rfl, rfl⟩ := hc
      match vs, hvl, hJ with
      | [y], _, hJ =>
        obtain ⟨rfl, rfl⟩ := hJ
        obtain ⟨o, ho, hg, hd, hop, hw⟩ := happ
        have hy := hcv 0 ib sb _ rfl rfl
        have hsv := hk o js src v ho hsrc hw
        unfold wpOp
        simp only [show l.toArray[ip]? = some o by simpa using ho, Region.wanted, hg, if_true]
        refine .inl ?_
        refine wp_append_lies _ (.tmp src) (.tmp sb) tS hop base e i z sz bytes ht hi hz hsize hby hzs hsz v n xs (eval_tmp hsv) (World.ownsRow.alloc (w := w0.drew) hown _) ⟨w0.heap.size, 0, none⟩ 1 1 news (eval_tmp hy) (by rw [hnl]; omega)
          (by
            have := World.news_of_block (heap_new (w := w0.drew) (o := .cells news.toArray e) (g := w0.heap.size) rfl)
            intro j u hu
            exact this j u (by simpa using hu)) h1 (by omega) h63 hbytes (by show base ≤ (w0.heap.push _).size; simp; omega) (w0.heap.size + 1) (by show (w0.heap.push _).size = _; simp) ?_
        intro g cap w' hown' hgrow hgg hgl
        rw [hd]
        exact hK _ _ ⟨rfl, g, cap, rfl, hgrow, hown', hgg, hgl⟩
    | m + 2, hc => simp at hc
  · intro w vs hvl hJ
    match vs, hvl, hJ with
    | [y, r], _, hJ =>
      obtain ⟨rfl, g, cap, rfl, hgr, hown', hgg, hgl⟩ := hJ
      exact hT w g cap hgr hown' hgg hgl
end Go.Proofs.YtcojnojdgigmdaaDoor.Ord
/- A region that draws its order and holds two chains of operations, each ending in an append onto a row of the call's own, of two element types: whatever the order, both rows have grown. By an invariant over how far each chain has come. No program in sight. -/
namespace Go.Proofs.YtcojnojdgigmdaaDoor.Reg
open Go.RowKit Go.Proofs.YtcojnojdgigmdaaDoor.Mem

section
variable {P : Program} {ops : Array Oper} {Q : Exit → Act → World → Prop}

/-- Each of the first h operations waits for earlier ones alone; each other one waits for all of the first h, or for number h. -/
def chkH (ops : Array Oper) (h : Nat) : Bool := (List.range h).all fun i => match ops[i]? with
  | some o => o.after.all fun e => decide (e.on < i)
  | none => false
/-- What an operation waits for. -/
def preds (ops : Array Oper) (i : Nat) : List Nat := match ops[i]? with
  | some o => (o.after.toList.filter (Region.binds .any)).map (·.on)
  | none => []
/-- .. and what those wait for, so many steps on. -/
def clos (ops : Array Oper) : Nat → List Nat → List Nat
  | 0, l => l
  | f + 1, l => l ++ clos ops f (l.flatMap (preds ops))
def chkT (ops : Array Oper) (h t : Nat) : Bool := (List.range t).all fun r =>
  (decide (0 < r) && (preds ops (h + r)).contains h) || (List.range h).all fun j => (clos ops 4 (preds ops (h + r))).contains j
theorem clos_listed {ops : Array Oper} {listed : Array Bool} (hc : ∀ i, listed.getD i false = true → ∀ j ∈ preds ops i, listed.getD j false = true) :
    ∀ (f : Nat) (l : List Nat), (∀ i ∈ l, listed.getD i false = true) → ∀ i ∈ clos ops f l, listed.getD i false = true := by
  intro f
  induction f with
  | zero => intro l hl i hi; exact hl i hi
  | succ f ih =>
    intro l hl i hi
    rcases List.mem_append.1 hi with hi | hi
    · exact hl i hi
    · refine ih _ (fun j hj => ?_) i hi
      obtain ⟨k, hk, hj⟩ := List.mem_flatMap.1 hj
      exact hc k (hl k hk) j hj
theorem preds_of {ops : Array Oper} {i : Nat} {o : Oper} (ho : ops[i]? = some o) {j : Nat} (h : j ∈ preds ops i) : ∃ e ∈ o.after, Region.binds .any e = true ∧ e.on = j := by
  unfold preds at h
  rw [ho] at h
  obtain ⟨e, he, rfl⟩ := List.mem_map.1 h
  obtain ⟨h1, h2⟩ := List.mem_filter.1 he
  exact ⟨e, by simpa using h1, h2, rfl⟩

/-- How many of the first h are still to come. -/
def todo (listed : Array Bool) : Nat → Nat
  | 0 => 0
  | h + 1 => (if listed.getD h false then 0 else 1) + todo listed h
theorem todo_zero {listed : Array Bool} : ∀ {h : Nat}, todo listed h = 0 → ∀ i, i < h → listed.getD i false = true := by
  intro h
  induction h with
  | zero => intro _ i hi; omega
  | succ h ih =>
    intro h0 i hi
    simp only [todo] at h0
    by_cases hc : listed.getD h false = true
    · by_cases hih : i = h
      · rw [hih]; exact hc
      · exact ih (by omega) i (by omega)
    · rw [if_neg hc] at h0; omega
theorem todo_pos {listed : Array Bool} : ∀ {h : Nat}, todo listed h ≠ 0 → ∃ i, i < h ∧ listed.getD i false = false ∧ ∀ j, j < i → listed.getD j false = true := by
  intro h
  induction h with
  | zero => intro h0; exact absurd rfl h0
  | succ h ih =>
    intro h0
    by_cases hh : todo listed h = 0
    · refine ⟨h, by omega, ?_, todo_zero hh⟩
      simp only [todo, hh] at h0
      by_cases hc : listed.getD h false = true
      · rw [if_pos hc] at h0; omega
      · simpa using hc
    · obtain ⟨i, hi, h1, h2⟩ := ih hh
      exact ⟨i, by omega, h1, h2⟩
theorem getD_set {listed : Array Bool} {i j : Nat} (hi : i < listed.size) : (listed.setIfInBounds i true).getD j false = if i = j then true else listed.getD j false := by
  simp only [Array.getD_eq_getD_getElem?, Array.getElem?_setIfInBounds]
  by_cases h : i = j
  · subst h; simp [hi]
  · simp [h]
theorem todo_set {listed : Array Bool} {i : Nat} (hs : i < listed.size) : ∀ {h : Nat}, i < h → listed.getD i false = false → todo (listed.setIfInBounds i true) h + 1 = todo listed h := by
  have out : ∀ h, h ≤ i → todo (listed.setIfInBounds i true) h = todo listed h := by
    intro h
    induction h with
    | zero => intro _; rfl
    | succ h ih =>
      intro hle
      have e := getD_set (listed := listed) (i := i) (j := h) hs
      rw [if_neg (by omega)] at e
      simp only [todo]; rw [ih (by omega), e]
  intro h
  induction h with
  | zero => intro hi; omega
  | succ h ih =>
    intro hi h0
    simp only [todo]
    by_cases hih : i = h
    · subst hih
      rw [out i (Nat.le_refl _), getD_set hs, if_pos rfl, h0]
      simp; omega
    · rw [getD_set hs, if_neg hih]
      have := ih (by omega) h0
      omega

theorem any_order {h t : Nat} (hsz : ops.size = h + t) (hH : chkH ops h = true) (hTl : chkT ops h t = true) (Inv : Array Bool → Act → World → Prop)
    (hS : ∀ listed a w i, Inv listed a w → listed.size = h + t → i < h → i ∈ Region.ready .any ops listed → wpOp P ops Q i (Inv (listed.setIfInBounds i true)) a w)
    (hT : ∀ listed a w, Inv listed a w → listed = (List.replicate h true ++ List.replicate t false).toArray → wpAny P .any ops Q t listed a w) :
    ∀ k listed a w, todo listed h = k → listed.size = h + t → (∀ i, h ≤ i → listed.getD i false = false) → (∀ i, listed.getD i false = true → ∀ j ∈ preds ops i, listed.getD j false = true) → Inv listed a w → wpAny P .any ops Q (k + t) listed a w := by
  intro k
  induction k with
  | zero =>
    intro listed a w hk hls htl hclo hi
    rw [Nat.zero_add]
    refine hT listed a w hi ?_
    apply Array.ext_getElem?
    intro j
    simp only [List.getElem?_toArray, List.getElem?_append, List.getElem?_replicate, List.length_replicate]
    by_cases hj : j < h
    · have := todo_zero hk j hj
      simp only [Array.getD_eq_getD_getElem?] at this
      simp only [hj, if_true]
      cases hx : listed[j]? with
      | none => rw [hx] at this; simp at this
      | some b => rw [hx] at this; simpa using this
    · simp only [hj, if_false]
      have := htl j (by omega)
      simp only [Array.getD_eq_getD_getElem?] at this
      by_cases hjt : j < h + t
      · rw [if_pos (by omega)]
        have hx : listed[j]? = some listed[j] := by simp [hls, hjt]
        rw [hx] at this ⊢
        simpa using this
      · rw [if_neg (by omega)]
        exact Array.getElem?_eq_none (by omega)
  | succ k ih =>
    intro listed a w hk hls htl hclo hi
    have hlt : ∀ i ∈ Region.ready .any ops listed, i < h := by
      intro i hir
      obtain ⟨hun, o, ho, hall⟩ := mem_ready.1 hir
      rcases Nat.lt_or_ge i h with hih | hih
      · exact hih
      · exfalso
        have hio : i < ops.size := by
          rcases Nat.lt_or_ge i ops.size with h' | h'
          · exact h'
          · rw [Array.getElem?_eq_none h'] at ho; cases ho
        obtain ⟨j, hj, hju, _⟩ := todo_pos (h := h) (listed := listed) (by omega)
        have h1 := List.all_eq_true.1 hTl (i - h) (List.mem_range.2 (by omega))
        rw [show h + (i - h) = i by omega] at h1
        simp only [Bool.or_eq_true, Bool.and_eq_true, decide_eq_true_eq, List.contains_iff_mem] at h1
        have hpl : ∀ q ∈ preds ops i, listed.getD q false = true := fun q hq => by
          obtain ⟨e, he, hb, rfl⟩ := preds_of ho hq
          exact hall e he hb
        rcases h1 with ⟨_, h1⟩ | h1
        · have := hpl h h1
          rw [htl h (Nat.le_refl _)] at this
          cases this
        · have h2 := List.all_eq_true.1 h1 j (List.mem_range.2 hj)
          have := clos_listed hclo 4 _ hpl j (by simpa using h2)
          rw [hju] at this
          cases this
    rw [show k + 1 + t = (k + t) + 1 by omega]
    refine ⟨fun h0 => ?_, fun i hir => ?_⟩
    · exfalso
      obtain ⟨j, hj, hju, hjb⟩ := todo_pos (h := h) (listed := listed) (by omega)
      have h1 := List.all_eq_true.1 hH j (List.mem_range.2 hj)
      have hjo : ops[j]? = some ops[j] := by simp
      rw [hjo] at h1
      have : j ∈ Region.ready .any ops listed := by
        refine mem_ready.2 ⟨?_, _, hjo, fun e he hb => ?_⟩
        · have : j < listed.size := by omega
          simp only [Array.getD_eq_getD_getElem?] at hju ⊢
          simpa [this] using hju
        · have := Array.all_eq_true'.1 h1 e he
          exact hjb _ (by simpa using this)
      rw [h0] at this
      cases this
    · have hih := hlt i hir
      have hun : listed.getD i false = false := by
        have := (mem_ready.1 hir).1
        have hl : i < listed.size := by omega
        simp only [Array.getD_eq_getD_getElem?] at this ⊢
        simpa [hl] using this
      exact wpOp_mono (fun a' w' h' => ih _ a' w' (by have := todo_set (by omega) hih hun; omega) (by simpa using hls)
        (fun j hj => by rw [getD_set (by omega), if_neg (by omega)]; exact htl j hj)
        (fun q hq j hj => by
          have hset : ∀ x, listed.getD x false = true → (listed.setIfInBounds i true).getD x false = true := by
            intro x hx
            rw [getD_set (by omega)]
            split
            · rfl
            · exact hx
          rw [getD_set (by omega)] at hq
          by_cases hiq : i = q
          · subst hiq
            obtain ⟨_, o, ho, hall⟩ := mem_ready.1 hir
            obtain ⟨e, he, hb, rfl⟩ := preds_of ho hj
            exact hset _ (hall e he hb)
          · rw [if_neg hiq] at hq
            exact hset _ (hclo q hq j hj)) h') (hS listed a w i hi hls hih hir)

theorem wp_any_order {id : Nat} {l : List Oper} {a : Act} {w : World} {h t : Nat} (hm : P.follows .mixedOrders = true) (hl : l.length = h + t) (hH : chkH l.toArray h = true) (hTl : chkT l.toArray h t = true)
    (hseq : Region.seqB .any l.toArray t h (List.replicate h true ++ List.replicate t false).toArray = true)
    (Inv : Array Bool → Act → World → Prop)
    (hS : ∀ listed a w i, Inv listed a w → listed.size = h + t → i < h → i ∈ Region.ready .any l.toArray listed → wpOp P l.toArray Q i (Inv (listed.setIfInBounds i true)) a w)
    (hi : Inv (Array.replicate (h + t) false) a w.drew)
    (hT : ∀ listed a w, Inv listed a w → (∀ i, i < h → listed.getD i false = true) → wpList P l.toArray Q (l.drop h) a w) : (Code.region id l.toArray true).wp P Q a w := by
  refine wp_region_any hm ?_
  have e : l.toArray.size = h + t := by simpa using hl
  have hz : ∀ h', todo (Array.replicate (h + t) false) h' = h' := by
    intro h'
    induction h' with
    | zero => rfl
    | succ h' ih => simp only [todo, ih]; rw [if_neg (by simp [Array.getD_eq_getD_getElem?, Array.getElem?_replicate]; split <;> simp)]; omega
  have := any_order (P := P) (Q := Q) e hH hTl Inv hS (fun listed a w hi hli => by
    have hs := wpAny_of_seq (P := P) (md := .any) (Q' := Q) (l.drop h) h listed a w (fun j => by simp [List.getElem?_drop]) (by
      have : (l.drop h).length = t := by simp; omega
      rw [this, hli]; exact hseq) (hT listed a w hi (fun i hih => by rw [hli]; simp [Array.getD_eq_getD_getElem?, List.getElem?_append, hih]))
    have ht : (l.drop h).length = t := by simp; omega
    rwa [ht] at hs) h (Array.replicate (h + t) false) a w.drew (hz h) (by simp) (fun i _ => by simp [Array.getD_eq_getD_getElem?, Array.getElem?_replicate]; split <;> simp) (fun i hi' => by
      have : (Array.replicate (h + t) false).getD i false = false := by simp [Array.getD_eq_getD_getElem?, Array.getElem?_replicate]; split <;> simp
      rw [this] at hi'; cases hi') hi
  rw [e]
  exact this

/-- One operation that hands back a value. -/
theorem wpOp_val {i : Nat} {o : Oper} {a : Act} {w w' : World} {v : Value} {K : Act → World → Prop} (ho : ops[i]? = some o) (hg : o.guard = none) (hr : (execOp a.eval o).run P w = .ok (.value v) w') (hK : K (a.put o.dst v) w') : wpOp P ops Q i K a w := by
  unfold wpOp
  simp only [ho, Region.wanted, hg, if_true]
  refine .inl ?_
  unfold Oper.wp
  rw [hr]
  exact hK
end

/-- Puts, one behind the other. -/
def puts : List (Nat × Value) → Act → Act
  | [], a => a
  | (s, v) :: l, a => puts l (a.put (some s) v)
theorem puts_size (l : List (Nat × Value)) : ∀ a, (puts l a).tmps.size = a.tmps.size := by
  induction l with
  | nil => intro a; rfl
  | cons x l ih => intro a; obtain ⟨s, v⟩ := x; rw [puts, ih]; simp [Act.put]
theorem puts_defers (l : List (Nat × Value)) : ∀ a, (puts l a).defers = a.defers := by
  induction l with
  | nil => intro a; rfl
  | cons x l ih => intro a; obtain ⟨s, v⟩ := x; rw [puts, ih]; simp [Act.put]
theorem puts_out (l : List (Nat × Value)) : ∀ a s, s ∉ l.map (·.1) → (puts l a).tmps[s]? = a.tmps[s]? := by
  induction l with
  | nil => intro a s _; rfl
  | cons x l ih =>
    intro a s hs
    obtain ⟨s', v⟩ := x
    simp only [List.map_cons, List.mem_cons, not_or] at hs
    rw [puts, ih _ _ hs.2]
    simp [Act.put, Ne.symm hs.1]
theorem puts_in (l : List (Nat × Value)) : ∀ a s v, (l.map (·.1)).Nodup → (s, v) ∈ l → s < a.tmps.size → (puts l a).tmps[s]? = some v := by
  induction l with
  | nil => intro a s v _ h; cases h
  | cons x l ih =>
    intro a s v hn h hlt
    obtain ⟨s', v'⟩ := x
    simp only [List.map_cons, List.nodup_cons] at hn
    rw [puts]
    rcases List.mem_cons.1 h with h | h
    · injection h with h1 h2
      subst h1; subst h2
      rw [puts_out l _ _ hn.1]
      simp [Act.put, hlt]
    · exact ih _ _ _ hn.2 h (by simpa [Act.put] using hlt)
theorem act_eq {a a0 : Act} {l : List (Nat × Value)} (hs : a.tmps.size = a0.tmps.size) (hd : a.defers = a0.defers) (hout : ∀ s, s ∉ l.map (·.1) → a.tmps[s]? = a0.tmps[s]?)
    (hn : (l.map (·.1)).Nodup) (hlt : ∀ s ∈ l.map (·.1), s < a0.tmps.size) (hin : ∀ s v, (s, v) ∈ l → a.tmps[s]? = some v) : a = puts l a0 := by
  have h1 : a.tmps = (puts l a0).tmps := by
    apply Array.ext_getElem?
    intro s
    by_cases hm : s ∈ l.map (·.1)
    · obtain ⟨⟨s', v⟩, hx, rfl⟩ := List.mem_map.1 hm
      rw [hin _ _ hx, puts_in l a0 _ _ hn hx (hlt _ hm)]
    · rw [hout s hm, puts_out l a0 s hm]
  have h2 : a.defers = (puts l a0).defers := hd.trans (puts_defers l a0).symm
  cases a; cases hp : puts l a0
  rw [hp] at h1 h2
  simp_all

/-- What the two chains leave alone, and what they were told of memory. -/
structure Stays (W : World) (a0 : Act) (slots : List Nat) (boxes : List (Nat × Array Value × TypeId)) (a : Act) (w : World) : Prop where
  size : a.tmps.size = a0.tmps.size
  defers : a.defers = a0.defers
  out : ∀ s, s ∉ slots → a.tmps[s]? = a0.tmps[s]?
  below : Below W.heap.size W w
  boxes : ∀ g cs t, (g, cs, t) ∈ boxes → w.heap[g]? = some (.cells cs t (0, 0))
theorem Stays.put {W : World} {a0 : Act} {slots : List Nat} {boxes : List (Nat × Array Value × TypeId)} {a : Act} {w : World} (h : Stays W a0 slots boxes a w) {s : Nat} (hs : s ∈ slots) (v : Value) : Stays W a0 slots boxes (a.put (some s) v) w :=
  ⟨by simpa [Act.put] using h.size, h.defers, fun s' hs' => by rw [← h.out s' hs']; simp [Act.put, Array.getElem?_setIfInBounds]; intro he; subst he; exact absurd hs hs', h.below, h.boxes⟩
theorem Stays.alloc {W : World} {a0 : Act} {slots : List Nat} {boxes : List (Nat × Array Value × TypeId)} {a : Act} {w : World} (h : Stays W a0 slots boxes a w) (o : Obj) : Stays W a0 slots boxes a (w.alloc o) :=
  ⟨h.size, h.defers, h.out, below_alloc0 h.below, fun g cs t hb => heap_alloc (h.boxes g cs t hb)⟩
theorem Stays.grown {W : World} {a0 : Act} {slots : List Nat} {boxes : List (Nat × Array Value × TypeId)} {a : Act} {w w' : World} {e : TypeId} {sz n : Nat} {v : Value} {xs : List Value} (h : Stays W a0 slots boxes a w)
    (hown : w.ownsRow W.heap.size e sz v n xs) (hg : w.grownBy w' v.ownBlock) (hne : ∀ g cs t, (g, cs, t) ∈ boxes → e ≠ t) : Stays W a0 slots boxes a w' :=
  ⟨h.size, h.defers, h.out, below_grown0 h.below hown hg, fun g cs t hb => heap_kept (h.boxes g cs t hb) hown (hne g cs t hb) hg⟩

/-- A step of memory that keeps what is of element type e. -/
def Keeps (e : TypeId) (w w' : World) : Prop :=
  (∀ (b s n : Nat) (v : Value) (xs : List Value), w.ownsRow b e s v n xs → w'.ownsRow b e s v n xs) ∧ (∀ (g : Nat) (cs : Array Value), w.heap[g]? = some (.cells cs e (0, 0)) → w'.heap[g]? = some (.cells cs e (0, 0)))
theorem Keeps.refl (e : TypeId) (w : World) : Keeps e w w := ⟨fun _ _ _ _ _ h => h, fun _ _ h => h⟩
theorem Keeps.alloc (e : TypeId) (w : World) (o : Obj) : Keeps e w (w.alloc o) := ⟨fun _ _ _ _ _ h => h.alloc o, fun _ _ h => heap_alloc h⟩
theorem Keeps.grown {e e' : TypeId} {w w' : World} {b s n : Nat} {v : Value} {xs : List Value} (hne : e ≠ e') (hown : w.ownsRow b e' s v n xs) (hg : w.grownBy w' v.ownBlock) : Keeps e w w' :=
  ⟨fun _ _ _ _ _ h => own_kept2 h hown hne hg, fun _ _ h => heap_kept h hown (Ne.symm hne) hg⟩

theorem put_other {a : Act} {s s' : Nat} (h : s ≠ s') (v : Value) : (a.put (some s) v).tmps[s']? = a.tmps[s']? := by simp [Act.put, h]
theorem put_same {a : Act} {s : Nat} (h : s < a.tmps.size) (v : Value) : (a.put (some s) v).tmps[s]? = some v := by simp [Act.put, h]

/-- A row that is appended to: the places of the operations that make the one-element slice and that append, the slots that they write, the row ahead, and the new element's cells. -/
structure Row where
  ib : Nat
  ip : Nat
  sb : Nat
  sp : Nat
  base : Nat
  e : TypeId
  sz : Nat
  v : Value
  n : Nat
  xs : List Value
  news : List Value
def Row.at (c : Row) (listed : Array Bool) (a : Act) (w : World) : Prop :=
  (listed.getD c.ip false = false → w.ownsRow c.base c.e c.sz c.v c.n c.xs) ∧
  (listed.getD c.ib false = true → ∃ g, a.tmps[c.sb]? = some (.slice (some ⟨g, 0, none⟩) 1 1) ∧ (listed.getD c.ip false = false → w.heap[g]? = some (.cells c.news.toArray c.e (0, 0)))) ∧
  (listed.getD c.ip false = true → listed.getD c.ib false = true ∧ ∃ g cap, a.tmps[c.sp]? = some (.slice (some ⟨g, 0, none⟩) (c.n + 1) cap) ∧ w.ownsRow c.base c.e c.sz (.slice (some ⟨g, 0, none⟩) (c.n + 1) cap) (c.n + 1) (c.xs ++ c.news))

theorem Row.other {c : Row} {listed : Array Bool} {a : Act} {w w' : World} {s i : Nat} (h : c.at listed a w) (hil : i < listed.size) (hib : i ≠ c.ib) (hip : i ≠ c.ip) (hsb : s ≠ c.sb) (hsp : s ≠ c.sp) (v : Value) (hk : Keeps c.e w w') :
    c.at (listed.setIfInBounds i true) (a.put (some s) v) w' := by
  have e1 := getD_set (listed := listed) (i := i) (j := c.ip) hil
  have e2 := getD_set (listed := listed) (i := i) (j := c.ib) hil
  rw [if_neg hip] at e1
  rw [if_neg hib] at e2
  obtain ⟨h1, h2, h3⟩ := h
  unfold Row.at
  rw [e1, e2]
  refine ⟨fun hl => hk.1 _ _ _ _ _ (h1 hl), fun hl => ?_, fun hl => ?_⟩
  · obtain ⟨g, hg, hh⟩ := h2 hl
    exact ⟨g, by rw [put_other hsb]; exact hg, fun hl' => hk.2 _ _ (hh hl')⟩
  · obtain ⟨hlb, g, cap, hg, ho⟩ := h3 hl
    exact ⟨hlb, g, cap, by rw [put_other hsp]; exact hg, hk.1 _ _ _ _ _ ho⟩

/-- Does an operation wait for number j? -/
def waits (o : Oper) (j : Nat) : Prop := ∃ e ∈ o.after, Region.binds .any e = true ∧ e.on = j

theorem waits_of {o : Oper} {j : Nat} (h : (o.after.any fun e => Region.binds .any e && decide (e.on = j)) = true) : waits o j := by
  simp only [Array.any_eq_true', Bool.and_eq_true, decide_eq_true_eq] at h
  obtain ⟨e, he, hb, hj⟩ := h
  exact ⟨e, he, hb, hj⟩

/-- What is asked of a row's two operations. -/
structure Row.Runs (P : Program) (l : List Oper) (W : World) (a0 : Act) (slots : List Nat) (boxes : List (Nat × Array Value × TypeId)) (known : List (Nat × Nat × Value)) (c : Row) (src js : Nat) (t : TypeId) (i : TypeInfo) (z : Value) (bytes : Nat) : Prop where
  base : c.base = W.heap.size
  build : ∃ o, l[c.ib]? = some o ∧ o.guard = none ∧ o.dst = some c.sb ∧
    ∀ (a : Act) (w : World), Stays W a0 slots boxes a w → (∀ (j s : Nat) (x : Value), (j, s, x) ∈ known → waits o j → a.tmps[s]? = some x) → (execOp a.eval o).run P w = .ok (.value (.slice (some ⟨w.heap.size, 0, none⟩) 1 1)) (w.alloc (.cells c.news.toArray c.e))
  app : ∃ o, l[c.ip]? = some o ∧ o.guard = none ∧ o.dst = some c.sp ∧ o.op = .call { callee := .builtin .append, args := #[.tmp src, .tmp c.sb], argTypes := #[t, t] } ∧ waits o js ∧ waits o c.ib
  src : (js, src, c.v) ∈ known
  ht : P.underlying t = some (.slice c.e)
  hi : P.info? c.e = some i
  hz : i.zero = some z
  hsize : i.size = c.sz
  hby : i.bytes = bytes
  hzs : z.cells.size = c.sz
  hsz : 0 < c.sz
  hnl : c.news.length = c.sz
  h1 : ∀ u ∈ c.news, u.oneCell' = true
  h63 : c.n + 1 ≤ maxLen
  hbytes : (c.n + 1) * bytes ≤ 140737488355328
  hbox : ∀ g cs t, (g, cs, t) ∈ boxes → c.e ≠ t

theorem listed_of_waits {ops : Array Oper} {listed : Array Bool} {i j : Nat} {o : Oper} (hr : i ∈ Region.ready .any ops listed) (ho : ops[i]? = some o) (hw : waits o j) : listed.getD j false = true := by
  obtain ⟨_, o', ho', hall⟩ := mem_ready.1 hr
  rw [ho] at ho'
  injection ho' with ho'
  subst ho'
  obtain ⟨e, he, hb, rfl⟩ := hw
  exact hall e he hb

theorem eval_tmp {a : Act} {s : Nat} {x : Value} (h : a.tmps[s]? = some x) : a.eval (.tmp s) = x := by simp [Act.eval, Array.getD_eq_getD_getElem?, h]

/-- A row's own two steps. -/
theorem Row.step {P : Program} {l : List Oper} {Q : Exit → Act → World → Prop} {W : World} {a0 : Act} {slots : List Nat} {boxes : List (Nat × Array Value × TypeId)} {known : List (Nat × Nat × Value)} {c : Row} {src js : Nat} {t : TypeId} {i : TypeInfo} {z : Value} {bytes : Nat}
    (R : c.Runs P l W a0 slots boxes known src js t i z bytes) (hsm : c.sb ∈ slots ∧ c.sp ∈ slots) (hlt : ∀ s ∈ slots, s < a0.tmps.size) (hne : c.ib ≠ c.ip) (hns : c.sb ≠ c.sp) {listed : Array Bool} {a : Act} {w : World} {p : Nat} (hp : p = c.ib ∨ p = c.ip)
    (hil : p < listed.size) (hr : p ∈ Region.ready .any l.toArray listed) (hs : Stays W a0 slots boxes a w) (hkn : ∀ (j s : Nat) (x : Value), (j, s, x) ∈ known → listed.getD j false = true → a.tmps[s]? = some x) (hc : c.at listed a w) (K : Act → World → Prop)
    (hK : ∀ s v w', (s = c.sb ∨ s = c.sp) → Stays W a0 slots boxes (a.put (some s) v) w' → c.at (listed.setIfInBounds p true) (a.put (some s) v) w' → (∀ e, e ≠ c.e → Keeps e w w') → K (a.put (some s) v) w') : wpOp P l.toArray Q p K a w := by
  have hun : ∀ q, q = p → listed.getD q false = false := by
    intro q hq
    subst hq
    have h := (mem_ready.1 hr).1
    simp only [Array.getD_eq_getD_getElem?] at h ⊢
    simpa [hil] using h
  rcases hp with rfl | rfl
  · obtain ⟨o, ho, hg, hd, hrun⟩ := R.build
    have ho' : l.toArray[c.ib]? = some o := by simpa using ho
    have hlt' : c.sb < a.tmps.size := by rw [hs.size]; exact hlt _ hsm.1
    have e1 := getD_set (listed := listed) (i := c.ib) (j := c.ip) hil
    have e2 := getD_set (listed := listed) (i := c.ib) (j := c.ib) hil
    rw [if_neg hne] at e1
    rw [if_pos rfl] at e2
    have hipf : listed.getD c.ip false = false := by
      cases hx : listed.getD c.ip false with
      | false => rfl
      | true =>
        have h1 := (hc.2.2 hx).1
        rw [hun c.ib rfl] at h1
        cases h1
    refine wpOp_val (o := o) ho' hg (hrun a w hs (fun j s x hm hw => hkn j s x hm (listed_of_waits hr ho' hw))) ?_
    rw [hd]
    refine hK c.sb _ _ (.inl rfl) ((hs.alloc _).put hsm.1 _) ?_ (fun e _ => Keeps.alloc e w _)
    unfold Row.at
    rw [e1, e2]
    refine ⟨fun hl => (hc.1 hl).alloc _, fun _ => ⟨w.heap.size, put_same hlt' _, fun _ => heap_new rfl⟩, fun hl => ?_⟩
    rw [hipf] at hl; cases hl
  · obtain ⟨o, ho, hg, hd, hop, hw1, hw2⟩ := R.app
    have ho' : l.toArray[c.ip]? = some o := by simpa using ho
    have hlt' : c.sp < a.tmps.size := by rw [hs.size]; exact hlt _ hsm.2
    have hipf := hun c.ip rfl
    obtain ⟨g, hgs, hgh⟩ := hc.2.1 (listed_of_waits hr ho' hw2)
    have hgh := hgh hipf
    have hown := hc.1 hipf
    have hown0 := hown
    rw [R.base] at hown
    have hsrc := hkn js src c.v R.src (listed_of_waits hr ho' hw1)
    unfold wpOp
    simp only [ho', Region.wanted, hg, if_true]
    refine .inl ?_
    refine wp_append_lies w (.tmp src) (.tmp c.sb) t hop W.heap.size c.e i z c.sz bytes R.ht R.hi R.hz R.hsize R.hby R.hzs R.hsz c.v c.n c.xs (eval_tmp hsrc) hown ⟨g, 0, none⟩ 1 1 c.news (eval_tmp hgs) (by rw [R.hnl]; omega)
      (by
        have := World.news_of_block hgh
        intro j u hu
        exact this j u (by simpa using hu)) R.h1 (by omega) R.h63 R.hbytes hs.below.size w.heap.size rfl ?_
    intro g' cap w' hown' hgrow _ _
    rw [hd]
    have e1 := getD_set (listed := listed) (i := c.ip) (j := c.ip) hil
    have e2 := getD_set (listed := listed) (i := c.ip) (j := c.ib) hil
    rw [if_pos rfl] at e1
    rw [if_neg (Ne.symm hne)] at e2
    refine hK c.sp _ w' (.inr rfl) ((hs.grown hown hgrow R.hbox).put hsm.2 _) ?_ (fun e he => Keeps.grown he hown hgrow)
    unfold Row.at
    rw [e1, e2]
    refine ⟨(fun hl => by cases hl), fun hl => ?_, fun _ => ⟨listed_of_waits hr ho' hw2, g', cap, put_same hlt' _, by rw [R.base]; exact hown'⟩⟩
    obtain ⟨g2, hg2, _⟩ := hc.2.1 hl
    exact ⟨g2, by rw [put_other (Ne.symm hns)]; exact hg2, (fun hl' => by cases hl')⟩

/-- The operations that hand back known values. -/
def KnownRuns (P : Program) (l : List Oper) (W : World) (a0 : Act) (slots : List Nat) (boxes : List (Nat × Array Value × TypeId)) (known : List (Nat × Nat × Value)) : Prop :=
  ∀ (i s : Nat) (x : Value), (i, s, x) ∈ known → ∃ o, l[i]? = some o ∧ o.guard = none ∧ o.dst = some s ∧
    ∀ (a : Act) (w : World), Stays W a0 slots boxes a w → (∀ (j s' : Nat) (x' : Value), (j, s', x') ∈ known → waits o j → a.tmps[s']? = some x') → (execOp a.eval o).run P w = .ok (.value x) w

theorem nodup_fst {known : List (Nat × Nat × Value)} : ∀ {i s s' : Nat} {x x' : Value}, (known.map (·.1)).Nodup → (i, s, x) ∈ known → (i, s', x') ∈ known → s = s' ∧ x = x' := by
  induction known with
  | nil => intro i s s' x x' _ h; cases h
  | cons y l ih =>
    intro i s s' x x' hn h h'
    simp only [List.map_cons, List.nodup_cons] at hn
    rcases List.mem_cons.1 h with k | k
    · rcases List.mem_cons.1 h' with k' | k'
      · rw [← k] at k'
        injection k' with _ k'
        injection k' with h1 h2
        exact ⟨h1.symm, h2.symm⟩
      · rw [← k] at hn
        exact absurd (List.mem_map.2 ⟨(i, s', x'), k', rfl⟩) hn.1
    · rcases List.mem_cons.1 h' with k' | k'
      · rw [← k'] at hn
        exact absurd (List.mem_map.2 ⟨(i, s, x), k, rfl⟩) hn.1
      · exact ih hn.2 k k'
theorem nodup_snd {known : List (Nat × Nat × Value)} : ∀ {i i' s : Nat} {x x' : Value}, (known.map (·.2.1)).Nodup → (i, s, x) ∈ known → (i', s, x') ∈ known → i = i' := by
  induction known with
  | nil => intro i i' s x x' _ h; cases h
  | cons y l ih =>
    intro i i' s x x' hn h h'
    simp only [List.map_cons, List.nodup_cons] at hn
    rcases List.mem_cons.1 h with k | k
    · rcases List.mem_cons.1 h' with k' | k'
      · rw [← k] at k'
        injection k' with k' _
        exact k'.symm
      · rw [← k] at hn
        exact absurd (List.mem_map.2 ⟨(i', s, x'), k', rfl⟩) hn.1
    · rcases List.mem_cons.1 h' with k' | k'
      · rw [← k'] at hn
        exact absurd (List.mem_map.2 ⟨(i, s, x), k, rfl⟩) hn.1
      · exact ih hn.2 k k'

/-- A region whose first h operations hand back known values or append to two rows, in whatever order; then the rest, one behind the other. -/
theorem two_rows {P : Program} {id : Nat} {l : List Oper} {Q : Exit → Act → World → Prop} {W : World} {a0 : Act} {w0 : World} {known : List (Nat × Nat × Value)} {boxes : List (Nat × Array Value × TypeId)} {A B : Row} {srcA srcB jsA jsB : Nat} {tA tB : TypeId} {iA iB : TypeInfo} {zA zB : Value} {bA bB h t : Nat}
    (hm : P.follows .mixedOrders = true) (hl : l.length = h + t) (hH : chkH l.toArray h = true) (hTl : chkT l.toArray h t = true)
    (hseq : Region.seqB .any l.toArray t h (List.replicate h true ++ List.replicate t false).toArray = true)
    (hne : A.e ≠ B.e) (hidx : (known.map (·.1) ++ [A.ib, A.ip, B.ib, B.ip]).Nodup) (hall : ∀ i, i < h → i ∈ known.map (·.1) ++ [A.ib, A.ip, B.ib, B.ip])
    (hsl : (known.map (·.2.1) ++ [A.sb, A.sp, B.sb, B.sp]).Nodup) (hlt : ∀ s ∈ known.map (·.2.1) ++ [A.sb, A.sp, B.sb, B.sp], s < a0.tmps.size)
    (hin : ∀ i ∈ known.map (·.1) ++ [A.ib, A.ip, B.ib, B.ip], i < h)
    (RK : KnownRuns P l W a0 (known.map (·.2.1) ++ [A.sb, A.sp, B.sb, B.sp]) boxes known)
    (RA : A.Runs P l W a0 (known.map (·.2.1) ++ [A.sb, A.sp, B.sb, B.sp]) boxes known srcA jsA tA iA zA bA) (RB : B.Runs P l W a0 (known.map (·.2.1) ++ [A.sb, A.sp, B.sb, B.sp]) boxes known srcB jsB tB iB zB bB)
    (hb : Below W.heap.size W w0) (hbx : ∀ g cs t, (g, cs, t) ∈ boxes → w0.heap[g]? = some (.cells cs t (0, 0)))
    (oA : w0.ownsRow A.base A.e A.sz A.v A.n A.xs) (oB : w0.ownsRow B.base B.e B.sz B.v B.n B.xs)
    (hT : ∀ w x1 g1 c1 x2 g2 c2, Below W.heap.size W w → (∀ g cs t, (g, cs, t) ∈ boxes → w.heap[g]? = some (.cells cs t (0, 0))) →
      w.ownsRow A.base A.e A.sz (.slice (some ⟨g1, 0, none⟩) (A.n + 1) c1) (A.n + 1) (A.xs ++ A.news) → w.ownsRow B.base B.e B.sz (.slice (some ⟨g2, 0, none⟩) (B.n + 1) c2) (B.n + 1) (B.xs ++ B.news) →
      wpList P l.toArray Q (l.drop h) (puts (known.map (·.2) ++ [(A.sb, x1), (A.sp, .slice (some ⟨g1, 0, none⟩) (A.n + 1) c1), (B.sb, x2), (B.sp, .slice (some ⟨g2, 0, none⟩) (B.n + 1) c2)]) a0) w) :
    (Code.region id l.toArray true).wp P Q a0 w0 := by
  have hnk := (List.nodup_append.1 hidx).1
  have hnks := (List.nodup_append.1 hsl).1
  have hn4 := (List.nodup_append.1 hidx).2.1
  have hns4 := (List.nodup_append.1 hsl).2.1
  have hx := (List.nodup_append.1 hidx).2.2
  have hxs := (List.nodup_append.1 hsl).2.2
  simp only [List.nodup_cons, List.mem_cons, List.not_mem_nil, or_false, not_or] at hn4 hns4
  obtain ⟨⟨n1, n2, n3⟩, ⟨n4, n5⟩, n6, _⟩ := hn4
  obtain ⟨⟨m1, m2, m3⟩, ⟨m4, m5⟩, m6, _⟩ := hns4
  refine wp_any_order (h := h) (t := t) hm hl hH hTl hseq
    (fun listed a w => Stays W a0 (known.map (·.2.1) ++ [A.sb, A.sp, B.sb, B.sp]) boxes a w ∧ (∀ (j s : Nat) (x : Value), (j, s, x) ∈ known → listed.getD j false = true → a.tmps[s]? = some x) ∧ A.at listed a w ∧ B.at listed a w) ?_ ?_ ?_
  · rintro listed a w i ⟨hs, hk, ha, hb'⟩ hsz hih hr
    have hil : i < listed.size := by omega
    have keepK : ∀ (s : Nat) (v : Value), (∀ s' ∈ known.map (·.2.1), s ≠ s') → i ∉ known.map (·.1) → ∀ (j s' : Nat) (x : Value), (j, s', x) ∈ known → (listed.setIfInBounds i true).getD j false = true → (a.put (some s) v).tmps[s']? = some x := by
      intro s v hss hik j s' x hm' hl'
      rw [getD_set hil, if_neg (by intro he; subst he; exact hik (List.mem_map.2 ⟨_, hm', rfl⟩))] at hl'
      rw [put_other (hss s' (List.mem_map.2 ⟨_, hm', rfl⟩))]
      exact hk j s' x hm' hl'
    rcases List.mem_append.1 (hall i hih) with hik | hik
    · obtain ⟨⟨i', s, x⟩, hm', rfl⟩ := List.mem_map.1 hik
      obtain ⟨o, ho, hg, hd, hrun⟩ := RK i' s x hm'
      have ho' : l.toArray[i']? = some o := by simpa using ho
      have hsk : s ∈ known.map (·.2.1) := List.mem_map.2 ⟨_, hm', rfl⟩
      have hsm : s ∈ known.map (·.2.1) ++ [A.sb, A.sp, B.sb, B.sp] := List.mem_append.2 (.inl hsk)
      have hlt' : s < a.tmps.size := by rw [hs.size]; exact hlt s hsm
      refine wpOp_val (o := o) ho' hg (hrun a w hs (fun j s' x' hm2 hw => hk j s' x' hm2 (listed_of_waits hr ho' hw))) ?_
      rw [hd]
      refine ⟨hs.put hsm x, fun j s' x' hm2 hl' => ?_, Row.other ha hil (hx _ hik _ (by simp)) (hx _ hik _ (by simp)) (hxs _ hsk _ (by simp)) (hxs _ hsk _ (by simp)) x (Keeps.refl _ _), Row.other hb' hil (hx _ hik _ (by simp)) (hx _ hik _ (by simp)) (hxs _ hsk _ (by simp)) (hxs _ hsk _ (by simp)) x (Keeps.refl _ _)⟩
      by_cases hj : i' = j
      · subst hj
        obtain ⟨rfl, rfl⟩ := nodup_fst hnk hm' hm2
        exact put_same hlt' _
      · rw [getD_set hil, if_neg hj] at hl'
        have hne' : s ≠ s' := by
          intro he
          subst he
          exact hj (nodup_snd hnks hm' hm2)
        rw [put_other hne']
        exact hk j s' x' hm2 hl'
    · have hik' : i ∉ known.map (·.1) := fun hmm => hx i hmm i hik rfl
      simp only [List.mem_cons, List.not_mem_nil, or_false] at hik
      have split : (i = A.ib ∨ i = A.ip) ∨ (i = B.ib ∨ i = B.ip) := by rcases hik with h | h | h | h <;> simp [h]
      rcases split with hi | hi
      · refine Row.step (Q := Q) RA ⟨by simp, by simp⟩ hlt n1 m1 hi hil hr hs hk ha _ (fun s v w' hsv hs' ha' hkk => ⟨hs', ?_, ha', ?_⟩)
        · exact keepK s v (fun s' hs'' he => by subst he; rcases hsv with rfl | rfl <;> exact hxs _ hs'' _ (by simp) rfl) hik'
        · refine Row.other hb' hil ?_ ?_ ?_ ?_ v (hkk _ (Ne.symm hne))
          · rcases hi with rfl | rfl <;> assumption
          · rcases hi with rfl | rfl <;> assumption
          · rcases hsv with rfl | rfl <;> assumption
          · rcases hsv with rfl | rfl <;> assumption
      · refine Row.step (Q := Q) RB ⟨by simp, by simp⟩ hlt n6 m6 hi hil hr hs hk hb' _ (fun s v w' hsv hs' hb'' hkk => ⟨hs', ?_, ?_, hb''⟩)
        · exact keepK s v (fun s' hs'' he => by subst he; rcases hsv with rfl | rfl <;> exact hxs _ hs'' _ (by simp) rfl) hik'
        · refine Row.other ha hil ?_ ?_ ?_ ?_ v (hkk _ hne)
          · rcases hi with rfl | rfl <;> exact Ne.symm (by assumption)
          · rcases hi with rfl | rfl <;> exact Ne.symm (by assumption)
          · rcases hsv with rfl | rfl <;> exact Ne.symm (by assumption)
          · rcases hsv with rfl | rfl <;> exact Ne.symm (by assumption)
  · have hz : ∀ j, (Array.replicate (h + t) false).getD j false = false := by
      intro j
      simp [Array.getD_eq_getD_getElem?, Array.getElem?_replicate]
      split <;> simp
    refine ⟨⟨rfl, rfl, fun _ _ => rfl, hb.drew, hbx⟩, fun j s x _ hl' => ?_, ⟨fun _ => oA, fun hl' => ?_, fun hl' => ?_⟩, ⟨fun _ => oB, fun hl' => ?_, fun hl' => ?_⟩⟩ <;> rw [hz] at hl' <;> cases hl'
  · rintro listed a w ⟨hs, hk, ⟨_, a2, a3⟩, ⟨_, b2, b3⟩⟩ hdone
    obtain ⟨g0, hx1, _⟩ := a2 (hdone _ (hin _ (by simp)))
    obtain ⟨_, g1, c1, hg1, ho1⟩ := a3 (hdone _ (hin _ (by simp)))
    obtain ⟨g3, hx2, _⟩ := b2 (hdone _ (hin _ (by simp)))
    obtain ⟨_, g2, c2, hg2, ho2⟩ := b3 (hdone _ (hin _ (by simp)))
    have e : a = puts (known.map (·.2) ++ [(A.sb, .slice (some ⟨g0, 0, none⟩) 1 1), (A.sp, .slice (some ⟨g1, 0, none⟩) (A.n + 1) c1), (B.sb, .slice (some ⟨g3, 0, none⟩) 1 1), (B.sp, .slice (some ⟨g2, 0, none⟩) (B.n + 1) c2)]) a0 := by
      have hmap : (known.map (·.2) ++ [(A.sb, Value.slice (some ⟨g0, 0, none⟩) 1 1), (A.sp, .slice (some ⟨g1, 0, none⟩) (A.n + 1) c1), (B.sb, .slice (some ⟨g3, 0, none⟩) 1 1), (B.sp, .slice (some ⟨g2, 0, none⟩) (B.n + 1) c2)]).map (·.1) = known.map (·.2.1) ++ [A.sb, A.sp, B.sb, B.sp] := by
        rw [List.map_append, List.map_map]; rfl
      refine act_eq hs.size hs.defers ?_ ?_ ?_ ?_
      · rw [hmap]; exact hs.out
      · rw [hmap]; exact hsl
      · rw [hmap]; exact hlt
      · intro s v hsv
        rcases List.mem_append.1 hsv with hh | hh
        · obtain ⟨⟨j, s', x⟩, hm', hh⟩ := List.mem_map.1 hh
          injection hh with e1 e2
          subst e1; subst e2
          exact hk j s' x hm' (hdone _ (hin _ (List.mem_append.2 (.inl (List.mem_map.2 ⟨_, hm', rfl⟩)))))
        · simp only [List.mem_cons, List.not_mem_nil, or_false, Prod.mk.injEq] at hh
          rcases hh with ⟨rfl, rfl⟩ | ⟨rfl, rfl⟩ | ⟨rfl, rfl⟩ | ⟨rfl, rfl⟩
          · exact hx1
          · exact hg1
          · exact hx2
          · exact hg2
    rw [e]
    exact hT w _ g1 c1 _ g2 c2 hs.below hs.boxes ho1 ho2
theorem run_move {P : Program} {a : Act} {w : World} {x : Operand} {v : Value} {d : Option Tmp} {ty : TypeId} {pos : String} {af : Array Edge} {g : Option (Nat × Bool)} (h : a.eval x = v) :
    (execOp a.eval { dst := d, op := .move x, type := ty, pos := pos, after := af, guard := g }).run P w = .ok (.value v) w := by
  subst h; rfl
theorem run_load {P : Program} {a : Act} {w : World} {x : Operand} {v q : Value} {d : Option Tmp} {ty T : TypeId} {pos : String} {af : Array Edge} {g : Option (Nat × Bool)} (h : a.eval x = q) (hl : (Instr.loadAt T q).run P w = .ok v w) :
    (execOp a.eval { dst := d, op := .load T x, type := ty, pos := pos, after := af, guard := g }).run P w = .ok (.value v) w := by
  subst h
  simp only [execOp, Sem.run_bind, hl]
  rfl
theorem run_build {P : Program} {a : Act} {w w' : World} {x : Operand} {v q : Value} {d : Option Tmp} {ty T : TypeId} {pos : String} {af : Array Edge} {g : Option (Nat × Bool)} (h : a.eval x = q) (hl : (Instr.buildSlice T 1 #[(0, q)]).run P w = .ok v w') :
    (execOp a.eval { dst := d, op := .buildSlice T 1 #[(0, x)], type := ty, pos := pos, after := af, guard := g }).run P w = .ok (.value v) w' := by
  subst h
  simp only [execOp, Sem.run_bind]
  have e : Array.map (fun x => (x.1, a.eval x.2)) #[(0, x)] = #[(0, a.eval x)] := by simp
  rw [e, hl]
  rfl
end Go.Proofs.YtcojnojdgigmdaaDoor.Reg
/- A region that draws its order: of each operation is said what holds of the value that it hands back, until a later one uses that up; whatever the order, it holds at the end. By an invariant. No program in sight. -/
namespace Go.Proofs.YtcojnojdgigmdaaDoor.Reg
open Go Go.RowKit Go.Proofs.YtcojnojdgigmdaaDoor.Mem

/-- An operation's place; the slot that it writes; the types of the memory that its fact speaks of; which operation uses the fact up (none: a great number); which ones it stands behind; the type of the memory that it turns; the fact. -/
structure Fact where
  op : Nat
  slot : Nat
  tys : List TypeId
  til : Nat
  pre : List Nat
  uses : Option TypeId
  F : Value → World → Prop

def waitsB (l : List Oper) (i j : Nat) : Bool := match l[i]? with
  | some o => o.after.any fun e => Region.binds .any e && decide (e.on = j)
  | none => false
theorem listed_of_waitsB {l : List Oper} {listed : Array Bool} {i j : Nat} (hr : i ∈ Region.ready .any l.toArray listed) (h : waitsB l i j = true) : listed.getD j false = true := by
  unfold waitsB at h
  split at h
  · rename_i o ho
    exact listed_of_waits (o := o) hr (by simpa using ho) (waits_of h)
  · cases h
/-- What is asked of the facts' numbers. -/
def okFacts (l : List Oper) (facts : List Fact) : Bool :=
  (facts.all fun f => facts.all fun g => decide (g.op = f.op) || (match f.uses with | none => true | some e => !g.tys.contains e) || decide (g.til = f.op) || g.pre.contains f.op) &&
  (facts.all fun f => f.pre.all fun j => waitsB l f.op j) && facts.all fun f => decide (f.til ≠ f.op)
/-- What the facts say, so far. -/
def Holds (W : World) (a0 : Act) (facts : List Fact) (listed : Array Bool) (a : Act) (w : World) : Prop :=
  Stays W a0 (facts.map (·.slot)) [] a w ∧ ∀ f ∈ facts, listed.getD f.op false = true → (∀ j ∈ f.pre, listed.getD j false = true) ∧ (listed.getD f.til false = false → ∃ v, a.tmps[f.slot]? = some v ∧ f.F v w)

theorem nodup_map {α : Type} {fn : α → Nat} {l : List α} : ∀ {x y : α}, (l.map fn).Nodup → x ∈ l → y ∈ l → fn x = fn y → x = y := by
  induction l with
  | nil => intro x y _ h; cases h
  | cons z l ih =>
    intro x y hn hx hy he
    simp only [List.map_cons, List.nodup_cons] at hn
    rcases List.mem_cons.1 hx with ex | hx
    · rcases List.mem_cons.1 hy with ey | hy
      · rw [ex, ey]
      · exact absurd (List.mem_map.2 ⟨y, hy, by rw [← he, ex]⟩) hn.1
    · rcases List.mem_cons.1 hy with ey | hy
      · exact absurd (List.mem_map.2 ⟨x, hx, by rw [he, ey]⟩) hn.1
      · exact ih hn.2 hx hy he

/-- See the head. -/
theorem facts_order {P : Program} {id : Nat} {l : List Oper} {Q : Exit → Act → World → Prop} {W : World} {a0 : Act} {w0 : World} (facts : List Fact) {h t : Nat}
    (hm : P.follows .mixedOrders = true) (hl : l.length = h + t) (hH : chkH l.toArray h = true) (hTl : chkT l.toArray h t = true)
    (hseq : Region.seqB .any l.toArray t h (List.replicate h true ++ List.replicate t false).toArray = true)
    (hops : (facts.map (·.op)).Nodup) (hall : ∀ i, i < h → i ∈ facts.map (·.op)) (hin : ∀ f ∈ facts, f.op < h) (hsl : (facts.map (·.slot)).Nodup) (hlt : ∀ s ∈ facts.map (·.slot), s < a0.tmps.size)
    (hok : okFacts l facts = true)
    (hkeep : ∀ f ∈ facts, ∀ v w w', (∀ e ∈ f.tys, Keeps e w w') → f.F v w → f.F v w')
    (hbel : Below W.heap.size W w0)
    (hS : ∀ f ∈ facts, ∀ a w, Stays W a0 (facts.map (·.slot)) [] a w → (∀ g ∈ facts, waitsB l f.op g.op = true → g.til = f.op ∨ h + t ≤ g.til → ∃ v, a.tmps[g.slot]? = some v ∧ g.F v w) →
      ∀ K : Act → World → Prop, (∀ v w', f.F v w' → Below W.heap.size W w' → (∀ e, f.uses ≠ some e → Keeps e w w') → K (a.put (some f.slot) v) w') → wpOp P l.toArray Q f.op K a w)
    (hT : ∀ (vals : Nat → Value) w, (∀ f ∈ facts, h + t ≤ f.til → f.F (vals f.slot) w) → Below W.heap.size W w → wpList P l.toArray Q (l.drop h) (puts (facts.map fun f => (f.slot, vals f.slot)) a0) w) :
    (Code.region id l.toArray true).wp P Q a0 w0 := by
  unfold okFacts at hok
  simp only [Bool.and_eq_true] at hok
  obtain ⟨⟨hok1, hok2⟩, hok3⟩ := hok
  have big : ∀ (listed : Array Bool) n, listed.size = h + t → h + t ≤ n → listed.getD n false = false := by
    intro listed n hs hn
    rw [Array.getD_eq_getD_getElem?, Array.getElem?_eq_none (by omega)]; rfl
  refine wp_any_order hm hl hH hTl hseq (fun listed a w => listed.size = h + t ∧ Holds W a0 facts listed a w) ?_ ?_ ?_
  · intro listed a w i ⟨hls, hst, hf⟩ _ hih hr
    obtain ⟨f, hfm, rfl⟩ := List.mem_map.1 (hall i hih)
    have hun : listed.getD f.op false = false := by
      have h := (mem_ready.1 hr).1
      have hil : f.op < listed.size := by omega
      simp only [Array.getD_eq_getD_getElem?] at h ⊢
      simpa [hil] using h
    refine hS f hfm a w hst (fun g hg hw htil => ?_) _ fun v w' hv hb hk => ?_
    · have hlg := listed_of_waitsB hr hw
      refine (hf g hg hlg).2 ?_
      rcases htil with e | e
      · rw [e]; exact hun
      · exact big _ _ hls e
    · have hil : f.op < listed.size := by omega
      refine ⟨by simpa using hls, ⟨?_, ?_⟩⟩
      · exact (Stays.put (⟨hst.size, hst.defers, hst.out, hb, fun g cs t hm => by cases hm⟩ : Stays W a0 (facts.map (·.slot)) [] a w') (List.mem_map.2 ⟨f, hfm, rfl⟩) v)
      · intro g hg hlg
        rw [getD_set hil] at hlg
        have mono : ∀ j, listed.getD j false = true → (listed.setIfInBounds f.op true).getD j false = true := by
          intro j hj
          rw [getD_set hil]; split
          · rfl
          · exact hj
        by_cases he : f.op = g.op
        · obtain rfl := nodup_map hops hfm hg he
          refine ⟨fun j hj => mono j (listed_of_waitsB hr ?_), fun _ => ⟨v, put_same (by rw [hst.size]; exact hlt _ (List.mem_map.2 ⟨f, hfm, rfl⟩)) v, hv⟩⟩
          exact List.all_eq_true.1 (List.all_eq_true.1 hok2 f hfm) j hj
        · rw [if_neg he] at hlg
          obtain ⟨h1, h2⟩ := hf g hg hlg
          refine ⟨fun j hj => mono j (h1 j hj), fun htl => ?_⟩
          rw [getD_set hil] at htl
          by_cases hte : f.op = g.til
          · rw [if_pos hte] at htl; cases htl
          · rw [if_neg hte] at htl
            obtain ⟨u, hu, hF⟩ := h2 htl
            refine ⟨u, by rw [put_other (fun e => he (by rw [nodup_map hsl hfm hg e]))]; exact hu, hkeep g hg u w w' (fun e he' => hk e fun hus => ?_) hF⟩
            have hc := List.all_eq_true.1 (List.all_eq_true.1 hok1 f hfm) g hg
            rw [hus] at hc
            simp only [Bool.or_eq_true, decide_eq_true_eq, Bool.not_eq_true', List.contains_iff_mem] at hc
            rcases hc with ((hc | hc) | hc) | hc
            · exact he hc.symm
            · have := List.contains_iff_mem.2 he'
              rw [hc] at this; cases this
            · exact hte hc.symm
            · have := h1 _ hc
              rw [hun] at this; cases this
  · refine ⟨by simp, ⟨rfl, rfl, fun _ _ => rfl, hbel.drew, fun g cs t hm => by cases hm⟩, fun f hf hlf => ?_⟩
    have : (Array.replicate (h + t) false).getD f.op false = false := by simp [Array.getD_eq_getD_getElem?, Array.getElem?_replicate]; split <;> simp
    rw [this] at hlf; cases hlf
  · intro listed a w ⟨hls, hst, hf⟩ hli
    have e : a = puts (facts.map fun f => (f.slot, (a.tmps[f.slot]?).getD undef)) a0 := by
      refine act_eq hst.size hst.defers (fun s hs => hst.out s (by simpa [List.map_map, Function.comp_def] using hs)) (by simpa [List.map_map, Function.comp_def] using hsl) (by simpa [List.map_map, Function.comp_def] using hlt) ?_
      intro s v hm
      obtain ⟨f, hfm, e⟩ := List.mem_map.1 hm
      injection e with e1 e2
      subst e1 e2
      have : f.slot < a.tmps.size := by rw [hst.size]; exact hlt _ (List.mem_map.2 ⟨f, hfm, rfl⟩)
      simp [this]
    have := hT (fun s => (a.tmps[s]?).getD undef) w (fun f hfm htl => ?_) hst.below
    · rw [← e] at this
      exact this
    · obtain ⟨v, hv, hF⟩ := (hf f hfm (hli _ (hin f hfm))).2 (big _ _ hls htl)
      show f.F ((a.tmps[f.slot]?).getD undef) w
      rw [hv]; exact hF

/-- Does number i stand behind number j? -/
def bef (l : List Oper) (i j : Nat) : Bool := (clos l.toArray 4 (preds l.toArray i)).contains j
def okTil (l : List Oper) (i til m : Nat) : Bool := decide (til = i) || decide (m ≤ til) || bef l til i
/-- What holds of memory from the start on, until an operation uses it up. -/
structure Stand where
  tys : List TypeId
  til : Nat
  G : World → Prop
/-- What is asked of the numbers. -/
def okStand (l : List Oper) (facts : List Fact) (stands : List Stand) : Bool :=
  (facts.all fun f => facts.all fun g => decide (g.op = f.op) || (match f.uses with | none => true | some e => !g.tys.contains e) || decide (g.til = f.op) || bef l g.op f.op) &&
  (facts.all fun f => stands.all fun g => (match f.uses with | none => true | some e => !g.tys.contains e) || decide (g.til = f.op) || bef l f.op g.til)
theorem mem_preds {l : List Oper} {listed : Array Bool} {i : Nat} (hr : i ∈ Region.ready .any l.toArray listed) : ∀ j ∈ preds l.toArray i, listed.getD j false = true := by
  intro j hj
  obtain ⟨_, o, ho, hall⟩ := mem_ready.1 hr
  obtain ⟨e, he, hb, rfl⟩ := preds_of ho hj
  exact hall e he hb
/-- A region that draws its order, with facts of memory that hold from the start on. -/
theorem stand_order {P : Program} {id : Nat} {l : List Oper} {Q : Exit → Act → World → Prop} {W : World} {a0 : Act} {w0 : World} (facts : List Fact) (stands : List Stand) {h t : Nat}
    (hm : P.follows .mixedOrders = true) (hl : l.length = h + t) (hH : chkH l.toArray h = true) (hTl : chkT l.toArray h t = true)
    (hseq : Region.seqB .any l.toArray t h (List.replicate h true ++ List.replicate t false).toArray = true)
    (hops : (facts.map (·.op)).Nodup) (hall : ∀ i, i < h → i ∈ facts.map (·.op)) (hin : ∀ f ∈ facts, f.op < h) (hsl : (facts.map (·.slot)).Nodup) (hlt : ∀ s ∈ facts.map (·.slot), s < a0.tmps.size)
    (hok : okStand l facts stands = true)
    (hkeep : ∀ f ∈ facts, ∀ v w w', (∀ e ∈ f.tys, Keeps e w w') → f.F v w → f.F v w')
    (hkeepG : ∀ f ∈ stands, ∀ w w', (∀ e ∈ f.tys, Keeps e w w') → f.G w → f.G w')
    (hbel : Below W.heap.size W w0) (hst0 : ∀ f ∈ stands, f.G w0.drew)
    (hS : ∀ f ∈ facts, ∀ a w, Stays W a0 (facts.map (·.slot)) [] a w → (∀ g ∈ facts, bef l f.op g.op = true → okTil l f.op g.til (h + t) = true → ∃ v, a.tmps[g.slot]? = some v ∧ g.F v w) → (∀ g ∈ stands, okTil l f.op g.til (h + t) = true → g.G w) →
      ∀ K : Act → World → Prop, (∀ v w', f.F v w' → Below W.heap.size W w' → (∀ e, f.uses ≠ some e → Keeps e w w') → K (a.put (some f.slot) v) w') → wpOp P l.toArray Q f.op K a w)
    (hT : ∀ (vals : Nat → Value) w, (∀ f ∈ facts, h + t ≤ f.til → f.F (vals f.slot) w) → (∀ f ∈ stands, h + t ≤ f.til → f.G w) → Below W.heap.size W w → wpList P l.toArray Q (l.drop h) (puts (facts.map fun f => (f.slot, vals f.slot)) a0) w) :
    (Code.region id l.toArray true).wp P Q a0 w0 := by
  unfold okStand at hok
  simp only [Bool.and_eq_true] at hok
  obtain ⟨hok1, hok2⟩ := hok
  have big : ∀ (listed : Array Bool) n, listed.size = h + t → h + t ≤ n → listed.getD n false = false := by
    intro listed n hs hn
    rw [Array.getD_eq_getD_getElem?, Array.getElem?_eq_none (by omega)]; rfl
  refine wp_any_order hm hl hH hTl hseq (fun listed a w => listed.size = h + t ∧ Stays W a0 (facts.map (·.slot)) [] a w ∧ (∀ i, listed.getD i false = true → ∀ j ∈ preds l.toArray i, listed.getD j false = true) ∧
    (∀ f ∈ facts, listed.getD f.op false = true → listed.getD f.til false = false → ∃ v, a.tmps[f.slot]? = some v ∧ f.F v w) ∧ ∀ f ∈ stands, listed.getD f.til false = false → f.G w) ?_ ?_ ?_
  · intro listed a w i ⟨hls, hst, hcl, hf, hg0⟩ _ hih hr
    obtain ⟨f, hfm, rfl⟩ := List.mem_map.1 (hall i hih)
    have hil : f.op < listed.size := by omega
    have hun : listed.getD f.op false = false := by
      have h := (mem_ready.1 hr).1
      simp only [Array.getD_eq_getD_getElem?] at h ⊢
      simpa [hil] using h
    have notl : ∀ n, bef l n f.op = true → listed.getD n false = false := by
      intro n hn
      cases hx : listed.getD n false with
      | false => rfl
      | true =>
        have := clos_listed hcl 4 _ (hcl n hx) f.op (List.contains_iff_mem.1 hn)
        rw [hun] at this; cases this
    have til : ∀ n, okTil l f.op n (h + t) = true → listed.getD n false = false := by
      intro n hn
      unfold okTil at hn
      simp only [Bool.or_eq_true, decide_eq_true_eq] at hn
      rcases hn with (e | e) | e
      · rw [e]; exact hun
      · exact big _ _ hls e
      · exact notl n e
    refine hS f hfm a w hst (fun g hg hw htil => hf g hg (clos_listed hcl 4 _ (mem_preds hr) g.op (List.contains_iff_mem.1 hw)) (til _ htil)) (fun g hg htil => hg0 g hg (til _ htil)) _ fun v w' hv hb hk => ?_
    have mono : ∀ j, listed.getD j false = true → (listed.setIfInBounds f.op true).getD j false = true := by
      intro j hj
      rw [getD_set hil]; split
      · rfl
      · exact hj
    refine ⟨by simpa using hls, ?_, ?_, ?_, ?_⟩
    · exact (Stays.put (⟨hst.size, hst.defers, hst.out, hb, fun g cs t hm => by cases hm⟩ : Stays W a0 (facts.map (·.slot)) [] a w') (List.mem_map.2 ⟨f, hfm, rfl⟩) v)
    · intro i hi j hj
      rw [getD_set hil] at hi
      by_cases hif : f.op = i
      · subst hif
        exact mono j (mem_preds hr j hj)
      · rw [if_neg hif] at hi
        exact mono j (hcl i hi j hj)
    · intro g hg hlg htl
      rw [getD_set hil] at hlg htl
      by_cases he : f.op = g.op
      · obtain rfl := nodup_map hops hfm hg he
        exact ⟨v, put_same (by rw [hst.size]; exact hlt _ (List.mem_map.2 ⟨f, hfm, rfl⟩)) v, hv⟩
      · rw [if_neg he] at hlg
        by_cases hte : f.op = g.til
        · rw [if_pos hte] at htl; cases htl
        · rw [if_neg hte] at htl
          obtain ⟨u, hu, hF⟩ := hf g hg hlg htl
          refine ⟨u, by rw [put_other (fun e => he (by rw [nodup_map hsl hfm hg e]))]; exact hu, hkeep g hg u w w' (fun e he' => hk e fun hus => ?_) hF⟩
          have hc := List.all_eq_true.1 (List.all_eq_true.1 hok1 f hfm) g hg
          rw [hus] at hc
          simp only [Bool.or_eq_true, decide_eq_true_eq, Bool.not_eq_true'] at hc
          rcases hc with ((hc | hc) | hc) | hc
          · exact he hc.symm
          · have := List.contains_iff_mem.2 he'
            rw [hc] at this; cases this
          · exact hte hc.symm
          · have := notl _ hc
            rw [hlg] at this; cases this
    · intro g hg htl
      rw [getD_set hil] at htl
      by_cases hte : f.op = g.til
      · rw [if_pos hte] at htl; cases htl
      · rw [if_neg hte] at htl
        refine hkeepG g hg w w' (fun e he' => hk e fun hus => ?_) (hg0 g hg htl)
        have hc := List.all_eq_true.1 (List.all_eq_true.1 hok2 f hfm) g hg
        rw [hus] at hc
        simp only [Bool.or_eq_true, decide_eq_true_eq, Bool.not_eq_true'] at hc
        rcases hc with (hc | hc) | hc
        · have := List.contains_iff_mem.2 he'
          rw [hc] at this; cases this
        · exact hte hc.symm
        · have := clos_listed hcl 4 _ (mem_preds hr) g.til (List.contains_iff_mem.1 hc)
          rw [htl] at this; cases this
  · have hz : ∀ n, (Array.replicate (h + t) false).getD n false = false := by
      intro n
      simp [Array.getD_eq_getD_getElem?, Array.getElem?_replicate]; split <;> simp
    refine ⟨by simp, ⟨rfl, rfl, fun _ _ => rfl, hbel.drew, fun g cs t hm => by cases hm⟩, fun i hi => ?_, fun f hf hlf => ?_, fun f hf _ => hst0 f hf⟩
    · rw [hz] at hi; cases hi
    · rw [hz] at hlf; cases hlf
  · intro listed a w ⟨hls, hst, _, hf, hg0⟩ hli
    have e : a = puts (facts.map fun f => (f.slot, (a.tmps[f.slot]?).getD undef)) a0 := by
      refine act_eq hst.size hst.defers (fun s hs => hst.out s (by simpa [List.map_map, Function.comp_def] using hs)) (by simpa [List.map_map, Function.comp_def] using hsl) (by simpa [List.map_map, Function.comp_def] using hlt) ?_
      intro s v hm
      obtain ⟨f, hfm, e⟩ := List.mem_map.1 hm
      injection e with e1 e2
      subst e1 e2
      have : f.slot < a.tmps.size := by rw [hst.size]; exact hlt _ (List.mem_map.2 ⟨f, hfm, rfl⟩)
      simp [this]
    have := hT (fun s => (a.tmps[s]?).getD undef) w (fun f hfm htl => ?_) (fun f hfm htl => hg0 f hfm (big _ _ hls htl)) hst.below
    · rw [← e] at this
      exact this
    · obtain ⟨v, hv, hF⟩ := hf f hfm (hli _ (hin f hfm)) (big _ _ hls htl)
      show f.F ((a.tmps[f.slot]?).getD undef) w
      rw [hv]; exact hF

theorem Keeps.below (e : TypeId) {w w' : World} (h : Below w.heap.size w w') : Keeps e w w' :=
  ⟨fun _ _ _ _ _ ho => own_below ho h, fun g _ hh => (h.block g (heap_lt hh)).trans hh⟩
/-- An operation that hands back a value, and turns nothing that was there. -/
theorem step_val {P : Program} {l : List Oper} {Q : Exit → Act → World → Prop} {W : World} {i s : Nat} {uses : Option TypeId} {F : Value → World → Prop} {a : Act} {w w' : World} {o : Oper} {v : Value}
    (ho : l[i]? = some o) (hg : o.guard = none) (hd : o.dst = some s) (hr : (execOp a.eval o).run P w = .ok (.value v) w') (hF : F v w') (hb : Below W.heap.size W w') (hk : ∀ e, Keeps e w w') :
    ∀ K : Act → World → Prop, (∀ v w', F v w' → Below W.heap.size W w' → (∀ e, uses ≠ some e → Keeps e w w') → K (a.put (some s) v) w') → wpOp P l.toArray Q i K a w := by
  intro K hK
  refine wpOp_val (o := o) (by simpa using ho) hg hr ?_
  rw [hd]
  exact hK v w' hF hb fun e _ => hk e
/-- A call that turns nothing that was there. -/
theorem step_call {P : Program} {l : List Oper} {Q : Exit → Act → World → Prop} {W : World} {i s : Nat} {uses : Option TypeId} {F : Value → World → Prop} {a : Act} {w : World} {o : Oper} {f : FuncId} {args : Array Value}
    (ho : l[i]? = some o) (hg : o.guard = none) (hd : o.dst = some s) (hr : (execOp a.eval o).run P w = .ok (.enter f args) w) (hbw : Below W.heap.size W w)
    (hc : Calls P f args w fun e w' => ∃ v, e = .returned v ∧ F v w' ∧ Below w.heap.size w w') :
    ∀ K : Act → World → Prop, (∀ v w', F v w' → Below W.heap.size W w' → (∀ e, uses ≠ some e → Keeps e w w') → K (a.put (some s) v) w') → wpOp P l.toArray Q i K a w := by
  intro K hK
  refine Ord.wpOp_enter (o := o) (by simpa using ho) hg hr (hc.mono ?_)
  rintro e w' ⟨v, rfl, hF, hb⟩
  show K (a.put o.dst v) w'
  rw [hd]
  exact hK v w' hF (hbw.trans (hb.mono hbw.size)) fun e _ => Keeps.below e hb
/-- An append to a row of the call's own, of what lies in a known place. -/
theorem step_append {P : Program} {l : List Oper} {Q : Exit → Act → World → Prop} {W : World} {i s src sx : Nat} {F : Value → World → Prop} {a : Act} {w : World} {o : Oper} {e : TypeId} {t : TypeId} {ti : TypeInfo} {z : Value} {sz bytes n m c : Nat} {v : Value} {xs news : List Value} {ad : Addr}
    (ho : l[i]? = some o) (hg : o.guard = none) (hd : o.dst = some s) (hop : o.op = .call { callee := .builtin .append, args := #[.tmp src, .tmp sx], argTypes := #[t, t] })
    (hbw : Below W.heap.size W w) (ht : P.underlying t = some (.slice e)) (hi : P.info? e = some ti) (hz : ti.zero = some z) (hsize : ti.size = sz) (hby : ti.bytes = bytes) (hzs : z.cells.size = sz) (hsz : 0 < sz)
    (hs : a.tmps[src]? = some v) (hown : w.ownsRow W.heap.size e sz v n xs) (hx : a.tmps[sx]? = some (.slice (some ad) m c)) (hl : news.length = m * sz) (hnews : ∀ j u, news[j]? = some u → w.cell? (ad.add j) = some u) (h1 : ∀ u ∈ news, u.oneCell' = true)
    (hm : 0 < m) (h63 : n + m ≤ maxLen) (hbytes : (n + m) * bytes ≤ 140737488355328)
    (hF : ∀ v' w', w'.ownsRow W.heap.size e sz v' (n + m) (xs ++ news) → F v' w') :
    ∀ K : Act → World → Prop, (∀ v w', F v w' → Below W.heap.size W w' → (∀ e', some e ≠ some e' → Keeps e' w w') → K (a.put (some s) v) w') → wpOp P l.toArray Q i K a w := by
  intro K hK
  unfold wpOp
  have ho' : l.toArray[i]? = some o := by simpa using ho
  simp only [ho', Region.wanted, hg, if_true]
  refine .inl ?_
  refine wp_append_lies w (.tmp src) (.tmp sx) t hop W.heap.size e ti z sz bytes ht hi hz hsize hby hzs hsz v n xs (eval_tmp hs) hown ad m c news (eval_tmp hx) hl hnews h1 hm h63 hbytes hbw.size w.heap.size rfl ?_
  intro g' cap w' hown' hgrow _ _
  rw [hd]
  exact hK _ w' (hF _ _ hown') (below_grown0 hbw hown hgrow) fun e' he => Keeps.grown (fun h => he (by rw [h])) hown hgrow
/-- An operation that stores: its fact's slot is one that nobody reads any more; it stays as it is. -/
theorem step_store {P : Program} {l : List Oper} {Q : Exit → Act → World → Prop} {W : World} {i s : Nat} {uses : Option TypeId} {F : Value → World → Prop} {a : Act} {w w' : World} {o : Oper}
    (ho : l[i]? = some o) (hg : o.guard = none) (hd : o.dst = none) (hr : (execOp a.eval o).run P w = .ok .skip w') (hs : s < a.tmps.size) (hF : ∀ v, F v w') (hb : Below W.heap.size W w') (hk : ∀ e, uses ≠ some e → Keeps e w w') :
    ∀ K : Act → World → Prop, (∀ v w', F v w' → Below W.heap.size W w' → (∀ e, uses ≠ some e → Keeps e w w') → K (a.put (some s) v) w') → wpOp P l.toArray Q i K a w := by
  intro K hK
  have e : a.put (some s) a.tmps[s] = a := by
    have h : a.tmps.setIfInBounds s a.tmps[s] = a.tmps := by
      apply Array.ext_getElem?
      intro j
      rw [Array.getElem?_setIfInBounds]
      by_cases hj : s = j
      · subst hj
        rw [if_pos rfl, if_pos hs]; simp
      · rw [if_neg hj]
    show ({ a with tmps := a.tmps.setIfInBounds s a.tmps[s] } : Act) = a
    rw [h]
  unfold wpOp
  have ho' : l.toArray[i]? = some o := by simpa using ho
  simp only [ho', Region.wanted, hg, if_true]
  refine .inl ?_
  unfold Oper.wp
  rw [hr]
  show K (a.put o.dst undef) w'
  rw [hd]
  have := hK a.tmps[s] w' (hF _) hb hk
  rw [e] at this
  exact this
theorem wanted_of {l : List Oper} {i j sj : Nat} {o oj : Oper} {a : Act} {b c : Bool} (_ho : l[i]? = some o) (hg : o.guard = some (j, b)) (hj : l[j]? = some oj) (hdj : oj.dst = some sj) (hv : a.tmps[sj]? = some (.bool c)) : Region.wanted o (yielded l.toArray a.tmps) = (c == b) := by
  have hy : yielded l.toArray a.tmps j = some c := by
    unfold yielded
    have hj' : l.toArray[j]? = some oj := by simpa using hj
    simp only [hj', Option.bind_some, hdj, hv]
  unfold Region.wanted
  simp only [hg, hy]
  cases b <;> cases c <;> rfl
/-- An operation that its guard leaves out. -/
theorem step_skip {P : Program} {l : List Oper} {Q : Exit → Act → World → Prop} {W : World} {i s j sj : Nat} {uses : Option TypeId} {F : Value → World → Prop} {a : Act} {w : World} {o oj : Oper} {b c : Bool}
    (ho : l[i]? = some o) (hg : o.guard = some (j, b)) (hj : l[j]? = some oj) (hdj : oj.dst = some sj) (hv : a.tmps[sj]? = some (.bool c)) (hne : (c == b) = false) (hd : o.dst = some s) (hF : F undef w) (hb : Below W.heap.size W w) :
    ∀ K : Act → World → Prop, (∀ v w', F v w' → Below W.heap.size W w' → (∀ e, uses ≠ some e → Keeps e w w') → K (a.put (some s) v) w') → wpOp P l.toArray Q i K a w := by
  intro K hK
  unfold wpOp
  have ho' : l.toArray[i]? = some o := by simpa using ho
  simp only [ho', wanted_of ho hg hj hdj hv, hne]
  rw [hd]
  exact hK undef w hF hb fun e _ => Keeps.refl e w
/-- An operation that its guard lets by. -/
theorem step_val_on {P : Program} {l : List Oper} {Q : Exit → Act → World → Prop} {W : World} {i s j sj : Nat} {uses : Option TypeId} {F : Value → World → Prop} {a : Act} {w w' : World} {o oj : Oper} {b : Bool} {v : Value}
    (ho : l[i]? = some o) (hg : o.guard = some (j, b)) (hj : l[j]? = some oj) (hdj : oj.dst = some sj) (hv : a.tmps[sj]? = some (.bool b)) (hd : o.dst = some s) (hr : (execOp a.eval o).run P w = .ok (.value v) w') (hF : F v w') (hb : Below W.heap.size W w') (hk : ∀ e, Keeps e w w') :
    ∀ K : Act → World → Prop, (∀ v w', F v w' → Below W.heap.size W w' → (∀ e, uses ≠ some e → Keeps e w w') → K (a.put (some s) v) w') → wpOp P l.toArray Q i K a w := by
  intro K hK
  unfold wpOp
  have ho' : l.toArray[i]? = some o := by simpa using ho
  have hw := wanted_of ho hg hj hdj hv
  rw [show (b == b) = true by cases b <;> rfl] at hw
  simp only [ho', hw, if_true]
  refine .inl ?_
  unfold Oper.wp
  rw [hr]
  show K (a.put o.dst v) w'
  rw [hd]
  exact hK v w' hF hb fun e _ => hk e
/-- A call that its guard lets by. -/
theorem step_call_on {P : Program} {l : List Oper} {Q : Exit → Act → World → Prop} {W : World} {i s j sj : Nat} {uses : Option TypeId} {F : Value → World → Prop} {a : Act} {w : World} {o oj : Oper} {b : Bool} {f : FuncId} {args : Array Value}
    (ho : l[i]? = some o) (hg : o.guard = some (j, b)) (hj : l[j]? = some oj) (hdj : oj.dst = some sj) (hv : a.tmps[sj]? = some (.bool b)) (hd : o.dst = some s) (hr : (execOp a.eval o).run P w = .ok (.enter f args) w) (hbw : Below W.heap.size W w)
    (hc : Calls P f args w fun e w' => ∃ v, e = .returned v ∧ F v w' ∧ Below w.heap.size w w') :
    ∀ K : Act → World → Prop, (∀ v w', F v w' → Below W.heap.size W w' → (∀ e, uses ≠ some e → Keeps e w w') → K (a.put (some s) v) w') → wpOp P l.toArray Q i K a w := by
  intro K hK
  unfold wpOp
  have ho' : l.toArray[i]? = some o := by simpa using ho
  have hw := wanted_of ho hg hj hdj hv
  rw [show (b == b) = true by cases b <;> rfl] at hw
  simp only [ho', hw, if_true]
  refine .inl ?_
  unfold Oper.wp
  rw [hr]
  refine hc.mono ?_
  rintro e w' ⟨v, rfl, hF, hb⟩
  show K (a.put o.dst v) w'
  rw [hd]
  exact hK v w' hF (hbw.trans (hb.mono hbw.size)) fun e _ => Keeps.below e hb
theorem run_pick {P : Program} {a : Act} {w : World} {x y z : Operand} {c : Bool} {v : Value} {d : Option Tmp} {ty : TypeId} {pos : String} {af : Array Edge} {g : Option (Nat × Bool)} (hx : a.eval x = .bool c) (hv : a.eval (if c then y else z) = v) :
    (execOp a.eval { dst := d, op := .pick x y z, type := ty, pos := pos, after := af, guard := g }).run P w = .ok (.value v) w := by
  cases c <;> simp only [execOp, hx] at hv ⊢ <;> subst hv <;> rfl
theorem at_fact {facts : List Fact} {g : Fact} (k : Nat) (h : facts[k]? = some g) : g ∈ facts := List.mem_of_getElem? h
theorem at_stand {stands : List Stand} {g : Stand} (k : Nat) (h : stands[k]? = some g) : g ∈ stands := List.mem_of_getElem? h
/-- The world's first blocks alone. -/
def trunc (n : Nat) (w : World) : World := { w with heap := w.heap.extract 0 n }
theorem trunc_size {n : Nat} {w : World} (h : n ≤ w.heap.size) : (trunc n w).heap.size = n := by simp [trunc]; omega
theorem trunc_below {n : Nat} {w : World} (h : n ≤ w.heap.size) : Below (trunc n w).heap.size (trunc n w) w := by
  rw [trunc_size h]
  exact ⟨rfl, rfl, rfl, by rw [trunc_size h]; exact h, fun k hk => by simp [trunc, Array.getElem?_extract]; omega⟩
theorem Keeps.trans {e : TypeId} {a b c : World} (h : Keeps e a b) (h' : Keeps e b c) : Keeps e a c := ⟨fun _ _ _ _ _ x => h'.1 _ _ _ _ _ (h.1 _ _ _ _ _ x), fun _ _ x => h'.2 _ _ (h.2 _ _ x)⟩
end Go.Proofs.YtcojnojdgigmdaaDoor.Reg
/- A region that draws its order, with something more of memory that each operation keeps; appends of one row of the call's own to another. No program in sight. -/
namespace Go.Proofs.YtcojnojdgigmdaaDoor.Reg
open Go Go.RowKit Go.Proofs.YtcojnojdgigmdaaDoor.Mem

/-- As stand_order, with one thing more of memory, which each operation keeps by itself. -/
theorem inv_order {P : Program} {id : Nat} {l : List Oper} {Q : Exit → Act → World → Prop} {W : World} {a0 : Act} {w0 : World} (facts : List Fact) (stands : List Stand) (I : World → Prop) {h t : Nat}
    (hm : P.follows .mixedOrders = true) (hl : l.length = h + t) (hH : chkH l.toArray h = true) (hTl : chkT l.toArray h t = true)
    (hseq : Region.seqB .any l.toArray t h (List.replicate h true ++ List.replicate t false).toArray = true)
    (hops : (facts.map (·.op)).Nodup) (hall : ∀ i, i < h → i ∈ facts.map (·.op)) (hin : ∀ f ∈ facts, f.op < h) (hsl : (facts.map (·.slot)).Nodup) (hlt : ∀ s ∈ facts.map (·.slot), s < a0.tmps.size)
    (hok : okStand l facts stands = true)
    (hkeep : ∀ f ∈ facts, ∀ v w w', (∀ e ∈ f.tys, Keeps e w w') → f.F v w → f.F v w')
    (hkeepG : ∀ f ∈ stands, ∀ w w', (∀ e ∈ f.tys, Keeps e w w') → f.G w → f.G w')
    (hbel : Below W.heap.size W w0) (hI0 : I w0.drew) (hst0 : ∀ f ∈ stands, f.G w0.drew)
    (hS : ∀ f ∈ facts, ∀ a w, Stays W a0 (facts.map (·.slot)) [] a w → I w → (∀ g ∈ facts, bef l f.op g.op = true → okTil l f.op g.til (h + t) = true → ∃ v, a.tmps[g.slot]? = some v ∧ g.F v w) → (∀ g ∈ stands, okTil l f.op g.til (h + t) = true → g.G w) →
      ∀ K : Act → World → Prop, (∀ v w', f.F v w' → Below W.heap.size W w' → (∀ e, f.uses ≠ some e → Keeps e w w') → I w' → K (a.put (some f.slot) v) w') → wpOp P l.toArray Q f.op K a w)
    (hT : ∀ (vals : Nat → Value) w, (∀ f ∈ facts, h + t ≤ f.til → f.F (vals f.slot) w) → (∀ f ∈ stands, h + t ≤ f.til → f.G w) → Below W.heap.size W w → I w → wpList P l.toArray Q (l.drop h) (puts (facts.map fun f => (f.slot, vals f.slot)) a0) w) :
    (Code.region id l.toArray true).wp P Q a0 w0 := by
  unfold okStand at hok
  simp only [Bool.and_eq_true] at hok
  obtain ⟨hok1, hok2⟩ := hok
  have big : ∀ (listed : Array Bool) n, listed.size = h + t → h + t ≤ n → listed.getD n false = false := by
    intro listed n hs hn
    rw [Array.getD_eq_getD_getElem?, Array.getElem?_eq_none (by omega)]; rfl
  refine wp_any_order hm hl hH hTl hseq (fun listed a w => listed.size = h + t ∧ Stays W a0 (facts.map (·.slot)) [] a w ∧ (∀ i, listed.getD i false = true → ∀ j ∈ preds l.toArray i, listed.getD j false = true) ∧
    (∀ f ∈ facts, listed.getD f.op false = true → listed.getD f.til false = false → ∃ v, a.tmps[f.slot]? = some v ∧ f.F v w) ∧ (∀ f ∈ stands, listed.getD f.til false = false → f.G w) ∧ I w) ?_ ?_ ?_
  · intro listed a w i ⟨hls, hst, hcl, hf, hg0, hI⟩ _ hih hr
    obtain ⟨f, hfm, rfl⟩ := List.mem_map.1 (hall i hih)
    have hil : f.op < listed.size := by omega
    have hun : listed.getD f.op false = false := by
      have h := (mem_ready.1 hr).1
      simp only [Array.getD_eq_getD_getElem?] at h ⊢
      simpa [hil] using h
    have notl : ∀ n, bef l n f.op = true → listed.getD n false = false := by
      intro n hn
      cases hx : listed.getD n false with
      | false => rfl
      | true =>
        have := clos_listed hcl 4 _ (hcl n hx) f.op (List.contains_iff_mem.1 hn)
        rw [hun] at this; cases this
    have til : ∀ n, okTil l f.op n (h + t) = true → listed.getD n false = false := by
      intro n hn
      unfold okTil at hn
      simp only [Bool.or_eq_true, decide_eq_true_eq] at hn
      rcases hn with (e | e) | e
      · rw [e]; exact hun
      · exact big _ _ hls e
      · exact notl n e
    refine hS f hfm a w hst hI (fun g hg hw htil => hf g hg (clos_listed hcl 4 _ (mem_preds hr) g.op (List.contains_iff_mem.1 hw)) (til _ htil)) (fun g hg htil => hg0 g hg (til _ htil)) _ fun v w' hv hb hk hI' => ?_
    have mono : ∀ j, listed.getD j false = true → (listed.setIfInBounds f.op true).getD j false = true := by
      intro j hj
      rw [getD_set hil]; split
      · rfl
      · exact hj
    refine ⟨by simpa using hls, ?_, ?_, ?_, ?_, hI'⟩
    · exact (Stays.put (⟨hst.size, hst.defers, hst.out, hb, fun g cs t hm => by cases hm⟩ : Stays W a0 (facts.map (·.slot)) [] a w') (List.mem_map.2 ⟨f, hfm, rfl⟩) v)
    · intro i hi j hj
      rw [getD_set hil] at hi
      by_cases hif : f.op = i
      · subst hif
        exact mono j (mem_preds hr j hj)
      · rw [if_neg hif] at hi
        exact mono j (hcl i hi j hj)
    · intro g hg hlg htl
      rw [getD_set hil] at hlg htl
      by_cases he : f.op = g.op
      · obtain rfl := nodup_map hops hfm hg he
        exact ⟨v, put_same (by rw [hst.size]; exact hlt _ (List.mem_map.2 ⟨f, hfm, rfl⟩)) v, hv⟩
      · rw [if_neg he] at hlg
        by_cases hte : f.op = g.til
        · rw [if_pos hte] at htl; cases htl
        · rw [if_neg hte] at htl
          obtain ⟨u, hu, hF⟩ := hf g hg hlg htl
          refine ⟨u, by rw [put_other (fun e => he (by rw [nodup_map hsl hfm hg e]))]; exact hu, hkeep g hg u w w' (fun e he' => hk e fun hus => ?_) hF⟩
          have hc := List.all_eq_true.1 (List.all_eq_true.1 hok1 f hfm) g hg
          rw [hus] at hc
          simp only [Bool.or_eq_true, decide_eq_true_eq, Bool.not_eq_true'] at hc
          rcases hc with ((hc | hc) | hc) | hc
          · exact he hc.symm
          · have := List.contains_iff_mem.2 he'
            rw [hc] at this; cases this
          · exact hte hc.symm
          · have := notl _ hc
            rw [hlg] at this; cases this
    · intro g hg htl
      rw [getD_set hil] at htl
      by_cases hte : f.op = g.til
      · rw [if_pos hte] at htl; cases htl
      · rw [if_neg hte] at htl
        refine hkeepG g hg w w' (fun e he' => hk e fun hus => ?_) (hg0 g hg htl)
        have hc := List.all_eq_true.1 (List.all_eq_true.1 hok2 f hfm) g hg
        rw [hus] at hc
        simp only [Bool.or_eq_true, decide_eq_true_eq, Bool.not_eq_true'] at hc
        rcases hc with (hc | hc) | hc
        · have := List.contains_iff_mem.2 he'
          rw [hc] at this; cases this
        · exact hte hc.symm
        · have := clos_listed hcl 4 _ (mem_preds hr) g.til (List.contains_iff_mem.1 hc)
          rw [htl] at this; cases this
  · have hz : ∀ n, (Array.replicate (h + t) false).getD n false = false := by
      intro n
      simp [Array.getD_eq_getD_getElem?, Array.getElem?_replicate]; split <;> simp
    refine ⟨by simp, ⟨rfl, rfl, fun _ _ => rfl, hbel.drew, fun g cs t hm => by cases hm⟩, fun i hi => ?_, fun f hf hlf => ?_, fun f hf _ => hst0 f hf, hI0⟩
    · rw [hz] at hi; cases hi
    · rw [hz] at hlf; cases hlf
  · intro listed a w ⟨hls, hst, _, hf, hg0, hI⟩ hli
    have e : a = puts (facts.map fun f => (f.slot, (a.tmps[f.slot]?).getD undef)) a0 := by
      refine act_eq hst.size hst.defers (fun s hs => hst.out s (by simpa [List.map_map, Function.comp_def] using hs)) (by simpa [List.map_map, Function.comp_def] using hsl) (by simpa [List.map_map, Function.comp_def] using hlt) ?_
      intro s v hm
      obtain ⟨f, hfm, e⟩ := List.mem_map.1 hm
      injection e with e1 e2
      subst e1 e2
      have : f.slot < a.tmps.size := by rw [hst.size]; exact hlt _ (List.mem_map.2 ⟨f, hfm, rfl⟩)
      simp [this]
    have := hT (fun s => (a.tmps[s]?).getD undef) w (fun f hfm htl => ?_) (fun f hfm htl => hg0 f hfm (big _ _ hls htl)) hst.below hI
    · rw [← e] at this
      exact this
    · obtain ⟨v, hv, hF⟩ := hf f hfm (hli _ (hin f hfm)) (big _ _ hls htl)
      show f.F ((a.tmps[f.slot]?).getD undef) w
      rw [hv]; exact hF


/-- Two rows do not lie in one block. -/
def Apart (v v' : Value) : Prop := ∀ k, v.ownBlock = some k → v'.ownBlock ≠ some k
theorem Apart.symm {v v' : Value} (h : Apart v v') : Apart v' v := fun k h1 h2 => h k h2 h1
theorem Apart.nil (v : Value) : Apart (.slice none 0 0) v := fun k h => by cases h
theorem Apart.nil' (v : Value) : Apart v (.slice none 0 0) := (Apart.nil v).symm
theorem Apart.new {w : World} {b e s n : Nat} {v v' : Value} {xs : List Value} {k : Nat} (h : w.ownsRow b e s v n xs) (hk : w.heap.size ≤ k) (h' : v'.ownBlock = some k) : Apart v v' := by
  intro j h1 h2
  rw [h'] at h2
  injection h2 with h2
  have := (own_lt h j h1).2
  omega
/-- Behind an append the row is apart from those that it was apart from. -/
theorem Apart.grown {w : World} {b e s n : Nat} {v v' u : Value} {xs : List Value} (h : Apart u v) (hu : w.ownsRow b e s u n xs) (hv : v'.ownBlock = v.ownBlock ∨ v'.ownBlock = some w.heap.size) : Apart u v' := by
  rcases hv with hv | hv
  · intro k h1 h2; exact h k h1 (by rw [← hv]; exact h2)
  · exact Apart.new hu (Nat.le_refl _) hv
theorem own_apart {w w' : World} {b e s n : Nat} {v u : Value} {xs : List Value} (h : w.ownsRow b e s u n xs) (ha : Apart u v) (hg : w.grownBy w' v.ownBlock) : w'.ownsRow b e s u n xs := by
  refine h.kept hg ?_
  cases hu : u.ownBlock with
  | none => exact .inl rfl
  | some k => exact .inr fun he => ha k hu he.symm
/-- An append of a row of the call's own. -/
theorem run_append_src {P : Program} {w : World} (t ty : TypeId) (base b2 : Nat) (e : TypeId) (i : TypeInfo) (z : Value) (size bytes : Nat) (ht : P.underlying t = some (.slice e)) (hi : P.info? e = some i) (hz : i.zero = some z)
    (hsize : i.size = size) (hby : i.bytes = bytes) (hzs : z.cells.size = size) (hsz : 0 < size) (v u : Value) (n m : Nat) (xs ys : List Value) (hown : w.ownsRow base e size v n xs) (hsrc : w.ownsRow b2 e size u m ys) (h1 : ∀ y ∈ ys, y.oneCell' = true)
    (h63 : n + m ≤ maxLen) (hbytes : (n + m) * bytes ≤ 140737488355328) (hbase : base ≤ w.heap.size) :
    ∃ v' w', (Builtin.append_ #[t, t] ty #[v, u]).run P w = .ok v' w' ∧ w'.ownsRow base e size v' (n + m) (xs ++ ys) ∧ w.grownBy w' v.ownBlock ∧ (v'.ownBlock = v.ownBlock ∨ v'.ownBlock = some w.heap.size) := by
  rcases hsrc.2 with ⟨rfl, rfl⟩ | ⟨g, cap, cur, rfl, hg⟩
  · have e0 : ys = [] := List.eq_nil_of_length_eq_zero (by have := hsrc.1; omega)
    subst e0
    refine ⟨v, w, run_append_owned_none (P := P) (w := w) base t ty e i size ht hi v n xs hown, by simpa using hown, ⟨rfl, rfl, rfl, Nat.le_refl _, fun _ _ _ => rfl⟩, .inl rfl⟩
  · obtain ⟨v', w', a1, a2, a3, _, a5⟩ := run_append_own_at (P := P) w base t ty e i z size bytes ht hi hz hsize hby hzs hsz v n xs hown ⟨g, 0, none⟩ m cap ys hsrc.1 (fun j x hx => hsrc.cells (g := g) rfl j x hx) h1 h63 hbytes hbase
    exact ⟨v', w', a1, a2, a3, a5⟩
/-- .. as an operation of a region that draws its order. -/
theorem step_appI {P : Program} {l : List Oper} {Q : Exit → Act → World → Prop} {W : World} {i s src sx base b2 : Nat} {I : World → Prop} {F : Value → World → Prop} {a : Act} {w : World} {o : Oper} {e t : TypeId} {ti : TypeInfo} {z : Value} {sz bytes n m : Nat} {v u : Value} {xs ys : List Value}
    (ho : l[i]? = some o) (hg : o.guard = none) (hd : o.dst = some s) (hop : o.op = .call { callee := .builtin .append, args := #[.tmp src, .tmp sx], argTypes := #[t, t] })
    (hbw : Below W.heap.size W w) (ht : P.underlying t = some (.slice e)) (hi : P.info? e = some ti) (hz : ti.zero = some z) (hsize : ti.size = sz) (hby : ti.bytes = bytes) (hzs : z.cells.size = sz) (hsz : 0 < sz)
    (hs : a.tmps[src]? = some v) (hown : w.ownsRow base e sz v n xs) (hx : a.tmps[sx]? = some u) (hsrc : w.ownsRow b2 e sz u m ys) (h1 : ∀ y ∈ ys, y.oneCell' = true) (h63 : n + m ≤ maxLen) (hbytes : (n + m) * bytes ≤ 140737488355328) (hbase : W.heap.size ≤ base) (hbase2 : base ≤ w.heap.size)
    (hF : ∀ v' w', w'.ownsRow base e sz v' (n + m) (xs ++ ys) → w.grownBy w' v.ownBlock → (v'.ownBlock = v.ownBlock ∨ v'.ownBlock = some w.heap.size) → F v' w' ∧ I w') :
    ∀ K : Act → World → Prop, (∀ v w', F v w' → Below W.heap.size W w' → (∀ e', some e ≠ some e' → Keeps e' w w') → I w' → K (a.put (some s) v) w') → wpOp P l.toArray Q i K a w := by
  intro K hK
  obtain ⟨v', w', a1, a2, a3, a4⟩ := run_append_src (P := P) (w := w) t o.type base b2 e ti z sz bytes ht hi hz hsize hby hzs hsz v u n m xs ys hown hsrc h1 h63 hbytes hbase2
  unfold wpOp
  have ho' : l.toArray[i]? = some o := by simpa using ho
  simp only [ho', Region.wanted, hg, if_true]
  refine .inl ?_
  have k1 := hF v' w' a2 a3 a4
  have k2 := hK v' w' k1.1 (below_grown hbw hown a3 hbw.size hbase) (fun e' he => Keeps.grown (fun h => he (by rw [h])) hown a3) k1.2
  unfold Oper.wp execOp
  simp only [hop, resolve, invoke, builtin, eval_tmp hs, eval_tmp hx, List.map_toArray, List.map_cons, List.map_nil, Sem.run_bind, Sem.run_pure, a1, Result.andThen_ok]
  show K (a.put o.dst v') w'
  rw [hd]
  exact k2
/-- An operation that hands back a value and turns nothing. -/
theorem step_valI {P : Program} {l : List Oper} {Q : Exit → Act → World → Prop} {W : World} {i s : Nat} {uses : Option TypeId} {I : World → Prop} {F : Value → World → Prop} {a : Act} {w : World} {o : Oper} {v : Value}
    (ho : l[i]? = some o) (hg : o.guard = none) (hd : o.dst = some s) (hr : (execOp a.eval o).run P w = .ok (.value v) w) (hF : F v w) (hb : Below W.heap.size W w) (hI : I w) :
    ∀ K : Act → World → Prop, (∀ v w', F v w' → Below W.heap.size W w' → (∀ e, uses ≠ some e → Keeps e w w') → I w' → K (a.put (some s) v) w') → wpOp P l.toArray Q i K a w := by
  intro K hK
  refine wpOp_val (o := o) (by simpa using ho) hg hr ?_
  rw [hd]
  exact hK v w hF hb (fun e _ => Keeps.refl e w) hI
/-- .. at the list of a plain region's operations. -/
theorem wpList_append_src {P : Program} (w : World) {ops : Array Oper} {rest : List Oper} {o : Oper} {a : Act} {Q : Exit → Act → World → Prop} (hgd : o.guard = none) (s x : Operand) (t : TypeId)
    (ho : o.op = .call { callee := .builtin .append, args := #[s, x], argTypes := #[t, t] }) (base b2 : Nat) (e : TypeId) (i : TypeInfo) (z : Value) (size bytes : Nat) (ht : P.underlying t = some (.slice e)) (hi : P.info? e = some i) (hz : i.zero = some z)
    (hsize : i.size = size) (hby : i.bytes = bytes) (hzs : z.cells.size = size) (hsz : 0 < size) (v u : Value) (n m : Nat) (xs ys : List Value) (hs : a.eval s = v) (hown : w.ownsRow base e size v n xs) (hx : a.eval x = u) (hsrc : w.ownsRow b2 e size u m ys) (h1 : ∀ y ∈ ys, y.oneCell' = true)
    (h63 : n + m ≤ maxLen) (hbytes : (n + m) * bytes ≤ 140737488355328) (hbase : base ≤ w.heap.size)
    (h : ∀ v' w', w'.ownsRow base e size v' (n + m) (xs ++ ys) → w.grownBy w' v.ownBlock → (v'.ownBlock = v.ownBlock ∨ v'.ownBlock = some w.heap.size) → wpList P ops Q rest (a.put o.dst v') w') : wpList P ops Q (o :: rest) a w := by
  refine wpList_plain hgd fun K hK => ?_
  obtain ⟨v', w', hr, a2, a3, a4⟩ := run_append_src (P := P) (w := w) t o.type base b2 e i z size bytes ht hi hz hsize hby hzs hsz v u n m xs ys hown hsrc h1 h63 hbytes hbase
  unfold Oper.wp execOp
  simp only [ho, resolve, invoke, builtin, Sem.run_bind, Sem.run_pure, Result.andThen_ok, List.map_toArray, List.map_cons, List.map_nil, hs, hx, hr]
  exact hK _ _ (h v' w' a2 a3 a4)
/-- A row in a new block. -/
theorem own_new {w : World} {b : Nat} {e : TypeId} {sz n g : Nat} {cs : Array Value} (hg : g = w.heap.size) (hb : b ≤ w.heap.size) (hs : cs.size = n * sz) (hn : n ≤ maxLen) : (w.alloc (.cells cs e)).ownsRow b e sz (.slice (some ⟨g, 0, none⟩) n n) n cs.toList := by
  subst hg
  refine ⟨by simpa using hs, .inr ⟨w.heap.size, n, cs, rfl, hb, heap_new rfl, Nat.le_refl _, hn, hs, ?_⟩⟩
  rw [List.take_of_length_le (by simp [hs])]
/-- An operation that hands back a value; whatever it makes. -/
theorem step_genI {P : Program} {l : List Oper} {Q : Exit → Act → World → Prop} {W : World} {i s : Nat} {uses : Option TypeId} {I : World → Prop} {F : Value → World → Prop} {a : Act} {w w' : World} {o : Oper} {v : Value}
    (ho : l[i]? = some o) (hg : o.guard = none) (hd : o.dst = some s) (hr : (execOp a.eval o).run P w = .ok (.value v) w') (hF : F v w') (hb : Below W.heap.size W w') (hk : ∀ e, uses ≠ some e → Keeps e w w') (hI : I w') :
    ∀ K : Act → World → Prop, (∀ v w', F v w' → Below W.heap.size W w' → (∀ e, uses ≠ some e → Keeps e w w') → I w' → K (a.put (some s) v) w') → wpOp P l.toArray Q i K a w := by
  intro K hK
  refine wpOp_val (o := o) (by simpa using ho) hg hr ?_
  rw [hd]
  exact hK v w' hF hb hk hI
end Go.Proofs.YtcojnojdgigmdaaDoor.Reg
