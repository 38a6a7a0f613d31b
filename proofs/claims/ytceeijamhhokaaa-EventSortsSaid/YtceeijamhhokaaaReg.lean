/- A region that draws its order and holds two chains of operations, each ending in an append onto a row of the call's own, of two element types: whatever the order, both rows have grown. By an invariant over how far each chain has come. No program in sight. -/
import Derived.Orders
import Derived.StillTail
import Derived.Deep.AppendLies
import Derived.Test.YtceeijamhhokaaaMem
namespace Go.Proofs.Ytceeijamhhokaaa.Reg
open Go.RowKit Go.Proofs.Ytceeijamhhokaaa.Mem

section
variable {P : Program} {ops : Array Oper} {Q : Exit → Act → World → Prop}

/-- Each of the first h operations waits for earlier ones alone; each other one waits for all of the first h, or for number h. -/
def chkH (ops : Array Oper) (h : Nat) : Bool := (List.range h).all fun i => match ops[i]? with
  | some o => o.after.all fun e => decide (e.on < i)
  | none => false
/-- What an operation waits for. -/
def preds (ops : Array Oper) (i : Nat) : List Nat := match ops[i]? with
  | some o => (o.after.toList.filter (Region.binds .any)).map (·.on)
  | none => []
/-- .. and what those wait for, so many steps on. -/
def clos (ops : Array Oper) : Nat → List Nat → List Nat
  | 0, l => l
  | f + 1, l => l ++ clos ops f (l.flatMap (preds ops))
def chkT (ops : Array Oper) (h t : Nat) : Bool := (List.range t).all fun r =>
  (decide (0 < r) && (preds ops (h + r)).contains h) || (List.range h).all fun j => (clos ops 4 (preds ops (h + r))).contains j
theorem clos_listed {ops : Array Oper} {listed : Array Bool} (hc : ∀ i, listed.getD i false = true → ∀ j ∈ preds ops i, listed.getD j false = true) :
    ∀ (f : Nat) (l : List Nat), (∀ i ∈ l, listed.getD i false = true) → ∀ i ∈ clos ops f l, listed.getD i false = true := by
  intro f
  induction f with
  | zero => intro l hl i hi; exact hl i hi
  | succ f ih =>
    intro l hl i hi
    rcases List.mem_append.1 hi with hi | hi
    · exact hl i hi
    · refine ih _ (fun j hj => ?_) i hi
      obtain ⟨k, hk, hj⟩ := List.mem_flatMap.1 hj
      exact hc k (hl k hk) j hj
theorem preds_of {ops : Array Oper} {i : Nat} {o : Oper} (ho : ops[i]? = some o) {j : Nat} (h : j ∈ preds ops i) : ∃ e ∈ o.after, Region.binds .any e = true ∧ e.on = j := by
  unfold preds at h
  rw [ho] at h
  obtain ⟨e, he, rfl⟩ := List.mem_map.1 h
  obtain ⟨h1, h2⟩ := List.mem_filter.1 he
  exact ⟨e, by simpa using h1, h2, rfl⟩

/-- How many of the first h are still to come. -/
def todo (listed : Array Bool) : Nat → Nat
  | 0 => 0
  | h + 1 => (if listed.getD h false then 0 else 1) + todo listed h
theorem todo_zero {listed : Array Bool} : ∀ {h : Nat}, todo listed h = 0 → ∀ i, i < h → listed.getD i false = true := by
  intro h
  induction h with
  | zero => intro _ i hi; omega
  | succ h ih =>
    intro h0 i hi
    simp only [todo] at h0
    by_cases hc : listed.getD h false = true
    · by_cases hih : i = h
      · rw [hih]; exact hc
      · exact ih (by omega) i (by omega)
    · rw [if_neg hc] at h0; omega
theorem todo_pos {listed : Array Bool} : ∀ {h : Nat}, todo listed h ≠ 0 → ∃ i, i < h ∧ listed.getD i false = false ∧ ∀ j, j < i → listed.getD j false = true := by
  intro h
  induction h with
  | zero => intro h0; exact absurd rfl h0
  | succ h ih =>
    intro h0
    by_cases hh : todo listed h = 0
    · refine ⟨h, by omega, ?_, todo_zero hh⟩
      simp only [todo, hh] at h0
      by_cases hc : listed.getD h false = true
      · rw [if_pos hc] at h0; omega
      · simpa using hc
    · obtain ⟨i, hi, h1, h2⟩ := ih hh
      exact ⟨i, by omega, h1, h2⟩
theorem getD_set {listed : Array Bool} {i j : Nat} (hi : i < listed.size) : (listed.setIfInBounds i true).getD j false = if i = j then true else listed.getD j false := by
  simp only [Array.getD_eq_getD_getElem?, Array.getElem?_setIfInBounds]
  by_cases h : i = j
  · subst h; simp [hi]
  · simp [h]
theorem todo_set {listed : Array Bool} {i : Nat} (hs : i < listed.size) : ∀ {h : Nat}, i < h → listed.getD i false = false → todo (listed.setIfInBounds i true) h + 1 = todo listed h := by
  have out : ∀ h, h ≤ i → todo (listed.setIfInBounds i true) h = todo listed h := by
    intro h
    induction h with
    | zero => intro _; rfl
    | succ h ih =>
      intro hle
      have e := getD_set (listed := listed) (i := i) (j := h) hs
      rw [if_neg (by omega)] at e
      simp only [todo]; rw [ih (by omega), e]
  intro h
  induction h with
  | zero => intro hi; omega
  | succ h ih =>
    intro hi h0
    simp only [todo]
    by_cases hih : i = h
    · subst hih
      rw [out i (Nat.le_refl _), getD_set hs, if_pos rfl, h0]
      simp; omega
    · rw [getD_set hs, if_neg hih]
      have := ih (by omega) h0
      omega

theorem any_order {h t : Nat} (hsz : ops.size = h + t) (hH : chkH ops h = true) (hTl : chkT ops h t = true) (Inv : Array Bool → Act → World → Prop)
    (hS : ∀ listed a w i, Inv listed a w → listed.size = h + t → i < h → i ∈ Region.ready .any ops listed → wpOp P ops Q i (Inv (listed.setIfInBounds i true)) a w)
    (hT : ∀ listed a w, Inv listed a w → listed = (List.replicate h true ++ List.replicate t false).toArray → wpAny P .any ops Q t listed a w) :
    ∀ k listed a w, todo listed h = k → listed.size = h + t → (∀ i, h ≤ i → listed.getD i false = false) → (∀ i, listed.getD i false = true → ∀ j ∈ preds ops i, listed.getD j false = true) → Inv listed a w → wpAny P .any ops Q (k + t) listed a w := by
  intro k
  induction k with
  | zero =>
    intro listed a w hk hls htl hclo hi
    rw [Nat.zero_add]
    refine hT listed a w hi ?_
    apply Array.ext_getElem?
    intro j
    simp only [List.getElem?_toArray, List.getElem?_append, List.getElem?_replicate, List.length_replicate]
    by_cases hj : j < h
    · have := todo_zero hk j hj
      simp only [Array.getD_eq_getD_getElem?] at this
      simp only [hj, if_true]
      cases hx : listed[j]? with
      | none => rw [hx] at this; simp at this
      | some b => rw [hx] at this; simpa using this
    · simp only [hj, if_false]
      have := htl j (by omega)
      simp only [Array.getD_eq_getD_getElem?] at this
      by_cases hjt : j < h + t
      · rw [if_pos (by omega)]
        have hx : listed[j]? = some listed[j] := by simp [hls, hjt]
        rw [hx] at this ⊢
        simpa using this
      · rw [if_neg (by omega)]
        exact Array.getElem?_eq_none (by omega)
  | succ k ih =>
    intro listed a w hk hls htl hclo hi
    have hlt : ∀ i ∈ Region.ready .any ops listed, i < h := by
      intro i hir
      obtain ⟨hun, o, ho, hall⟩ := mem_ready.1 hir
      rcases Nat.lt_or_ge i h with hih | hih
      · exact hih
      · exfalso
        have hio : i < ops.size := by
          rcases Nat.lt_or_ge i ops.size with h' | h'
          · exact h'
          · rw [Array.getElem?_eq_none h'] at ho; cases ho
        obtain ⟨j, hj, hju, _⟩ := todo_pos (h := h) (listed := listed) (by omega)
        have h1 := List.all_eq_true.1 hTl (i - h) (List.mem_range.2 (by omega))
        rw [show h + (i - h) = i by omega] at h1
        simp only [Bool.or_eq_true, Bool.and_eq_true, decide_eq_true_eq, List.contains_iff_mem] at h1
        have hpl : ∀ q ∈ preds ops i, listed.getD q false = true := fun q hq => by
          obtain ⟨e, he, hb, rfl⟩ := preds_of ho hq
          exact hall e he hb
        rcases h1 with ⟨_, h1⟩ | h1
        · have := hpl h h1
          rw [htl h (Nat.le_refl _)] at this
          cases this
        · have h2 := List.all_eq_true.1 h1 j (List.mem_range.2 hj)
          have := clos_listed hclo 4 _ hpl j (by simpa using h2)
          rw [hju] at this
          cases this
    rw [show k + 1 + t = (k + t) + 1 by omega]
    refine ⟨fun h0 => ?_, fun i hir => ?_⟩
    · exfalso
      obtain ⟨j, hj, hju, hjb⟩ := todo_pos (h := h) (listed := listed) (by omega)
      have h1 := List.all_eq_true.1 hH j (List.mem_range.2 hj)
      have hjo : ops[j]? = some ops[j] := by simp
      rw [hjo] at h1
      have : j ∈ Region.ready .any ops listed := by
        refine mem_ready.2 ⟨?_, _, hjo, fun e he hb => ?_⟩
        · have : j < listed.size := by omega
          simp only [Array.getD_eq_getD_getElem?] at hju ⊢
          simpa [this] using hju
        · have := Array.all_eq_true'.1 h1 e he
          exact hjb _ (by simpa using this)
      rw [h0] at this
      cases this
    · have hih := hlt i hir
      have hun : listed.getD i false = false := by
        have := (mem_ready.1 hir).1
        have hl : i < listed.size := by omega
        simp only [Array.getD_eq_getD_getElem?] at this ⊢
        simpa [hl] using this
      exact wpOp_mono (fun a' w' h' => ih _ a' w' (by have := todo_set (by omega) hih hun; omega) (by simpa using hls)
        (fun j hj => by rw [getD_set (by omega), if_neg (by omega)]; exact htl j hj)
        (fun q hq j hj => by
          have hset : ∀ x, listed.getD x false = true → (listed.setIfInBounds i true).getD x false = true := by
            intro x hx
            rw [getD_set (by omega)]
            split
            · rfl
            · exact hx
          rw [getD_set (by omega)] at hq
          by_cases hiq : i = q
          · subst hiq
            obtain ⟨_, o, ho, hall⟩ := mem_ready.1 hir
            obtain ⟨e, he, hb, rfl⟩ := preds_of ho hj
            exact hset _ (hall e he hb)
          · rw [if_neg hiq] at hq
            exact hset _ (hclo q hq j hj)) h') (hS listed a w i hi hls hih hir)

theorem wp_any_order {id : Nat} {l : List Oper} {a : Act} {w : World} {h t : Nat} (hm : P.follows .mixedOrders = true) (hl : l.length = h + t) (hH : chkH l.toArray h = true) (hTl : chkT l.toArray h t = true)
    (hseq : Region.seqB .any l.toArray t h (List.replicate h true ++ List.replicate t false).toArray = true)
    (Inv : Array Bool → Act → World → Prop)
    (hS : ∀ listed a w i, Inv listed a w → listed.size = h + t → i < h → i ∈ Region.ready .any l.toArray listed → wpOp P l.toArray Q i (Inv (listed.setIfInBounds i true)) a w)
    (hi : Inv (Array.replicate (h + t) false) a w.drew)
    (hT : ∀ listed a w, Inv listed a w → (∀ i, i < h → listed.getD i false = true) → wpList P l.toArray Q (l.drop h) a w) : (Code.region id l.toArray true).wp P Q a w := by
  refine wp_region_any hm ?_
  have e : l.toArray.size = h + t := by simpa using hl
  have hz : ∀ h', todo (Array.replicate (h + t) false) h' = h' := by
    intro h'
    induction h' with
    | zero => rfl
    | succ h' ih => simp only [todo, ih]; rw [if_neg (by simp [Array.getD_eq_getD_getElem?, Array.getElem?_replicate]; split <;> simp)]; omega
  have := any_order (P := P) (Q := Q) e hH hTl Inv hS (fun listed a w hi hli => by
    have hs := wpAny_of_seq (P := P) (md := .any) (Q' := Q) (l.drop h) h listed a w (fun j => by simp [List.getElem?_drop]) (by
      have : (l.drop h).length = t := by simp; omega
      rw [this, hli]; exact hseq) (hT listed a w hi (fun i hih => by rw [hli]; simp [Array.getD_eq_getD_getElem?, List.getElem?_append, hih]))
    have ht : (l.drop h).length = t := by simp; omega
    rwa [ht] at hs) h (Array.replicate (h + t) false) a w.drew (hz h) (by simp) (fun i _ => by simp [Array.getD_eq_getD_getElem?, Array.getElem?_replicate]; split <;> simp) (fun i hi' => by
      have : (Array.replicate (h + t) false).getD i false = false := by simp [Array.getD_eq_getD_getElem?, Array.getElem?_replicate]; split <;> simp
      rw [this] at hi'; cases hi') hi
  rw [e]
  exact this

/-- One operation that hands back a value. -/
theorem wpOp_val {i : Nat} {o : Oper} {a : Act} {w w' : World} {v : Value} {K : Act → World → Prop} (ho : ops[i]? = some o) (hg : o.guard = none) (hr : (execOp a.eval o).run P w = .ok (.value v) w') (hK : K (a.put o.dst v) w') : wpOp P ops Q i K a w := by
  unfold wpOp
  simp only [ho, Region.wanted, hg, if_true]
  refine .inl ?_
  unfold Oper.wp
  rw [hr]
  exact hK
end

/-- Puts, one behind the other. -/
def puts : List (Nat × Value) → Act → Act
  | [], a => a
  | (s, v) :: l, a => puts l (a.put (some s) v)
theorem puts_size (l : List (Nat × Value)) : ∀ a, (puts l a).tmps.size = a.tmps.size := by
  induction l with
  | nil => intro a; rfl
  | cons x l ih => intro a; obtain ⟨s, v⟩ := x; rw [puts, ih]; simp [Act.put]
theorem puts_defers (l : List (Nat × Value)) : ∀ a, (puts l a).defers = a.defers := by
  induction l with
  | nil => intro a; rfl
  | cons x l ih => intro a; obtain ⟨s, v⟩ := x; rw [puts, ih]; simp [Act.put]
theorem puts_out (l : List (Nat × Value)) : ∀ a s, s ∉ l.map (·.1) → (puts l a).tmps[s]? = a.tmps[s]? := by
  induction l with
  | nil => intro a s _; rfl
  | cons x l ih =>
    intro a s hs
    obtain ⟨s', v⟩ := x
    simp only [List.map_cons, List.mem_cons, not_or] at hs
    rw [puts, ih _ _ hs.2]
    simp [Act.put, Ne.symm hs.1]
theorem puts_in (l : List (Nat × Value)) : ∀ a s v, (l.map (·.1)).Nodup → (s, v) ∈ l → s < a.tmps.size → (puts l a).tmps[s]? = some v := by
  induction l with
  | nil => intro a s v _ h; cases h
  | cons x l ih =>
    intro a s v hn h hlt
    obtain ⟨s', v'⟩ := x
    simp only [List.map_cons, List.nodup_cons] at hn
    rw [puts]
    rcases List.mem_cons.1 h with h | h
    · injection h with h1 h2
      subst h1; subst h2
      rw [puts_out l _ _ hn.1]
      simp [Act.put, hlt]
    · exact ih _ _ _ hn.2 h (by simpa [Act.put] using hlt)
theorem act_eq {a a0 : Act} {l : List (Nat × Value)} (hs : a.tmps.size = a0.tmps.size) (hd : a.defers = a0.defers) (hout : ∀ s, s ∉ l.map (·.1) → a.tmps[s]? = a0.tmps[s]?)
    (hn : (l.map (·.1)).Nodup) (hlt : ∀ s ∈ l.map (·.1), s < a0.tmps.size) (hin : ∀ s v, (s, v) ∈ l → a.tmps[s]? = some v) : a = puts l a0 := by
  have h1 : a.tmps = (puts l a0).tmps := by
    apply Array.ext_getElem?
    intro s
    by_cases hm : s ∈ l.map (·.1)
    · obtain ⟨⟨s', v⟩, hx, rfl⟩ := List.mem_map.1 hm
      rw [hin _ _ hx, puts_in l a0 _ _ hn hx (hlt _ hm)]
    · rw [hout s hm, puts_out l a0 s hm]
  have h2 : a.defers = (puts l a0).defers := hd.trans (puts_defers l a0).symm
  cases a; cases hp : puts l a0
  rw [hp] at h1 h2
  simp_all

/-- What the two chains leave alone, and what they were told of memory. -/
structure Stays (W : World) (a0 : Act) (slots : List Nat) (boxes : List (Nat × Array Value × TypeId)) (a : Act) (w : World) : Prop where
  size : a.tmps.size = a0.tmps.size
  defers : a.defers = a0.defers
  out : ∀ s, s ∉ slots → a.tmps[s]? = a0.tmps[s]?
  below : Below W.heap.size W w
  boxes : ∀ g cs t, (g, cs, t) ∈ boxes → w.heap[g]? = some (.cells cs t (0, 0))
theorem Stays.put {W : World} {a0 : Act} {slots : List Nat} {boxes : List (Nat × Array Value × TypeId)} {a : Act} {w : World} (h : Stays W a0 slots boxes a w) {s : Nat} (hs : s ∈ slots) (v : Value) : Stays W a0 slots boxes (a.put (some s) v) w :=
  ⟨by simpa [Act.put] using h.size, h.defers, fun s' hs' => by rw [← h.out s' hs']; simp [Act.put, Array.getElem?_setIfInBounds]; intro he; subst he; exact absurd hs hs', h.below, h.boxes⟩
theorem Stays.alloc {W : World} {a0 : Act} {slots : List Nat} {boxes : List (Nat × Array Value × TypeId)} {a : Act} {w : World} (h : Stays W a0 slots boxes a w) (o : Obj) : Stays W a0 slots boxes a (w.alloc o) :=
  ⟨h.size, h.defers, h.out, below_alloc0 h.below, fun g cs t hb => heap_alloc (h.boxes g cs t hb)⟩
theorem Stays.grown {W : World} {a0 : Act} {slots : List Nat} {boxes : List (Nat × Array Value × TypeId)} {a : Act} {w w' : World} {e : TypeId} {sz n : Nat} {v : Value} {xs : List Value} (h : Stays W a0 slots boxes a w)
    (hown : w.ownsRow W.heap.size e sz v n xs) (hg : w.grownBy w' v.ownBlock) (hne : ∀ g cs t, (g, cs, t) ∈ boxes → e ≠ t) : Stays W a0 slots boxes a w' :=
  ⟨h.size, h.defers, h.out, below_grown0 h.below hown hg, fun g cs t hb => heap_kept (h.boxes g cs t hb) hown (hne g cs t hb) hg⟩

/-- A step of memory that keeps what is of element type e. -/
def Keeps (e : TypeId) (w w' : World) : Prop :=
  (∀ (b s n : Nat) (v : Value) (xs : List Value), w.ownsRow b e s v n xs → w'.ownsRow b e s v n xs) ∧ (∀ (g : Nat) (cs : Array Value), w.heap[g]? = some (.cells cs e (0, 0)) → w'.heap[g]? = some (.cells cs e (0, 0)))
theorem Keeps.refl (e : TypeId) (w : World) : Keeps e w w := ⟨fun _ _ _ _ _ h => h, fun _ _ h => h⟩
theorem Keeps.alloc (e : TypeId) (w : World) (o : Obj) : Keeps e w (w.alloc o) := ⟨fun _ _ _ _ _ h => h.alloc o, fun _ _ h => heap_alloc h⟩
theorem Keeps.grown {e e' : TypeId} {w w' : World} {b s n : Nat} {v : Value} {xs : List Value} (hne : e ≠ e') (hown : w.ownsRow b e' s v n xs) (hg : w.grownBy w' v.ownBlock) : Keeps e w w' :=
  ⟨fun _ _ _ _ _ h => own_kept2 h hown hne hg, fun _ _ h => heap_kept h hown (Ne.symm hne) hg⟩

theorem put_other {a : Act} {s s' : Nat} (h : s ≠ s') (v : Value) : (a.put (some s) v).tmps[s']? = a.tmps[s']? := by simp [Act.put, h]
theorem put_same {a : Act} {s : Nat} (h : s < a.tmps.size) (v : Value) : (a.put (some s) v).tmps[s]? = some v := by simp [Act.put, h]

/-- A row that is appended to: the places of the operations that make the one-element slice and that append, the slots that they write, the row ahead, and the new element's cells. -/
structure Row where
  ib : Nat
  ip : Nat
  sb : Nat
  sp : Nat
  base : Nat
  e : TypeId
  sz : Nat
  v : Value
  n : Nat
  xs : List Value
  news : List Value
def Row.at (c : Row) (listed : Array Bool) (a : Act) (w : World) : Prop :=
  (listed.getD c.ip false = false → w.ownsRow c.base c.e c.sz c.v c.n c.xs) ∧
  (listed.getD c.ib false = true → ∃ g, a.tmps[c.sb]? = some (.slice (some ⟨g, 0, none⟩) 1 1) ∧ (listed.getD c.ip false = false → w.heap[g]? = some (.cells c.news.toArray c.e (0, 0)))) ∧
  (listed.getD c.ip false = true → listed.getD c.ib false = true ∧ ∃ g cap, a.tmps[c.sp]? = some (.slice (some ⟨g, 0, none⟩) (c.n + 1) cap) ∧ w.ownsRow c.base c.e c.sz (.slice (some ⟨g, 0, none⟩) (c.n + 1) cap) (c.n + 1) (c.xs ++ c.news))

theorem Row.other {c : Row} {listed : Array Bool} {a : Act} {w w' : World} {s i : Nat} (h : c.at listed a w) (hil : i < listed.size) (hib : i ≠ c.ib) (hip : i ≠ c.ip) (hsb : s ≠ c.sb) (hsp : s ≠ c.sp) (v : Value) (hk : Keeps c.e w w') :
    c.at (listed.setIfInBounds i true) (a.put (some s) v) w' := by
  have e1 := getD_set (listed := listed) (i := i) (j := c.ip) hil
  have e2 := getD_set (listed := listed) (i := i) (j := c.ib) hil
  rw [if_neg hip] at e1
  rw [if_neg hib] at e2
  obtain ⟨h1, h2, h3⟩ := h
  unfold Row.at
  rw [e1, e2]
  refine ⟨fun hl => hk.1 _ _ _ _ _ (h1 hl), fun hl => ?_, fun hl => ?_⟩
  · obtain ⟨g, hg, hh⟩ := h2 hl
    exact ⟨g, by rw [put_other hsb]; exact hg, fun hl' => hk.2 _ _ (hh hl')⟩
  · obtain ⟨hlb, g, cap, hg, ho⟩ := h3 hl
    exact ⟨hlb, g, cap, by rw [put_other hsp]; exact hg, hk.1 _ _ _ _ _ ho⟩

/-- Does an operation wait for number j? -/
def waits (o : Oper) (j : Nat) : Prop := ∃ e ∈ o.after, Region.binds .any e = true ∧ e.on = j

theorem waits_of {o : Oper} {j : Nat} (h : (o.after.any fun e => Region.binds .any e && decide (e.on = j)) = true) : waits o j := by
  simp only [Array.any_eq_true', Bool.and_eq_true, decide_eq_true_eq] at h
  obtain ⟨e, he, hb, hj⟩ := h
  exact ⟨e, he, hb, hj⟩

/-- What is asked of a row's two operations. -/
structure Row.Runs (P : Program) (l : List Oper) (W : World) (a0 : Act) (slots : List Nat) (boxes : List (Nat × Array Value × TypeId)) (known : List (Nat × Nat × Value)) (c : Row) (src js : Nat) (t : TypeId) (i : TypeInfo) (z : Value) (bytes : Nat) : Prop where
  base : c.base = W.heap.size
  build : ∃ o, l[c.ib]? = some o ∧ o.guard = none ∧ o.dst = some c.sb ∧
    ∀ (a : Act) (w : World), Stays W a0 slots boxes a w → (∀ (j s : Nat) (x : Value), (j, s, x) ∈ known → waits o j → a.tmps[s]? = some x) → (execOp a.eval o).run P w = .ok (.value (.slice (some ⟨w.heap.size, 0, none⟩) 1 1)) (w.alloc (.cells c.news.toArray c.e))
  app : ∃ o, l[c.ip]? = some o ∧ o.guard = none ∧ o.dst = some c.sp ∧ o.op = .call { callee := .builtin .append, args := #[.tmp src, .tmp c.sb], argTypes := #[t, t] } ∧ waits o js ∧ waits o c.ib
  src : (js, src, c.v) ∈ known
  ht : P.underlying t = some (.slice c.e)
  hi : P.info? c.e = some i
  hz : i.zero = some z
  hsize : i.size = c.sz
  hby : i.bytes = bytes
  hzs : z.cells.size = c.sz
  hsz : 0 < c.sz
  hnl : c.news.length = c.sz
  h1 : ∀ u ∈ c.news, u.oneCell' = true
  h63 : c.n + 1 ≤ maxLen
  hbytes : (c.n + 1) * bytes ≤ 140737488355328
  hbox : ∀ g cs t, (g, cs, t) ∈ boxes → c.e ≠ t

theorem listed_of_waits {ops : Array Oper} {listed : Array Bool} {i j : Nat} {o : Oper} (hr : i ∈ Region.ready .any ops listed) (ho : ops[i]? = some o) (hw : waits o j) : listed.getD j false = true := by
  obtain ⟨_, o', ho', hall⟩ := mem_ready.1 hr
  rw [ho] at ho'
  injection ho' with ho'
  subst ho'
  obtain ⟨e, he, hb, rfl⟩ := hw
  exact hall e he hb

theorem eval_tmp {a : Act} {s : Nat} {x : Value} (h : a.tmps[s]? = some x) : a.eval (.tmp s) = x := by simp [Act.eval, Array.getD_eq_getD_getElem?, h]

/-- A row's own two steps. -/
theorem Row.step {P : Program} {l : List Oper} {Q : Exit → Act → World → Prop} {W : World} {a0 : Act} {slots : List Nat} {boxes : List (Nat × Array Value × TypeId)} {known : List (Nat × Nat × Value)} {c : Row} {src js : Nat} {t : TypeId} {i : TypeInfo} {z : Value} {bytes : Nat}
    (R : c.Runs P l W a0 slots boxes known src js t i z bytes) (hsm : c.sb ∈ slots ∧ c.sp ∈ slots) (hlt : ∀ s ∈ slots, s < a0.tmps.size) (hne : c.ib ≠ c.ip) (hns : c.sb ≠ c.sp) {listed : Array Bool} {a : Act} {w : World} {p : Nat} (hp : p = c.ib ∨ p = c.ip)
    (hil : p < listed.size) (hr : p ∈ Region.ready .any l.toArray listed) (hs : Stays W a0 slots boxes a w) (hkn : ∀ (j s : Nat) (x : Value), (j, s, x) ∈ known → listed.getD j false = true → a.tmps[s]? = some x) (hc : c.at listed a w) (K : Act → World → Prop)
    (hK : ∀ s v w', (s = c.sb ∨ s = c.sp) → Stays W a0 slots boxes (a.put (some s) v) w' → c.at (listed.setIfInBounds p true) (a.put (some s) v) w' → (∀ e, e ≠ c.e → Keeps e w w') → K (a.put (some s) v) w') : wpOp P l.toArray Q p K a w := by
  have hun : ∀ q, q = p → listed.getD q false = false := by
    intro q hq
    subst hq
    have h := (mem_ready.1 hr).1
    simp only [Array.getD_eq_getD_getElem?] at h ⊢
    simpa [hil] using h
  rcases hp with rfl | rfl
  · obtain ⟨o, ho, hg, hd, hrun⟩ := R.build
    have ho' : l.toArray[c.ib]? = some o := by simpa using ho
    have hlt' : c.sb < a.tmps.size := by rw [hs.size]; exact hlt _ hsm.1
    have e1 := getD_set (listed := listed) (i := c.ib) (j := c.ip) hil
    have e2 := getD_set (listed := listed) (i := c.ib) (j := c.ib) hil
    rw [if_neg hne] at e1
    rw [if_pos rfl] at e2
    have hipf : listed.getD c.ip false = false := by
      cases hx : listed.getD c.ip false with
      | false => rfl
      | true =>
        have h1 := (hc.2.2 hx).1
        rw [hun c.ib rfl] at h1
        cases h1
    refine wpOp_val (o := o) ho' hg (hrun a w hs (fun j s x hm hw => hkn j s x hm (listed_of_waits hr ho' hw))) ?_
    rw [hd]
    refine hK c.sb _ _ (.inl rfl) ((hs.alloc _).put hsm.1 _) ?_ (fun e _ => Keeps.alloc e w _)
    unfold Row.at
    rw [e1, e2]
    refine ⟨fun hl => (hc.1 hl).alloc _, fun _ => ⟨w.heap.size, put_same hlt' _, fun _ => heap_new rfl⟩, fun hl => ?_⟩
    rw [hipf] at hl; cases hl
  · obtain ⟨o, ho, hg, hd, hop, hw1, hw2⟩ := R.app
    have ho' : l.toArray[c.ip]? = some o := by simpa using ho
    have hlt' : c.sp < a.tmps.size := by rw [hs.size]; exact hlt _ hsm.2
    have hipf := hun c.ip rfl
    obtain ⟨g, hgs, hgh⟩ := hc.2.1 (listed_of_waits hr ho' hw2)
    have hgh := hgh hipf
    have hown := hc.1 hipf
    have hown0 := hown
    rw [R.base] at hown
    have hsrc := hkn js src c.v R.src (listed_of_waits hr ho' hw1)
    unfold wpOp
    simp only [ho', Region.wanted, hg, if_true]
    refine .inl ?_
    refine wp_append_lies w (.tmp src) (.tmp c.sb) t hop W.heap.size c.e i z c.sz bytes R.ht R.hi R.hz R.hsize R.hby R.hzs R.hsz c.v c.n c.xs (eval_tmp hsrc) hown ⟨g, 0, none⟩ 1 1 c.news (eval_tmp hgs) (by rw [R.hnl]; omega)
      (by
        have := World.news_of_block hgh
        intro j u hu
        exact this j u (by simpa using hu)) R.h1 (by omega) R.h63 R.hbytes hs.below.size w.heap.size rfl ?_
    intro g' cap w' hown' hgrow _ _
    rw [hd]
    have e1 := getD_set (listed := listed) (i := c.ip) (j := c.ip) hil
    have e2 := getD_set (listed := listed) (i := c.ip) (j := c.ib) hil
    rw [if_pos rfl] at e1
    rw [if_neg (Ne.symm hne)] at e2
    refine hK c.sp _ w' (.inr rfl) ((hs.grown hown hgrow R.hbox).put hsm.2 _) ?_ (fun e he => Keeps.grown he hown hgrow)
    unfold Row.at
    rw [e1, e2]
    refine ⟨(fun hl => by cases hl), fun hl => ?_, fun _ => ⟨listed_of_waits hr ho' hw2, g', cap, put_same hlt' _, by rw [R.base]; exact hown'⟩⟩
    obtain ⟨g2, hg2, _⟩ := hc.2.1 hl
    exact ⟨g2, by rw [put_other (Ne.symm hns)]; exact hg2, (fun hl' => by cases hl')⟩

/-- The operations that hand back known values. -/
def KnownRuns (P : Program) (l : List Oper) (W : World) (a0 : Act) (slots : List Nat) (boxes : List (Nat × Array Value × TypeId)) (known : List (Nat × Nat × Value)) : Prop :=
  ∀ (i s : Nat) (x : Value), (i, s, x) ∈ known → ∃ o, l[i]? = some o ∧ o.guard = none ∧ o.dst = some s ∧
    ∀ (a : Act) (w : World), Stays W a0 slots boxes a w → (∀ (j s' : Nat) (x' : Value), (j, s', x') ∈ known → waits o j → a.tmps[s']? = some x') → (execOp a.eval o).run P w = .ok (.value x) w

theorem nodup_fst {known : List (Nat × Nat × Value)} : ∀ {i s s' : Nat} {x x' : Value}, (known.map (·.1)).Nodup → (i, s, x) ∈ known → (i, s', x') ∈ known → s = s' ∧ x = x' := by
  induction known with
  | nil => intro i s s' x x' _ h; cases h
  | cons y l ih =>
    intro i s s' x x' hn h h'
    simp only [List.map_cons, List.nodup_cons] at hn
    rcases List.mem_cons.1 h with k | k
    · rcases List.mem_cons.1 h' with k' | k'
      · rw [← k] at k'
        injection k' with _ k'
        injection k' with h1 h2
        exact ⟨h1.symm, h2.symm⟩
      · rw [← k] at hn
        exact absurd (List.mem_map.2 ⟨(i, s', x'), k', rfl⟩) hn.1
    · rcases List.mem_cons.1 h' with k' | k'
      · rw [← k'] at hn
        exact absurd (List.mem_map.2 ⟨(i, s, x), k, rfl⟩) hn.1
      · exact ih hn.2 k k'
theorem nodup_snd {known : List (Nat × Nat × Value)} : ∀ {i i' s : Nat} {x x' : Value}, (known.map (·.2.1)).Nodup → (i, s, x) ∈ known → (i', s, x') ∈ known → i = i' := by
  induction known with
  | nil => intro i i' s x x' _ h; cases h
  | cons y l ih =>
    intro i i' s x x' hn h h'
    simp only [List.map_cons, List.nodup_cons] at hn
    rcases List.mem_cons.1 h with k | k
    · rcases List.mem_cons.1 h' with k' | k'
      · rw [← k] at k'
        injection k' with k' _
        exact k'.symm
      · rw [← k] at hn
        exact absurd (List.mem_map.2 ⟨(i', s, x'), k', rfl⟩) hn.1
    · rcases List.mem_cons.1 h' with k' | k'
      · rw [← k'] at hn
        exact absurd (List.mem_map.2 ⟨(i, s, x), k, rfl⟩) hn.1
      · exact ih hn.2 k k'

/-- A region whose first h operations hand back known values or append to two rows, in whatever order; then the rest, one behind the other. -/
theorem two_rows {P : Program} {id : Nat} {l : List Oper} {Q : Exit → Act → World → Prop} {W : World} {a0 : Act} {w0 : World} {known : List (Nat × Nat × Value)} {boxes : List (Nat × Array Value × TypeId)} {A B : Row} {srcA srcB jsA jsB : Nat} {tA tB : TypeId} {iA iB : TypeInfo} {zA zB : Value} {bA bB h t : Nat}
    (hm : P.follows .mixedOrders = true) (hl : l.length = h + t) (hH : chkH l.toArray h = true) (hTl : chkT l.toArray h t = true)
    (hseq : Region.seqB .any l.toArray t h (List.replicate h true ++ List.replicate t false).toArray = true)
    (hne : A.e ≠ B.e) (hidx : (known.map (·.1) ++ [A.ib, A.ip, B.ib, B.ip]).Nodup) (hall : ∀ i, i < h → i ∈ known.map (·.1) ++ [A.ib, A.ip, B.ib, B.ip])
    (hsl : (known.map (·.2.1) ++ [A.sb, A.sp, B.sb, B.sp]).Nodup) (hlt : ∀ s ∈ known.map (·.2.1) ++ [A.sb, A.sp, B.sb, B.sp], s < a0.tmps.size)
    (hin : ∀ i ∈ known.map (·.1) ++ [A.ib, A.ip, B.ib, B.ip], i < h)
    (RK : KnownRuns P l W a0 (known.map (·.2.1) ++ [A.sb, A.sp, B.sb, B.sp]) boxes known)
    (RA : A.Runs P l W a0 (known.map (·.2.1) ++ [A.sb, A.sp, B.sb, B.sp]) boxes known srcA jsA tA iA zA bA) (RB : B.Runs P l W a0 (known.map (·.2.1) ++ [A.sb, A.sp, B.sb, B.sp]) boxes known srcB jsB tB iB zB bB)
    (hb : Below W.heap.size W w0) (hbx : ∀ g cs t, (g, cs, t) ∈ boxes → w0.heap[g]? = some (.cells cs t (0, 0)))
    (oA : w0.ownsRow A.base A.e A.sz A.v A.n A.xs) (oB : w0.ownsRow B.base B.e B.sz B.v B.n B.xs)
    (hT : ∀ w x1 g1 c1 x2 g2 c2, Below W.heap.size W w → (∀ g cs t, (g, cs, t) ∈ boxes → w.heap[g]? = some (.cells cs t (0, 0))) →
      w.ownsRow A.base A.e A.sz (.slice (some ⟨g1, 0, none⟩) (A.n + 1) c1) (A.n + 1) (A.xs ++ A.news) → w.ownsRow B.base B.e B.sz (.slice (some ⟨g2, 0, none⟩) (B.n + 1) c2) (B.n + 1) (B.xs ++ B.news) →
      wpList P l.toArray Q (l.drop h) (puts (known.map (·.2) ++ [(A.sb, x1), (A.sp, .slice (some ⟨g1, 0, none⟩) (A.n + 1) c1), (B.sb, x2), (B.sp, .slice (some ⟨g2, 0, none⟩) (B.n + 1) c2)]) a0) w) :
    (Code.region id l.toArray true).wp P Q a0 w0 := by
  have hnk := (List.nodup_append.1 hidx).1
  have hnks := (List.nodup_append.1 hsl).1
  have hn4 := (List.nodup_append.1 hidx).2.1
  have hns4 := (List.nodup_append.1 hsl).2.1
  have hx := (List.nodup_append.1 hidx).2.2
  have hxs := (List.nodup_append.1 hsl).2.2
  simp only [List.nodup_cons, List.mem_cons, List.not_mem_nil, or_false, not_or] at hn4 hns4
  obtain ⟨⟨n1, n2, n3⟩, ⟨n4, n5⟩, n6, _⟩ := hn4
  obtain ⟨⟨m1, m2, m3⟩, ⟨m4, m5⟩, m6, _⟩ := hns4
  refine wp_any_order (h := h) (t := t) hm hl hH hTl hseq
    (fun listed a w => Stays W a0 (known.map (·.2.1) ++ [A.sb, A.sp, B.sb, B.sp]) boxes a w ∧ (∀ (j s : Nat) (x : Value), (j, s, x) ∈ known → listed.getD j false = true → a.tmps[s]? = some x) ∧ A.at listed a w ∧ B.at listed a w) ?_ ?_ ?_
  · rintro listed a w i ⟨hs, hk, ha, hb'⟩ hsz hih hr
    have hil : i < listed.size := by omega
    have keepK : ∀ (s : Nat) (v : Value), (∀ s' ∈ known.map (·.2.1), s ≠ s') → i ∉ known.map (·.1) → ∀ (j s' : Nat) (x : Value), (j, s', x) ∈ known → (listed.setIfInBounds i true).getD j false = true → (a.put (some s) v).tmps[s']? = some x := by
      intro s v hss hik j s' x hm' hl'
      rw [getD_set hil, if_neg (by intro he; subst he; exact hik (List.mem_map.2 ⟨_, hm', rfl⟩))] at hl'
      rw [put_other (hss s' (List.mem_map.2 ⟨_, hm', rfl⟩))]
      exact hk j s' x hm' hl'
    rcases List.mem_append.1 (hall i hih) with hik | hik
    · obtain ⟨⟨i', s, x⟩, hm', rfl⟩ := List.mem_map.1 hik
      obtain ⟨o, ho, hg, hd, hrun⟩ := RK i' s x hm'
      have ho' : l.toArray[i']? = some o := by simpa using ho
      have hsk : s ∈ known.map (·.2.1) := List.mem_map.2 ⟨_, hm', rfl⟩
      have hsm : s ∈ known.map (·.2.1) ++ [A.sb, A.sp, B.sb, B.sp] := List.mem_append.2 (.inl hsk)
      have hlt' : s < a.tmps.size := by rw [hs.size]; exact hlt s hsm
      refine wpOp_val (o := o) ho' hg (hrun a w hs (fun j s' x' hm2 hw => hk j s' x' hm2 (listed_of_waits hr ho' hw))) ?_
      rw [hd]
      refine ⟨hs.put hsm x, fun j s' x' hm2 hl' => ?_, Row.other ha hil (hx _ hik _ (by simp)) (hx _ hik _ (by simp)) (hxs _ hsk _ (by simp)) (hxs _ hsk _ (by simp)) x (Keeps.refl _ _), Row.other hb' hil (hx _ hik _ (by simp)) (hx _ hik _ (by simp)) (hxs _ hsk _ (by simp)) (hxs _ hsk _ (by simp)) x (Keeps.refl _ _)⟩
      by_cases hj : i' = j
      · subst hj
        obtain ⟨rfl, rfl⟩ := nodup_fst hnk hm' hm2
        exact put_same hlt' _
      · rw [getD_set hil, if_neg hj] at hl'
        have hne' : s ≠ s' := by
          intro he
          subst he
          exact hj (nodup_snd hnks hm' hm2)
        rw [put_other hne']
        exact hk j s' x' hm2 hl'
    · have hik' : i ∉ known.map (·.1) := fun hmm => hx i hmm i hik rfl
      simp only [List.mem_cons, List.not_mem_nil, or_false] at hik
      have split : (i = A.ib ∨ i = A.ip) ∨ (i = B.ib ∨ i = B.ip) := by rcases hik with h | h | h | h <;> simp [h]
      rcases split with hi | hi
      · refine Row.step (Q := Q) RA ⟨by simp, by simp⟩ hlt n1 m1 hi hil hr hs hk ha _ (fun s v w' hsv hs' ha' hkk => ⟨hs', ?_, ha', ?_⟩)
        · exact keepK s v (fun s' hs'' he => by subst he; rcases hsv with rfl | rfl <;> exact hxs _ hs'' _ (by simp) rfl) hik'
        · refine Row.other hb' hil ?_ ?_ ?_ ?_ v (hkk _ (Ne.symm hne))
          · rcases hi with rfl | rfl <;> assumption
          · rcases hi with rfl | rfl <;> assumption
          · rcases hsv with rfl | rfl <;> assumption
          · rcases hsv with rfl | rfl <;> assumption
      · refine Row.step (Q := Q) RB ⟨by simp, by simp⟩ hlt n6 m6 hi hil hr hs hk hb' _ (fun s v w' hsv hs' hb'' hkk => ⟨hs', ?_, ?_, hb''⟩)
        · exact keepK s v (fun s' hs'' he => by subst he; rcases hsv with rfl | rfl <;> exact hxs _ hs'' _ (by simp) rfl) hik'
        · refine Row.other ha hil ?_ ?_ ?_ ?_ v (hkk _ hne)
          · rcases hi with rfl | rfl <;> exact Ne.symm (by assumption)
          · rcases hi with rfl | rfl <;> exact Ne.symm (by assumption)
          · rcases hsv with rfl | rfl <;> exact Ne.symm (by assumption)
          · rcases hsv with rfl | rfl <;> exact Ne.symm (by assumption)
  · have hz : ∀ j, (Array.replicate (h + t) false).getD j false = false := by
      intro j
      simp [Array.getD_eq_getD_getElem?, Array.getElem?_replicate]
      split <;> simp
    refine ⟨⟨rfl, rfl, fun _ _ => rfl, hb.drew, hbx⟩, fun j s x _ hl' => ?_, ⟨fun _ => oA, fun hl' => ?_, fun hl' => ?_⟩, ⟨fun _ => oB, fun hl' => ?_, fun hl' => ?_⟩⟩ <;> rw [hz] at hl' <;> cases hl'
  · rintro listed a w ⟨hs, hk, ⟨_, a2, a3⟩, ⟨_, b2, b3⟩⟩ hdone
    obtain ⟨g0, hx1, _⟩ := a2 (hdone _ (hin _ (by simp)))
    obtain ⟨_, g1, c1, hg1, ho1⟩ := a3 (hdone _ (hin _ (by simp)))
    obtain ⟨g3, hx2, _⟩ := b2 (hdone _ (hin _ (by simp)))
    obtain ⟨_, g2, c2, hg2, ho2⟩ := b3 (hdone _ (hin _ (by simp)))
    have e : a = puts (known.map (·.2) ++ [(A.sb, .slice (some ⟨g0, 0, none⟩) 1 1), (A.sp, .slice (some ⟨g1, 0, none⟩) (A.n + 1) c1), (B.sb, .slice (some ⟨g3, 0, none⟩) 1 1), (B.sp, .slice (some ⟨g2, 0, none⟩) (B.n + 1) c2)]) a0 := by
      have hmap : (known.map (·.2) ++ [(A.sb, Value.slice (some ⟨g0, 0, none⟩) 1 1), (A.sp, .slice (some ⟨g1, 0, none⟩) (A.n + 1) c1), (B.sb, .slice (some ⟨g3, 0, none⟩) 1 1), (B.sp, .slice (some ⟨g2, 0, none⟩) (B.n + 1) c2)]).map (·.1) = known.map (·.2.1) ++ [A.sb, A.sp, B.sb, B.sp] := by
        rw [List.map_append, List.map_map]; rfl
      refine act_eq hs.size hs.defers ?_ ?_ ?_ ?_
      · rw [hmap]; exact hs.out
      · rw [hmap]; exact hsl
      · rw [hmap]; exact hlt
      · intro s v hsv
        rcases List.mem_append.1 hsv with hh | hh
        · obtain ⟨⟨j, s', x⟩, hm', hh⟩ := List.mem_map.1 hh
          injection hh with e1 e2
          subst e1; subst e2
          exact hk j s' x hm' (hdone _ (hin _ (List.mem_append.2 (.inl (List.mem_map.2 ⟨_, hm', rfl⟩)))))
        · simp only [List.mem_cons, List.not_mem_nil, or_false, Prod.mk.injEq] at hh
          rcases hh with ⟨rfl, rfl⟩ | ⟨rfl, rfl⟩ | ⟨rfl, rfl⟩ | ⟨rfl, rfl⟩
          · exact hx1
          · exact hg1
          · exact hx2
          · exact hg2
    rw [e]
    exact hT w _ g1 c1 _ g2 c2 hs.below hs.boxes ho1 ho2
theorem run_move {P : Program} {a : Act} {w : World} {x : Operand} {v : Value} {d : Option Tmp} {ty : TypeId} {pos : String} {af : Array Edge} {g : Option (Nat × Bool)} (h : a.eval x = v) :
    (execOp a.eval { dst := d, op := .move x, type := ty, pos := pos, after := af, guard := g }).run P w = .ok (.value v) w := by
  subst h; rfl
theorem run_load {P : Program} {a : Act} {w : World} {x : Operand} {v q : Value} {d : Option Tmp} {ty T : TypeId} {pos : String} {af : Array Edge} {g : Option (Nat × Bool)} (h : a.eval x = q) (hl : (Instr.loadAt T q).run P w = .ok v w) :
    (execOp a.eval { dst := d, op := .load T x, type := ty, pos := pos, after := af, guard := g }).run P w = .ok (.value v) w := by
  subst h
  simp only [execOp, Sem.run_bind, hl]
  rfl
theorem run_build {P : Program} {a : Act} {w w' : World} {x : Operand} {v q : Value} {d : Option Tmp} {ty T : TypeId} {pos : String} {af : Array Edge} {g : Option (Nat × Bool)} (h : a.eval x = q) (hl : (Instr.buildSlice T 1 #[(0, q)]).run P w = .ok v w') :
    (execOp a.eval { dst := d, op := .buildSlice T 1 #[(0, x)], type := ty, pos := pos, after := af, guard := g }).run P w = .ok (.value v) w' := by
  subst h
  simp only [execOp, Sem.run_bind]
  have e : Array.map (fun x => (x.1, a.eval x.2)) #[(0, x)] = #[(0, a.eval x)] := by simp
  rw [e, hl]
  rfl
end Go.Proofs.Ytceeijamhhokaaa.Reg
