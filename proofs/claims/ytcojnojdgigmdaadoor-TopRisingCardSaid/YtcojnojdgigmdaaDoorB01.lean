/- Plain Lean: slices as lists, plans, runs, patterns and their reading. -/
import Derived.Below
import Derived.Laws.OwnMore
import Derived.Laws.NewBlocks
import Derived.Deep.AppendLies
import Derived.Deep.Draws
import Derived.Laws.IdiomRangeMap
import Derived.WalkKit
import Derived.BigQuiet
import Derived.Deep.QuietTactic
import Derived.Shelf.SlSortCmp.QuietGrown
import Derived.Lib.ItoaNum
import Derived.Lib.Join
/- Slices as lists: what a slice value reads as, below a block; kept while nothing below that block turns. No program in sight. -/
namespace Go.Proofs.YtcojnojdgigmdaaDoor.Mem
open Go.RowKit

theorem block_add (a : Addr) (n : Nat) : (a.add n).block = a.block := by unfold Addr.add; split <;> rfl
theorem add_add (a : Addr) (i j : Nat) : (a.add i).add j = a.add (i + j) := by
  unfold Addr.add
  by_cases hi : i = 0 <;> by_cases hj : j = 0 <;> simp [hi, hj, Nat.add_assoc]
theorem add_lit (b j : Nat) : (⟨b, 0, none⟩ : Addr).add j = ⟨b, j, none⟩ := by
  unfold Addr.add; split
  · rename_i h; subst h; rfl
  · simp

theorem lit_add (b o j : Nat) : (⟨b, o, none⟩ : Addr).add j = ⟨b, o + j, none⟩ := by
  unfold Addr.add; split
  · rename_i h; subst h; rfl
  · rfl
/-- An address at which a cell lies is a block and a place in it. -/
theorem lit_of_cell {w : World} {a : Addr} {u : Value} (h : w.cell? a = some u) : ∃ b o, a = ⟨b, o, none⟩ := by
  obtain ⟨b, o, p⟩ := a
  cases p with
  | none => exact ⟨b, o, rfl⟩
  | some p => simp only [World.cell?] at h; split at h <;> cases h

/-- The slice value v has n elements of so many cells each, and these cells; they lie below block B. -/
def Sl (w : World) (B size : Nat) (v : Value) (n : Nat) (xs : List Value) : Prop :=
  xs.length = n * size ∧ ∃ A c, v = .slice A n c ∧ n ≤ c ∧ (0 < n → ∃ b o : Nat, A = some ⟨b, o, none⟩ ∧ b < B ∧ ∀ j u, xs[j]? = some u → w.cell? ⟨b, o + j, none⟩ = some u)

section
variable {w w' : World} {B B' size n : Nat} {v : Value} {xs : List Value}
theorem Sl.shape (h : Sl w B size v n xs) : ∃ A c, v = .slice A n c := by obtain ⟨_, A, c, hv, _⟩ := h; exact ⟨A, c, hv⟩
theorem Sl.nil_ (w : World) (B size : Nat) : Sl w B size (.slice none 0 0) 0 [] := ⟨by simp, none, 0, rfl, Nat.le_refl _, fun h => absurd h (by omega)⟩
theorem Sl.keep (h : Sl w B size v n xs) (hk : ∀ p : Addr, p.block < B → w'.cell? p = w.cell? p) : Sl w' B size v n xs := by
  obtain ⟨h1, A, c, hv, hc, hr⟩ := h
  refine ⟨h1, A, c, hv, hc, fun hn => ?_⟩
  obtain ⟨b, o, e, hb, hx⟩ := hr hn
  exact ⟨b, o, e, hb, fun j u hu => (hk ⟨b, o + j, none⟩ hb).trans (hx j u hu)⟩
theorem Sl.more (h : Sl w B size v n xs) (hB : B ≤ B') : Sl w B' size v n xs := by
  obtain ⟨h1, A, c, hv, hc, hr⟩ := h
  refine ⟨h1, A, c, hv, hc, fun hn => ?_⟩
  obtain ⟨b, o, e, hb, hx⟩ := hr hn
  exact ⟨b, o, e, by omega, hx⟩
theorem Sl.below (h : Sl w B size v n xs) (hb : Below B w w') : Sl w' B size v n xs := h.keep fun _ hp => hb.cell hp
theorem Sl.drew (h : Sl w B size v n xs) : Sl w.drew B size v n xs := h
theorem Sl.drewN (h : Sl w B size v n xs) (k : Nat) : Sl (w.drewN k) B size v n xs := h
theorem Sl.of_own {base : Nat} {e : TypeId} (h : w.ownsRow base e size v n xs) : Sl w w.heap.size size v n xs := by
  rcases h.2 with ⟨rfl, rfl⟩ | ⟨g, cap, cur, rfl, hg, hh, hnc, hr⟩
  · have h1 := h.1
    exact ⟨h1, none, 0, rfl, Nat.le_refl _, fun hn => absurd hn (by omega)⟩
  · refine ⟨h.1, _, cap, rfl, hnc, fun hn => ⟨g, 0, rfl, ?_, fun j u hu => ?_⟩⟩
    · rcases Nat.lt_or_ge g w.heap.size with h' | h'
      · exact h'
      · simp [Array.getElem?_eq_none h'] at hh
    · have := h.cells (g := g) rfl j u hu
      rwa [lit_add] at this
/-- The element's cells. -/
theorem Sl.elem (h : Sl w B size v n xs) {i : Nat} (hi : i < n) : ∃ (b o c : Nat), v = .slice (some ⟨b, o, none⟩) n c ∧ b < B ∧ ∀ j u, j < size → xs[i * size + j]? = some u → w.cell? ⟨b, o + i * size + j, none⟩ = some u := by
  obtain ⟨h1, A, c, hv, hc, hr⟩ := h
  obtain ⟨b, o, rfl, hb, hx⟩ := hr (by omega)
  exact ⟨b, o, c, hv, hb, fun j u _ hu => by rw [Nat.add_assoc]; exact hx _ u hu⟩
end

theorem own_below {w w' : World} {base : Nat} {e : TypeId} {size : Nat} {v : Value} {n : Nat} {xs : List Value} (h : w.ownsRow base e size v n xs) (hb : Below w.heap.size w w') : w'.ownsRow base e size v n xs :=
  h.kept (row := none) ⟨hb.os, hb.tape, hb.output, hb.size, fun k hk _ => hb.block k hk⟩ (by cases v.ownBlock <;> simp)
theorem own_lt {w : World} {base : Nat} {e : TypeId} {size : Nat} {v : Value} {n : Nat} {xs : List Value} (h : w.ownsRow base e size v n xs) : ∀ k, v.ownBlock = some k → base ≤ k ∧ k < w.heap.size := by
  intro k hk
  rcases h.2 with ⟨rfl, _⟩ | ⟨g, cap, cur, rfl, hg, hh, _⟩
  · simp [Value.ownBlock] at hk
  · have : g = k := by simpa [Value.ownBlock] using hk
    subst this
    refine ⟨hg, ?_⟩
    rcases Nat.lt_or_ge g w.heap.size with h' | h'
    · exact h'
    · simp [Array.getElem?_eq_none h'] at hh
/-- What an append leaves of older memory. -/
theorem below_grown {a w w' : World} {B base : Nat} {e : TypeId} {size : Nat} {v : Value} {n : Nat} {xs : List Value} (h : Below B a w) (hown : w.ownsRow base e size v n xs) (hg : w.grownBy w' v.ownBlock) (hB : B ≤ w.heap.size) (hbase : B ≤ base) : Below B a w' :=
  h.grown hg hB (fun k hk => Nat.le_trans hbase (own_lt hown k hk).1)

theorem new_cell (w : World) (cs : Array Value) (t : TypeId) (j : Nat) (u : Value) (h : cs.toList[j]? = some u) : (w.alloc (.cells cs t)).cell? ((⟨w.heap.size, 0, none⟩ : Addr).add j) = some u := by
  rw [add_lit, World.cell?_alloc_at _ _ _ _ rfl]
  simpa using h

/-! ### For closing what stands behind a region in whose orders two rows are appended to: each fact from the world ahead. -/
theorem own_ne {w : World} {b b' : Nat} {e e' : TypeId} {s s' n n' : Nat} {v v' : Value} {xs xs' : List Value} (h : w.ownsRow b e s v n xs) (h' : w.ownsRow b' e' s' v' n' xs') (hne : e ≠ e') : v.ownBlock = none ∨ v.ownBlock ≠ v'.ownBlock := by
  rcases h.2 with ⟨rfl, _⟩ | ⟨g, cap, cur, rfl, _, hh, _⟩
  · exact .inl rfl
  · rcases h'.2 with ⟨rfl, _⟩ | ⟨g', cap', cur', rfl, _, hh', _⟩
    · exact .inr (by simp [Value.ownBlock])
    · refine .inr fun he => ?_
      have : g = g' := by simpa [Value.ownBlock] using he
      subst this
      rw [hh] at hh'
      injection hh' with hh'
      injection hh' with _ ht
      exact hne ht
theorem own_kept2 {w w' : World} {b b' : Nat} {e e' : TypeId} {s s' n n' : Nat} {v v' : Value} {xs xs' : List Value} (h : w.ownsRow b e s v n xs) (h' : w.ownsRow b' e' s' v' n' xs') (hne : e ≠ e') (hg : w.grownBy w' v'.ownBlock) : w'.ownsRow b e s v n xs :=
  h.kept hg (own_ne h h' hne)
theorem below_alloc0 {a w : World} {o : Obj} (h : Below a.heap.size a w) : Below a.heap.size a (w.alloc o) := h.alloc h.size o
theorem below_grown0 {a w w' : World} {e : TypeId} {s n : Nat} {v : Value} {xs : List Value} (h : Below a.heap.size a w) (hown : w.ownsRow a.heap.size e s v n xs) (hg : w.grownBy w' v.ownBlock) : Below a.heap.size a w' :=
  below_grown h hown hg h.size (Nat.le_refl _)
theorem heap_lt {w : World} {g : Nat} {o : Obj} (h : w.heap[g]? = some o) : g < w.heap.size := by
  rcases Nat.lt_or_ge g w.heap.size with h' | h'
  · exact h'
  · simp [Array.getElem?_eq_none h'] at h
theorem heap_alloc {w : World} {g : Nat} {o o' : Obj} (h : w.heap[g]? = some o) : (w.alloc o').heap[g]? = some o := (Below.heap_alloc w o' g (heap_lt h)).trans h
theorem heap_kept {w w' : World} {g b s n : Nat} {e t : TypeId} {cs : Array Value} {fr : Nat × Nat} {v : Value} {xs : List Value} (h : w.heap[g]? = some (.cells cs t fr)) (hown : w.ownsRow b e s v n xs) (hne : e ≠ t) (hg : w.grownBy w' v.ownBlock) : w'.heap[g]? = some (.cells cs t fr) := by
  refine (hg.block g (heap_lt h) ?_).trans h
  rcases hown.2 with ⟨rfl, _⟩ | ⟨g', cap, cur, rfl, _, hh, _⟩
  · simp [Value.ownBlock]
  · intro he
    have : g = g' := by simpa [Value.ownBlock] using he
    subst this
    rw [h] at hh
    injection hh with hh
    injection hh with _ ht
    exact hne ht.symm
theorem heap_new {w : World} {o : Obj} {g : Nat} (h : g = w.heap.size) : (w.alloc o).heap[g]? = some o := by subst h; exact heap_alloc_new w o
theorem heap_drew {w : World} {g : Nat} {o : Obj} (h : w.heap[g]? = some o) : w.drew.heap[g]? = some o := h
theorem cell_far2 {w w' : World} {a : Addr} {u : Value} {row : Option Nat} (hc : w.cell? a = some u) (hg : w.grownBy w' row) (hne : row ≠ some a.block) : w'.cell? a = some u := by
  have hlt : a.block < w.heap.size := by
    rcases Nat.lt_or_ge a.block w.heap.size with h' | h'
    · exact h'
    · simp [World.cell?, Array.getElem?_eq_none h'] at hc
  rw [World.cell?_of_block (hg.block a.block hlt (fun e => hne e.symm))]; exact hc

/-- The cells of a list of things, each of so many cells. -/
def cellsOf {α : Type} (enc : α → List Value) (l : List α) : List Value := l.flatMap enc
section
variable {α : Type} {enc : α → List Value} {k : Nat}
theorem cellsOf_length (hk : ∀ x, (enc x).length = k) (l : List α) : (cellsOf enc l).length = l.length * k := by
  induction l with
  | nil => simp [cellsOf]
  | cons x r ih =>
    have : cellsOf enc (x :: r) = enc x ++ cellsOf enc r := rfl
    rw [this, List.length_append, ih, hk, List.length_cons, Nat.add_mul]; omega
theorem cellsOf_get (hk : ∀ x, (enc x).length = k) (l : List α) (i j : Nat) (hj : j < k) (hi : i < l.length) : (cellsOf enc l)[i * k + j]? = (enc l[i])[j]? := by
  induction l generalizing i with
  | nil => simp at hi
  | cons x r ih =>
    have e : cellsOf enc (x :: r) = enc x ++ cellsOf enc r := rfl
    rw [e]
    cases i with
    | zero => rw [Nat.zero_mul, Nat.zero_add, List.getElem?_append_left (by rw [hk]; exact hj)]; rfl
    | succ i =>
      rw [List.getElem?_append_right (by rw [hk, Nat.add_mul]; omega), hk, show (i + 1) * k + j - k = i * k + j by rw [Nat.add_mul]; omega]
      exact ih i (by simpa using hi)
theorem cellsOf_snoc (l : List α) (x : α) : cellsOf enc (l ++ [x]) = cellsOf enc l ++ enc x := by simp [cellsOf]
end

/-- The slice reads as these integers (int64, int). -/
def Ints (w : World) (B : Nat) (v : Value) (l : List Int) : Prop := Sl w B 1 v l.length (l.map (Value.int .i64))
theorem Ints.at_ {w : World} {B : Nat} {v : Value} {l : List Int} (h : Ints w B v l) {i : Nat} (hi : i < l.length) :
    ∃ (b o c : Nat), v = .slice (some ⟨b, o, none⟩) l.length c ∧ b < B ∧ w.cell? ⟨b, o + i, none⟩ = some (.int .i64 l[i]) := by
  obtain ⟨b, o, c, hv, hb, hx⟩ := Sl.elem h hi
  refine ⟨b, o, c, hv, hb, ?_⟩
  have := hx 0 (.int .i64 l[i]) (by omega) (by simp [hi])
  simpa using this

/-- A slice of a new block, all of it. -/
theorem Sl.new (w : World) (t : TypeId) (cs : Array Value) (n size : Nat) (h : cs.size = n * size) (g : Nat) (hg : g = w.heap.size) : Sl (w.alloc (.cells cs t)) (w.heap.size + 1) size (.slice (some ⟨g, 0, none⟩) n n) n cs.toList := by
  subst hg
  refine ⟨by simpa using h, _, n, rfl, Nat.le_refl _, fun _ => ⟨_, 0, rfl, by omega, fun j u hu => ?_⟩⟩
  rw [Nat.zero_add, World.cell?_alloc_at _ _ _ _ rfl]
  simpa using hu

/-- An event. -/
structure Ev where
  id : Int
  time : Int
  kind : Int
  val : Int
deriving DecidableEq
/-- Its cells. -/
def encE (e : Ev) : List Value := [.int .i64 e.id, .int .i64 e.time, .int .u8 e.kind, .int .i64 e.val]
theorem encE_len (e : Ev) : (encE e).length = 4 := rfl
theorem encE_one (e : Ev) : ∀ u ∈ encE e, u.oneCell' = true := by
  intro u hu
  simp only [encE, List.mem_cons, List.not_mem_nil, or_false] at hu
  rcases hu with rfl | rfl | rfl | rfl <;> rfl
/-- Its numbers lie within their kinds. -/
def Ev.fits (e : Ev) : Prop := (-9223372036854775808 ≤ e.id ∧ e.id ≤ 9223372036854775807) ∧ (-9223372036854775808 ≤ e.time ∧ e.time ≤ 9223372036854775807) ∧ (0 ≤ e.kind ∧ e.kind ≤ 255) ∧ (-9223372036854775808 ≤ e.val ∧ e.val ≤ 9223372036854775807)
/-- The slice reads as these events. -/
def Evs (w : World) (B : Nat) (v : Value) (l : List Ev) : Prop := Sl w B 4 v l.length (cellsOf encE l)
theorem Evs.at_ {w : World} {B : Nat} {v : Value} {l : List Ev} (h : Evs w B v l) {i : Nat} (hi : i < l.length) :
    ∃ (b o c : Nat), v = .slice (some ⟨b, o, none⟩) l.length c ∧ b < B ∧ w.cell? ⟨b, o + i * 4, none⟩ = some (.int .i64 l[i].id) ∧ w.cell? ⟨b, o + i * 4 + 1, none⟩ = some (.int .i64 l[i].time) ∧
      w.cell? ⟨b, o + i * 4 + 2, none⟩ = some (.int .u8 l[i].kind) ∧ w.cell? ⟨b, o + i * 4 + 3, none⟩ = some (.int .i64 l[i].val) := by
  obtain ⟨b, o, c, hv, hb, hx⟩ := Sl.elem h hi
  refine ⟨b, o, c, hv, hb, ?_, ?_, ?_, ?_⟩
  · exact hx 0 (.int .i64 l[i].id) (by omega) (by rw [cellsOf_get encE_len l i 0 (by omega) hi]; rfl)
  · exact hx 1 _ (by omega) (by rw [cellsOf_get encE_len l i 1 (by omega) hi]; rfl)
  · exact hx 2 _ (by omega) (by rw [cellsOf_get encE_len l i 2 (by omega) hi]; rfl)
  · exact hx 3 _ (by omega) (by rw [cellsOf_get encE_len l i 3 (by omega) hi]; rfl)
end Go.Proofs.YtcojnojdgigmdaaDoor.Mem
/- Worlds with blocks more and draws more. No program in sight. -/
namespace Go.Proofs.YtcojnojdgigmdaaDoor.Mem
open Go Go.RowKit Go.Sort

/-- Blocks more, draws more. -/
def Grw (w w' : World) : Prop := ∃ q os, w' = grow (w.drewN q) os
theorem Grw.refl (w : World) : Grw w w := ⟨0, #[], by rw [grow_empty]; rfl⟩
theorem Grw.alloc {a w : World} (h : Grw a w) (o : Obj) : Grw a (w.alloc o) := by
  obtain ⟨q, os, rfl⟩ := h
  exact ⟨q, os ++ #[o], by rw [alloc_eq_grow, grow_grow]⟩
theorem Grw.drewN {a w : World} (h : Grw a w) (n : Nat) : Grw a (w.drewN n) := by
  obtain ⟨q, os, rfl⟩ := h
  refine ⟨q + n, os, ?_⟩
  rw [← World.drewN_drewN]; rfl
theorem Grw.trans {a b c : World} (h : Grw a b) (h' : Grw b c) : Grw a c := by
  obtain ⟨q, os, rfl⟩ := h
  obtain ⟨r, os', rfl⟩ := h'
  refine ⟨q + r, os ++ os', ?_⟩
  show grow (grow ((a.drewN q).drewN r) os) os' = _
  rw [grow_grow, World.drewN_drewN]
theorem Grw.below {a w : World} (h : Grw a w) : Below a.heap.size a w := by
  obtain ⟨q, os, rfl⟩ := h
  exact ⟨rfl, rfl, rfl, by rw [size_grow]; exact Nat.le_add_right _ _, fun k hk => heap_grow_old (a.drewN q) os hk⟩
theorem Grw.size {a w : World} (h : Grw a w) : a.heap.size ≤ w.heap.size := h.below.size
theorem Grw.cell {a w : World} (h : Grw a w) {b o : Nat} (hb : b < a.heap.size) {u : Value} (hc : a.cell? ⟨b, o, none⟩ = some u) : w.cell? ⟨b, o, none⟩ = some u :=
  (h.below.cell (p := ⟨b, o, none⟩) hb).trans hc
theorem Grw.grown {P : Program} {f : FuncId} {args : Array Value} {w : World} {n : Nat} {os : Array Obj} {v : Value}
    (h : Calls P f args (grow (w.drewN n) os) fun e w' => e = .returned v ∧ Grw (grow (w.drewN n) os) w') : Calls P f args (grow (w.drewN n) os) fun e w'' => e = .returned v ∧ ∃ p : GrownBy, w'' = grow (w.drewN p.n) p.os :=
  Calls.grown_of h
theorem Grw.cellG {w : World} {b o : Nat} {u : Value} (hb : b < w.heap.size) (h : w.cell? ⟨b, o, none⟩ = some u) : ∀ n os, (grow (w.drewN n) os).cell? ⟨b, o, none⟩ = some u := fun n os => cell_grown hb h n os
end Go.Proofs.YtcojnojdgigmdaaDoor.Mem
/- The plan of a pattern (layer 20) in plain Lean: what is wrong with a pattern, and where; the tests of each step. No program in sight. -/
namespace Go.Proofs.YtcojnojdgigmdaaDoor.PL

/-- A step: kind, name, whether it stands as a bar, how often. -/
structure GS where
  k : Int
  nm : Int
  neg : Bool
  lo : Int
  hi : Int
deriving DecidableEq
/-- A condition. -/
structure GC where
  l : Int
  op : Int
  r : Int
  k : Int
deriving DecidableEq
/-- A test. -/
structure PT where
  op : Int
  step : Int
  add : Int
  turn : Bool
deriving DecidableEq

instance : Inhabited GS := ⟨⟨0, 0, false, 0, 0⟩⟩
instance : Inhabited GC := ⟨⟨0, 0, 0, 0⟩⟩

/-- The number of a name's first step, -1 where there is none. -/
def findP (ss : List GS) (nm : Int) : Int := match ss.findIdx? (fun s => s.nm == nm) with
  | some i => i
  | none => -1
theorem findP_hit {ss : List GS} {nm : Int} {i : Nat} (hi : i < ss.length) (h : ss[i].nm = nm) (hb : ∀ j (hj : j < i), (ss[j]'(Nat.lt_trans hj hi)).nm ≠ nm) : findP ss nm = i := by
  have : ss.findIdx? (fun s => s.nm == nm) = some i := by
    rw [List.findIdx?_eq_some_iff_getElem]
    exact ⟨hi, by simpa using h, fun j hj => by simpa using hb j hj⟩
  unfold findP; rw [this]
theorem findP_miss {ss : List GS} {nm : Int} (hb : ∀ j (hj : j < ss.length), ss[j].nm ≠ nm) : findP ss nm = -1 := by
  have : ss.findIdx? (fun s => s.nm == nm) = none := by
    rw [List.findIdx?_eq_none_iff]
    intro x hx
    obtain ⟨j, hj, rfl⟩ := List.mem_iff_getElem.1 hx
    simpa using hb j hj
  unfold findP; rw [this]
theorem findP_cases (ss : List GS) (nm : Int) : findP ss nm = -1 ∨ ∃ i : Nat, findP ss nm = i ∧ ∃ hi : i < ss.length, ss[i].nm = nm ∧ ∀ j (hj : j < i), (ss[j]'(Nat.lt_trans hj hi)).nm ≠ nm := by
  unfold findP
  cases h : ss.findIdx? (fun s => s.nm == nm) with
  | none => exact .inl rfl
  | some i =>
    rw [List.findIdx?_eq_some_iff_getElem] at h
    obtain ⟨hi, h1, h2⟩ := h
    exact .inr ⟨i, rfl, hi, by simpa using h1, fun j hj => by simpa using h2 j hj⟩
theorem findP_lt (ss : List GS) (nm : Int) : -1 ≤ findP ss nm ∧ findP ss nm < ss.length := by
  rcases findP_cases ss nm with h | ⟨i, h, hi, _⟩ <;> omega
theorem findP_le_self {ss : List GS} {i : Nat} (hi : i < ss.length) : 0 ≤ findP ss ss[i].nm ∧ findP ss ss[i].nm ≤ i := by
  rcases findP_cases ss ss[i].nm with h | ⟨j, h, hj, h1, h2⟩
  · exfalso
    unfold findP at h
    cases h' : ss.findIdx? (fun s => s.nm == ss[i].nm) with
    | none =>
      rw [List.findIdx?_eq_none_iff] at h'
      have := h' ss[i] (List.getElem_mem hi)
      simp at this
    | some j => rw [h'] at h; simp at h
  · rw [h]
    refine ⟨by omega, ?_⟩
    rcases Nat.lt_or_ge i j with hl | hl
    · exact absurd rfl (h2 i hl)
    · omega

/-- What is wrong with the i-th step. -/
def stepE (ss : List GS) (i : Nat) : Int :=
  let s := ss[i]!
  if ¬ (65 ≤ s.k ∧ s.k ≤ 90) ∨ ¬ (97 ≤ s.nm ∧ s.nm ≤ 122) then 20
  else if findP ss s.nm < i then 21
  else if s.neg = true ∧ (i = 0 ∨ i + 1 = ss.length) then 23
  else if (s.neg = true ∧ (s.lo ≠ 1 ∨ s.hi ≠ 1)) ∨ s.lo < 1 ∨ s.hi < s.lo ∨ 4 < s.hi then 22
  else 0
/-- What is wrong with a condition. -/
def condE (ss : List GS) (c : GC) : Int :=
  if c.op < 0 ∨ 5 < c.op then 20
  else if c.k < -9007199254740992 ∨ 9007199254740992 < c.k then 2
  else if findP ss c.l < 0 ∨ (c.r ≠ 0 ∧ findP ss c.r < 0) then 21
  else if c.r = 0 then 0
  else if (ss[(min (findP ss c.l) (findP ss c.r)).toNat]!).neg = true then 23
  else 0
/-- The first of n that is at fault. -/
def firstBad (f : Nat → Int) : Nat → Option (Nat × Int)
  | 0 => none
  | n + 1 => match firstBad f n with
    | some x => some x
    | none => if f n = 0 then none else some (n, f n)
theorem firstBad_none {f : Nat → Int} {n : Nat} (h : ∀ j, j < n → f j = 0) : firstBad f n = none := by
  induction n with
  | zero => rfl
  | succ n ih => unfold firstBad; rw [ih fun j hj => h j (by omega)]; simp [h n (by omega)]
theorem firstBad_some {f : Nat → Int} {n i : Nat} (hi : i < n) (he : f i ≠ 0) (h : ∀ j, j < i → f j = 0) : firstBad f n = some (i, f i) := by
  induction n with
  | zero => omega
  | succ n ih =>
    unfold firstBad
    rcases Nat.lt_or_ge i n with hl | hl
    · rw [ih hl]
    · have : i = n := by omega
      subst this
      rw [firstBad_none h]
      simp [he]
theorem firstBad_cases (f : Nat → Int) (n : Nat) : (firstBad f n = none ∧ ∀ j, j < n → f j = 0) ∨ ∃ i, i < n ∧ f i ≠ 0 ∧ (∀ j, j < i → f j = 0) ∧ firstBad f n = some (i, f i) := by
  induction n with
  | zero => exact .inl ⟨rfl, fun j hj => absurd hj (by omega)⟩
  | succ n ih =>
    rcases ih with ⟨h1, h2⟩ | ⟨i, hi, h1, h2, h3⟩
    · by_cases he : f n = 0
      · refine .inl ⟨?_, fun j hj => ?_⟩
        · unfold firstBad; rw [h1]; simp [he]
        · rcases Nat.lt_or_ge j n with hl | hl
          · exact h2 j hl
          · have : j = n := by omega
            rw [this]; exact he
      · exact .inr ⟨n, by omega, he, h2, firstBad_some (by omega) he h2⟩
    · exact .inr ⟨i, by omega, h1, h2, firstBad_some (by omega) h1 h2⟩
/-- How many events the first n steps take at most. -/
def bindsTo (ss : List GS) : Nat → Int
  | 0 => 0
  | n + 1 => bindsTo ss n + if (ss[n]!).neg = true then 0 else (ss[n]!).hi
/-- What is wrong with a pattern, and where. -/
def checkP (ss : List GS) (cs : List GC) (wi : Int) : Int × Int :=
  if ss.length < 1 ∨ 8 < ss.length ∨ 16 < cs.length then (0, 24)
  else if wi < 0 ∨ 9007199254740992 < wi then (0, 2)
  else match firstBad (stepE ss) ss.length with
    | some (i, e) => (i, e)
    | none => if 16 < bindsTo ss ss.length then (0, 24)
      else match firstBad (fun i => condE ss cs[i]!) cs.length with
        | some (i, e) => (ss.length + i, e)
        | none => (0, 0)
/-- How many of the first i steps are no bars. -/
def posTo (ss : List GS) : Nat → Nat
  | 0 => 0
  | n + 1 => posTo ss n + if (ss[n]!).neg = true then 0 else 1
/-- The step at which a condition is tested, and the test. -/
def testOf (ss : List GS) (c : GC) : Nat × PT :=
  if c.r = 0 then ((findP ss c.l).toNat, ⟨c.op, -1, c.k, false⟩)
  else if findP ss c.l = findP ss c.r then ((findP ss c.l).toNat, ⟨c.op, -2, c.k, false⟩)
  else if findP ss c.r < findP ss c.l then ((findP ss c.l).toNat, ⟨c.op, posTo ss ((findP ss c.r).toNat + 1) - 1, c.k, false⟩)
  else ((findP ss c.r).toNat, ⟨c.op, posTo ss ((findP ss c.l).toNat + 1) - 1, c.k, true⟩)
/-- The tests of the i-th step, of these conditions. -/
def testsAt (ss : List GS) (cs : List GC) (i : Nat) : List PT := cs.filterMap fun c => if (testOf ss c).1 = i then some (testOf ss c).2 else none
theorem testsAt_snoc (ss : List GS) (cs : List GC) (c : GC) (i : Nat) : testsAt ss (cs ++ [c]) i = testsAt ss cs i ++ if (testOf ss c).1 = i then [(testOf ss c).2] else [] := by
  unfold testsAt
  rw [List.filterMap_append]
  by_cases h : (testOf ss c).1 = i <;> simp [h]

/-- A step that takes events, and the bars behind it, each with a thing of its own. -/
abbrev Grp (α : Type) := (GS × α) × List (GS × α)
/-- One step more. -/
def pushG {α : Type} : List (Grp α) → GS × α → List (Grp α)
  | [], x => [(x, [])]
  | [g], x => if x.1.neg = true then [(g.1, g.2 ++ [x])] else [g, (x, [])]
  | g :: g' :: r, x => g :: pushG (g' :: r) x
/-- The steps, in groups. -/
def groups {α : Type} (l : List (GS × α)) : List (Grp α) := l.foldl pushG []
theorem groups_snoc {α : Type} (l : List (GS × α)) (x : GS × α) : groups (l ++ [x]) = pushG (groups l) x := by simp [groups, List.foldl_append]
theorem pushG_ne {α : Type} (l : List (Grp α)) (x : GS × α) : pushG l x ≠ [] := by
  match l with
  | [] => simp [pushG]
  | [g] => unfold pushG; split <;> simp
  | g :: g' :: r => simp [pushG]
theorem pushG_pos {α : Type} (l : List (Grp α)) (x : GS × α) (h : x.1.neg = false) : pushG l x = l ++ [(x, [])] := by
  induction l with
  | nil => rfl
  | cons g r ih =>
    match r with
    | [] => simp [pushG, h]
    | g' :: r => simp only [pushG, ih, List.cons_append]
theorem pushG_bar {α : Type} (l : List (Grp α)) (g : Grp α) (x : GS × α) (h : x.1.neg = true) : pushG (l ++ [g]) x = l ++ [(g.1, g.2 ++ [x])] := by
  induction l with
  | nil => simp [pushG, h]
  | cons a r ih =>
    match r with
    | [] => simp [pushG, h]
    | a' :: r => simpa only [pushG, List.cons_append, List.cons.injEq, true_and] using ih
/-- The groups, one behind the other. -/
def flat {α : Type} (l : List (Grp α)) : List (GS × α) := l.flatMap fun g => g.1 :: g.2
theorem flat_push {α : Type} (l : List (Grp α)) (x : GS × α) : flat (pushG l x) = flat l ++ [x] := by
  match l with
  | [] => rfl
  | [g] => unfold pushG; split <;> simp [flat]
  | g :: g' :: r =>
    have := flat_push (g' :: r) x
    unfold pushG
    simp only [flat, List.flatMap_cons] at this ⊢
    rw [this]; simp
theorem flat_groups {α : Type} (l : List (GS × α)) : flat (groups l) = l := by
  have : ∀ (a : List (Grp α)), flat (l.foldl pushG a) = flat a ++ l := by
    induction l with
    | nil => intro a; simp
    | cons x r ih => intro a; rw [List.foldl_cons, ih, flat_push]; simp
  simpa [groups, flat] using this []
end Go.Proofs.YtcojnojdgigmdaaDoor.PL
/- Runs (layer 21), in plain Lean: what becomes of a run with an event more. No program in sight. -/
namespace Go.Proofs.YtcojnojdgigmdaaDoor.PR
open Go Go.Proofs.YtcojnojdgigmdaaDoor.PL Go.Proofs.YtcojnojdgigmdaaDoor.Mem

/-- How two numbers stand. -/
def hB (o a b : Int) : Bool := if o = 0 then decide (a < b) else if o = 1 then decide (a ≤ b) else if o = 2 then a == b else if o = 3 then a != b else if o = 4 then decide (b ≤ a) else if o = 5 then decide (b < a) else false
/-- A bar; a step that takes events; a plan. -/
structure RBar where
  kind : Int
  tests : List PT
structure RPos where
  kind : Int
  lo : Int
  hi : Int
  tests : List PT
  bars : List RBar
structure RPlan where
  steps : List RPos
  within : Int
/-- The beginning of a match. -/
structure RRun where
  counts : List Nat
  evs : List Ev
  blocked : Bool
/-- What becomes of a run. -/
structure RRes where
  keep : Bool
  run : RRun
  grown : List RRun
  done : List (List UInt8)
def noRun : RRun := ⟨[], [], false⟩
/-- The events that a step took. -/
def ofR (r : RRun) (step : Nat) : List Ev :=
  if step < r.counts.length then (r.evs.drop (r.counts.take step).sum).take (r.counts.getD step 0) else []
/-- Does an event hold a test? -/
def holdsT (t : PT) (r : RRun) (step : Nat) (e : Ev) : Bool :=
  if t.step = -1 then hB t.op e.val t.add
  else if t.step = -2 then
    match (ofR r step).getLast? with
    | none => true
    | some y => hB t.op e.val (y.val + t.add)
  else (ofR r t.step.toNat).all fun y => if t.turn then hB t.op y.val (e.val + t.add) else hB t.op e.val (y.val + t.add)
def allT (l : List PT) (r : RRun) (step : Nat) (e : Ev) : Bool := l.all fun t => holdsT t r step e
def fitsS (s : RPos) (r : RRun) (step : Nat) (e : Ev) : Bool := (e.kind == s.kind) && allT s.tests r step e
/-- The run with an event more of a step. -/
def withR (r : RRun) (step : Nat) (e : Ev) : RRun :=
  let c := if step = r.counts.length then r.counts ++ [0] else r.counts
  ⟨c.set step (c.getD step 0 + 1), r.evs ++ [e], false⟩
/-- What a match is told as. -/
def textR (r : RRun) : List UInt8 := Lib.join ((List.range r.counts.length).map fun i => Lib.join ((ofR r i).map fun e => Lib.itoa e.id) [44]) [124]
/-- What a grown run comes to: a text; a run. -/
def addDone (p : RPlan) (r : RRun) : Bool := (r.counts.length == p.steps.length) && match p.steps.getLast?, r.counts.getLast? with
  | some s, some n => decide (s.lo ≤ (n : Int))
  | _, _ => false
def addGrown (p : RPlan) (r : RRun) : Bool := !(r.counts.length == p.steps.length) || match p.steps.getLast?, r.counts.getLast? with
  | some s, some n => decide ((n : Int) < s.hi)
  | _, _ => false
def addR (p : RPlan) (x : RRes) (r : RRun) : RRes :=
  ⟨x.keep, x.run, x.grown ++ (if addGrown p r then [r] else []), x.done ++ (if addDone p r then [textR r] else [])⟩
def noRes : RRes := ⟨false, noRun, [], []⟩
/-- What begins with an event. -/
def startR (p : RPlan) (e : Ev) : RRes := match p.steps with
  | [] => noRes
  | s :: _ => if fitsS s noRun 0 e then addR p noRes (withR noRun 0 e) else noRes
def untilR (p : RPlan) (r : RRun) : Int := match r.evs with
  | [] => -1
  | y :: _ => y.time + p.within
/-- What becomes of a run with an event more. -/
def advR (p : RPlan) (r : RRun) (e : Ev) : RRes :=
  match r.counts.getLast? with
  | none => noRes
  | some n =>
    let at' := r.counts.length - 1
    match p.steps[at']? with
    | none => noRes
    | some s =>
      if untilR p r < e.time then noRes
      else
        let x1 := if (n : Int) < s.hi ∧ fitsS s r at' e = true then addR p noRes (withR r at' e) else noRes
        let x2 := match p.steps[at' + 1]? with
          | none => x1
          | some s2 => if s.lo ≤ (n : Int) ∧ r.blocked = false ∧ fitsS s2 r (at' + 1) e = true then addR p x1 (withR r (at' + 1) e) else x1
        ⟨true, ⟨r.counts, r.evs, r.blocked || s.bars.any fun b => (e.kind == b.kind) && allT b.tests r at' e⟩, x2.grown, x2.done⟩
/-- One event's turn: the runs, in order; what is told. -/
def turnR (p : RPlan) (runs : List RRun) (e : Ev) : List RRun × List (List UInt8) :=
  let xs := runs.map fun r => advR p r e
  let s := startR p e
  (((xs.filter (·.keep)).map (·.run)) ++ xs.flatMap (·.grown) ++ s.grown, xs.flatMap (·.done) ++ s.done)
/-- The matches of events in order. -/
def allR (p : RPlan) : List RRun → List Ev → List (List UInt8)
  | _, [] => []
  | runs, e :: l => (turnR p runs e).2 ++ allR p (turnR p runs e).1 l
end Go.Proofs.YtcojnojdgigmdaaDoor.PR
/- All matches, in plain Lean: the runs and the texts, event by event; what holds of every run. No program in sight. -/
namespace Go.Proofs.YtcojnojdgigmdaaDoor.PR
open Go Go.Proofs.YtcojnojdgigmdaaDoor.PL Go.Proofs.YtcojnojdgigmdaaDoor.Mem

/-- One event more: the runs, the texts told so far. -/
def stepA (p : RPlan) (s : List RRun × List (List UInt8)) (e : Ev) : List RRun × List (List UInt8) := ((turnR p s.1 e).1, s.2 ++ (turnR p s.1 e).2)
/-- The runs and the texts behind events in order. -/
def runA (p : RPlan) (l : List Ev) : List RRun × List (List UInt8) := l.foldl (stepA p) ([], [])
theorem foldA_snd (p : RPlan) : ∀ (l : List Ev) (s : List RRun × List (List UInt8)), (l.foldl (stepA p) s).2 = s.2 ++ allR p s.1 l := by
  intro l
  induction l with
  | nil => intro s; simp [allR]
  | cons e l ih =>
    intro s
    rw [List.foldl_cons, ih]
    simp [stepA, allR]
theorem runA_all (p : RPlan) (l : List Ev) : (runA p l).2 = allR p [] l := by
  unfold runA
  rw [foldA_snd]; rfl
theorem runA_snoc (p : RPlan) (l : List Ev) (e : Ev) : runA p (l ++ [e]) = stepA p (runA p l) e := by
  unfold runA; rw [List.foldl_append]; rfl
/-- What some runs come to: those kept, those grown, the texts. -/
def innR (p : RPlan) (e : Ev) (rs : List RRun) : List RRun × List RRun × List (List UInt8) :=
  ((((rs.map fun r => advR p r e).filter (·.keep)).map (·.run)), (rs.map fun r => advR p r e).flatMap (·.grown), (rs.map fun r => advR p r e).flatMap (·.done))
theorem innR_nil (p : RPlan) (e : Ev) : innR p e [] = ([], [], []) := rfl
theorem innR_snoc (p : RPlan) (e : Ev) (rs : List RRun) (r : RRun) :
    innR p e (rs ++ [r]) = ((innR p e rs).1 ++ (if (advR p r e).keep then [(advR p r e).run] else []), (innR p e rs).2.1 ++ (advR p r e).grown, (innR p e rs).2.2 ++ (advR p r e).done) := by
  unfold innR
  simp only [List.map_append, List.map_cons, List.map_nil, List.filter_append, List.flatMap_append]
  refine Prod.ext ?_ (Prod.ext ?_ ?_)
  · simp only []
    congr 1
    cases h : (advR p r e).keep <;> simp [h]
  · simp
  · simp
theorem turnR_inn (p : RPlan) (rs : List RRun) (e : Ev) : turnR p rs e = ((innR p e rs).1 ++ (innR p e rs).2.1 ++ (startR p e).grown, (innR p e rs).2.2 ++ (startR p e).done) := rfl
/-- What holds of every run. -/
structure GoodR (p : RPlan) (P : Ev → Prop) (k : Nat) (r : RRun) : Prop where
  sum : r.counts.sum = r.evs.length
  few : r.evs.length ≤ k
  pos : 0 < r.counts.length
  le : r.counts.length ≤ p.steps.length
  evs : ∀ y ∈ r.evs, P y
theorem GoodR.more {p : RPlan} {P : Ev → Prop} {k k' : Nat} {r : RRun} (h : GoodR p P k r) (hk : k ≤ k') : GoodR p P k' r := ⟨h.sum, Nat.le_trans h.few hk, h.pos, h.le, h.evs⟩
theorem sum_set_add : ∀ (l : List Nat) (k : Nat), k < l.length → (l.set k (l.getD k 0 + 1)).sum = l.sum + 1 := by
  intro l
  induction l with
  | nil => intro k h; cases h
  | cons x l ih =>
    intro k h
    cases k with
    | zero => simp; omega
    | succ k =>
      have := ih k (by simpa using h)
      simp only [List.getD_cons_succ, List.set_cons_succ, List.sum_cons]
      omega
theorem GoodR.with_ {p : RPlan} {P : Ev → Prop} {k step : Nat} {r : RRun} {e : Ev} (hs : r.counts.sum = r.evs.length) (hf : r.evs.length ≤ k) (hl : r.counts.length ≤ p.steps.length) (hv : ∀ y ∈ r.evs, P y) (he : P e) (h1 : step ≤ r.counts.length) (h2 : step < p.steps.length) : GoodR p P (k + 1) (withR r step e) := by
  have hlen : (if step = r.counts.length then r.counts ++ [0] else r.counts).length = if step = r.counts.length then r.counts.length + 1 else r.counts.length := by split <;> simp
  refine ⟨?_, ?_, ?_, ?_, ?_⟩
  · show (List.set _ step _).sum = (r.evs ++ [e]).length
    rw [sum_set_add _ _ (by rw [hlen]; split <;> omega), List.length_append, List.length_singleton, ← hs]
    split <;> simp
  · show (r.evs ++ [e]).length ≤ _
    rw [List.length_append, List.length_singleton]; omega
  · show 0 < (List.set _ step _).length
    rw [List.length_set, hlen]; split <;> omega
  · show (List.set _ step _).length ≤ _
    rw [List.length_set, hlen]; split <;> omega
  · intro y hy
    rcases List.mem_append.1 (show y ∈ r.evs ++ [e] from hy) with h | h
    · exact hv y h
    · rw [List.mem_singleton.1 h]; exact he
/-- What becomes of a run: the run itself, and the runs that it has grown to. -/
structure AdvOk (p : RPlan) (P : Ev → Prop) (k : Nat) (x : RRes) : Prop where
  grown : ∀ g ∈ x.grown, GoodR p P k g
  few1 : x.grown.length ≤ 2
  few2 : x.done.length ≤ 2
theorem addR_grown (p : RPlan) (x : RRes) (r : RRun) : (addR p x r).grown = x.grown ++ (if addGrown p r then [r] else []) := rfl
theorem addR_done (p : RPlan) (x : RRes) (r : RRun) : (addR p x r).done = x.done ++ (if addDone p r then [textR r] else []) := rfl
theorem advR_ok (p : RPlan) (P : Ev → Prop) (k : Nat) (r : RRun) (e : Ev) (h : GoodR p P k r) (he : P e) : AdvOk p P (k + 1) (advR p r e) ∧ ((advR p r e).keep = true → GoodR p P k (advR p r e).run) := by
  have none_ok : AdvOk p P (k + 1) noRes := ⟨fun g hg => (by cases hg), by decide, by decide⟩
  have none_ok2 : AdvOk p P (k + 1) noRes ∧ (noRes.keep = true → GoodR p P k noRes.run) := ⟨none_ok, fun h => (by cases h)⟩
  unfold advR
  cases hN : r.counts.getLast? with
  | none => exact none_ok2
  | some n =>
    simp only []
    cases hS : p.steps[r.counts.length - 1]? with
    | none => exact none_ok2
    | some s =>
      simp only []
      by_cases hu : untilR p r < e.time
      · rw [if_pos hu]; exact none_ok2
      · rw [if_neg hu]
        have hlt : r.counts.length - 1 < p.steps.length := by have := h.pos; have := h.le; omega
        have g1 : GoodR p P (k + 1) (withR r (r.counts.length - 1) e) := GoodR.with_ h.sum h.few h.le h.evs he (by omega) hlt
        refine ⟨?_, fun _ => ⟨h.sum, h.few, h.pos, h.le, h.evs⟩⟩
        have one : ∀ (b : Bool) (c : Prop) [Decidable c] (w : RRun), GoodR p P (k + 1) w → ∀ g ∈ (if c then addR p noRes w else noRes).grown, GoodR p P (k + 1) g := by
          intro b c _ w hw g hg
          split at hg
          · rw [addR_grown] at hg
            rcases List.mem_append.1 hg with h' | h'
            · cases h'
            · split at h'
              · rw [List.mem_singleton.1 h']; exact hw
              · cases h'
          · cases hg
        have len1 : ∀ (c : Prop) [Decidable c] (w : RRun), (if c then addR p noRes w else noRes).grown.length ≤ 1 ∧ (if c then addR p noRes w else noRes).done.length ≤ 1 := by
          intro c _ w
          split
          · rw [addR_grown, addR_done]
            constructor <;> (show (([] : List _) ++ _).length ≤ 1) <;> split <;> simp
          · exact ⟨by decide, by decide⟩
        generalize hx1 : (if (n : Int) < s.hi ∧ fitsS s r (r.counts.length - 1) e = true then addR p noRes (withR r (r.counts.length - 1) e) else noRes) = x1
        have a1 : (∀ g ∈ x1.grown, GoodR p P (k + 1) g) ∧ x1.grown.length ≤ 1 ∧ x1.done.length ≤ 1 := by
          rw [← hx1]
          exact ⟨one true _ _ g1, (len1 _ _).1, (len1 _ _).2⟩
        cases hS2 : p.steps[r.counts.length - 1 + 1]? with
        | none => exact ⟨a1.1, by have := a1.2.1; simp only []; omega, by have := a1.2.2; simp only []; omega⟩
        | some s2 =>
          simp only []
          have hlt2 : r.counts.length - 1 + 1 < p.steps.length := (List.getElem?_eq_some_iff.1 hS2).1
          have g2 : GoodR p P (k + 1) (withR r (r.counts.length - 1 + 1) e) := GoodR.with_ h.sum h.few h.le h.evs he (by have := h.pos; omega) hlt2
          split
          · refine ⟨?_, ?_, ?_⟩
            · intro g hg
              rw [addR_grown] at hg
              rcases List.mem_append.1 hg with h' | h'
              · exact a1.1 g h'
              · split at h'
                · rw [List.mem_singleton.1 h']; exact g2
                · cases h'
            · rw [addR_grown, List.length_append]
              have := a1.2.1
              split <;> simp <;> omega
            · rw [addR_done, List.length_append]
              have := a1.2.2
              split <;> simp <;> omega
          · exact ⟨a1.1, by have := a1.2.1; simp only []; omega, by have := a1.2.2; simp only []; omega⟩
theorem startR_ok (p : RPlan) (P : Ev → Prop) (e : Ev) (he : P e) : (∀ g ∈ (startR p e).grown, GoodR p P 1 g) ∧ (startR p e).grown.length ≤ 1 ∧ (startR p e).done.length ≤ 1 := by
  unfold startR
  cases hS : p.steps with
  | nil => exact ⟨fun g hg => (by cases hg), Nat.zero_le _, Nat.zero_le _⟩
  | cons s l =>
    simp only []
    split
    · have g1 : GoodR p P 1 (withR noRun 0 e) := GoodR.with_ rfl (Nat.le_refl _) (Nat.zero_le _) (fun y hy => (by cases hy)) he (Nat.zero_le _) (by rw [hS]; simp)
      refine ⟨?_, ?_, ?_⟩
      · intro g hg
        rw [addR_grown] at hg
        rcases List.mem_append.1 hg with h' | h'
        · cases h'
        · split at h'
          · rw [List.mem_singleton.1 h']; exact g1
          · cases h'
      · rw [addR_grown]; show (([] : List _) ++ _).length ≤ 1; split <;> simp
      · rw [addR_done]; show (([] : List _) ++ _).length ≤ 1; split <;> simp
    · exact ⟨fun g hg => (by cases hg), by decide, by decide⟩
theorem innR_ok (p : RPlan) (P : Ev → Prop) (k : Nat) (e : Ev) (he : P e) (rs : List RRun) (h : ∀ r ∈ rs, GoodR p P k r) :
    (∀ g ∈ (innR p e rs).1, GoodR p P k g) ∧ (∀ g ∈ (innR p e rs).2.1, GoodR p P (k + 1) g) ∧ (innR p e rs).1.length ≤ rs.length ∧ (innR p e rs).2.1.length ≤ 2 * rs.length ∧ (innR p e rs).2.2.length ≤ 2 * rs.length := by
  refine ⟨?_, ?_, ?_, ?_, ?_⟩
  · intro g hg
    obtain ⟨x, hx, rfl⟩ := List.mem_map.1 hg
    obtain ⟨hx1, hx2⟩ := List.mem_filter.1 hx
    obtain ⟨r, hr, rfl⟩ := List.mem_map.1 hx1
    exact (advR_ok p P k r e (h r hr) he).2 hx2
  · intro g hg
    obtain ⟨x, hx, hg⟩ := List.mem_flatMap.1 hg
    obtain ⟨r, hr, rfl⟩ := List.mem_map.1 hx
    exact (advR_ok p P k r e (h r hr) he).1.grown g hg
  · show (List.map _ (List.filter _ _)).length ≤ _
    rw [List.length_map]
    exact Nat.le_trans (List.length_filter_le _ _) (by simp)
  · show (List.flatMap _ (List.map _ rs)).length ≤ _
    induction rs with
    | nil => simp
    | cons r rs ih =>
      have h1 := (advR_ok p P k r e (h r List.mem_cons_self) he).1.few1
      have h2 := ih fun r hr => h r (List.mem_cons_of_mem _ hr)
      simp only [List.map_cons, List.flatMap_cons, List.length_append, List.length_cons]; omega
  · show (List.flatMap _ (List.map _ rs)).length ≤ _
    induction rs with
    | nil => simp
    | cons r rs ih =>
      have h1 := (advR_ok p P k r e (h r List.mem_cons_self) he).1.few2
      have h2 := ih fun r hr => h r (List.mem_cons_of_mem _ hr)
      simp only [List.map_cons, List.flatMap_cons, List.length_append, List.length_cons]; omega
theorem stepA_ok (p : RPlan) (P : Ev → Prop) (k M : Nat) (s : List RRun × List (List UInt8)) (e : Ev) (he : P e) (h : ∀ r ∈ s.1, GoodR p P k r) (h1 : s.1.length ≤ M) (h2 : s.2.length ≤ M) (hM : 1 ≤ M) :
    (∀ r ∈ (stepA p s e).1, GoodR p P (k + 1) r) ∧ (stepA p s e).1.length ≤ 4 * M ∧ (stepA p s e).2.length ≤ 4 * M := by
  obtain ⟨a, b, c, d, f⟩ := innR_ok p P k e he s.1 h
  obtain ⟨u, v, w⟩ := startR_ok p P e he
  unfold stepA
  rw [turnR_inn]
  refine ⟨fun r hr => ?_, ?_, ?_⟩
  · rcases List.mem_append.1 hr with hr | hr
    · rcases List.mem_append.1 hr with hr | hr
      · exact (a r hr).more (by omega)
      · exact b r hr
    · exact (u r hr).more (by omega)
  · simp only [List.length_append]; omega
  · simp only [List.length_append]; omega
theorem runA_ok (p : RPlan) (P : Ev → Prop) (l : List Ev) (he : ∀ e ∈ l, P e) : (∀ r ∈ (runA p l).1, GoodR p P l.length r) ∧ (runA p l).1.length ≤ 4 ^ l.length ∧ (runA p l).2.length ≤ 4 ^ l.length := by
  suffices h : ∀ (n : Nat) (l : List Ev), l.length = n → (∀ e ∈ l, P e) → (∀ r ∈ (runA p l).1, GoodR p P n r) ∧ (runA p l).1.length ≤ 4 ^ n ∧ (runA p l).2.length ≤ 4 ^ n from h _ l rfl he
  intro n
  induction n with
  | zero =>
    intro l hl _
    rw [List.eq_nil_of_length_eq_zero hl]
    exact ⟨fun r hr => (by cases hr), by simp [runA], by simp [runA]⟩
  | succ n ih =>
    intro l hl hP
    have hne : l ≠ [] := by intro h; rw [h] at hl; cases hl
    obtain ⟨l', e, rfl⟩ : ∃ l' e, l = l' ++ [e] := ⟨l.dropLast, l.getLast hne, (List.dropLast_concat_getLast hne).symm⟩
    have hl' : l'.length = n := by simpa using hl
    obtain ⟨a, b, c⟩ := ih l' hl' fun e he => hP e (List.mem_append.2 (.inl he))
    rw [runA_snoc]
    have := stepA_ok p P n (4 ^ n) (runA p l') e (hP e (by simp)) a b c (Nat.one_le_pow _ _ (by omega))
    rw [show 4 ^ (n + 1) = 4 * 4 ^ n by rw [Nat.pow_succ, Nat.mul_comm]]
    exact this
end Go.Proofs.YtcojnojdgigmdaaDoor.PR
/- The pattern language's reader (layer 19) in plain Lean: the program's parser, step by step, on a list of bytes. No program in sight. -/
namespace Go.Proofs.YtcojnojdgigmdaaDoor.PP

/-- A fault's place and error, or a value and the place behind it. -/
abbrev PR (α : Type) := Sum (Nat × Int) (α × Nat)

/-- The next byte, 0 at the end. -/
def peekB (l : List UInt8) (a : Nat) : Nat := match l[a]? with
  | some b => b.toNat
  | none => 0
/-- A part, then what is read behind it. -/
def PR.bind {α β : Type} (x : PR α) (f : α → Nat → PR β) : PR β := match x with
  | .inl e => .inl e
  | .inr (v, a) => f v a
/-- The next byte, which must be from one up to another. -/
def pOne (l : List UInt8) (a lo hi : Nat) : PR Nat :=
  match l[a]? with
  | some b => if lo ≤ b.toNat ∧ b.toNat ≤ hi then .inr (b.toNat, a + 1) else .inl (a, 20)
  | none => .inl (a, 20)
/-- These bytes. -/
def pWord (l : List UInt8) : List UInt8 → Nat → PR Unit
  | [], a => .inr ((), a)
  | b :: r, a => match pOne l a b.toNat b.toNat with
    | .inl f => .inl f
    | .inr (_, a') => pWord l r a'
/-- The byte, if it is the next one. -/
def pHas (l : List UInt8) (a b : Nat) : Bool := match l[a]? with
  | some x => x.toNat == b
  | none => false
/-- Take the byte, if it is the next one. -/
def pHasR (l : List UInt8) (a b : Nat) : PR Bool := .inr (if pHas l a b then (true, a + 1) else (false, a))
/-- More digits. -/
def pDig (l : List UInt8) : Nat → Nat → Nat → Nat × Nat
  | 0, n, a => (n, a)
  | f + 1, n, a => if 0 < n then (match l[a]? with
    | some b => if 48 ≤ b.toNat ∧ b.toNat ≤ 57 then pDig l f (10 * n + (b.toNat - 48)) (a + 1) else (n, a)
    | none => (n, a)) else (n, a)
/-- A number. -/
def pNum (l : List UInt8) (a least : Nat) : PR Nat := match pOne l a least 57 with
  | .inl f => .inl f
  | .inr (b, a') => .inr (pDig l 8 (b - 48) a')
/-- An operator of comparison, as the program numbers them. -/
def pOp (l : List UInt8) (a : Nat) : PR Nat :=
  if pHas l a 60 then (if pHas l (a + 1) 61 then .inr (1, a + 2) else .inr (0, a + 1))
  else if pHas l a 62 then (if pHas l (a + 1) 61 then .inr (4, a + 2) else .inr (5, a + 1))
  else if pHas l a 33 then (match pWord l [61] (a + 1) with
    | .inl f => .inl f
    | .inr (_, a') => .inr (3, a'))
  else (match pWord l [61] a with
    | .inl f => .inl f
    | .inr (_, a') => .inr (2, a'))
/-- A condition: the left attribute's letter, the operator, the right one's letter (0: none), a constant. -/
structure Cnd where
  l : Nat
  op : Nat
  r : Nat
  k : Int
/-- The n-th condition. -/
def pCond (l : List UInt8) (a n : Nat) : PR Cnd :=
  if n = 16 then (pOne l a 97 122).bind fun _ _ => .inl (a, 24)
  else (pOne l a 97 122).bind fun x a1 => (pOp l a1).bind fun o a2 =>
    if peekB l a2 = 45 then (pNum l (a2 + 1) 49).bind fun k a3 => .inr (⟨x, o, 0, -(k : Int)⟩, a3)
    else if 48 ≤ peekB l a2 ∧ peekB l a2 ≤ 57 then (pNum l a2 48).bind fun k a3 => .inr (⟨x, o, 0, k⟩, a3)
    else (pOne l a2 97 122).bind fun r a3 =>
      if pHas l a3 43 then (pNum l (a3 + 1) 49).bind fun k a5 => .inr (⟨x, o, r, k⟩, a5)
      else if pHas l a3 45 then (pNum l (a3 + 1) 49).bind fun k a5 => .inr (⟨x, o, r, -(k : Int)⟩, a5)
      else .inr (⟨x, o, r, 0⟩, a3)
/-- A step: kind, name, whether it stands as a bar, how often. -/
structure Stp where
  k : Nat
  nm : Nat
  neg : Bool
  lo : Nat
  hi : Nat
/-- The n-th step. -/
def pStep (l : List UInt8) (a n : Nat) : PR Stp :=
  if n = 8 then (if pHas l a 33 then .inl (a, 24) else (pOne l a 65 90).bind fun _ _ => .inl (a, 24))
  else (pHasR l a 33).bind fun neg a0 => (pOne l a0 65 90).bind fun k a1 => (pWord l [32] a1).bind fun _ a2 => (pOne l a2 97 122).bind fun nm a3 =>
    if pHas l a3 123 then (if neg then .inl (a3, 22)
      else (pNum l (a3 + 1) 48).bind fun lo a4 => (pWord l [44] a4).bind fun _ a5 => (pNum l a5 48).bind fun hi a6 => (pWord l [125] a6).bind fun _ a7 =>
        if lo < 1 ∨ hi < lo ∨ 4 < hi ∨ hi = 1 then .inl (a3, 22) else .inr (⟨k, nm, false, lo, hi⟩, a7))
    else .inr (⟨k, nm, neg, 1, 1⟩, a3)
end Go.Proofs.YtcojnojdgigmdaaDoor.PP
/- The pattern language's reader (layer 19) in plain Lean, part 2: the whole pattern. No program in sight. -/
namespace Go.Proofs.YtcojnojdgigmdaaDoor.PP

/-- More steps behind those that were read. -/
def pSteps (l : List UInt8) : Nat → Nat → List Stp → PR (List Stp)
  | 0, a, ss => .inr (ss, a)
  | f + 1, a, ss => if pHas l a 44 then (pStep l (a + 1) ss.length).bind fun x a' => pSteps l f a' (ss ++ [x]) else .inr (ss, a)
/-- More conditions behind those that were read. -/
def pConds (l : List UInt8) : Nat → Nat → List Cnd → PR (List Cnd)
  | 0, a, cs => .inr (cs, a)
  | f + 1, a, cs => if pHas l a 65 then (pWord l [78, 68, 32] (a + 1)).bind fun _ a1 => (pCond l a1 cs.length).bind fun x a2 => (pWord l [32] a2).bind fun _ a3 => pConds l f a3 (cs ++ [x]) else .inr (cs, a)
/-- A pattern. -/
structure Ptn where
  ss : List Stp
  cs : List Cnd
  wi : Nat
/-- The window. -/
def pEnd (l : List UInt8) (ss : List Stp) (cs : List Cnd) (a : Nat) : PR Ptn :=
  (pWord l [73, 84, 72, 73, 78, 32] a).bind fun _ a1 => (pNum l a1 48).bind fun k a2 => .inr (⟨ss, cs, k⟩, a2)
/-- What stands behind the steps. -/
def pRest (l : List UInt8) (ss : List Stp) (a : Nat) : PR Ptn :=
  (pWord l [41, 32, 87] a).bind fun _ a3 =>
    if pHas l a3 72 then (pWord l [69, 82, 69, 32] (a3 + 1)).bind fun _ a4 => (pCond l a4 0).bind fun x a5 => (pWord l [32] a5).bind fun _ a6 => (pConds l 16 a6 [x]).bind fun cs a7 => (pWord l [87] a7).bind fun _ a8 => pEnd l ss cs a8
    else pEnd l ss [] a3
/-- All of it. -/
def pPat (l : List UInt8) : PR Ptn :=
  (pWord l [83, 69, 81, 40] 0).bind fun _ a0 => (pStep l a0 0).bind fun x a1 => (pSteps l 8 a1 [x]).bind fun ss a2 => pRest l ss a2

/-- A text's pattern, or its fault. -/
def pParse (l : List UInt8) : Sum (Nat × Int) Ptn :=
  if 4096 < l.length then .inl (0, 5) else match pPat l with
    | .inl f => .inl f
    | .inr (p, a) => if a < l.length then .inl (a, 20) else .inr p

theorem PR.bind_assoc {α β γ : Type} (x : PR α) (f : α → Nat → PR β) (g : β → Nat → PR γ) : (x.bind f).bind g = x.bind fun v a => (f v a).bind g := by
  cases x <;> rfl
theorem pStep_lt {l : List UInt8} {a n : Nat} {x : Stp} {a' : Nat} (h : pStep l a n = .inr (x, a')) (hn : n ≤ 8) : n < 8 := by
  rcases Nat.lt_or_ge n 8 with h8 | h8
  · exact h8
  · exfalso
    have : n = 8 := by omega
    subst this
    unfold pStep at h
    rw [if_pos rfl] at h
    split at h
    · simp at h
    · cases hx : pOne l a 65 90 with
      | inl f => rw [hx] at h; simp [PR.bind] at h
      | inr f => rw [hx] at h; simp [PR.bind] at h
theorem pCond_lt {l : List UInt8} {a n : Nat} {x : Cnd} {a' : Nat} (h : pCond l a n = .inr (x, a')) (hn : n ≤ 16) : n < 16 := by
  rcases Nat.lt_or_ge n 16 with h8 | h8
  · exact h8
  · exfalso
    have : n = 16 := by omega
    subst this
    unfold pCond at h
    rw [if_pos rfl] at h
    cases hx : pOne l a 97 122 with
    | inl f => rw [hx] at h; simp [PR.bind] at h
    | inr f => rw [hx] at h; simp [PR.bind] at h
end Go.Proofs.YtcojnojdgigmdaaDoor.PP
/- The plain parser at a text with something behind it: what ends strictly inside is read the same. No program in sight. -/
namespace Go.Proofs.YtcojnojdgigmdaaDoor.PP

/-- Read on l with a success that ends strictly inside, it is read so with m behind it. -/
def Ext {α : Type} (l m : List UInt8) (p : List UInt8 → Nat → PR α) : Prop :=
  ∀ a v a', p l a = .inr (v, a') → a ≤ a' ∧ (a' < l.length → p (l ++ m) a = .inr (v, a'))
section
variable {l m : List UInt8}
theorem look {a : Nat} (h : a < l.length) : (l ++ m)[a]? = l[a]? := List.getElem?_append_left h
theorem look_has {a b : Nat} (h : a < l.length) : pHas (l ++ m) a b = pHas l a b := by unfold pHas; rw [look h]
theorem look_peek {a : Nat} (h : a < l.length) : peekB (l ++ m) a = peekB l a := by unfold peekB; rw [look h]
theorem ext_ret {α : Type} (v : α) : Ext l m fun _ a => .inr (v, a) := by
  intro a v' a' h
  cases h
  exact ⟨Nat.le_refl _, fun _ => rfl⟩
theorem ext_one (lo hi : Nat) : Ext l m fun l a => pOne l a lo hi := by
  intro a v a' h
  simp only [pOne] at h ⊢
  cases hx : l[a]? with
  | none => rw [hx] at h; cases h
  | some b =>
    have hlt : a < l.length := by
      rcases Nat.lt_or_ge a l.length with h' | h'
      · exact h'
      · rw [List.getElem?_eq_none h'] at hx; cases hx
    rw [hx] at h
    simp only at h
    rw [look hlt, hx]
    simp only
    split at h
    · rename_i hc
      cases h
      exact ⟨by omega, fun _ => by rw [if_pos hc]⟩
    · cases h
/-- .. and the byte lies inside. -/
theorem one_lt {l : List UInt8} {a lo hi v a' : Nat} (h : pOne l a lo hi = .inr (v, a')) : a < l.length ∧ a' = a + 1 := by
  unfold pOne at h
  cases hx : l[a]? with
  | none => rw [hx] at h; cases h
  | some b =>
    rw [hx] at h
    simp only at h
    split at h
    · cases h
      refine ⟨?_, rfl⟩
      rcases Nat.lt_or_ge a l.length with h' | h'
      · exact h'
      · rw [List.getElem?_eq_none h'] at hx; cases hx
    · cases h
theorem bind_get {α β : Type} {x : PR α} {f : α → Nat → PR β} {r : β × Nat} (h : x.bind f = .inr r) : ∃ v a, x = .inr (v, a) ∧ f v a = .inr r := by
  cases x with
  | inl q => cases h
  | inr q => exact ⟨q.1, q.2, rfl, h⟩
theorem ext_bind {α β : Type} {p : List UInt8 → Nat → PR α} {q : α → List UInt8 → Nat → PR β} (hp : Ext l m p) (hq : ∀ v, Ext l m (q v)) : Ext l m fun l a => (p l a).bind fun v a' => q v l a' := by
  intro a v a' h
  obtain ⟨x, a1, h1, h2⟩ := bind_get h
  obtain ⟨e1, e2⟩ := hp a x a1 h1
  obtain ⟨e3, e4⟩ := hq x a1 v a' h2
  refine ⟨by omega, fun hlt => ?_⟩
  simp only
  rw [e2 (by omega)]
  exact e4 hlt
theorem ext_if {α : Type} (b : Nat) {p q : List UInt8 → Nat → PR α} (hp : Ext l m p) (hq : Ext l m q) : Ext l m fun l a => if pHas l a b then p l a else q l a := by
  intro a v a' h
  simp only at h ⊢
  split at h
  · rename_i hc
    obtain ⟨e1, e2⟩ := hp a v a' h
    exact ⟨e1, fun hlt => by rw [look_has (by omega), if_pos hc]; exact e2 hlt⟩
  · rename_i hc
    obtain ⟨e1, e2⟩ := hq a v a' h
    exact ⟨e1, fun hlt => by rw [look_has (by omega), if_neg hc]; exact e2 hlt⟩
/-- A byte on, where it is there. -/
theorem ext_next {α : Type} (b : Nat) {p q : List UInt8 → Nat → PR α} (hp : Ext l m p) (hq : Ext l m q) : Ext l m fun l a => if pHas l a b then p l (a + 1) else q l a := by
  intro a v a' h
  simp only at h ⊢
  split at h
  · rename_i hc
    obtain ⟨e1, e2⟩ := hp (a + 1) v a' h
    exact ⟨by omega, fun hlt => by rw [look_has (by omega), if_pos hc]; exact e2 hlt⟩
  · rename_i hc
    obtain ⟨e1, e2⟩ := hq a v a' h
    exact ⟨e1, fun hlt => by rw [look_has (by omega), if_neg hc]; exact e2 hlt⟩
theorem ext_fail {α : Type} (k : Nat → Nat) (er : Int) : Ext l m fun _ a => (.inl (k a, er) : PR α) := by
  intro a v a' h
  cases h
theorem ext_word : ∀ w : List UInt8, Ext l m fun l a => pWord l w a
  | [] => fun a v a' h => by simp only [pWord] at h ⊢; cases h; exact ⟨Nat.le_refl _, fun _ => rfl⟩
  | b :: w => by
    have h := ext_bind (ext_one b.toNat b.toNat) (fun _ => ext_word w) (l := l) (m := m)
    intro a v a' hh
    have e : ∀ l : List UInt8, pWord l (b :: w) a = (pOne l a b.toNat b.toNat).bind fun _ a' => pWord l w a' := fun l => by
      rw [pWord]
      cases pOne l a b.toNat b.toNat <;> rfl
    simp only [e] at hh ⊢
    exact h a v a' hh
theorem dig_ext : ∀ f n a : Nat, a ≤ (pDig l f n a).2 ∧ ((pDig l f n a).2 < l.length → pDig (l ++ m) f n a = pDig l f n a)
  | 0, n, a => ⟨Nat.le_refl _, fun _ => rfl⟩
  | f + 1, n, a => by
    simp only [pDig]
    by_cases hn : 0 < n
    · rw [if_pos hn, if_pos hn]
      cases hx : l[a]? with
      | none =>
        refine ⟨Nat.le_refl _, fun hlt => ?_⟩
        simp only at hlt
        rw [List.getElem?_eq_getElem hlt] at hx
        cases hx
      | some b =>
        simp only
        have hlt : a < l.length := by
          rcases Nat.lt_or_ge a l.length with h' | h'
          · exact h'
          · rw [List.getElem?_eq_none h'] at hx; cases hx
        rw [look hlt, hx]
        simp only
        by_cases hb : 48 ≤ b.toNat ∧ b.toNat ≤ 57
        · rw [if_pos hb, if_pos hb]
          obtain ⟨e1, e2⟩ := dig_ext f (10 * n + (b.toNat - 48)) (a + 1)
          exact ⟨by omega, e2⟩
        · rw [if_neg hb, if_neg hb]
          exact ⟨Nat.le_refl _, fun _ => rfl⟩
    · rw [if_neg hn, if_neg hn]
      exact ⟨Nat.le_refl _, fun _ => rfl⟩
theorem ext_num (least : Nat) : Ext l m fun l a => pNum l a least := by
  intro a v a' h
  simp only [pNum] at h ⊢
  cases hx : pOne l a least 57 with
  | inl f => rw [hx] at h; cases h
  | inr f =>
    obtain ⟨b, a1⟩ := f
    rw [hx] at h
    simp only [Sum.inr.injEq] at h
    obtain ⟨e1, e2⟩ := ext_one (l := l) (m := m) least 57 a b a1 hx
    obtain ⟨e3, e4⟩ := dig_ext (l := l) (m := m) 8 (b - 48) a1
    rw [h] at e3 e4
    simp only at e3 e4
    refine ⟨by omega, fun hlt => ?_⟩
    have e2' : pOne (l ++ m) a least 57 = .inr (b, a1) := e2 (by omega)
    rw [e2']
    simp only
    rw [e4 hlt]
theorem ext_op : Ext l m fun l a => pOp l a := by
  have w : ∀ (v : Nat), Ext l m fun l a => (match pWord l [61] a with | .inl f => (.inl f : PR Nat) | .inr (_, a') => .inr (v, a')) := by
    intro v a x a' h
    have hb := ext_bind (ext_word (l := l) (m := m) [61]) (fun _ => ext_ret v) a x a' (by
      simp only at h ⊢
      cases hx : pWord l [61] a with
      | inl f => rw [hx] at h; cases h
      | inr f => rw [hx] at h; exact h)
    refine ⟨hb.1, fun hlt => ?_⟩
    have h2 := hb.2 hlt
    simp only at h2 ⊢
    cases hx : pWord (l ++ m) [61] a with
    | inl f => rw [hx] at h2; cases h2
    | inr f => rw [hx] at h2; exact h2
  exact ext_next 60 (ext_next 61 (ext_ret 1) (ext_ret 0)) (ext_next 62 (ext_next 61 (ext_ret 4) (ext_ret 5)) (ext_next 33 (w 3) (w 2)))
end
end Go.Proofs.YtcojnojdgigmdaaDoor.PP
/- The document's reader of patterns (layer 19): its state is alive at a place, or dead with the first fault; whatever it goes through is a step of the plain parser while it is alive. No program in sight. -/
namespace Go.Proofs.YtcojnojdgigmdaaDoor.PP

/-- Dead: the fault's place, its error, where the reader stands. Alive: where it stands. -/
abbrev S9 := Sum (Nat × Int × Nat) Nat
def S9.at : S9 → Nat
  | .inl (_, _, a) => a
  | .inr a => a
def S9.bad : S9 → Int
  | .inl (_, e, _) => e
  | .inr _ => 0
def S9.pos : S9 → Nat
  | .inl (k, _, _) => k
  | .inr _ => 0
/-- A step: alive it is the plain parser's; dead it stays dead, with the same fault. -/
def Goes {α : Type} (st : S9) (p : Nat → PR α) (v : α) (st' : S9) : Prop := match st with
  | .inl (k, er, _) => ∃ a', st' = .inl (k, er, a')
  | .inr a => match p a with
    | .inr (x, a') => v = x ∧ st' = .inr a'
    | .inl (k, er) => ∃ a', st' = .inl (k, er, a')
theorem Goes.bind {α β : Type} {st st1 st2 : S9} {p : Nat → PR α} {q : α → Nat → PR β} {x : α} {y : β} (h : Goes st p x st1) (h' : Goes st1 (q x) y st2) : Goes st (fun a => (p a).bind q) y st2 := by
  match st, h with
  | .inl (k, er, a), h =>
    obtain ⟨a', rfl⟩ := h
    exact h'
  | .inr a, h =>
    simp only [Goes] at h ⊢
    cases hp : p a with
    | inl f =>
      obtain ⟨k, er⟩ := f
      rw [hp] at h
      obtain ⟨a', rfl⟩ := h
      exact h'
    | inr f =>
      obtain ⟨x0, a'⟩ := f
      rw [hp] at h
      obtain ⟨rfl, rfl⟩ := h
      exact h'
theorem Goes.dead {α β : Type} {k : Nat} {er : Int} {a : Nat} {p : Nat → PR α} {q : Nat → PR β} {v : α} {u : β} {st' : S9} (h : Goes (.inl (k, er, a)) p v st') : Goes (.inl (k, er, a)) q u st' := h
theorem Goes.alive {α : Type} {a : Nat} {p q : Nat → PR α} {v : α} {st' : S9} (h : Goes (.inr a) p v st') (e : p a = q a) : Goes (.inr a) q v st' := by
  simp only [Goes] at h ⊢
  rw [← e]
  exact h
theorem Goes.eq {α : Type} {st : S9} {p q : Nat → PR α} {v : α} {st' : S9} (h : Goes st p v st') (e : ∀ a, st = .inr a → p a = q a) : Goes st q v st' := by
  match st, h with
  | .inl _, h => exact h
  | .inr a, h => exact h.alive (e a rfl)
/-- Is the next byte from one up to another? -/
def inB (l : List UInt8) (a lo hi : Nat) : Bool := match l[a]? with
  | some b => decide (lo ≤ b.toNat) && decide (b.toNat ≤ hi)
  | none => false
def nextB (l : List UInt8) (st : S9) (lo hi : Nat) : Bool := match st with
  | .inl _ => false
  | .inr a => inB l a lo hi
theorem nextB_alive {l : List UInt8} {st : S9} {lo hi : Nat} (h : nextB l st lo hi = true) : ∃ a, st = .inr a := by
  cases st with
  | inl f => cases h
  | inr a => exact ⟨a, rfl⟩
theorem inB_has {l : List UInt8} {a b : Nat} : inB l a b b = pHas l a b := by
  unfold inB pHas
  cases l[a]? with
  | none => rfl
  | some x =>
    simp only
    rw [Bool.eq_iff_iff]
    simp only [Bool.and_eq_true, decide_eq_true_eq, beq_iff_eq]
    omega
/-- A byte that is there, and is taken. -/
theorem pOne_next {l : List UInt8} {a lo hi : Nat} (h : inB l a lo hi = true) : ∃ b : UInt8, l[a]? = some b ∧ lo ≤ b.toNat ∧ b.toNat ≤ hi ∧ pOne l a lo hi = .inr (b.toNat, a + 1) := by
  unfold inB at h
  cases hx : l[a]? with
  | none => rw [hx] at h; cases h
  | some x =>
    rw [hx] at h
    simp only [Bool.and_eq_true, decide_eq_true_eq] at h
    exact ⟨x, rfl, h.1, h.2, by unfold pOne; rw [hx]; simp only; rw [if_pos h]⟩
theorem pOne_not {l : List UInt8} {a lo hi : Nat} (h : inB l a lo hi = false) : pOne l a lo hi = .inl (a, 20) := by
  unfold inB at h
  unfold pOne
  cases hx : l[a]? with
  | none => rfl
  | some x =>
    rw [hx] at h
    simp only at h ⊢
    rw [if_neg]
    intro hh
    rw [decide_eq_true hh.1, decide_eq_true hh.2] at h
    cases h
theorem Goes.inl {α β : Type} {st : S9} {p : Nat → PR α} {v : α} {u : β} {f : Nat × Int × Nat} (h : Goes st p v (.inl f)) (q : α → Nat → PR β) : Goes st (fun a => (p a).bind q) u (.inl f) := by
  refine h.bind (y := u) (q := q) ?_
  obtain ⟨k, er, a⟩ := f
  exact ⟨a, rfl⟩
theorem Goes.inr {α : Type} {st : S9} {p : Nat → PR α} {v : α} {a' : Nat} (h : Goes st p v (.inr a')) : ∃ a, st = .inr a ∧ p a = .inr (v, a') := by
  match st, h with
  | .inl (k, er, a), h =>
    obtain ⟨_, h⟩ := h
    cases h
  | .inr a, h =>
    simp only [Goes] at h
    refine ⟨a, rfl, ?_⟩
    cases hp : p a with
    | inl f =>
      obtain ⟨k, er⟩ := f
      rw [hp] at h
      obtain ⟨_, h⟩ := h
      cases h
    | inr f =>
      obtain ⟨x0, a0⟩ := f
      rw [hp] at h
      obtain ⟨rfl, h⟩ := h
      cases h
      rfl
theorem pWord_bind (l : List UInt8) (b : UInt8) (r : List UInt8) (a : Nat) : pWord l (b :: r) a = (pOne l a b.toNat b.toNat).bind fun _ a' => pWord l r a' := by
  rw [pWord]
  cases pOne l a b.toNat b.toNat <;> rfl
theorem pNum_bind (l : List UInt8) (a least : Nat) : pNum l a least = (pOne l a least 57).bind fun b a' => .inr (pDig l 8 (b - 48) a') := by
  rw [pNum]
  cases pOne l a least 57 <;> rfl
theorem inB_peek {l : List UInt8} {a lo hi : Nat} (hlo : 0 < lo) : inB l a lo hi = (decide (lo ≤ peekB l a) && decide (peekB l a ≤ hi)) := by
  unfold inB peekB
  cases l[a]? with
  | none => simp; omega
  | some b => rfl
/-- The end of a condition: behind the right letter; behind the operator. -/
def pTl2 (l : List UInt8) (x o r a3 : Nat) : PR Cnd :=
  if pHas l a3 43 then (pNum l (a3 + 1) 49).bind fun k a5 => .inr (⟨x, o, r, k⟩, a5)
  else if pHas l a3 45 then (pNum l (a3 + 1) 49).bind fun k a5 => .inr (⟨x, o, r, -(k : Int)⟩, a5)
  else .inr (⟨x, o, r, 0⟩, a3)
def pTl (l : List UInt8) (x o a2 : Nat) : PR Cnd :=
  if peekB l a2 = 45 then (pNum l (a2 + 1) 49).bind fun k a3 => .inr (⟨x, o, 0, -(k : Int)⟩, a3)
  else if 48 ≤ peekB l a2 ∧ peekB l a2 ≤ 57 then (pNum l a2 48).bind fun k a3 => .inr (⟨x, o, 0, k⟩, a3)
  else (pOne l a2 97 122).bind fun r a3 => pTl2 l x o r a3
theorem pCond_tl (l : List UInt8) (a n : Nat) (hn : n ≠ 16) : pCond l a n = (pOne l a 97 122).bind fun x a1 => (pOp l a1).bind fun o a2 => pTl l x o a2 := by
  unfold pCond
  rw [if_neg hn]
  rfl
theorem peek_has {l : List UInt8} {a b : Nat} (hb : 0 < b) : pHas l a b = (peekB l a == b) := by
  unfold pHas peekB
  cases l[a]? with
  | none => simp; omega
  | some x => rfl
end Go.Proofs.YtcojnojdgigmdaaDoor.PP
/- The document's reader of a step, in the plain parser's parts. No program in sight. -/
namespace Go.Proofs.YtcojnojdgigmdaaDoor.PP
/-- The end of a step. -/
def pSt3 (a3 k nm lo hi a7 : Nat) : PR Stp := if lo < 1 ∨ hi < lo ∨ 4 < hi ∨ hi = 1 then .inl (a3, 22) else .inr (⟨k, nm, false, lo, hi⟩, a7)
def pSt2 (l : List UInt8) (a3 k nm : Nat) : Nat → PR Stp := fun a => (pNum l a 48).bind fun lo a4 => (pOne l a4 44 44).bind fun _ a5 => (pNum l a5 48).bind fun hi a6 => (pOne l a6 125 125).bind fun _ a7 => pSt3 a3 k nm lo hi a7
def pSt1 (l : List UInt8) (k : Nat) (neg : Bool) (nm a3 : Nat) : PR Stp :=
  if pHas l a3 123 then (if neg then .inl (a3, 22) else pSt2 l a3 k nm (a3 + 1)) else .inr (⟨k, nm, neg, 1, 1⟩, a3)
def pSt (l : List UInt8) (k : Nat) (neg : Bool) : Nat → PR Stp := fun a1 => (pOne l a1 32 32).bind fun _ a2 => (pOne l a2 97 122).bind fun nm a3 => pSt1 l k neg nm a3
theorem word_bind {α : Type} (l : List UInt8) (a : Nat) (b : UInt8) (f : Nat → PR α) : ((pWord l [b] a).bind fun _ a' => f a') = (pOne l a b.toNat b.toNat).bind fun _ a' => f a' := by
  rw [pWord_bind]
  cases pOne l a b.toNat b.toNat <;> rfl
theorem pStep_tl (l : List UInt8) (a n : Nat) (hn : n ≠ 8) : pStep l a n = (pHasR l a 33).bind fun neg a0 => (pOne l a0 65 90).bind fun k a1 => pSt l k neg a1 := by
  unfold pStep
  rw [if_neg hn]
  congr 1
  funext neg a0
  congr 1
  funext k a1
  unfold pSt
  refine (word_bind l a1 32 _).trans ?_
  congr 1
  funext _ a2
  congr 1
  funext nm a3
  unfold pSt1 pSt2
  congr 1
  congr 1
  congr 1
  funext lo a4
  refine (word_bind l a4 44 _).trans ?_
  congr 1
  funext _ a5
  congr 1
  funext hi a6
  exact word_bind l a6 125 _
end Go.Proofs.YtcojnojdgigmdaaDoor.PP
/- The document's reader of a whole text against the plain parser: what is still to come. No program in sight. -/
namespace Go.Proofs.YtcojnojdgigmdaaDoor.PP
/-- Behind the steps (no comma follows); at a step's beginning. -/
def qSteps (l : List UInt8) (ss : List Stp) : Nat → PR Ptn := fun a => (pStep l a ss.length).bind fun x a' => (pSteps l (8 - ss.length) a' (ss ++ [x])).bind fun ss a2 => pRest l ss a2
/-- What is to come behind the conditions. -/
def qTail (l : List UInt8) (ss : List Stp) (cs : List Cnd) : Nat → PR Ptn := fun a => (pOne l a 87 87).bind fun _ a8 => pEnd l ss cs a8
/-- At a condition's beginning. -/
def qConds (l : List UInt8) (ss : List Stp) (cs : List Cnd) : Nat → PR Ptn := fun a => (pCond l a cs.length).bind fun x a2 => (pOne l a2 32 32).bind fun _ a3 => (pConds l (16 - cs.length) a3 (cs ++ [x])).bind fun cs a7 => qTail l ss cs a7
def qWhere (l : List UInt8) (ss : List Stp) : Nat → PR Ptn := fun a3 =>
  if pHas l a3 72 then (pWord l [72, 69, 82, 69, 32] a3).bind fun _ a4 => qConds l ss [] a4
  else pEnd l ss [] a3
/-- The window's number. -/
def pEnd2 (l : List UInt8) (ss : List Stp) (cs : List Cnd) : Nat → PR Ptn := fun a1 => (pNum l a1 48).bind fun k a2 => .inr (⟨ss, cs, k⟩, a2)
theorem end_eq (l : List UInt8) (ss : List Stp) (cs : List Cnd) (a : Nat) : pEnd l ss cs a = (pWord l [73, 84, 72, 73, 78, 32] a).bind fun _ a1 => pEnd2 l ss cs a1 := rfl
theorem rest_eq (l : List UInt8) (ss : List Stp) (a : Nat) : pRest l ss a = (pWord l [41, 32, 87] a).bind fun _ a3 => qWhere l ss a3 := by
  unfold pRest
  congr 1
  funext _ a3
  unfold qWhere
  by_cases h : pHas l a3 72
  · rw [if_pos h, if_pos h]
    have e : pWord l [72, 69, 82, 69, 32] a3 = pWord l [69, 82, 69, 32] (a3 + 1) := by
      rw [pWord_bind]
      have : pOne l a3 (72 : UInt8).toNat (72 : UInt8).toNat = .inr (72, a3 + 1) := by
        unfold pHas at h
        unfold pOne
        cases hx : l[a3]? with
        | none => rw [hx] at h; cases h
        | some x =>
          rw [hx] at h
          simp only [beq_iff_eq] at h
          simp only
          rw [if_pos (by rw [h]; decide), h]
      rw [this]
      rfl
    rw [e]
    congr 1
    funext _ a4
    unfold qConds
    congr 1
    funext x a5
    refine (word_bind l a5 32 _).trans ?_
    congr 1
    funext _ a6
    congr 1
    funext cs a7
    exact word_bind l a7 87 _
  · rw [if_neg h, if_neg h]
theorem pat_eq (l : List UInt8) : pPat l = (pWord l [83, 69, 81, 40] 0).bind fun _ a0 => qSteps l [] a0 := rfl
/-- A step more: a comma follows, or not. -/
theorem steps_more {l : List UInt8} {ss : List Stp} {a : Nat} (hs : ss.length ≤ 8) (hs1 : 1 ≤ ss.length) (h : pHas l a 44 = true) : (pSteps l (9 - ss.length) a ss).bind (fun ss a2 => pRest l ss a2) = qSteps l ss (a + 1) := by
  rw [show 9 - ss.length = (8 - ss.length) + 1 by omega]
  rw [pSteps, if_pos h, PR.bind_assoc]
  rfl
theorem steps_done {l : List UInt8} {ss : List Stp} {a : Nat} (hs : ss.length ≤ 8) (h : pHas l a 44 = false) : (pSteps l (9 - ss.length) a ss).bind (fun ss a2 => pRest l ss a2) = pRest l ss a := by
  rw [show 9 - ss.length = (8 - ss.length) + 1 by omega]
  rw [pSteps, if_neg (by rw [h]; simp)]
  rfl
theorem conds_more {l : List UInt8} {ss : List Stp} {cs : List Cnd} {a : Nat} (hs : cs.length ≤ 16) (h : pHas l a 65 = true) : (pConds l (17 - cs.length) a cs).bind (fun cs a7 => qTail l ss cs a7) = (pWord l [65, 78, 68, 32] a).bind fun _ a1 => qConds l ss cs a1 := by
  rw [show 17 - cs.length = (16 - cs.length) + 1 by omega]
  have e : pWord l [65, 78, 68, 32] a = pWord l [78, 68, 32] (a + 1) := by
    rw [pWord_bind]
    have : pOne l a (65 : UInt8).toNat (65 : UInt8).toNat = .inr (65, a + 1) := by
      unfold pHas at h
      unfold pOne
      cases hx : l[a]? with
      | none => rw [hx] at h; cases h
      | some x =>
        rw [hx] at h
        simp only [beq_iff_eq] at h
        simp only
        rw [if_pos (by rw [h]; decide), h]
    rw [this]
    rfl
  rw [pConds, if_pos h, PR.bind_assoc, e]
  congr 1
  funext _ a1
  rw [PR.bind_assoc]
  unfold qConds
  congr 1
  funext x a2
  rw [PR.bind_assoc]
  exact word_bind l a2 32 _
theorem conds_done {l : List UInt8} {ss : List Stp} {cs : List Cnd} {a : Nat} (hs : cs.length ≤ 16) (h : pHas l a 65 = false) : (pConds l (17 - cs.length) a cs).bind (fun cs a7 => qTail l ss cs a7) = qTail l ss cs a := by
  rw [show 17 - cs.length = (16 - cs.length) + 1 by omega]
  rw [pConds, if_neg (by rw [h]; simp)]
  rfl
end Go.Proofs.YtcojnojdgigmdaaDoor.PP
/- A whole pattern's text with something behind it, in plain Lean. No program in sight. -/
namespace Go.Proofs.YtcojnojdgigmdaaDoor.PP
section
variable {l m : List UInt8}
theorem ext_shift {α : Type} {p : List UInt8 → Nat → PR α} (hp : Ext l m p) : Ext l m fun l a => p l (a + 1) := by
  intro a v a' h
  obtain ⟨e1, e2⟩ := hp (a + 1) v a' h
  exact ⟨by omega, e2⟩
theorem ext_peek {α : Type} (c : Nat → Prop) [DecidablePred c] {p q : List UInt8 → Nat → PR α} (hp : Ext l m p) (hq : Ext l m q) : Ext l m fun l a => if c (peekB l a) then p l a else q l a := by
  intro a v a' h
  simp only at h ⊢
  split at h
  · rename_i hc
    obtain ⟨e1, e2⟩ := hp a v a' h
    exact ⟨e1, fun hlt => by rw [look_peek (by omega), if_pos hc]; exact e2 hlt⟩
  · rename_i hc
    obtain ⟨e1, e2⟩ := hq a v a' h
    exact ⟨e1, fun hlt => by rw [look_peek (by omega), if_neg hc]; exact e2 hlt⟩
theorem ext_tl2 (x o r : Nat) : Ext l m fun l a => pTl2 l x o r a :=
  ext_next 43 (ext_bind (ext_num 49) fun k => ext_ret (⟨x, o, r, k⟩ : Cnd)) (ext_next 45 (ext_bind (ext_num 49) fun k => ext_ret (⟨x, o, r, -(k : Int)⟩ : Cnd)) (ext_ret (⟨x, o, r, 0⟩ : Cnd)))
theorem ext_tl (x o : Nat) : Ext l m fun l a => pTl l x o a :=
  ext_peek (fun c => c = 45) (ext_shift (ext_bind (ext_num 49) fun k => ext_ret (⟨x, o, 0, -(k : Int)⟩ : Cnd))) (ext_peek (fun c => 48 ≤ c ∧ c ≤ 57) (ext_bind (ext_num 48) fun k => ext_ret (⟨x, o, 0, k⟩ : Cnd)) (ext_bind (ext_one 97 122) fun r => ext_tl2 x o r))
theorem ext_cond (n : Nat) (hn : n ≤ 16) : Ext l m fun l a => pCond l a n := by
  intro a v a' h
  have hlt := pCond_lt h hn
  simp only at h ⊢
  rw [pCond_tl _ _ _ (by omega)] at h ⊢
  exact ext_bind (ext_one 97 122) (fun x => ext_bind ext_op fun o => ext_tl x o) a v a' h
theorem ext_st2 (a3 k nm : Nat) : Ext l m fun l a => pSt2 l a3 k nm a :=
  ext_bind (ext_num 48) fun lo => ext_bind (ext_one 44 44) fun _ => ext_bind (ext_num 48) fun hi => ext_bind (ext_one 125 125) fun _ => by
    intro a v a' h
    unfold pSt3 at h ⊢
    simp only at h ⊢
    split at h
    · cases h
    · rename_i hc
      cases h
      exact ⟨Nat.le_refl _, fun _ => by rw [if_neg hc]⟩
theorem ext_st1 (k : Nat) (neg : Bool) (nm : Nat) : Ext l m fun l a => pSt1 l k neg nm a := by
  intro a v a' h
  simp only [pSt1] at h ⊢
  split at h
  · rename_i hc
    split at h
    · cases h
    · rename_i hn
      obtain ⟨e1, e2⟩ := ext_st2 a k nm (a + 1) v a' h
      exact ⟨by omega, fun hlt => by rw [look_has (by omega), if_pos hc, if_neg hn]; exact e2 hlt⟩
  · rename_i hc
    cases h
    exact ⟨Nat.le_refl _, fun hlt => by rw [look_has hlt, if_neg hc]⟩
theorem ext_st (k : Nat) (neg : Bool) : Ext l m fun l a => pSt l k neg a :=
  ext_bind (ext_one 32 32) fun _ => ext_bind (ext_one 97 122) fun nm => ext_st1 k neg nm
theorem ext_has (b : Nat) : Ext l m fun l a => pHasR l a b := by
  intro a v a' h
  simp only [pHasR] at h ⊢
  split at h
  · rename_i hc
    cases h
    exact ⟨by omega, fun hlt => by rw [look_has (by omega), if_pos hc]⟩
  · rename_i hc
    cases h
    exact ⟨Nat.le_refl _, fun hlt => by rw [look_has hlt, if_neg hc]⟩
theorem ext_step (n : Nat) (hn : n ≤ 8) : Ext l m fun l a => pStep l a n := by
  intro a v a' h
  have hlt := pStep_lt h hn
  simp only at h ⊢
  rw [pStep_tl _ _ _ (by omega)] at h ⊢
  exact ext_bind (ext_has 33) (fun neg => ext_bind (ext_one 65 90) fun k => ext_st k neg) a v a' h
theorem ext_steps : ∀ (f : Nat) (ss : List Stp), ss.length + f = 9 → Ext l m fun l a => pSteps l f a ss
  | 0, ss, _ => ext_ret ss
  | f + 1, ss, hl => ext_next 44 (ext_bind (ext_step ss.length (by omega)) fun x => ext_steps f (ss ++ [x]) (by simp; omega)) (ext_ret ss)
theorem ext_conds : ∀ (f : Nat) (cs : List Cnd), cs.length + f = 17 → Ext l m fun l a => pConds l f a cs
  | 0, cs, _ => ext_ret cs
  | f + 1, cs, hl => ext_next 65 (ext_bind (ext_word [78, 68, 32]) fun _ => ext_bind (ext_cond cs.length (by omega)) fun x => ext_bind (ext_word [32]) fun _ => ext_conds f (cs ++ [x]) (by simp; omega)) (ext_ret cs)

/-- The conditions, if there are any; all that stands ahead of the window's number. -/
def pWh (l : List UInt8) (a : Nat) : PR (List Cnd) :=
  if pHas l a 72 then (pWord l [69, 82, 69, 32] (a + 1)).bind fun _ a4 => (pCond l a4 0).bind fun x a5 => (pWord l [32] a5).bind fun _ a6 => (pConds l 16 a6 [x]).bind fun cs a7 => (pWord l [87] a7).bind fun _ a8 => .inr (cs, a8)
  else .inr ([], a)
def pHead (l : List UInt8) (a : Nat) : PR (List Stp × List Cnd) :=
  (pWord l [83, 69, 81, 40] a).bind fun _ a0 => (pStep l a0 0).bind fun x a1 => (pSteps l 8 a1 [x]).bind fun ss a2 => (pWord l [41, 32, 87] a2).bind fun _ a3 => (pWh l a3).bind fun cs a4 => (pWord l [73, 84, 72, 73, 78, 32] a4).bind fun _ a5 => .inr ((ss, cs), a5)
theorem ext_wh : Ext l m fun l a => pWh l a :=
  ext_next 72 (ext_bind (ext_word [69, 82, 69, 32]) fun _ => ext_bind (ext_cond 0 (by omega)) fun x => ext_bind (ext_word [32]) fun _ => ext_bind (ext_conds 16 [x] (by simp)) fun cs => ext_bind (ext_word [87]) fun _ => ext_ret cs) (ext_ret [])
theorem ext_head : Ext l m fun l a => pHead l a :=
  ext_bind (ext_word [83, 69, 81, 40]) fun _ => ext_bind (ext_step 0 (by omega)) fun x => ext_bind (ext_steps 8 [x] (by simp)) fun ss => ext_bind (ext_word [41, 32, 87]) fun _ => ext_bind ext_wh fun cs => ext_bind (ext_word [73, 84, 72, 73, 78, 32]) fun _ => ext_ret (ss, cs)
theorem pat_head (l : List UInt8) : pPat l = (pHead l 0).bind fun sc a => (pNum l a 48).bind fun k a2 => .inr (⟨sc.1, sc.2, k⟩, a2) := by
  unfold pPat pHead pRest pWh pEnd
  simp only [PR.bind_assoc]
  congr 1
  funext _ a0
  congr 1
  funext x a1
  congr 1
  funext ss a2
  congr 1
  funext _ a3
  split
  · simp only [PR.bind_assoc]
    rfl
  · rfl

theorem dig_ge (l : List UInt8) : ∀ f n a : Nat, n ≤ (pDig l f n a).1 ∧ a ≤ (pDig l f n a).2
  | 0, n, a => ⟨Nat.le_refl _, Nat.le_refl _⟩
  | f + 1, n, a => by
    simp only [pDig]
    split
    · split
      · split
        · obtain ⟨e1, e2⟩ := dig_ge l f _ (a + 1)
          exact ⟨Nat.le_trans (by omega) e1, by omega⟩
        · exact ⟨Nat.le_refl _, Nat.le_refl _⟩
      · exact ⟨Nat.le_refl _, Nat.le_refl _⟩
    · exact ⟨Nat.le_refl _, Nat.le_refl _⟩
theorem dig_more : ∀ f n a k : Nat, a ≤ l.length → pDig l f n a = (k, l.length) →
    (pDig (l ++ m) f n a = (k, l.length)) ∨ (l.length < (pDig (l ++ m) f n a).2 ∧ 10 * k ≤ (pDig (l ++ m) f n a).1 ∧ ∃ b : UInt8, m[0]? = some b ∧ 48 ≤ b.toNat ∧ b.toNat ≤ 57)
  | 0, n, a, k, _, h => by simp only [pDig] at h ⊢; exact .inl h
  | f + 1, n, a, k, ha, h => by
    simp only [pDig] at h ⊢
    by_cases hn : 0 < n
    · rw [if_pos hn] at h ⊢
      cases hx : l[a]? with
      | none =>
        rw [hx] at h
        simp only at h
        cases h
        have e : (l ++ m)[l.length]? = m[0]? := by rw [List.getElem?_append_right (Nat.le_refl _)]; simp
        rw [e]
        cases hm : m[0]? with
        | none => exact .inl rfl
        | some b =>
          simp only
          by_cases hb : 48 ≤ b.toNat ∧ b.toNat ≤ 57
          · rw [if_pos hb]
            obtain ⟨e1, e2⟩ := dig_ge (l ++ m) f (10 * n + (b.toNat - 48)) (l.length + 1)
            exact .inr ⟨by omega, Nat.le_trans (by omega) e1, b, rfl, hb⟩
          · rw [if_neg hb]
            exact .inl rfl
      | some b =>
        have hlt : a < l.length := by
          rcases Nat.lt_or_ge a l.length with h' | h'
          · exact h'
          · rw [List.getElem?_eq_none h'] at hx; cases hx
        rw [hx] at h
        rw [look hlt, hx]
        simp only at h ⊢
        by_cases hb : 48 ≤ b.toNat ∧ b.toNat ≤ 57
        · rw [if_pos hb] at h ⊢
          exact dig_more f _ _ k (by omega) h
        · rw [if_neg hb] at h
          cases h
          omega
    · rw [if_neg hn] at h ⊢
      exact .inl h
/-- What is said of a pattern's text with something behind it. -/
theorem parse_append {p : Ptn} (h : pParse l = .inr p) (hm : m ≠ []) (hlen : (l ++ m).length ≤ 4096) :
    match pParse (l ++ m) with
    | .inr q => (∃ b : UInt8, m[0]? = some b ∧ 48 ≤ b.toNat ∧ b.toNat ≤ 57) ∧ q.ss = p.ss ∧ 10 * p.wi ≤ q.wi
    | .inl (k, er) => er = 20 ∧ l.length ≤ k := by
  have hml : 0 < m.length := List.length_pos_iff.2 hm
  have hll : (l ++ m).length = l.length + m.length := List.length_append
  unfold pParse at h
  rw [if_neg (by omega)] at h
  cases hp : pPat l with
  | inl f => rw [hp] at h; cases h
  | inr f =>
    obtain ⟨q, a⟩ := f
    rw [hp] at h
    simp only at h
    split at h
    · cases h
    · rename_i hal
      cases h
      rw [pat_head] at hp
      obtain ⟨sc, a1, h1, h2⟩ := bind_get hp
      obtain ⟨k, a2, h3, h4⟩ := bind_get h2
      simp only [Sum.inr.injEq, Prod.mk.injEq] at h4
      obtain ⟨rfl, rfl⟩ := h4
      -- the number: its first digit lies inside
      unfold pNum at h3
      cases hx : pOne l a1 48 57 with
      | inl f => rw [hx] at h3; cases h3
      | inr f =>
        obtain ⟨b, b1⟩ := f
        rw [hx] at h3
        simp only [Sum.inr.injEq] at h3
        obtain ⟨hlt, rfl⟩ := one_lt hx
        have hend : a2 = l.length := by
          have h5 := (dig_ext (l := l) (m := m) 8 (b - 48) (a1 + 1))
          have hle : ∀ f n a : Nat, a ≤ l.length → (pDig l f n a).2 ≤ l.length := by
            intro f
            induction f with
            | zero => intro n a ha; exact ha
            | succ f ih =>
              intro n a ha
              simp only [pDig]
              split
              · cases hy : l[a]? with
                | none => exact ha
                | some y =>
                  have : a < l.length := by
                    rcases Nat.lt_or_ge a l.length with h' | h'
                    · exact h'
                    · rw [List.getElem?_eq_none h'] at hy; cases hy
                  simp only
                  split
                  · exact ih _ _ (by omega)
                  · exact ha
              · exact ha
          have := hle 8 (b - 48) (a1 + 1) (by omega)
          rw [h3] at this
          simp only at this
          omega
        subst hend
        have h6 : pHead (l ++ m) 0 = .inr (sc, a1) := (ext_head (l := l) (m := m) 0 sc a1 h1).2 hlt
        have h7 : pOne (l ++ m) a1 48 57 = .inr (b, a1 + 1) := by
          have e : (l ++ m)[a1]? = l[a1]? := look hlt
          unfold pOne at hx ⊢
          rw [e]
          exact hx
        have h8 : pPat (l ++ m) = .inr (⟨sc.1, sc.2, (pDig (l ++ m) 8 (b - 48) (a1 + 1)).1⟩, (pDig (l ++ m) 8 (b - 48) (a1 + 1)).2) := by
          rw [pat_head, h6]
          simp only [PR.bind]
          unfold pNum
          rw [h7]
        unfold pParse
        rw [if_neg (by omega), h8]
        simp only
        rcases dig_more (m := m) 8 (b - 48) (a1 + 1) k (by omega) h3 with h9 | ⟨h9, h10, h11⟩
        · rw [h9]
          simp only
          rw [if_pos (by omega)]
          exact ⟨rfl, Nat.le_refl _⟩
        · split
          · rename_i hq
            split at hq
            · cases hq
            · cases hq
              exact ⟨h11, rfl, h10⟩
          · rename_i hq
            split at hq
            · cases hq
              exact ⟨rfl, by omega⟩
            · cases hq
end
end Go.Proofs.YtcojnojdgigmdaaDoor.PP
/- No fault of a pattern's text is error 0, in plain Lean. No program in sight. -/
namespace Go.Proofs.YtcojnojdgigmdaaDoor.PP
def Nz {α : Type} (p : Nat → PR α) : Prop := ∀ a k er, p a = .inl (k, er) → er ≠ 0
theorem nz_ret {α : Type} (v : α) : Nz fun a => .inr (v, a) := fun a k er h => by cases h
theorem nz_one (l : List UInt8) (lo hi : Nat) : Nz fun a => pOne l a lo hi := by
  intro a k er h
  simp only [pOne] at h
  split at h
  · split at h
    · cases h
    · cases h; decide
  · cases h; decide
theorem nz_bind {α β : Type} {p : Nat → PR α} {q : α → Nat → PR β} (hp : Nz p) (hq : ∀ v, Nz (q v)) : Nz fun a => (p a).bind q := by
  intro a k er h
  simp only at h
  cases hx : p a with
  | inl f =>
    obtain ⟨k1, e1⟩ := f
    rw [hx] at h
    cases h
    exact hp a _ _ hx
  | inr f =>
    rw [hx] at h
    exact hq _ _ _ _ h
theorem nz_if {α : Type} (c : Nat → Prop) [DecidablePred c] {p q : Nat → PR α} (hp : Nz p) (hq : Nz q) : Nz fun a => if c a then p a else q a := by
  intro a k er h
  simp only at h
  split at h
  · exact hp a k er h
  · exact hq a k er h
theorem nz_shift {α : Type} {p : Nat → PR α} (hp : Nz p) : Nz fun a => p (a + 1) := fun a k er h => hp (a + 1) k er h
theorem nz_word (l : List UInt8) : ∀ w : List UInt8, Nz fun a => pWord l w a
  | [] => fun a k er h => by simp only [pWord] at h; cases h
  | b :: w => by
    intro a k er h
    have e : pWord l (b :: w) a = (pOne l a b.toNat b.toNat).bind fun _ a' => pWord l w a' := by
      rw [pWord]
      cases pOne l a b.toNat b.toNat <;> rfl
    simp only [e] at h
    exact nz_bind (nz_one l b.toNat b.toNat) (fun _ => nz_word l w) a k er h
theorem nz_num (l : List UInt8) (least : Nat) : Nz fun a => pNum l a least := by
  intro a k er h
  simp only [pNum] at h
  cases hx : pOne l a least 57 with
  | inl f => rw [hx] at h; cases h; exact nz_one l least 57 a _ _ hx
  | inr f => rw [hx] at h; cases h
theorem nz_op (l : List UInt8) : Nz fun a => pOp l a := by
  have w : ∀ (v : Nat), Nz fun a => (match pWord l [61] a with | .inl f => (.inl f : PR Nat) | .inr (_, a') => .inr (v, a')) := by
    intro v a k er h
    simp only at h
    cases hx : pWord l [61] a with
    | inl f => rw [hx] at h; cases h; exact nz_word l [61] a _ _ hx
    | inr f => rw [hx] at h; cases h
  have r : ∀ v d : Nat, Nz fun a => (.inr (v, a + d) : PR Nat) := fun v d a k er h => by cases h
  exact nz_if (fun a => pHas l a 60 = true) (nz_if (fun a => pHas l (a + 1) 61 = true) (r 1 2) (r 0 1)) (nz_if (fun a => pHas l a 62 = true) (nz_if (fun a => pHas l (a + 1) 61 = true) (r 4 2) (r 5 1)) (nz_if (fun a => pHas l a 33 = true) (nz_shift (w 3)) (w 2)))
theorem nz_tl2 (l : List UInt8) (x o r : Nat) : Nz fun a => pTl2 l x o r a :=
  nz_if (fun a => pHas l a 43 = true) (nz_shift (nz_bind (nz_num l 49) fun k => nz_ret (⟨x, o, r, k⟩ : Cnd))) (nz_if (fun a => pHas l a 45 = true) (nz_shift (nz_bind (nz_num l 49) fun k => nz_ret (⟨x, o, r, -(k : Int)⟩ : Cnd))) (nz_ret (⟨x, o, r, 0⟩ : Cnd)))
theorem nz_tl (l : List UInt8) (x o : Nat) : Nz fun a => pTl l x o a :=
  nz_if (fun a => peekB l a = 45) (nz_shift (nz_bind (nz_num l 49) fun k => nz_ret (⟨x, o, 0, -(k : Int)⟩ : Cnd))) (nz_if (fun a => 48 ≤ peekB l a ∧ peekB l a ≤ 57) (nz_bind (nz_num l 48) fun k => nz_ret (⟨x, o, 0, k⟩ : Cnd)) (nz_bind (nz_one l 97 122) fun r => nz_tl2 l x o r))
theorem nz_cond (l : List UInt8) (n : Nat) : Nz fun a => pCond l a n := by
  intro a k er h
  by_cases hn : n = 16
  · simp only [pCond, if_pos hn] at h
    refine nz_bind (nz_one l 97 122) (q := fun _ _ => .inl (a, 24)) (fun _ a' k' er' h' => ?_) a k er h
    cases h'; decide
  · simp only at h
    rw [pCond_tl _ _ _ hn] at h
    exact nz_bind (nz_one l 97 122) (fun x => nz_bind (nz_op l) fun o => nz_tl l x o) a k er h
theorem nz_st3 (a3 k nm lo hi : Nat) : Nz fun a => pSt3 a3 k nm lo hi a := by
  intro a k' er h
  simp only [pSt3] at h
  split at h
  · cases h; decide
  · cases h
theorem nz_st1 (l : List UInt8) (k : Nat) (neg : Bool) (nm : Nat) : Nz fun a => pSt1 l k neg nm a := by
  intro a k' er h
  simp only [pSt1] at h
  split at h
  · split at h
    · cases h; decide
    · exact nz_bind (nz_num l 48) (fun lo => nz_bind (nz_one l 44 44) fun _ => nz_bind (nz_num l 48) fun hi => nz_bind (nz_one l 125 125) fun _ => nz_st3 a k nm lo hi) (a + 1) k' er h
  · cases h
theorem nz_step (l : List UInt8) (n : Nat) : Nz fun a => pStep l a n := by
  intro a k er h
  by_cases hn : n = 8
  · simp only [pStep, if_pos hn] at h
    split at h
    · cases h; decide
    · refine nz_bind (nz_one l 65 90) (q := fun _ _ => .inl (a, 24)) (fun _ a' k' er' h' => ?_) a k er h
      cases h'; decide
  · simp only at h
    rw [pStep_tl _ _ _ hn] at h
    refine nz_bind (p := fun a => pHasR l a 33) (fun a k er h => by simp only [pHasR] at h; cases h) (fun neg => nz_bind (nz_one l 65 90) fun k => nz_bind (nz_one l 32 32) fun _ => nz_bind (nz_one l 97 122) fun nm => nz_st1 l k neg nm) a k er h
theorem nz_steps (l : List UInt8) : ∀ (f : Nat) (ss : List Stp), Nz fun a => pSteps l f a ss
  | 0, ss => nz_ret ss
  | f + 1, ss => nz_if (fun a => pHas l a 44 = true) (nz_shift (nz_bind (nz_step l ss.length) fun x => nz_steps l f (ss ++ [x]))) (nz_ret ss)
theorem nz_conds (l : List UInt8) : ∀ (f : Nat) (cs : List Cnd), Nz fun a => pConds l f a cs
  | 0, cs => nz_ret cs
  | f + 1, cs => nz_if (fun a => pHas l a 65 = true) (nz_shift (nz_bind (nz_word l [78, 68, 32]) fun _ => nz_bind (nz_cond l cs.length) fun x => nz_bind (nz_word l [32]) fun _ => nz_conds l f (cs ++ [x]))) (nz_ret cs)
theorem nz_wh (l : List UInt8) : Nz fun a => pWh l a :=
  nz_if (fun a => pHas l a 72 = true) (nz_shift (nz_bind (nz_word l [69, 82, 69, 32]) fun _ => nz_bind (nz_cond l 0) fun x => nz_bind (nz_word l [32]) fun _ => nz_bind (nz_conds l 16 [x]) fun cs => nz_bind (nz_word l [87]) fun _ => nz_ret cs)) (nz_ret [])
theorem nz_head (l : List UInt8) : Nz fun a => pHead l a :=
  nz_bind (nz_word l [83, 69, 81, 40]) fun _ => nz_bind (nz_step l 0) fun x => nz_bind (nz_steps l 8 [x]) fun ss => nz_bind (nz_word l [41, 32, 87]) fun _ => nz_bind (nz_wh l) fun cs => nz_bind (nz_word l [73, 84, 72, 73, 78, 32]) fun _ => nz_ret (ss, cs)
theorem parse_nz {l : List UInt8} {k : Nat} {er : Int} (h : pParse l = .inl (k, er)) : er ≠ 0 := by
  unfold pParse at h
  split at h
  · cases h; decide
  · cases hp : pPat l with
    | inl f =>
      obtain ⟨k1, e1⟩ := f
      rw [hp] at h
      simp only [Sum.inl.injEq, Prod.mk.injEq] at h
      obtain ⟨rfl, rfl⟩ := h
      rw [pat_head] at hp
      exact nz_bind (nz_head l) (fun sc => nz_bind (nz_num l 48) fun k => nz_ret (⟨sc.1, sc.2, k⟩ : Ptn)) 0 _ _ hp
    | inr f =>
      rw [hp] at h
      simp only at h
      split at h
      · cases h; decide
      · cases h
end Go.Proofs.YtcojnojdgigmdaaDoor.PP
/- How many steps and conditions a text that is read can have. No program in sight. -/
namespace Go.Proofs.YtcojnojdgigmdaaDoor.PLen
open Go.Proofs.YtcojnojdgigmdaaDoor.PP

theorem pSteps_len {l : List UInt8} : ∀ (f a : Nat) (ss : List Stp) (r : List Stp) (a' : Nat), ss.length + f = 9 → pSteps l f a ss = .inr (r, a') → r.length ≤ 9 := by
  intro f
  induction f with
  | zero => intro a ss r a' hl h; simp only [pSteps] at h; cases h; omega
  | succ f ih =>
    intro a ss r a' hl h
    simp only [pSteps] at h
    split at h
    · cases hx : pStep l (a + 1) ss.length with
      | inl q => rw [hx] at h; cases h
      | inr q => rw [hx] at h; exact ih _ _ r a' (by simp; omega) h
    · cases h; omega
theorem pConds_len {l : List UInt8} : ∀ (f a : Nat) (cs : List Cnd) (r : List Cnd) (a' : Nat), cs.length + f = 17 → pConds l f a cs = .inr (r, a') → r.length ≤ 17 := by
  intro f
  induction f with
  | zero => intro a cs r a' hl h; simp only [pConds] at h; cases h; omega
  | succ f ih =>
    intro a cs r a' hl h
    simp only [pConds] at h
    split at h
    · cases h1 : pWord l [78, 68, 32] (a + 1) with
      | inl q => rw [h1] at h; cases h
      | inr q =>
        rw [h1] at h
        simp only [PR.bind] at h
        cases h2 : pCond l q.2 cs.length with
        | inl q => rw [h2] at h; cases h
        | inr q2 =>
          rw [h2] at h
          simp only at h
          cases h3 : pWord l [32] q2.2 with
          | inl q => rw [h3] at h; cases h
          | inr q3 => rw [h3] at h; exact ih _ _ r a' (by simp; omega) h
    · cases h; omega

theorem bind_get {α β : Type} {x : PR α} {f : α → Nat → PR β} {r : β × Nat} (h : x.bind f = .inr r) : ∃ v a, x = .inr (v, a) ∧ f v a = .inr r := by
  cases x with
  | inl q => cases h
  | inr q => exact ⟨q.1, q.2, rfl, h⟩
theorem pEnd_get {l : List UInt8} {ss : List Stp} {cs : List Cnd} {a : Nat} {r : Ptn × Nat} (h : pEnd l ss cs a = .inr r) : r.1.ss = ss ∧ r.1.cs = cs := by
  unfold pEnd at h
  obtain ⟨_, _, _, h⟩ := bind_get h
  obtain ⟨_, _, _, h⟩ := bind_get h
  cases h
  exact ⟨rfl, rfl⟩
theorem pPat_len {l : List UInt8} {r : Ptn × Nat} (h : pPat l = .inr r) : r.1.ss.length ≤ 9 ∧ r.1.cs.length ≤ 17 := by
  unfold pPat at h
  obtain ⟨_, _, _, h⟩ := bind_get h
  obtain ⟨x, _, _, h⟩ := bind_get h
  obtain ⟨ss, _, hs, h⟩ := bind_get h
  have hs9 := pSteps_len _ _ _ _ _ (by simp) hs
  unfold pRest at h
  obtain ⟨_, _, _, h⟩ := bind_get h
  split at h
  · obtain ⟨_, _, _, h⟩ := bind_get h
    obtain ⟨c, _, _, h⟩ := bind_get h
    obtain ⟨_, _, _, h⟩ := bind_get h
    obtain ⟨cs, _, hc, h⟩ := bind_get h
    have hc17 := pConds_len _ _ _ _ _ (by simp) hc
    obtain ⟨_, _, _, h⟩ := bind_get h
    obtain ⟨e1, e2⟩ := pEnd_get h
    rw [e1, e2]
    exact ⟨hs9, hc17⟩
  · obtain ⟨e1, e2⟩ := pEnd_get h
    rw [e1, e2]
    exact ⟨hs9, by simp⟩
theorem parse_len {l : List UInt8} {p : Ptn} (h : pParse l = .inr p) : p.ss.length ≤ 9 ∧ p.cs.length ≤ 17 := by
  unfold pParse at h
  split at h
  · cases h
  · cases hp : pPat l with
    | inl f => rw [hp] at h; cases h
    | inr f =>
      have := pPat_len hp
      rw [hp] at h
      simp only at h
      split at h
      · cases h
      · cases h; exact this
end Go.Proofs.YtcojnojdgigmdaaDoor.PLen
/- Where a step stands among the groups. No program in sight. -/
namespace Go.Proofs.YtcojnojdgigmdaaDoor.PL

/-- How many steps stand ahead of a group. -/
def startG {α : Type} (gs : List (Grp α)) (q : Nat) : Nat := (flat (gs.take q)).length
/-- The group of a step, and its bar's number. -/
def locate {α : Type} : List (Grp α) → Nat → Nat × Option Nat
  | [], _ => (0, none)
  | g :: r, k => if k = 0 then (0, none) else if k ≤ g.2.length then (0, some (k - 1)) else ((locate r (k - 1 - g.2.length)).1 + 1, (locate r (k - 1 - g.2.length)).2)
section
variable {α : Type}
theorem startG_zero (gs : List (Grp α)) : startG gs 0 = 0 := by simp [startG, flat]
theorem startG_cons (g : Grp α) (r : List (Grp α)) (q : Nat) : startG (g :: r) (q + 1) = 1 + g.2.length + startG r q := by
  simp only [startG, List.take_succ_cons, flat, List.flatMap_cons, List.length_append, List.length_cons]; omega
theorem startG_succ (gs : List (Grp α)) (q : Nat) (h : q < gs.length) : startG gs (q + 1) = startG gs q + 1 + gs[q].2.length := by
  induction gs generalizing q with
  | nil => simp at h
  | cons g r ih =>
    cases q with
    | zero => rw [startG_cons, startG_zero, startG_zero]; simp
    | succ q => rw [startG_cons, startG_cons, ih q (by simpa using h)]; simp; omega
theorem startG_end (gs : List (Grp α)) : startG gs gs.length = (flat gs).length := by simp [startG]
theorem locate_head (gs : List (Grp α)) (q : Nat) (h : q < gs.length) : locate gs (startG gs q) = (q, none) := by
  induction gs generalizing q with
  | nil => simp at h
  | cons g r ih =>
    cases q with
    | zero => rw [startG_zero]; simp [locate]
    | succ q =>
      rw [startG_cons]
      unfold locate
      rw [if_neg (by omega), if_neg (by omega), show 1 + g.2.length + startG r q - 1 - g.2.length = startG r q by omega, ih q (by simpa using h)]
theorem locate_bar (gs : List (Grp α)) (q r : Nat) (h : q < gs.length) (hr : r < gs[q].2.length) : locate gs (startG gs q + 1 + r) = (q, some r) := by
  induction gs generalizing q with
  | nil => simp at h
  | cons g rest ih =>
    cases q with
    | zero =>
      rw [startG_zero]
      unfold locate
      simp only [List.getElem_cons_zero] at hr
      rw [if_neg (by omega), if_pos (by omega)]
      simp
    | succ q =>
      rw [startG_cons]
      unfold locate
      simp only [List.getElem_cons_succ] at hr
      rw [if_neg (by omega), if_neg (by omega), show 1 + g.2.length + startG rest q + 1 + r - 1 - g.2.length = startG rest q + 1 + r by omega, ih q (by simpa using h) hr]
theorem locate_cases (gs : List (Grp α)) (k : Nat) (h : k < (flat gs).length) : (∃ q, q < gs.length ∧ k = startG gs q) ∨ ∃ q, ∃ hq : q < gs.length, ∃ r, r < gs[q].2.length ∧ k = startG gs q + 1 + r := by
  induction gs generalizing k with
  | nil => simp [flat] at h
  | cons g rest ih =>
    simp only [flat, List.flatMap_cons, List.length_append, List.length_cons] at h
    by_cases h0 : k = 0
    · exact .inl ⟨0, by simp, by rw [startG_zero]; exact h0⟩
    · by_cases h1 : k ≤ g.2.length
      · exact .inr ⟨0, by simp, k - 1, by simp; omega, by rw [startG_zero]; omega⟩
      · rcases ih (k - 1 - g.2.length) (by simp only [flat]; omega) with ⟨q, hq, e⟩ | ⟨q, hq, r, hr, e⟩
        · exact .inl ⟨q + 1, by simpa using hq, by rw [startG_cons]; omega⟩
        · exact .inr ⟨q + 1, by simpa using hq, r, by simpa using hr, by rw [startG_cons]; omega⟩
theorem flat_head (gs : List (Grp α)) (q : Nat) (h : q < gs.length) : (flat gs)[startG gs q]? = some gs[q].1 := by
  induction gs generalizing q with
  | nil => simp at h
  | cons g r ih =>
    cases q with
    | zero => rw [startG_zero]; simp [flat]
    | succ q =>
      rw [startG_cons]
      simp only [flat, List.flatMap_cons]
      rw [List.getElem?_append_right (by simp; omega)]
      simp only [List.length_cons, List.getElem_cons_succ]
      rw [show 1 + g.2.length + startG r q - (g.2.length + 1) = startG r q by omega]
      exact ih q (by simpa using h)
theorem flat_bar (gs : List (Grp α)) (q r : Nat) (h : q < gs.length) (hr : r < gs[q].2.length) : (flat gs)[startG gs q + 1 + r]? = some gs[q].2[r] := by
  induction gs generalizing q with
  | nil => simp at h
  | cons g rest ih =>
    cases q with
    | zero =>
      rw [startG_zero]
      simp only [List.getElem_cons_zero] at hr
      simp only [flat, List.flatMap_cons, List.getElem_cons_zero]
      rw [List.getElem?_append_left (by simp; omega), show 0 + 1 + r = r + 1 by omega, List.getElem?_cons_succ, List.getElem?_eq_getElem hr]
    | succ q =>
      rw [startG_cons]
      simp only [List.getElem_cons_succ] at hr
      simp only [flat, List.flatMap_cons]
      rw [List.getElem?_append_right (by simp; omega)]
      simp only [List.length_cons, List.getElem_cons_succ]
      rw [show 1 + g.2.length + startG rest q + 1 + r - (g.2.length + 1) = startG rest q + 1 + r by omega]
      exact ih q (by simpa using h) hr
theorem startG_lt (gs : List (Grp α)) (q : Nat) (h : q < gs.length) : startG gs q < (flat gs).length := (List.getElem?_eq_some_iff.1 (flat_head gs q h)).1
theorem bar_lt (gs : List (Grp α)) (q r : Nat) (h : q < gs.length) (hr : r < gs[q].2.length) : startG gs q + 1 + r < (flat gs).length := (List.getElem?_eq_some_iff.1 (flat_bar gs q r h hr)).1
theorem startG_le (gs : List (Grp α)) (q : Nat) : startG gs q ≤ (flat gs).length := by
  induction gs generalizing q with
  | nil => simp [startG, flat]
  | cons g r ih =>
    cases q with
    | zero => rw [startG_zero]; omega
    | succ q => rw [startG_cons]; have := ih q; simp only [flat, List.flatMap_cons, List.length_append, List.length_cons] at this ⊢; omega
/-- The heads of the groups are steps that take events, the others are bars. -/
def goodG (gs : List (Grp α)) : Prop := ∀ g ∈ gs, g.1.1.neg = false ∧ ∀ b ∈ g.2, b.1.neg = true
theorem goodG_push (gs : List (Grp α)) (x : GS × α) (h : goodG gs) (hx : gs = [] → x.1.neg = false) : goodG (pushG gs x) := by
  cases hn : x.1.neg with
  | false =>
    rw [pushG_pos _ _ hn]
    intro g hg
    rcases List.mem_append.1 hg with hg | hg
    · exact h g hg
    · simp only [List.mem_cons, List.not_mem_nil, or_false] at hg
      subst hg
      exact ⟨hn, fun b hb => absurd hb (by simp)⟩
  | true =>
    have hne : gs ≠ [] := fun e => by rw [hx e] at hn; cases hn
    rw [← List.dropLast_concat_getLast hne, pushG_bar _ _ _ hn]
    intro g hg
    rcases List.mem_append.1 hg with hg | hg
    · exact h g (List.dropLast_subset _ hg)
    · simp only [List.mem_cons, List.not_mem_nil, or_false] at hg
      subst hg
      obtain ⟨h1, h2⟩ := h _ (List.getLast_mem hne)
      refine ⟨h1, fun b hb => ?_⟩
      rcases List.mem_append.1 hb with hb | hb
      · exact h2 b hb
      · simp only [List.mem_cons, List.not_mem_nil, or_false] at hb
        subst hb; exact hn
theorem goodG_groups (x : GS × α) (l : List (GS × α)) (hx : x.1.neg = false) : goodG (groups (x :: l)) := by
  have h : ∀ (l : List (GS × α)) (gs : List (Grp α)), gs ≠ [] → goodG gs → goodG (l.foldl pushG gs) := by
    intro l
    induction l with
    | nil => intro gs _ h; exact h
    | cons y r ih => intro gs hne h; rw [List.foldl_cons]; exact ih _ (pushG_ne _ _) (goodG_push _ _ h fun e => absurd e hne)
  exact h l (pushG [] x) (pushG_ne _ _) (goodG_push _ _ (fun g hg => absurd hg (by simp)) fun _ => hx)
/-- A step's group's number is how many steps ahead take events. -/
theorem posTo_start (gs : List (Grp α)) (ss : List GS) (hg : goodG gs) (hf : (flat gs).map (·.1) = ss) (q : Nat) (h : q ≤ gs.length) : posTo ss (startG gs q) = q := by
  have at_ : ∀ (k : Nat) (x : GS × α), (flat gs)[k]? = some x → ss[k]! = x.1 := fun k x hk => by
    have : ss[k]? = some x.1 := by rw [← hf, List.getElem?_map, hk]; rfl
    rw [List.getElem!_eq_getElem?_getD, this]; rfl
  induction q with
  | zero => rw [startG_zero]; rfl
  | succ q ih =>
    have hq : q < gs.length := by omega
    obtain ⟨h1, h2⟩ := hg gs[q] (List.getElem_mem hq)
    have e1 : posTo ss (startG gs q + 1) = q + 1 := by
      show posTo ss (startG gs q) + _ = _
      rw [ih (by omega), at_ _ _ (flat_head gs q hq), h1]; simp
    have e2 : ∀ r, r ≤ gs[q].2.length → posTo ss (startG gs q + 1 + r) = q + 1 := by
      intro r
      induction r with
      | zero => intro _; exact e1
      | succ r ihr =>
        intro hr
        show posTo ss (startG gs q + 1 + r) + (if (ss[startG gs q + 1 + r]!).neg = true then 0 else 1) = _
        rw [ihr (by omega), at_ _ _ (flat_bar gs q r hq (by omega)), h2 _ (List.getElem_mem (by omega))]; simp
    rw [startG_succ gs q hq]
    exact e2 _ (Nat.le_refl _)
theorem posTo_at (gs : List (Grp α)) (ss : List GS) (hg : goodG gs) (hf : (flat gs).map (·.1) = ss) (k : Nat) (h : k < (flat gs).length) : posTo ss (k + 1) = (locate gs k).1 + 1 := by
  have at_ : ∀ (k : Nat) (x : GS × α), (flat gs)[k]? = some x → ss[k]! = x.1 := fun k x hk => by
    have : ss[k]? = some x.1 := by rw [← hf, List.getElem?_map, hk]; rfl
    rw [List.getElem!_eq_getElem?_getD, this]; rfl
  rcases locate_cases gs k h with ⟨q, hq, rfl⟩ | ⟨q, hq, r, hr, rfl⟩
  · rw [locate_head gs q hq]
    show posTo ss (startG gs q) + _ = _
    rw [posTo_start gs ss hg hf q (by omega), at_ _ _ (flat_head gs q hq), (hg gs[q] (List.getElem_mem hq)).1]; simp
  · rw [locate_bar gs q r hq hr]
    obtain ⟨h1, h2⟩ := hg gs[q] (List.getElem_mem hq)
    have e1 : posTo ss (startG gs q + 1) = q + 1 := by
      show posTo ss (startG gs q) + _ = _
      rw [posTo_start gs ss hg hf q (by omega), at_ _ _ (flat_head gs q hq), h1]; simp
    have e2 : ∀ r, r ≤ gs[q].2.length → posTo ss (startG gs q + 1 + r) = q + 1 := by
      intro r
      induction r with
      | zero => intro _; exact e1
      | succ r ihr =>
        intro hr
        show posTo ss (startG gs q + 1 + r) + (if (ss[startG gs q + 1 + r]!).neg = true then 0 else 1) = _
        rw [ihr (by omega), at_ _ _ (flat_bar gs q r hq (by omega)), h2 _ (List.getElem_mem (by omega))]; simp
    exact e2 (r + 1) (by omega)
end
end Go.Proofs.YtcojnojdgigmdaaDoor.PL
