/- Slices as lists: what a slice value reads as, below a block; kept while nothing below that block turns. No program in sight. -/
import Derived.Below
import Derived.Laws.OwnMore
import Derived.Laws.NewBlocks
import Derived.Deep.AppendLies
import Derived.Deep.Draws
import Derived.Laws.IdiomRangeMap
namespace Go.Proofs.Ytceeijamhhokaaa.Mem
open Go.RowKit

theorem block_add (a : Addr) (n : Nat) : (a.add n).block = a.block := by unfold Addr.add; split <;> rfl
theorem add_add (a : Addr) (i j : Nat) : (a.add i).add j = a.add (i + j) := by
  unfold Addr.add
  by_cases hi : i = 0 <;> by_cases hj : j = 0 <;> simp [hi, hj, Nat.add_assoc]
theorem add_lit (b j : Nat) : (⟨b, 0, none⟩ : Addr).add j = ⟨b, j, none⟩ := by
  unfold Addr.add; split
  · rename_i h; subst h; rfl
  · simp

theorem lit_add (b o j : Nat) : (⟨b, o, none⟩ : Addr).add j = ⟨b, o + j, none⟩ := by
  unfold Addr.add; split
  · rename_i h; subst h; rfl
  · rfl
/-- An address at which a cell lies is a block and a place in it. -/
theorem lit_of_cell {w : World} {a : Addr} {u : Value} (h : w.cell? a = some u) : ∃ b o, a = ⟨b, o, none⟩ := by
  obtain ⟨b, o, p⟩ := a
  cases p with
  | none => exact ⟨b, o, rfl⟩
  | some p => simp only [World.cell?] at h; split at h <;> cases h

/-- The slice value v has n elements of so many cells each, and these cells; they lie below block B. -/
def Sl (w : World) (B size : Nat) (v : Value) (n : Nat) (xs : List Value) : Prop :=
  xs.length = n * size ∧ ∃ A c, v = .slice A n c ∧ n ≤ c ∧ (0 < n → ∃ b o : Nat, A = some ⟨b, o, none⟩ ∧ b < B ∧ ∀ j u, xs[j]? = some u → w.cell? ⟨b, o + j, none⟩ = some u)

section
variable {w w' : World} {B B' size n : Nat} {v : Value} {xs : List Value}
theorem Sl.shape (h : Sl w B size v n xs) : ∃ A c, v = .slice A n c := by obtain ⟨_, A, c, hv, _⟩ := h; exact ⟨A, c, hv⟩
theorem Sl.nil_ (w : World) (B size : Nat) : Sl w B size (.slice none 0 0) 0 [] := ⟨by simp, none, 0, rfl, Nat.le_refl _, fun h => absurd h (by omega)⟩
theorem Sl.keep (h : Sl w B size v n xs) (hk : ∀ p : Addr, p.block < B → w'.cell? p = w.cell? p) : Sl w' B size v n xs := by
  obtain ⟨h1, A, c, hv, hc, hr⟩ := h
  refine ⟨h1, A, c, hv, hc, fun hn => ?_⟩
  obtain ⟨b, o, e, hb, hx⟩ := hr hn
  exact ⟨b, o, e, hb, fun j u hu => (hk ⟨b, o + j, none⟩ hb).trans (hx j u hu)⟩
theorem Sl.more (h : Sl w B size v n xs) (hB : B ≤ B') : Sl w B' size v n xs := by
  obtain ⟨h1, A, c, hv, hc, hr⟩ := h
  refine ⟨h1, A, c, hv, hc, fun hn => ?_⟩
  obtain ⟨b, o, e, hb, hx⟩ := hr hn
  exact ⟨b, o, e, by omega, hx⟩
theorem Sl.below (h : Sl w B size v n xs) (hb : Below B w w') : Sl w' B size v n xs := h.keep fun _ hp => hb.cell hp
theorem Sl.drew (h : Sl w B size v n xs) : Sl w.drew B size v n xs := h
theorem Sl.drewN (h : Sl w B size v n xs) (k : Nat) : Sl (w.drewN k) B size v n xs := h
theorem Sl.of_own {base : Nat} {e : TypeId} (h : w.ownsRow base e size v n xs) : Sl w w.heap.size size v n xs := by
  rcases h.2 with ⟨rfl, rfl⟩ | ⟨g, cap, cur, rfl, hg, hh, hnc, hr⟩
  · have h1 := h.1
    exact ⟨h1, none, 0, rfl, Nat.le_refl _, fun hn => absurd hn (by omega)⟩
  · refine ⟨h.1, _, cap, rfl, hnc, fun hn => ⟨g, 0, rfl, ?_, fun j u hu => ?_⟩⟩
    · rcases Nat.lt_or_ge g w.heap.size with h' | h'
      · exact h'
      · simp [Array.getElem?_eq_none h'] at hh
    · have := h.cells (g := g) rfl j u hu
      rwa [lit_add] at this
/-- The element's cells. -/
theorem Sl.elem (h : Sl w B size v n xs) {i : Nat} (hi : i < n) : ∃ (b o c : Nat), v = .slice (some ⟨b, o, none⟩) n c ∧ b < B ∧ ∀ j u, j < size → xs[i * size + j]? = some u → w.cell? ⟨b, o + i * size + j, none⟩ = some u := by
  obtain ⟨h1, A, c, hv, hc, hr⟩ := h
  obtain ⟨b, o, rfl, hb, hx⟩ := hr (by omega)
  exact ⟨b, o, c, hv, hb, fun j u _ hu => by rw [Nat.add_assoc]; exact hx _ u hu⟩
end

theorem own_below {w w' : World} {base : Nat} {e : TypeId} {size : Nat} {v : Value} {n : Nat} {xs : List Value} (h : w.ownsRow base e size v n xs) (hb : Below w.heap.size w w') : w'.ownsRow base e size v n xs :=
  h.kept (row := none) ⟨hb.os, hb.tape, hb.output, hb.size, fun k hk _ => hb.block k hk⟩ (by cases v.ownBlock <;> simp)
theorem own_lt {w : World} {base : Nat} {e : TypeId} {size : Nat} {v : Value} {n : Nat} {xs : List Value} (h : w.ownsRow base e size v n xs) : ∀ k, v.ownBlock = some k → base ≤ k ∧ k < w.heap.size := by
  intro k hk
  rcases h.2 with ⟨rfl, _⟩ | ⟨g, cap, cur, rfl, hg, hh, _⟩
  · simp [Value.ownBlock] at hk
  · have : g = k := by simpa [Value.ownBlock] using hk
    subst this
    refine ⟨hg, ?_⟩
    rcases Nat.lt_or_ge g w.heap.size with h' | h'
    · exact h'
    · simp [Array.getElem?_eq_none h'] at hh
/-- What an append leaves of older memory. -/
theorem below_grown {a w w' : World} {B base : Nat} {e : TypeId} {size : Nat} {v : Value} {n : Nat} {xs : List Value} (h : Below B a w) (hown : w.ownsRow base e size v n xs) (hg : w.grownBy w' v.ownBlock) (hB : B ≤ w.heap.size) (hbase : B ≤ base) : Below B a w' :=
  h.grown hg hB (fun k hk => Nat.le_trans hbase (own_lt hown k hk).1)

theorem new_cell (w : World) (cs : Array Value) (t : TypeId) (j : Nat) (u : Value) (h : cs.toList[j]? = some u) : (w.alloc (.cells cs t)).cell? ((⟨w.heap.size, 0, none⟩ : Addr).add j) = some u := by
  rw [add_lit, World.cell?_alloc_at _ _ _ _ rfl]
  simpa using h

/-! ### For closing what stands behind a region in whose orders two rows are appended to: each fact from the world ahead. -/
theorem own_ne {w : World} {b b' : Nat} {e e' : TypeId} {s s' n n' : Nat} {v v' : Value} {xs xs' : List Value} (h : w.ownsRow b e s v n xs) (h' : w.ownsRow b' e' s' v' n' xs') (hne : e ≠ e') : v.ownBlock = none ∨ v.ownBlock ≠ v'.ownBlock := by
  rcases h.2 with ⟨rfl, _⟩ | ⟨g, cap, cur, rfl, _, hh, _⟩
  · exact .inl rfl
  · rcases h'.2 with ⟨rfl, _⟩ | ⟨g', cap', cur', rfl, _, hh', _⟩
    · exact .inr (by simp [Value.ownBlock])
    · refine .inr fun he => ?_
      have : g = g' := by simpa [Value.ownBlock] using he
      subst this
      rw [hh] at hh'
      injection hh' with hh'
      injection hh' with _ ht
      exact hne ht
theorem own_kept2 {w w' : World} {b b' : Nat} {e e' : TypeId} {s s' n n' : Nat} {v v' : Value} {xs xs' : List Value} (h : w.ownsRow b e s v n xs) (h' : w.ownsRow b' e' s' v' n' xs') (hne : e ≠ e') (hg : w.grownBy w' v'.ownBlock) : w'.ownsRow b e s v n xs :=
  h.kept hg (own_ne h h' hne)
theorem below_alloc0 {a w : World} {o : Obj} (h : Below a.heap.size a w) : Below a.heap.size a (w.alloc o) := h.alloc h.size o
theorem below_grown0 {a w w' : World} {e : TypeId} {s n : Nat} {v : Value} {xs : List Value} (h : Below a.heap.size a w) (hown : w.ownsRow a.heap.size e s v n xs) (hg : w.grownBy w' v.ownBlock) : Below a.heap.size a w' :=
  below_grown h hown hg h.size (Nat.le_refl _)
theorem heap_lt {w : World} {g : Nat} {o : Obj} (h : w.heap[g]? = some o) : g < w.heap.size := by
  rcases Nat.lt_or_ge g w.heap.size with h' | h'
  · exact h'
  · simp [Array.getElem?_eq_none h'] at h
theorem heap_alloc {w : World} {g : Nat} {o o' : Obj} (h : w.heap[g]? = some o) : (w.alloc o').heap[g]? = some o := (Below.heap_alloc w o' g (heap_lt h)).trans h
theorem heap_kept {w w' : World} {g b s n : Nat} {e t : TypeId} {cs : Array Value} {fr : Nat × Nat} {v : Value} {xs : List Value} (h : w.heap[g]? = some (.cells cs t fr)) (hown : w.ownsRow b e s v n xs) (hne : e ≠ t) (hg : w.grownBy w' v.ownBlock) : w'.heap[g]? = some (.cells cs t fr) := by
  refine (hg.block g (heap_lt h) ?_).trans h
  rcases hown.2 with ⟨rfl, _⟩ | ⟨g', cap, cur, rfl, _, hh, _⟩
  · simp [Value.ownBlock]
  · intro he
    have : g = g' := by simpa [Value.ownBlock] using he
    subst this
    rw [h] at hh
    injection hh with hh
    injection hh with _ ht
    exact hne ht.symm
theorem heap_new {w : World} {o : Obj} {g : Nat} (h : g = w.heap.size) : (w.alloc o).heap[g]? = some o := by subst h; exact heap_alloc_new w o
theorem heap_drew {w : World} {g : Nat} {o : Obj} (h : w.heap[g]? = some o) : w.drew.heap[g]? = some o := h
theorem cell_far2 {w w' : World} {a : Addr} {u : Value} {row : Option Nat} (hc : w.cell? a = some u) (hg : w.grownBy w' row) (hne : row ≠ some a.block) : w'.cell? a = some u := by
  have hlt : a.block < w.heap.size := by
    rcases Nat.lt_or_ge a.block w.heap.size with h' | h'
    · exact h'
    · simp [World.cell?, Array.getElem?_eq_none h'] at hc
  rw [World.cell?_of_block (hg.block a.block hlt (fun e => hne e.symm))]; exact hc

/-- The cells of a list of things, each of so many cells. -/
def cellsOf {α : Type} (enc : α → List Value) (l : List α) : List Value := l.flatMap enc
section
variable {α : Type} {enc : α → List Value} {k : Nat}
theorem cellsOf_length (hk : ∀ x, (enc x).length = k) (l : List α) : (cellsOf enc l).length = l.length * k := by
  induction l with
  | nil => simp [cellsOf]
  | cons x r ih =>
    have : cellsOf enc (x :: r) = enc x ++ cellsOf enc r := rfl
    rw [this, List.length_append, ih, hk, List.length_cons, Nat.add_mul]; omega
theorem cellsOf_get (hk : ∀ x, (enc x).length = k) (l : List α) (i j : Nat) (hj : j < k) (hi : i < l.length) : (cellsOf enc l)[i * k + j]? = (enc l[i])[j]? := by
  induction l generalizing i with
  | nil => simp at hi
  | cons x r ih =>
    have e : cellsOf enc (x :: r) = enc x ++ cellsOf enc r := rfl
    rw [e]
    cases i with
    | zero => rw [Nat.zero_mul, Nat.zero_add, List.getElem?_append_left (by rw [hk]; exact hj)]; rfl
    | succ i =>
      rw [List.getElem?_append_right (by rw [hk, Nat.add_mul]; omega), hk, show (i + 1) * k + j - k = i * k + j by rw [Nat.add_mul]; omega]
      exact ih i (by simpa using hi)
theorem cellsOf_snoc (l : List α) (x : α) : cellsOf enc (l ++ [x]) = cellsOf enc l ++ enc x := by simp [cellsOf]
end

/-- The slice reads as these integers (int64, int). -/
def Ints (w : World) (B : Nat) (v : Value) (l : List Int) : Prop := Sl w B 1 v l.length (l.map (Value.int .i64))
theorem Ints.at_ {w : World} {B : Nat} {v : Value} {l : List Int} (h : Ints w B v l) {i : Nat} (hi : i < l.length) :
    ∃ (b o c : Nat), v = .slice (some ⟨b, o, none⟩) l.length c ∧ b < B ∧ w.cell? ⟨b, o + i, none⟩ = some (.int .i64 l[i]) := by
  obtain ⟨b, o, c, hv, hb, hx⟩ := Sl.elem h hi
  refine ⟨b, o, c, hv, hb, ?_⟩
  have := hx 0 (.int .i64 l[i]) (by omega) (by simp [hi])
  simpa using this

/-- A slice of a new block, all of it. -/
theorem Sl.new (w : World) (t : TypeId) (cs : Array Value) (n size : Nat) (h : cs.size = n * size) (g : Nat) (hg : g = w.heap.size) : Sl (w.alloc (.cells cs t)) (w.heap.size + 1) size (.slice (some ⟨g, 0, none⟩) n n) n cs.toList := by
  subst hg
  refine ⟨by simpa using h, _, n, rfl, Nat.le_refl _, fun _ => ⟨_, 0, rfl, by omega, fun j u hu => ?_⟩⟩
  rw [Nat.zero_add, World.cell?_alloc_at _ _ _ _ rfl]
  simpa using hu

/-- An event. -/
structure Ev where
  id : Int
  time : Int
  kind : Int
  val : Int
deriving DecidableEq
/-- Its cells. -/
def encE (e : Ev) : List Value := [.int .i64 e.id, .int .i64 e.time, .int .u8 e.kind, .int .i64 e.val]
theorem encE_len (e : Ev) : (encE e).length = 4 := rfl
theorem encE_one (e : Ev) : ∀ u ∈ encE e, u.oneCell' = true := by
  intro u hu
  simp only [encE, List.mem_cons, List.not_mem_nil, or_false] at hu
  rcases hu with rfl | rfl | rfl | rfl <;> rfl
/-- Its numbers lie within their kinds. -/
def Ev.fits (e : Ev) : Prop := (-9223372036854775808 ≤ e.id ∧ e.id ≤ 9223372036854775807) ∧ (-9223372036854775808 ≤ e.time ∧ e.time ≤ 9223372036854775807) ∧ (0 ≤ e.kind ∧ e.kind ≤ 255) ∧ (-9223372036854775808 ≤ e.val ∧ e.val ≤ 9223372036854775807)
/-- The slice reads as these events. -/
def Evs (w : World) (B : Nat) (v : Value) (l : List Ev) : Prop := Sl w B 4 v l.length (cellsOf encE l)
theorem Evs.at_ {w : World} {B : Nat} {v : Value} {l : List Ev} (h : Evs w B v l) {i : Nat} (hi : i < l.length) :
    ∃ (b o c : Nat), v = .slice (some ⟨b, o, none⟩) l.length c ∧ b < B ∧ w.cell? ⟨b, o + i * 4, none⟩ = some (.int .i64 l[i].id) ∧ w.cell? ⟨b, o + i * 4 + 1, none⟩ = some (.int .i64 l[i].time) ∧
      w.cell? ⟨b, o + i * 4 + 2, none⟩ = some (.int .u8 l[i].kind) ∧ w.cell? ⟨b, o + i * 4 + 3, none⟩ = some (.int .i64 l[i].val) := by
  obtain ⟨b, o, c, hv, hb, hx⟩ := Sl.elem h hi
  refine ⟨b, o, c, hv, hb, ?_, ?_, ?_, ?_⟩
  · exact hx 0 (.int .i64 l[i].id) (by omega) (by rw [cellsOf_get encE_len l i 0 (by omega) hi]; rfl)
  · exact hx 1 _ (by omega) (by rw [cellsOf_get encE_len l i 1 (by omega) hi]; rfl)
  · exact hx 2 _ (by omega) (by rw [cellsOf_get encE_len l i 2 (by omega) hi]; rfl)
  · exact hx 3 _ (by omega) (by rw [cellsOf_get encE_len l i 3 (by omega) hi]; rfl)
end Go.Proofs.Ytceeijamhhokaaa.Mem
