/- The plan under way (plan.Make's first loop): what lies in memory, and what an append to the steps, or to the last step's bars, makes of it. No code is walked here. -/
import Derived.Test.YtcfimponmioneaaWPlan4
import Derived.Test.YtcfimponmioneaaWPat7
import Derived.Test.YtcfimponmioneaaApp2
namespace Go.Proofs.Ytcfimponmioneaa.WL
open Go Go.RowKit Go.Proofs.Ytcfimponmioneaa Go.Proofs.Ytcfimponmioneaa.PL Go.Proofs.Ytcfimponmioneaa.Mem Go.Proofs.Ytcfimponmioneaa.WP

abbrev nilS : Value := .slice none 0 0
/-- A step that takes events: kind, counts, the slices of its tests and bars. -/
def posAt (xs : List Value) (q : Nat) (s : GS) (vt vb : Value) : Prop :=
  xs[q * 5]? = some (.int .u8 s.k) ∧ xs[q * 5 + 1]? = some (.int .i64 s.lo) ∧ xs[q * 5 + 2]? = some (.int .i64 s.hi) ∧ xs[q * 5 + 3]? = some vt ∧ xs[q * 5 + 4]? = some vb
/-- A bar. -/
def barAt (xs : List Value) (r : Nat) (s : GS) (vt : Value) : Prop := xs[r * 2]? = some (.int .u8 s.k) ∧ xs[r * 2 + 1]? = some vt
theorem posAt.app {xs ys : List Value} {q : Nat} {s : GS} {vt vb : Value} (h : posAt xs q s vt vb) : posAt (xs ++ ys) q s vt vb := by
  have f : ∀ {j : Nat} {u : Value}, xs[j]? = some u → (xs ++ ys)[j]? = some u := fun {j u} hj => by
    rw [List.getElem?_append_left (List.getElem?_eq_some_iff.1 hj).1]; exact hj
  exact ⟨f h.1, f h.2.1, f h.2.2.1, f h.2.2.2.1, f h.2.2.2.2⟩
theorem barAt.app {xs ys : List Value} {q : Nat} {s : GS} {vt : Value} (h : barAt xs q s vt) : barAt (xs ++ ys) q s vt := by
  have f : ∀ {j : Nat} {u : Value}, xs[j]? = some u → (xs ++ ys)[j]? = some u := fun {j u} hj => by
    rw [List.getElem?_append_left (List.getElem?_eq_some_iff.1 hj).1]; exact hj
  exact ⟨f h.1, f h.2⟩
theorem posAt.set {xs : List Value} {q : Nat} {s : GS} {vt vb : Value} (h : posAt xs q s vt vb) (v : Value) : posAt (xs.set (q * 5 + 4) v) q s vt v := by
  have f : ∀ {j : Nat} {u : Value}, j ≠ q * 5 + 4 → xs[j]? = some u → (xs.set (q * 5 + 4) v)[j]? = some u := fun {j u} hne hj => by
    rw [List.getElem?_set_ne (by omega)]; exact hj
  exact ⟨f (by omega) h.1, f (by omega) h.2.1, f (by omega) h.2.2.1, f (by omega) h.2.2.2.1, by rw [List.getElem?_set_self (List.getElem?_eq_some_iff.1 h.2.2.2.2).1]⟩
theorem posAt.setO {xs : List Value} {q q' : Nat} {s : GS} {vt vb : Value} (h : posAt xs q s vt vb) (hne : q ≠ q') (v : Value) : posAt (xs.set (q' * 5 + 4) v) q s vt vb := by
  have f : ∀ {j : Nat} {u : Value}, j ≠ q' * 5 + 4 → xs[j]? = some u → (xs.set (q' * 5 + 4) v)[j]? = some u := fun {j u} hne hj => by
    rw [List.getElem?_set_ne (by omega)]; exact hj
  exact ⟨f (by omega) h.1, f (by omega) h.2.1, f (by omega) h.2.2.1, f (by omega) h.2.2.2.1, f (by omega) h.2.2.2.2⟩

theorem heap_setCell_other' (w : World) (a : Addr) (u : Value) (k : Nat) (h : k ≠ a.block) : (w.setCell a u).heap[k]? = w.heap[k]? := heap_setCell_other w a k u h
/-- The plan under way. -/
structure Mk (W w : World) (R : Nat) (sl cl : Value) (wi : Int) (vs : Value) (gs : List (Grp Unit)) (vb : Nat → Value) : Prop where
  bel : Below W.heap.size W w
  pb : w.heap[W.heap.size]? = some (.cells #[sl, cl, .int .i64 wi] 25 (0, 0))
  rb : ∃ c0 c1, w.heap[W.heap.size + 1]? = some (.cells #[c0, c1] 51 (0, 0))
  ob : w.heap[R]? = some (.cells #[vs, .int .i64 wi] 51 (0, 0))
  lt : W.heap.size + 1 < R
  row : ∃ xs, w.ownsRow W.heap.size 67 5 vs gs.length xs ∧ ∀ q (h : q < gs.length), posAt xs q gs[q].1.1 nilS (vb q)
  bars : ∀ q (h : q < gs.length), ∃ ys, w.ownsRow W.heap.size 69 2 (vb q) gs[q].2.length ys ∧ ∀ r (h' : r < gs[q].2.length), barAt ys r gs[q].2[r].1 nilS
  sep : ∀ q q', q < gs.length → q' < gs.length → q ≠ q' → (vb q).ownBlock = none ∨ (vb q).ownBlock ≠ (vb q').ownBlock

section
variable {W w w' : World} {R : Nat} {sl cl vs : Value} {wi : Int} {gs : List (Grp Unit)} {vb : Nat → Value}
theorem Mk.below (h : Mk W w R sl cl wi vs gs vb) (hb : Below w.heap.size w w') : Mk W w' R sl cl wi vs gs vb := {
  bel := h.bel.trans (hb.mono h.bel.size)
  pb := (hb.block _ (blk_lt h.pb)).trans h.pb
  rb := by obtain ⟨c0, c1, h1⟩ := h.rb; exact ⟨c0, c1, (hb.block _ (blk_lt h1)).trans h1⟩
  ob := (hb.block _ (blk_lt h.ob)).trans h.ob
  lt := h.lt
  row := by obtain ⟨xs, h1, h2⟩ := h.row; exact ⟨xs, own_below h1 hb, h2⟩
  bars := fun q hq => by obtain ⟨ys, h1, h2⟩ := h.bars q hq; exact ⟨ys, own_below h1 hb, h2⟩
  sep := h.sep }
theorem Mk.alloc (h : Mk W w R sl cl wi vs gs vb) (o : Obj) : Mk W (w.alloc o) R sl cl wi vs gs vb := h.below ((Below.refl _ _).alloc (Nat.le_refl _) o)

/-- The result's cells are written. -/
theorem Mk.res (h : Mk W w R sl cl wi vs gs vb) (u v : Value) : Mk W ((w.setCell ⟨W.heap.size + 1, 0, none⟩ u).setCell ⟨W.heap.size + 1, 1, none⟩ v) R sl cl wi vs gs vb := by
  obtain ⟨c0, c1, hr⟩ := h.rb
  have hr1 := blk_set hr 0 u
  have hr2 := blk_set hr1 1 v
  have hlt := h.lt
  exact ⟨(h.bel.setCell (p := ⟨W.heap.size + 1, 0, none⟩) (by show W.heap.size ≤ W.heap.size + 1; omega) _).setCell (p := ⟨W.heap.size + 1, 1, none⟩) (by show W.heap.size ≤ W.heap.size + 1; omega) _,
    blk_other (blk_other h.pb _ 0 u (by omega)) _ 1 v (by omega), ⟨u, v, hr2⟩, blk_other (blk_other h.ob _ 0 u (by omega)) _ 1 v (by omega), hlt,
    by obtain ⟨xs, h1, h2⟩ := h.row; exact ⟨xs, own_set (own_set h1 hr (by decide)) hr1 (by decide), h2⟩,
    fun q hq => by obtain ⟨ys, h1, h2⟩ := h.bars q hq; exact ⟨ys, own_set (own_set h1 hr (by decide)) hr1 (by decide), h2⟩, h.sep⟩

/-- One step more. -/
theorem Mk.push (h : Mk W w R sl cl wi vs gs vb) (s : GS) {xs : List Value} (hx : ∀ q (h : q < gs.length), posAt xs q gs[q].1.1 nilS (vb q)) (hown : w.ownsRow W.heap.size 67 5 vs gs.length xs)
    {g cap : Nat} (hgr : w.grownBy w' vs.ownBlock)
    (hown' : w'.ownsRow W.heap.size 67 5 (.slice (some ⟨g, 0, none⟩) (gs.length + 1) cap) (gs.length + 1) (xs ++ [.int .u8 s.k, .int .i64 s.lo, .int .i64 s.hi, nilS, nilS])) :
    Mk W (w'.setCell ⟨R, 0, none⟩ (.slice (some ⟨g, 0, none⟩) (gs.length + 1) cap)) R sl cl wi (.slice (some ⟨g, 0, none⟩) (gs.length + 1) cap) (gs ++ [((s, ()), [])]) (fun q => if q < gs.length then vb q else nilS) := by
  have hR := heap_kept h.ob hown (by decide) hgr
  have hlt := h.lt
  have hset : ∀ {k : Nat} {o : Obj}, k ≠ R → w'.heap[k]? = some o → (w'.setCell ⟨R, 0, none⟩ (.slice (some ⟨g, 0, none⟩) (gs.length + 1) cap)).heap[k]? = some o := fun {k o} hne ho => by
    rw [heap_setCell_other' _ _ _ _ hne]; exact ho
  constructor
  · exact (below_grown h.bel hown hgr h.bel.size (Nat.le_refl _)).setCell (p := ⟨R, 0, none⟩) (by show W.heap.size ≤ R; omega) _
  · exact hset (by omega) (heap_kept h.pb hown (by decide) hgr)
  · obtain ⟨c0, c1, h1⟩ := h.rb
    exact ⟨c0, c1, hset (by omega) (heap_kept h1 hown (by decide) hgr)⟩
  · exact blk_set hR 0 _
  · exact hlt
  · refine ⟨_, by simpa using own_set hown' hR (by decide), fun q hq => ?_⟩
    simp only [List.length_append, List.length_cons, List.length_nil] at hq
    by_cases hl : q < gs.length
    · rw [List.getElem_append_left hl]
      simp only [hl, if_true]
      exact (hx q hl).app
    · obtain rfl : q = gs.length := by omega
      rw [List.getElem_append_right (by omega)]
      simp only [Nat.sub_self, List.getElem_cons_zero, Nat.lt_irrefl, if_false]
      have hxl := hown.1
      refine ⟨?_, ?_, ?_, ?_, ?_⟩ <;> rw [List.getElem?_append_right (by omega)] <;> simp [hxl]
  · intro q hq
    simp only [List.length_append, List.length_cons, List.length_nil] at hq
    by_cases hl : q < gs.length
    · rw [List.getElem_append_left hl]
      simp only [hl, if_true]
      obtain ⟨ys, h1, h2⟩ := h.bars q hl
      exact ⟨ys, own_set (own_kept2 h1 hown (by decide) hgr) hR (by decide), h2⟩
    · obtain rfl : q = gs.length := by omega
      rw [List.getElem_append_right (by omega)]
      simp only [Nat.sub_self, List.getElem_cons_zero, Nat.lt_irrefl, if_false]
      exact ⟨[], World.ownsRow_nil _ _ _ _, fun r hr => absurd hr (by simp)⟩
  · intro q q' hq hq' hne
    simp only [List.length_append, List.length_cons, List.length_nil] at hq hq'
    by_cases hl : q < gs.length
    · by_cases hl' : q' < gs.length
      · simp only [hl, hl', if_true]
        exact h.sep q q' hl hl' hne
      · simp only [hl, hl', if_true, if_false]
        cases hv : (vb q).ownBlock with
        | none => exact .inl rfl
        | some k => exact .inr (by simp [Value.ownBlock])
    · simp only [hl, if_false]
      exact .inl rfl
/-- One bar more behind the last step. -/
theorem Mk.bar {l : List (Grp Unit)} {gl : Grp Unit} (h : Mk W w R sl cl wi vs (l ++ [gl]) vb) (s : GS) {ys : List Value} (hy : ∀ r (h' : r < gl.2.length), barAt ys r gl.2[r].1 nilS) (hown : w.ownsRow W.heap.size 69 2 (vb l.length) gl.2.length ys)
    {g cap gv cv : Nat} (hvs : vs = .slice (some ⟨gv, 0, none⟩) (l.length + 1) cv) (hgr : w.grownBy w' (vb l.length).ownBlock) (hgg : (vb l.length).ownBlock = some g ∨ w.heap.size ≤ g)
    (hown' : w'.ownsRow W.heap.size 69 2 (.slice (some ⟨g, 0, none⟩) (gl.2.length + 1) cap) (gl.2.length + 1) (ys ++ [.int .u8 s.k, nilS])) :
    Mk W (w'.setCell ⟨gv, l.length * 5 + 4, none⟩ (.slice (some ⟨g, 0, none⟩) (gl.2.length + 1) cap)) R sl cl wi vs (l ++ [(gl.1, gl.2 ++ [(s, ())])]) (fun q => if q = l.length then .slice (some ⟨g, 0, none⟩) (gl.2.length + 1) cap else vb q) := by
  subst hvs
  obtain ⟨xs, hrow, hpos⟩ := h.row
  have hrow' := own_kept2 hrow hown (by decide) hgr
  have hglt := own_lt hrow gv rfl
  obtain ⟨csv, hgv⟩ : ∃ csv, w'.heap[gv]? = some (.cells csv 67 (0, 0)) := by
    rcases hrow'.2 with ⟨h1, _⟩ | ⟨g1, c1, cur, h1, _, h2, _⟩
    · simp at h1
    · simp only [Value.slice.injEq, Option.some.injEq, Addr.mk.injEq, and_true] at h1
      obtain ⟨rfl, _⟩ := h1
      exact ⟨cur, h2⟩
  have hset : ∀ {k : Nat} {cs : Array Value} {t : TypeId} {f : Nat × Nat}, t ≠ 67 → w'.heap[k]? = some (.cells cs t f) → (w'.setCell ⟨gv, l.length * 5 + 4, none⟩ (.slice (some ⟨g, 0, none⟩) (gl.2.length + 1) cap)).heap[k]? = some (.cells cs t f) := fun {k cs t f} hne ho => by
    rw [heap_setCell_other' _ _ _ _ (fun e => by
      have e' : k = gv := e
      subst e'; rw [ho] at hgv; simp only [Option.some.injEq, Obj.cells.injEq] at hgv; exact hne hgv.2.1)]
    exact ho
  have hlen : ∀ {q : Nat}, q < (l ++ [(gl.1, gl.2 ++ [(s, ())])]).length → q ≠ l.length → ∃ hl : q < l.length, (l ++ [(gl.1, gl.2 ++ [(s, ())])])[q]'(by simp; omega) = l[q] ∧ (l ++ [gl])[q]'(by simp; omega) = l[q] := fun {q} hq hne => by
    simp only [List.length_append, List.length_cons, List.length_nil] at hq
    have hl : q < l.length := by omega
    exact ⟨hl, List.getElem_append_left hl, List.getElem_append_left hl⟩
  have hlast : (l ++ [gl])[l.length]'(by simp) = gl := by simp
  have hlast' : (l ++ [(gl.1, gl.2 ++ [(s, ())])])[l.length]'(by simp) = (gl.1, gl.2 ++ [(s, ())]) := by simp
  constructor
  · exact (below_grown h.bel hown hgr h.bel.size (Nat.le_refl _)).setCell (p := ⟨gv, l.length * 5 + 4, none⟩) (by exact hglt.1) _
  · exact hset (by decide) (heap_kept h.pb hown (by decide) hgr)
  · obtain ⟨c0, c1, h1⟩ := h.rb
    exact ⟨c0, c1, hset (by decide) (heap_kept h1 hown (by decide) hgr)⟩
  · exact hset (by decide) (heap_kept h.ob hown (by decide) hgr)
  · exact h.lt
  · refine ⟨xs.set (l.length * 5 + 4) (.slice (some ⟨g, 0, none⟩) (gl.2.length + 1) cap), ?_, fun q hq => ?_⟩
    · have := (World.ownsRow.stored (by simpa using hrow') (l.length * 5 + 4) (.slice (some ⟨g, 0, none⟩) (gl.2.length + 1) cap)).1
      simpa using this
    · by_cases he : q = l.length
      · subst he
        rw [hlast']
        simp only [if_true]
        have := hpos l.length (by simp)
        rw [hlast] at this
        exact this.set _
      · obtain ⟨hl, e1, e2⟩ := hlen hq he
        rw [e1]
        simp only [he, if_false]
        have := hpos q (by simp; omega)
        rw [e2] at this
        exact this.setO he _
  · intro q hq
    by_cases he : q = l.length
    · subst he
      simp only [if_true]
      refine ⟨ys ++ [.int .u8 s.k, nilS], ?_, ?_⟩
      · rw [hlast']
        simpa using own_set (u := .slice (some ⟨g, 0, none⟩) (gl.2.length + 1) cap) (i := l.length * 5 + 4) hown' hgv (by decide)
      · rw [hlast']
        intro r hr
        simp only [List.length_append, List.length_cons, List.length_nil] at hr
        by_cases hl : r < gl.2.length
        · simp only [List.getElem_append_left hl]
          exact (hy r hl).app
        · obtain rfl : r = gl.2.length := by omega
          rw [List.getElem_append_right (by omega)]
          have hyl := hown.1
          refine ⟨?_, ?_⟩ <;> rw [List.getElem?_append_right (by omega)] <;> simp [hyl]
    · obtain ⟨hl, e1, e2⟩ := hlen hq he
      obtain ⟨zs, h1, h2⟩ := h.bars q (by simp; omega)
      rw [e2] at h1 h2
      refine ⟨zs, ?_, ?_⟩
      · rw [e1]
        simp only [he, if_false]
        exact own_set (h1.kept hgr (h.sep q l.length (by simp; omega) (by simp) he)) hgv (by decide)
      · rw [e1]; exact h2
  · intro q q' hq hq' hne
    have hfresh : ∀ {q : Nat}, q < (l ++ [(gl.1, gl.2 ++ [(s, ())])]).length → q ≠ l.length → (vb q).ownBlock = none ∨ (vb q).ownBlock ≠ some g := fun {q} hq he => by
      obtain ⟨hl, _, e2⟩ := hlen hq he
      obtain ⟨zs, h1, _⟩ := h.bars q (by simp; omega)
      rcases hgg with hgg | hgg
      · have := h.sep q l.length (by simp; omega) (by simp) he
        rw [hgg] at this; exact this
      · refine .inr fun e => ?_
        have := (own_lt h1 g e).2
        omega
    by_cases he : q = l.length
    · have he' : q' ≠ l.length := by omega
      simp only [he, he', if_true, if_false]
      refine .inr ?_
      rcases hfresh hq' he' with h1 | h1
      · rw [h1]; simp [Value.ownBlock]
      · exact fun e => h1 e.symm
    · by_cases he' : q' = l.length
      · simp only [he, he', if_true, if_false]
        exact hfresh hq he
      · simp only [he, he', if_false]
        simp only [List.length_append, List.length_cons, List.length_nil] at hq hq'
        exact h.sep q q' (by simp; omega) (by simp; omega) hne
end
end Go.Proofs.Ytcfimponmioneaa.WL
