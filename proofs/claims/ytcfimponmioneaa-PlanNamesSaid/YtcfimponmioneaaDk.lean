/- The document's plan under way (oxbowref20.Make), and as a reader finds it. No code is walked here. -/
import Derived.Test.YtcfimponmioneaaMk3
namespace Go.Proofs.Ytcfimponmioneaa.WL
open Go Go.RowKit Go.Proofs.Ytcfimponmioneaa Go.Proofs.Ytcfimponmioneaa.PL Go.Proofs.Ytcfimponmioneaa.Mem Go.Proofs.Ytcfimponmioneaa.WP

/-- A step of the document's plan. -/
def dposAt (xs : List Value) (q : Nat) (s : GS) (vt : Value) : Prop :=
  xs[q * 5]? = some (.int .u8 s.k) ∧ xs[q * 5 + 1]? = some (.bool s.neg) ∧ xs[q * 5 + 2]? = some (.int .i64 s.lo) ∧ xs[q * 5 + 3]? = some (.int .i64 s.hi) ∧ xs[q * 5 + 4]? = some vt
theorem dposAt.app {xs ys : List Value} {q : Nat} {s : GS} {vt : Value} (h : dposAt xs q s vt) : dposAt (xs ++ ys) q s vt := by
  have f : ∀ {j : Nat} {u : Value}, xs[j]? = some u → (xs ++ ys)[j]? = some u := fun {j u} hj => by
    rw [List.getElem?_append_left (List.getElem?_eq_some_iff.1 hj).1]; exact hj
  exact ⟨f h.1, f h.2.1, f h.2.2.1, f h.2.2.2.1, f h.2.2.2.2⟩
/-- The document's plan as a reader finds it. -/
def DocAt (w : World) (L B : Nat) (qs : Value) (ss : List GS) (ts : Nat → List PT) : Prop :=
  ∃ ad c, qs = .slice ad ss.length c ∧ ∀ i (h : i < ss.length), ∃ g, ad = some ⟨g, 0, none⟩ ∧ (L ≤ g ∧ g < B) ∧ w.cell? ⟨g, i * 5, none⟩ = some (.int .u8 ss[i].k) ∧ w.cell? ⟨g, i * 5 + 1, none⟩ = some (.bool ss[i].neg) ∧
    w.cell? ⟨g, i * 5 + 2, none⟩ = some (.int .i64 ss[i].lo) ∧ w.cell? ⟨g, i * 5 + 3, none⟩ = some (.int .i64 ss[i].hi) ∧ ∃ vt, w.cell? ⟨g, i * 5 + 4, none⟩ = some vt ∧ Tests w L B vt (ts i)
theorem DocAt.keep {w w' : World} {L B : Nat} {qs : Value} {ss : List GS} {ts : Nat → List PT} (h : DocAt w L B qs ss ts) (hk : ∀ p : Addr, L ≤ p.block → p.block < B → w'.cell? p = w.cell? p) : DocAt w' L B qs ss ts := by
  obtain ⟨ad, c, e, hq⟩ := h
  refine ⟨ad, c, e, fun i hi => ?_⟩
  obtain ⟨g, e1, hb, h0, h1, h2, h3, vt, h4, h5⟩ := hq i hi
  exact ⟨g, e1, hb, (hk ⟨g, i * 5, none⟩ hb.1 hb.2).trans h0, (hk ⟨g, i * 5 + 1, none⟩ hb.1 hb.2).trans h1, (hk ⟨g, i * 5 + 2, none⟩ hb.1 hb.2).trans h2, (hk ⟨g, i * 5 + 3, none⟩ hb.1 hb.2).trans h3, vt, (hk ⟨g, i * 5 + 4, none⟩ hb.1 hb.2).trans h4, h5.keep hk⟩
theorem DocAt.more {w : World} {L L' B B' : Nat} {qs : Value} {ss : List GS} {ts : Nat → List PT} (h : DocAt w L B qs ss ts) (hL : L' ≤ L) (hB : B ≤ B') : DocAt w L' B' qs ss ts := by
  obtain ⟨ad, c, e, hq⟩ := h
  refine ⟨ad, c, e, fun i hi => ?_⟩
  obtain ⟨g, e1, hb, h0, h1, h2, h3, vt, h4, h5⟩ := hq i hi
  exact ⟨g, e1, by omega, h0, h1, h2, h3, vt, h4, h5.more hL hB⟩

/-- The document's plan under way: i steps. -/
structure Dk (W w : World) (O : Nat) (sl cl : Value) (wi : Int) (ss : List GS) (ts : Nat → List PT) (vs : Value) (i : Nat) : Prop where
  bel : Below W.heap.size W w
  pb : w.heap[W.heap.size]? = some (.cells #[sl, cl, .int .i64 wi] 32 (0, 0))
  rb : w.heap[W.heap.size + 1]? = some (.cells #[nilS, .int .i64 0] 59 (0, 0))
  ob : w.heap[O]? = some (.cells #[vs, .int .i64 wi] 59 (0, 0))
  lt : W.heap.size + 1 < O
  row : ∃ xs, w.ownsRow W.heap.size 115 5 vs i xs ∧ ∀ q, q < i → ∃ vt, dposAt xs q ss[q]! vt ∧ w.ownsRow W.heap.size 119 4 vt (ts q).length (cellsOf encT (ts q))
section
variable {W w w' : World} {O : Nat} {sl cl vs : Value} {wi : Int} {ss : List GS} {ts : Nat → List PT} {i : Nat}
theorem Dk.below (h : Dk W w O sl cl wi ss ts vs i) (hb : Below w.heap.size w w') : Dk W w' O sl cl wi ss ts vs i := {
  bel := h.bel.trans (hb.mono h.bel.size)
  pb := (hb.block _ (blk_lt h.pb)).trans h.pb
  rb := (hb.block _ (blk_lt h.rb)).trans h.rb
  ob := (hb.block _ (blk_lt h.ob)).trans h.ob
  lt := h.lt
  row := by
    obtain ⟨xs, h1, h2⟩ := h.row
    refine ⟨xs, own_below h1 hb, fun q hq => ?_⟩
    obtain ⟨vt, h3, h4⟩ := h2 q hq
    exact ⟨vt, h3, own_below h4 hb⟩ }
/-- One step more. -/
theorem Dk.push (h : Dk W w O sl cl wi ss ts vs i) {xs : List Value} (hx : ∀ q, q < i → ∃ vt, dposAt xs q ss[q]! vt ∧ w.ownsRow W.heap.size 119 4 vt (ts q).length (cellsOf encT (ts q)))
    (hown : w.ownsRow W.heap.size 115 5 vs i xs) {g cap : Nat} {vt : Value} (hvt : w.ownsRow W.heap.size 119 4 vt (ts i).length (cellsOf encT (ts i)))
    (hgr : w.grownBy w' vs.ownBlock) (hown' : w'.ownsRow W.heap.size 115 5 (.slice (some ⟨g, 0, none⟩) (i + 1) cap) (i + 1) (xs ++ [.int .u8 (ss[i]!).k, .bool (ss[i]!).neg, .int .i64 (ss[i]!).lo, .int .i64 (ss[i]!).hi, vt])) :
    Dk W (w'.setCell ⟨O, 0, none⟩ (.slice (some ⟨g, 0, none⟩) (i + 1) cap)) O sl cl wi ss ts (.slice (some ⟨g, 0, none⟩) (i + 1) cap) (i + 1) := by
  have hO := heap_kept h.ob hown (by decide) hgr
  have hlt := h.lt
  have hset : ∀ {k : Nat} {o : Obj}, k ≠ O → w'.heap[k]? = some o → (w'.setCell ⟨O, 0, none⟩ (.slice (some ⟨g, 0, none⟩) (i + 1) cap)).heap[k]? = some o := fun {k o} hne ho => by
    rw [heap_setCell_other' _ _ _ _ hne]; exact ho
  refine ⟨(below_grown h.bel hown hgr h.bel.size (Nat.le_refl _)).setCell (p := ⟨O, 0, none⟩) (by show W.heap.size ≤ O; omega) _, hset (by omega) (heap_kept h.pb hown (by decide) hgr), hset (by omega) (heap_kept h.rb hown (by decide) hgr), blk_set hO 0 _, hlt,
    ⟨_, own_set hown' hO (by decide), fun q hq => ?_⟩⟩
  by_cases hl : q < i
  · obtain ⟨vt', h3, h4⟩ := hx q hl
    exact ⟨vt', h3.app, own_set (own_kept2 h4 hown (by decide) hgr) hO (by decide)⟩
  · obtain rfl : q = i := by omega
    refine ⟨vt, ?_, own_set (own_kept2 hvt hown (by decide) hgr) hO (by decide)⟩
    have hxl := hown.1
    refine ⟨?_, ?_, ?_, ?_, ?_⟩ <;> rw [List.getElem?_append_right (by omega)] <;> simp [hxl]
/-- The end. -/
theorem Dk.doc (h : Dk W w O sl cl wi ss ts vs ss.length) : DocAt w W.heap.size w.heap.size vs ss ts := by
  obtain ⟨xs, h1, h2⟩ := h.row
  obtain ⟨ad, c, e⟩ := own_slice h1
  refine ⟨ad, c, e, fun i hi => ?_⟩
  obtain ⟨g, cap, e1, hl0, hl, hc⟩ := own_cells h1 (by omega)
  obtain ⟨vt, ⟨p0, p1, p2, p3, p4⟩, h4⟩ := h2 i hi
  rw [e] at e1
  obtain ⟨rfl, rfl⟩ : ad = some ⟨g, 0, none⟩ ∧ c = cap := by simpa using e1
  rw [getElem!_pos ss i hi] at p0 p1 p2 p3
  exact ⟨g, rfl, ⟨hl0, hl⟩, hc _ _ p0, hc _ _ p1, hc _ _ p2, hc _ _ p3, vt, hc _ _ p4, Tests.of_own h4 (Nat.le_refl _)⟩
/-- The result's cells are written. -/
theorem Dk.res (h : Dk W w O sl cl wi ss ts vs ss.length) (u v : Value) : DocAt ((w.setCell ⟨W.heap.size + 1, 0, none⟩ u).setCell ⟨W.heap.size + 1, 1, none⟩ v) W.heap.size ((w.setCell ⟨W.heap.size + 1, 0, none⟩ u).setCell ⟨W.heap.size + 1, 1, none⟩ v).heap.size vs ss ts := by
  have hr1 := blk_set h.rb 0 u
  obtain ⟨xs, h1, h2⟩ := h.row
  have h1' := own_set (u := v) (i := 1) (own_set (u := u) (i := 0) h1 h.rb (by decide)) hr1 (by decide)
  obtain ⟨ad, c, e⟩ := own_slice h1'
  refine ⟨ad, c, e, fun i hi => ?_⟩
  obtain ⟨g, cap, e1, hl0, hl, hc⟩ := own_cells h1' (by omega)
  obtain ⟨vt, ⟨p0, p1, p2, p3, p4⟩, h4⟩ := h2 i hi
  rw [e] at e1
  obtain ⟨rfl, rfl⟩ : ad = some ⟨g, 0, none⟩ ∧ c = cap := by simpa using e1
  rw [getElem!_pos ss i hi] at p0 p1 p2 p3
  exact ⟨g, rfl, ⟨hl0, hl⟩, hc _ _ p0, hc _ _ p1, hc _ _ p2, hc _ _ p3, vt, hc _ _ p4, Tests.of_own (own_set (own_set h4 h.rb (by decide)) hr1 (by decide)) (Nat.le_refl _)⟩
end
theorem infoP2 : (Try.prog.info? 115).map (fun i => (i.zero, i.size, i.bytes)) = some (some (.agg #[.int .u8 0, .bool false, .int .i64 0, .int .i64 0, nilS]), 5, 48) := by kernel_rfl
theorem infoT2 : (Try.prog.info? 119).map (fun i => (i.zero, i.size, i.bytes)) = some (some (.agg #[.int .i64 0, .int .i64 0, .int .i64 0, .bool false]), 4, 32) := by kernel_rfl
/-- The function's result, read out of its cells. -/
theorem res_make20 {w : World} {B : Nat} {c0 c1 : Value} {tmps : Array Value} (h2 : tmps[2]? = some (.pointer (some ⟨B, 0, none⟩)))
    (e0 : w.cell? ⟨B, 0, none⟩ = some c0) (e1 : w.cell? ⟨B, 1, none⟩ = some c1) :
    (results Try.f23 tmps).run Try.prog w = .ok (.agg #[c0, c1]) w := by
  simp [results, Try.results23, go_sem, h2, e0, e1]
end Go.Proofs.Ytcfimponmioneaa.WL
