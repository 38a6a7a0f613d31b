/- From the laid steps and bars (Mk) to the lists of tests (Fl), and from these to the finished plan (PlanAt). No code is walked here. -/
import Derived.Test.YtcfimponmioneaaFl
namespace Go.Proofs.Ytcfimponmioneaa.WL
open Go Go.RowKit Go.Proofs.Ytcfimponmioneaa Go.Proofs.Ytcfimponmioneaa.PL Go.Proofs.Ytcfimponmioneaa.Mem Go.Proofs.Ytcfimponmioneaa.WP

/-- Where the k-th list of tests lies. -/
def adrOf (gs : List (Grp Unit)) (gv : Nat) (vb : Nat → Value) (k : Nat) : Addr := match (locate gs k).2 with
  | none => ⟨gv, (locate gs k).1 * 5 + 3, none⟩
  | some r => ⟨((vb (locate gs k).1).ownBlock).getD 0, r * 2 + 1, none⟩
theorem adr_head (gs : List (Grp Unit)) (gv : Nat) (vb : Nat → Value) (q : Nat) (h : q < gs.length) : adrOf gs gv vb (startG gs q) = ⟨gv, q * 5 + 3, none⟩ := by
  unfold adrOf; rw [locate_head gs q h]
theorem adr_bar (gs : List (Grp Unit)) (gv : Nat) (vb : Nat → Value) (q r : Nat) (h : q < gs.length) (hr : r < gs[q].2.length) {gb n c : Nat} (hv : vb q = .slice (some ⟨gb, 0, none⟩) n c) : adrOf gs gv vb (startG gs q + 1 + r) = ⟨gb, r * 2 + 1, none⟩ := by
  unfold adrOf; rw [locate_bar gs q r h hr]; simp only [hv, Value.ownBlock, Option.getD_some]

section
variable {W w0 w : World} {R gv cv : Nat} {sl cl : Value} {wi : Int} {gs : List (Grp Unit)} {vb : Nat → Value}
/-- A step's cells. -/
theorem Mk.cells (h : Mk W w R sl cl wi (.slice (some ⟨gv, 0, none⟩) gs.length cv) gs vb) (q : Nat) (hq : q < gs.length) : W.heap.size ≤ gv ∧ gv < w.heap.size ∧ (∀ j, w.frozen? ⟨gv, j, none⟩ = false) ∧
    w.cell? ⟨gv, q * 5, none⟩ = some (.int .u8 gs[q].1.1.k) ∧ w.cell? ⟨gv, q * 5 + 1, none⟩ = some (.int .i64 gs[q].1.1.lo) ∧ w.cell? ⟨gv, q * 5 + 2, none⟩ = some (.int .i64 gs[q].1.1.hi) ∧ w.cell? ⟨gv, q * 5 + 3, none⟩ = some nilS ∧ w.cell? ⟨gv, q * 5 + 4, none⟩ = some (vb q) := by
  obtain ⟨xs, h1, h2⟩ := h.row
  obtain ⟨g, cap, e, hb, hl, hc⟩ := own_cells h1 (by omega)
  obtain ⟨rfl, rfl⟩ : gv = g ∧ cv = cap := by simpa using e
  obtain ⟨p0, p1, p2, p3, p4⟩ := h2 q hq
  obtain ⟨cs, hcs⟩ := own_heap h1
  exact ⟨hb, hl, fun j => Lib.frozen_of_heap hcs j, hc _ _ p0, hc _ _ p1, hc _ _ p2, hc _ _ p3, hc _ _ p4⟩
/-- A bar's cells. -/
theorem Mk.barc (h : Mk W w R sl cl wi (.slice (some ⟨gv, 0, none⟩) gs.length cv) gs vb) (q r : Nat) (hq : q < gs.length) (hr : r < gs[q].2.length) : ∃ gb cb, vb q = .slice (some ⟨gb, 0, none⟩) gs[q].2.length cb ∧ gb ≠ gv ∧ W.heap.size ≤ gb ∧ gb < w.heap.size ∧ (∀ j, w.frozen? ⟨gb, j, none⟩ = false) ∧
    w.cell? ⟨gb, r * 2, none⟩ = some (.int .u8 gs[q].2[r].1.k) ∧ w.cell? ⟨gb, r * 2 + 1, none⟩ = some nilS := by
  obtain ⟨ys, h1, h2⟩ := h.bars q hq
  obtain ⟨gb, cb, e, hb, hl, hc⟩ := own_cells h1 (by omega)
  obtain ⟨p0, p1⟩ := h2 r hr
  rw [e] at h1
  obtain ⟨cs, hcs⟩ := own_heap h1
  obtain ⟨xs, h3, _⟩ := h.row
  refine ⟨gb, cb, e, fun e' => ?_, hb, hl, fun j => Lib.frozen_of_heap hcs j, hc _ _ p0, hc _ _ p1⟩
  rcases own_ne h1 h3 (by decide) with h4 | h4
  · simp [Value.ownBlock] at h4
  · exact h4 (by rw [e']; rfl)
/-- Each list's slice lies in a cell of its own, and is nil. -/
theorem Mk.slot (h : Mk W w R sl cl wi (.slice (some ⟨gv, 0, none⟩) gs.length cv) gs vb) (k : Nat) (hk : k < (flat gs).length) :
    (W.heap.size ≤ (adrOf gs gv vb k).block ∧ (adrOf gs gv vb k).block < w.heap.size) ∧ w.frozen? (adrOf gs gv vb k) = false ∧ w.cell? (adrOf gs gv vb k) = some nilS := by
  rcases locate_cases gs k hk with ⟨q, hq, rfl⟩ | ⟨q, hq, r, hr, rfl⟩
  · rw [adr_head gs gv vb q hq]
    obtain ⟨h1, h2, h3, _, _, _, h4, _⟩ := h.cells q hq
    exact ⟨⟨h1, h2⟩, h3 _, h4⟩
  · obtain ⟨gb, cb, e, _, h1, h2, h3, _, h4⟩ := h.barc q r hq hr
    rw [adr_bar gs gv vb q r hq hr e]
    exact ⟨⟨h1, h2⟩, h3 _, h4⟩
theorem Mk.slotInj (h : Mk W w R sl cl wi (.slice (some ⟨gv, 0, none⟩) gs.length cv) gs vb) (k k' : Nat) (hk : k < (flat gs).length) (hk' : k' < (flat gs).length) (e : adrOf gs gv vb k = adrOf gs gv vb k') : k = k' := by
  rcases locate_cases gs k hk with ⟨q, hq, rfl⟩ | ⟨q, hq, r, hr, rfl⟩
  · rw [adr_head gs gv vb q hq] at e
    rcases locate_cases gs k' hk' with ⟨q', hq', rfl⟩ | ⟨q', hq', r', hr', rfl⟩
    · rw [adr_head gs gv vb q' hq'] at e
      simp only [Addr.mk.injEq] at e
      have : q = q' := by omega
      rw [this]
    · obtain ⟨gb, cb, e', hne, _⟩ := h.barc q' r' hq' hr'
      rw [adr_bar gs gv vb q' r' hq' hr' e'] at e
      simp only [Addr.mk.injEq] at e
      exact absurd e.1.symm hne
  · obtain ⟨gb, cb, e1, hne, _⟩ := h.barc q r hq hr
    rw [adr_bar gs gv vb q r hq hr e1] at e
    rcases locate_cases gs k' hk' with ⟨q', hq', rfl⟩ | ⟨q', hq', r', hr', rfl⟩
    · rw [adr_head gs gv vb q' hq'] at e
      simp only [Addr.mk.injEq] at e
      exact absurd e.1 hne
    · obtain ⟨gb', cb', e2, hne', _⟩ := h.barc q' r' hq' hr'
      rw [adr_bar gs gv vb q' r' hq' hr' e2] at e
      simp only [Addr.mk.injEq] at e
      obtain ⟨e3, e4, _⟩ := e
      by_cases hqq : q = q'
      · subst hqq; omega
      · exfalso
        rcases h.sep q q' hq hq' hqq with h5 | h5
        · rw [e1] at h5; simp [Value.ownBlock] at h5
        · rw [e1, e2] at h5; exact h5 (by rw [e3]; rfl)
/-- The start. -/
theorem Mk.fl (h : Mk W w R sl cl wi (.slice (some ⟨gv, 0, none⟩) gs.length cv) gs vb) : Fl W w w (flat gs).length (adrOf gs gv vb) (fun _ => nilS) (fun _ => []) := {
  bel := h.bel
  size := Nat.le_refl _
  rng := fun k hk => (h.slot k hk).1
  inj := h.slotInj
  old := fun _ _ _ => rfl
  fz := fun _ _ => rfl
  cell := fun k hk => (h.slot k hk).2.2
  own := fun _ _ => World.ownsRow_nil _ _ _ _
  sep := fun _ _ _ _ _ => .inl rfl }
/-- A cell that is no list's. -/
theorem Mk.noSlot (h : Mk W w R sl cl wi (.slice (some ⟨gv, 0, none⟩) gs.length cv) gs vb) (p : Addr) (hp : ∀ q, q < gs.length → p ≠ ⟨gv, q * 5 + 3, none⟩) (hp' : ∀ q r gb cb, q < gs.length → vb q = .slice (some ⟨gb, 0, none⟩) gs[q]!.2.length cb → p ≠ ⟨gb, r * 2 + 1, none⟩) (k : Nat) (hk : k < (flat gs).length) : p ≠ adrOf gs gv vb k := by
  rcases locate_cases gs k hk with ⟨q, hq, rfl⟩ | ⟨q, hq, r, hr, rfl⟩
  · rw [adr_head gs gv vb q hq]; exact hp q hq
  · obtain ⟨gb, cb, e, _⟩ := h.barc q r hq hr
    rw [adr_bar gs gv vb q r hq hr e]
    exact hp' q r gb cb hq (by rw [getElem!_pos gs q hq]; exact e)
/-- A block of another kind holds no list's slice. -/
theorem Mk.noBlk (h : Mk W w R sl cl wi (.slice (some ⟨gv, 0, none⟩) gs.length cv) gs vb) {g : Nat} {cs : Array Value} {t : TypeId} {f : Nat × Nat} (hg : w.heap[g]? = some (.cells cs t f)) (h1 : t ≠ 67) (h2 : t ≠ 69) (k : Nat) (hk : k < (flat gs).length) : g ≠ (adrOf gs gv vb k).block := by
  rcases locate_cases gs k hk with ⟨q, hq, rfl⟩ | ⟨q, hq, r, hr, rfl⟩
  · rw [adr_head gs gv vb q hq]
    obtain ⟨xs, h3, _⟩ := h.row
    obtain ⟨cs', hcs⟩ := own_heap h3
    intro e
    have e' : g = gv := e
    subst e'
    rw [hg] at hcs
    simp only [Option.some.injEq, Obj.cells.injEq] at hcs
    exact h1 hcs.2.1
  · obtain ⟨gb, cb, e, _⟩ := h.barc q r hq hr
    rw [adr_bar gs gv vb q r hq hr e]
    obtain ⟨ys, h3, _⟩ := h.bars q hq
    rw [e] at h3
    obtain ⟨cs', hcs⟩ := own_heap h3
    intro e
    have e' : g = gb := e
    subst e'
    rw [hg] at hcs
    simp only [Option.some.injEq, Obj.cells.injEq] at hcs
    exact h2 hcs.2.1
/-- The end. -/
theorem Fl.plan {vt : Nat → Value} {ts : Nat → List PT} (h : Mk W w0 R sl cl wi (.slice (some ⟨gv, 0, none⟩) gs.length cv) gs vb) (hf : Fl W w0 w (flat gs).length (adrOf gs gv vb) vt ts) : PlanAt w W.heap.size w.heap.size (.slice (some ⟨gv, 0, none⟩) gs.length cv) gs ts := by
  have hsz := hf.size
  have tst : ∀ k, k < (flat gs).length → Tests w W.heap.size w.heap.size (vt k) (ts k) := fun k hk => Tests.of_own (hf.own k hk) h.bel.size
  refine ⟨_, _, rfl, fun q hq => ⟨gv, rfl, ?_⟩⟩
  obtain ⟨hl0, hl, _, p0, p1, p2, _, p4⟩ := h.cells q hq
  have ho : ∀ {j : Nat} {u : Value}, (∀ q', j ≠ q' * 5 + 3) → w0.cell? ⟨gv, j, none⟩ = some u → w.cell? ⟨gv, j, none⟩ = some u := fun {j u} hj hu => by
    rw [hf.old ⟨gv, j, none⟩ hl (h.noSlot _ (fun q' _ e => hj q' (by simp only [Addr.mk.injEq] at e; exact e.2.1)) (fun q' r gb cb hq' e e' => by
      simp only [Addr.mk.injEq] at e'
      obtain ⟨ys, h3, _⟩ := h.bars q' hq'
      rw [getElem!_pos gs q' hq'] at e
      rw [e] at h3
      obtain ⟨xs, h4, _⟩ := h.row
      rcases own_ne h3 h4 (by decide) with h5 | h5
      · simp [Value.ownBlock] at h5
      · exact h5 (by rw [e'.1]; rfl)))]
    exact hu
  refine ⟨⟨hl0, by omega⟩, ho (by omega) p0, ho (by omega) p1, ho (by omega) p2, ⟨vt (startG gs q), ?_, tst _ (startG_lt gs q hq)⟩, vb q, ho (by omega) p4, ?_⟩
  · have := hf.cell _ (startG_lt gs q hq)
    rw [adr_head gs gv vb q hq] at this
    exact this
  · obtain ⟨ys, h3, _⟩ := h.bars q hq
    obtain ⟨ad, c, e⟩ := own_slice h3
    refine ⟨ad, c, e, fun r hr => ?_⟩
    obtain ⟨gb, cb, e1, hne, hl3, hl2, _, b0, _⟩ := h.barc q r hq hr
    rw [e] at e1
    obtain ⟨rfl, rfl⟩ : ad = some ⟨gb, 0, none⟩ ∧ c = cb := by simpa using e1
    refine ⟨gb, rfl, ⟨hl3, by omega⟩, ?_, vt (startG gs q + 1 + r), ?_, tst _ (bar_lt gs q r hq hr)⟩
    · rw [hf.old ⟨gb, r * 2, none⟩ hl2 (h.noSlot _ (fun q' _ e' => by simp only [Addr.mk.injEq] at e'; exact hne e'.1) (fun q' r' gb' cb' _ _ e' => by simp only [Addr.mk.injEq] at e'; omega))]
      exact b0
    · have := hf.cell _ (bar_lt gs q r hq hr)
      rw [adr_bar gs gv vb q r hq hr e] at this
      exact this
end
end Go.Proofs.Ytcfimponmioneaa.WL
