/- The plan's tests as they are laid (plan.Make's last loop), and a finished plan as a reader finds it. No code is walked here. -/
import Derived.Test.YtcfimponmioneaaMk2
import Derived.Test.YtcfimponmioneaaPLoc
import Derived.Test.YtcfimponmioneaaWake
namespace Go.Proofs.Ytcfimponmioneaa.WL
open Go Go.RowKit Go.Proofs.Ytcfimponmioneaa Go.Proofs.Ytcfimponmioneaa.PL Go.Proofs.Ytcfimponmioneaa.Mem Go.Proofs.Ytcfimponmioneaa.WP

def encT (t : PT) : List Value := [.int .i64 t.op, .int .i64 t.step, .int .i64 t.add, .bool t.turn]
theorem encT_len (e : PT) : (encT e).length = 4 := rfl
theorem encT_one (e : PT) : ∀ u ∈ encT e, u.oneCell' = true := by
  intro u hu
  simp only [encT, List.mem_cons, List.not_mem_nil, or_false] at hu
  rcases hu with rfl | rfl | rfl | rfl <;> rfl
theorem Sl_keep {w w' : World} {B size n : Nat} {v : Value} {xs : List Value} (h : Sl w B size v n xs) (hk : ∀ p : Addr, v.ownBlock = some p.block → p.block < B → w'.cell? p = w.cell? p) : Sl w' B size v n xs := by
  obtain ⟨h1, A, c, hv, hc, hr⟩ := h
  refine ⟨h1, A, c, hv, hc, fun hn => ?_⟩
  obtain ⟨b, o, e, hb, hx⟩ := hr hn
  exact ⟨b, o, e, hb, fun j u hu => (hk ⟨b, o + j, none⟩ (by rw [hv, e]; rfl) hb).trans (hx j u hu)⟩
/-- The slice reads as these tests; it lies between the blocks L and B. -/
def Tests (w : World) (L B : Nat) (v : Value) (l : List PT) : Prop := Sl w B 4 v l.length (cellsOf encT l) ∧ ∀ b, v.ownBlock = some b → L ≤ b
/-- The slice reads as these bars; their tests, from the k0-th list on. -/
def BarsAt (w : World) (L B : Nat) (vb : Value) (bs : List (GS × Unit)) (ts : Nat → List PT) (k0 : Nat) : Prop :=
  ∃ ad c, vb = .slice ad bs.length c ∧ ∀ r (h : r < bs.length), ∃ gb, ad = some ⟨gb, 0, none⟩ ∧ (L ≤ gb ∧ gb < B) ∧ w.cell? ⟨gb, r * 2, none⟩ = some (.int .u8 bs[r].1.k) ∧ ∃ vt, w.cell? ⟨gb, r * 2 + 1, none⟩ = some vt ∧ Tests w L B vt (ts (k0 + r))
/-- The slice reads as the plan's steps, in groups. -/
def PlanAt (w : World) (L B : Nat) (vs : Value) (gs : List (Grp Unit)) (ts : Nat → List PT) : Prop :=
  ∃ ad c, vs = .slice ad gs.length c ∧ ∀ q (h : q < gs.length), ∃ gv, ad = some ⟨gv, 0, none⟩ ∧ (L ≤ gv ∧ gv < B) ∧ w.cell? ⟨gv, q * 5, none⟩ = some (.int .u8 gs[q].1.1.k) ∧ w.cell? ⟨gv, q * 5 + 1, none⟩ = some (.int .i64 gs[q].1.1.lo) ∧ w.cell? ⟨gv, q * 5 + 2, none⟩ = some (.int .i64 gs[q].1.1.hi) ∧
    (∃ vt, w.cell? ⟨gv, q * 5 + 3, none⟩ = some vt ∧ Tests w L B vt (ts (startG gs q))) ∧ ∃ vb, w.cell? ⟨gv, q * 5 + 4, none⟩ = some vb ∧ BarsAt w L B vb gs[q].2 ts (startG gs q + 1)
section
variable {w w' : World} {L L' B B' k0 : Nat} {v vb vs : Value} {l : List PT} {bs : List (GS × Unit)} {gs : List (Grp Unit)} {ts : Nat → List PT}
theorem Tests.of_own {base : Nat} {e : TypeId} (h : w.ownsRow base e 4 v l.length (cellsOf encT l)) (hL : L ≤ base) : Tests w L w.heap.size v l :=
  ⟨Sl.of_own h, fun b hb => Nat.le_trans hL (own_lt h b hb).1⟩
theorem Tests.keep (h : Tests w L B v l) (hk : ∀ p : Addr, L ≤ p.block → p.block < B → w'.cell? p = w.cell? p) : Tests w' L B v l :=
  ⟨Sl_keep h.1 fun p hp hb => hk p (h.2 _ hp) hb, h.2⟩
theorem Tests.more (h : Tests w L B v l) (hL : L' ≤ L) (hB : B ≤ B') : Tests w L' B' v l := ⟨Sl.more h.1 hB, fun b hb => Nat.le_trans hL (h.2 b hb)⟩
theorem BarsAt.keep (h : BarsAt w L B vb bs ts k0) (hk : ∀ p : Addr, L ≤ p.block → p.block < B → w'.cell? p = w.cell? p) : BarsAt w' L B vb bs ts k0 := by
  obtain ⟨ad, c, e, hr⟩ := h
  refine ⟨ad, c, e, fun r hr' => ?_⟩
  obtain ⟨gb, e1, hb, h1, vt, h2, h3⟩ := hr r hr'
  exact ⟨gb, e1, hb, (hk ⟨gb, r * 2, none⟩ hb.1 hb.2).trans h1, vt, (hk ⟨gb, r * 2 + 1, none⟩ hb.1 hb.2).trans h2, h3.keep hk⟩
theorem PlanAt.keep (h : PlanAt w L B vs gs ts) (hk : ∀ p : Addr, L ≤ p.block → p.block < B → w'.cell? p = w.cell? p) : PlanAt w' L B vs gs ts := by
  obtain ⟨ad, c, e, hq⟩ := h
  refine ⟨ad, c, e, fun q hq' => ?_⟩
  obtain ⟨gv, e1, hb, h0, h1, h2, ⟨vt, h3, h4⟩, vb, h5, h6⟩ := hq q hq'
  exact ⟨gv, e1, hb, (hk ⟨gv, q * 5, none⟩ hb.1 hb.2).trans h0, (hk ⟨gv, q * 5 + 1, none⟩ hb.1 hb.2).trans h1, (hk ⟨gv, q * 5 + 2, none⟩ hb.1 hb.2).trans h2, ⟨vt, (hk ⟨gv, q * 5 + 3, none⟩ hb.1 hb.2).trans h3, h4.keep hk⟩, vb, (hk ⟨gv, q * 5 + 4, none⟩ hb.1 hb.2).trans h5, h6.keep hk⟩
theorem BarsAt.more (h : BarsAt w L B vb bs ts k0) (hL : L' ≤ L) (hB : B ≤ B') : BarsAt w L' B' vb bs ts k0 := by
  obtain ⟨ad, c, e, hr⟩ := h
  refine ⟨ad, c, e, fun r hr' => ?_⟩
  obtain ⟨gb, e1, hb, h1, vt, h2, h3⟩ := hr r hr'
  exact ⟨gb, e1, by omega, h1, vt, h2, h3.more hL hB⟩
theorem PlanAt.more (h : PlanAt w L B vs gs ts) (hL : L' ≤ L) (hB : B ≤ B') : PlanAt w L' B' vs gs ts := by
  obtain ⟨ad, c, e, hq⟩ := h
  refine ⟨ad, c, e, fun q hq' => ?_⟩
  obtain ⟨gv, e1, hb, h0, h1, h2, ⟨vt, h3, h4⟩, vb, h5, h6⟩ := hq q hq'
  exact ⟨gv, e1, by omega, h0, h1, h2, ⟨vt, h3, h4.more hL hB⟩, vb, h5, h6.more hL hB⟩
end

/-- The tests under way: of n lists, whose slices lie at these addresses, below the world w0's end. -/
structure Fl (W w0 w : World) (n : Nat) (adr : Nat → Addr) (vt : Nat → Value) (ts : Nat → List PT) : Prop where
  bel : Below W.heap.size W w
  size : w0.heap.size ≤ w.heap.size
  rng : ∀ k, k < n → W.heap.size ≤ (adr k).block ∧ (adr k).block < w0.heap.size
  inj : ∀ k k', k < n → k' < n → adr k = adr k' → k = k'
  old : ∀ p : Addr, p.block < w0.heap.size → (∀ k, k < n → p ≠ adr k) → w.cell? p = w0.cell? p
  fz : ∀ p : Addr, p.block < w0.heap.size → w.frozen? p = w0.frozen? p
  cell : ∀ k, k < n → w.cell? (adr k) = some (vt k)
  own : ∀ k, k < n → w.ownsRow w0.heap.size 73 4 (vt k) (ts k).length (cellsOf encT (ts k))
  sep : ∀ k k', k < n → k' < n → k ≠ k' → (vt k).ownBlock = none ∨ (vt k).ownBlock ≠ (vt k').ownBlock
section
variable {W w0 w w' : World} {n : Nat} {adr : Nat → Addr} {vt : Nat → Value} {ts : Nat → List PT}
theorem Fl.below (h : Fl W w0 w n adr vt ts) (hb : Below w.heap.size w w') : Fl W w0 w' n adr vt ts := {
  bel := h.bel.trans (hb.mono h.bel.size)
  size := Nat.le_trans h.size hb.size
  rng := h.rng
  inj := h.inj
  old := fun p hp hk => (hb.cell (p := p) (Nat.lt_of_lt_of_le hp h.size)).trans (h.old p hp hk)
  fz := fun p hp => (World.frozen?_of_block (hb.block p.block (Nat.lt_of_lt_of_le hp h.size))).trans (h.fz p hp)
  cell := fun k hk => (hb.cell (p := adr k) (Nat.lt_of_lt_of_le (h.rng k hk).2 h.size)).trans (h.cell k hk)
  own := fun k hk => own_below (h.own k hk) hb
  sep := h.sep }
theorem Fl.alloc (h : Fl W w0 w n adr vt ts) (o : Obj) : Fl W w0 (w.alloc o) n adr vt ts := h.below ((Below.refl _ _).alloc (Nat.le_refl _) o)
/-- A cell of another block is written, in both worlds. -/
theorem Fl.res (h : Fl W w0 w n adr vt ts) (p : Addr) (u x : Value) (hp : W.heap.size ≤ p.block ∧ p.block < w0.heap.size) (hx : w0.cell? p = some x) (hne : ∀ k, k < n → p.block ≠ (adr k).block) : Fl W (w0.setCell p u) (w.setCell p u) n adr vt ts := {
  bel := h.bel.setCell (p := p) hp.1 u
  size := by have := h.size; simp; omega
  rng := fun k hk => by have := h.rng k hk; simp; omega
  inj := h.inj
  old := fun q hq hk => by
    have hq' : q.block < w0.heap.size := by simpa using hq
    by_cases e : p = q
    · subst e
      rw [World.cell?_setCell_same _ _ _ hx, World.cell?_setCell_same _ _ _ ((h.old p hq' hk).trans hx)]
    · rw [World.cell?_setCell_other _ _ _ _ e, World.cell?_setCell_other _ _ _ _ e]
      exact h.old q hq' hk
  fz := fun q hq => by
    rw [World.frozen?_setCell, World.frozen?_setCell]
    exact h.fz q (by simpa using hq)
  cell := fun k hk => by
    rw [World.cell?_setCell_other _ _ _ _ (fun e => hne k hk (by rw [e]))]
    exact h.cell k hk
  own := fun k hk => by
    have h1 := h.own k hk
    rw [show (w0.setCell p u).heap.size = w0.heap.size by simp]
    refine ownsRow_setCell_other h1 (fun e => ?_) u
    have := (own_lt h1 _ e).1
    omega
  sep := h.sep }
/-- One test more in the k-th list. -/
theorem Fl.app (h : Fl W w0 w n adr vt ts) (k : Nat) (hk : k < n) (t : PT) {g cap : Nat} (hgr : w.grownBy w' (vt k).ownBlock) (hgg : (vt k).ownBlock = some g ∨ w.heap.size ≤ g)
    (hown : w'.ownsRow w0.heap.size 73 4 (.slice (some ⟨g, 0, none⟩) ((ts k).length + 1) cap) ((ts k).length + 1) (cellsOf encT (ts k) ++ encT t)) :
    Fl W w0 (w'.setCell (adr k) (.slice (some ⟨g, 0, none⟩) ((ts k).length + 1) cap)) n adr (fun j => if j = k then .slice (some ⟨g, 0, none⟩) ((ts k).length + 1) cap else vt j) (fun j => if j = k then ts k ++ [t] else ts j) := by
  have hbw := h.size
  have hrow : ∀ b, b < w0.heap.size → w'.heap[b]? = w.heap[b]? := fun b hb => hgr.block b (by omega) fun e => by
    have := (own_lt (h.own k hk) b e.symm).1
    omega
  have hne : ∀ {j : Nat} {v : Value}, v.ownBlock = none ∨ (∃ b, v.ownBlock = some b ∧ w0.heap.size ≤ b) → j < n → v.ownBlock ≠ some (adr j).block := fun {j v} hv hj => by
    rcases hv with hv | ⟨b, hv, hb⟩
    · rw [hv]; simp
    · rw [hv]
      intro e
      injection e with e
      have := (h.rng j hj).2
      omega
  have hvb : ∀ {j : Nat}, j < n → (vt j).ownBlock = none ∨ (∃ b, (vt j).ownBlock = some b ∧ w0.heap.size ≤ b) := fun {j} hj => by
    cases hv : (vt j).ownBlock with
    | none => exact .inl rfl
    | some b => exact .inr ⟨b, rfl, (own_lt (h.own j hj) b hv).1⟩
  have hcell : ∀ j, j < n → w'.cell? (adr j) = some (vt j) := fun j hj => (World.cell?_of_block (hrow _ (h.rng j hj).2)).trans (h.cell j hj)
  have hfresh : ∀ {j : Nat}, j < n → j ≠ k → (vt j).ownBlock = none ∨ (vt j).ownBlock ≠ some g := fun {j} hj hjk => by
    rcases hgg with hgg | hgg
    · have := h.sep j k hj hk hjk
      rw [hgg] at this; exact this
    · refine .inr fun e => ?_
      have := (own_lt (h.own j hj) g e).2
      omega
  have hbel : Below W.heap.size W w' := ⟨hgr.os.trans h.bel.os, hgr.tape.trans h.bel.tape, hgr.output.trans h.bel.output, Nat.le_trans h.bel.size hgr.size, fun b hb => by
    have hW : W.heap.size ≤ w.heap.size := h.bel.size
    refine (hgr.block b (by omega) fun e => ?_).trans (h.bel.block b hb)
    have h1 := (own_lt (h.own k hk) b e.symm).1
    have h2 := (h.rng k hk)
    omega⟩
  constructor
  · exact hbel.setCell (p := adr k) (h.rng k hk).1 _
  · show w0.heap.size ≤ (w'.setCell _ _).heap.size
    have := hgr.size
    simp; omega
  · exact h.rng
  · exact h.inj
  · intro p hp hpk
    rw [World.cell?_setCell_other _ _ _ _ (fun e => hpk k hk e.symm), World.cell?_of_block (hrow p.block hp)]
    exact h.old p hp hpk
  · intro p hp
    rw [World.frozen?_setCell, World.frozen?_of_block (hrow p.block hp)]
    exact h.fz p hp
  · intro j hj
    by_cases e : j = k
    · subst e
      simp only [if_true]
      exact World.cell?_setCell_same _ _ _ (hcell j hj)
    · simp only [e, if_false]
      rw [World.cell?_setCell_other _ _ _ _ (fun e' => e (h.inj j k hj hk e'.symm))]
      exact hcell j hj
  · intro j hj
    by_cases e : j = k
    · subst e
      simp only [if_true]
      have hgl := (own_lt hown g rfl).1
      rw [show (ts j ++ [t]).length = (ts j).length + 1 by simp, cellsOf_snoc]
      refine ownsRow_setCell_other hown ?_ _
      exact hne (.inr ⟨g, rfl, hgl⟩) hj
    · simp only [e, if_false]
      refine ownsRow_setCell_other ((h.own j hj).kept hgr (h.sep j k hj hk e)) ?_ _
      exact hne (hvb hj) hk
  · intro j j' hj hj' hjj
    by_cases e : j = k
    · have e' : j' ≠ k := by omega
      simp only [e, e', if_true, if_false]
      refine .inr ?_
      rcases hfresh hj' e' with h1 | h1
      · rw [h1]; simp [Value.ownBlock]
      · exact fun e => h1 e.symm
    · by_cases e' : j' = k
      · simp only [e, e', if_true, if_false]
        exact hfresh hj e
      · simp only [e, e', if_false]
        exact h.sep j j' hj hj' hjj
end
end Go.Proofs.Ytcfimponmioneaa.WL
