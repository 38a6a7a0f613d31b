/- A region that begins with 'recover()', in a deferred closure: behind it the walk goes on as anywhere. No program in sight. -/
import Derived.Recover
import Derived.Tactics
namespace Go.Proofs.YtcfimponmioneaaDoor.Rec

theorem range_cons (n : Nat) : List.range (n + 1) = 0 :: List.range' 1 n := by
  rw [List.range_eq_range']; rfl
theorem wpS_recover {P : Program} {Q : Exit → Act → List Frame → World → Prop} {a : Act} {cs cs' : List Frame} {w : World} {id : Nat} {o : Oper} {l : List Oper} {v : Value} (hg : o.guard = none)
    (hr : (execOp a.eval o).run P w = .ok .recover w) (hrec : recoverD cs = some (v, cs'))
    {Q1 : Exit → Act → World → Prop} (hQ : ∀ e a' w', Q1 e a' w' → Q e a' cs' w') (h : wpList P (o :: l).toArray Q1 l (a.put o.dst v) w) : (Code.region id (o :: l).toArray false).wpS P Q a cs w := by
  intro b k hb hro
  rw [← wpOps_eq_wpList l 1 (fun j => by simp [Nat.add_comm 1 j])] at h
  obtain ⟨e, a', w', hq, harr⟩ := wp_ops _ _ _ h b k cs'
  refine ⟨e, a', cs', w', hQ e a' w' hq, .of_steps (.one step_region) ?_⟩
  have hsz : (o :: l).toArray.size = l.length + 1 := by simp
  rw [hsz, range_cons]
  have ho : (o :: l).toArray[0]? = some o := by simp
  have hw : Region.wanted o (yielded (o :: l).toArray a.tmps) = true := by simp [Region.wanted, hg]
  have hgs := stepG_op (P := P) (b := b) (k := k) (cs := cs) (w := w) (rest := List.range' 1 l.length) ho hw
  have hk : (b.at a (.inRegion (o :: l).toArray (0 :: List.range' 1 l.length) :: k)).kind = .deferred := hb
  have htr := tryRecover_deferred hk cs
  have hfin : ∀ v, (b.at a (.inRegion (o :: l).toArray (0 :: List.range' 1 l.length) :: k)).finish v = b.at (a.put o.dst v) (.inRegion (o :: l).toArray (List.range' 1 l.length) :: k) := by
    intro v; rw [Frame.finish_at, ho]; rfl
  refine .of_steps (.one (step_lone_go ?_)) harr
  rw [hgs, ← hfin]
  simp only [Frame.at] at htr ⊢
  simp [stepG.apply, hr, htr, hrec]
theorem wpS_recover_none {P : Program} {Q : Exit → Act → List Frame → World → Prop} {a : Act} {cs : List Frame} {w : World} {id : Nat} {o : Oper} {l : List Oper} (hg : o.guard = none)
    (hr : (execOp a.eval o).run P w = .ok .recover w) (hrec : recoverD cs = none)
    {Q1 : Exit → Act → World → Prop} (hQ : ∀ e a' w', Q1 e a' w' → Q e a' cs w') (h : wpList P (o :: l).toArray Q1 l (a.put o.dst .nilIface) w) : (Code.region id (o :: l).toArray false).wpS P Q a cs w := by
  intro b k hb hro
  rw [← wpOps_eq_wpList l 1 (fun j => by simp [Nat.add_comm 1 j])] at h
  obtain ⟨e, a', w', hq, harr⟩ := wp_ops _ _ _ h b k cs
  refine ⟨e, a', cs, w', hQ e a' w' hq, .of_steps (.one step_region) ?_⟩
  have hsz : (o :: l).toArray.size = l.length + 1 := by simp
  rw [hsz, range_cons]
  have ho : (o :: l).toArray[0]? = some o := by simp
  have hw : Region.wanted o (yielded (o :: l).toArray a.tmps) = true := by simp [Region.wanted, hg]
  have hgs := stepG_op (P := P) (b := b) (k := k) (cs := cs) (w := w) (rest := List.range' 1 l.length) ho hw
  have hk : (b.at a (.inRegion (o :: l).toArray (0 :: List.range' 1 l.length) :: k)).kind = .deferred := hb
  have htr := tryRecover_deferred hk cs
  have hfin : ∀ v, (b.at a (.inRegion (o :: l).toArray (0 :: List.range' 1 l.length) :: k)).finish v = b.at (a.put o.dst v) (.inRegion (o :: l).toArray (List.range' 1 l.length) :: k) := by
    intro v; rw [Frame.finish_at, ho]; rfl
  refine .of_steps (.one (step_lone_go ?_)) harr
  rw [hgs, ← hfin]
  simp only [Frame.at] at htr ⊢
  simp [stepG.apply, hr, htr, hrec]
/-- A sequence whose first part is such a region. -/
theorem seq_recover {P : Program} {Q : Exit → Act → List Frame → World → Prop} {a : Act} {cs cs' : List Frame} {w : World} {id : Nat} {o : Oper} {l : List Oper} {v : Value} {y : Code} (hg : o.guard = none)
    (hr : (execOp a.eval o).run P w = .ok .recover w) (hrec : recoverD cs = some (v, cs')) {Q' : Exit → Act → World → Prop} (hQ : ∀ e a' w', Q' e a' w' → Q e a' cs' w')
    (h : wpList P (o :: l).toArray (Exit.then (y.wp P Q') Q') l (a.put o.dst v) w) : (Code.seq (Code.region id (o :: l).toArray false) y).wpS P Q a cs w := by
  refine wpS_seq (wpS_recover hg hr hrec ?_ h)
  intro e a' w' hq
  cases e with
  | normal => exact wpS_of_wp (Code.wp_mono hQ hq)
  | _ => exact hQ _ _ _ hq
theorem seq_recover_none {P : Program} {Q : Exit → Act → List Frame → World → Prop} {a : Act} {cs : List Frame} {w : World} {id : Nat} {o : Oper} {l : List Oper} {y : Code} (hg : o.guard = none)
    (hr : (execOp a.eval o).run P w = .ok .recover w) (hrec : recoverD cs = none) {Q' : Exit → Act → World → Prop} (hQ : ∀ e a' w', Q' e a' w' → Q e a' cs w')
    (h : wpList P (o :: l).toArray (Exit.then (y.wp P Q') Q') l (a.put o.dst .nilIface) w) : (Code.seq (Code.region id (o :: l).toArray false) y).wpS P Q a cs w := by
  refine wpS_seq (wpS_recover_none hg hr hrec ?_ h)
  intro e a' w' hq
  cases e with
  | normal => exact wpS_of_wp (Code.wp_mono hQ hq)
  | _ => exact hQ _ _ _ hq
/-- The end of such a closure's walk: 'bodyPost' for the frame below as it is then. -/
theorem postS {P : Program} {fn : Func} {c₀ : Frame} {cs : List Frame} {R : Ending → FrameMode → World → Prop} {u : FrameMode} (e : Exit) (a : Act) (w : World) (h : bodyPost P fn (fun e w' => R e u w') e a w) : bodyPostS P fn c₀ cs R e a ({ c₀ with mode := u } :: cs) w := by
  cases e with
  | normal => exact ⟨h.1, u, rfl, h.2⟩
  | ret => exact ⟨h.1, u, rfl, h.2⟩
  | panic ch => exact ⟨h.1, u, rfl, h.2⟩
  | outgrown => exact ⟨u, h⟩
  | exit id => exact h
  | goto l => exact h
end Go.Proofs.YtcfimponmioneaaDoor.Rec
