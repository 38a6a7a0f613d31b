/- The walks of the pattern's reader, second part; pattern.Parse. -/
import Derived.Test.YtcojnojdgigmdaaDoorB04
import Derived.Test.YtcojnojdgigmdaaDoorB01
import Derived.Test.YtcojnojdgigmdaaDoorB02
import Derived.Recover
import Derived.Tactics
import Derived.Defers
import Derived.Deep.RegionHeld3
/- The walk of the pattern reader's pattern. -/
namespace Go.Proofs.YtcojnojdgigmdaaDoor.WP
open Go.RowKit Go.Proofs.YtcojnojdgigmdaaDoor Go.Proofs.YtcojnojdgigmdaaDoor.PP Go.Proofs.YtcojnojdgigmdaaDoor.Mem

/-- A step's cells, a condition's cells. -/
def encS (c : Stp) : List Value := [.int .u8 c.k, .int .u8 c.nm, .bool c.neg, .int .i64 c.lo, .int .i64 c.hi]
def encC (c : Cnd) : List Value := [.int .u8 c.l, .int .i64 c.op, .int .u8 c.r, .int .i64 c.k]
theorem encS_one (e : Stp) : ∀ u ∈ encS e, u.oneCell' = true := by
  intro u hu
  simp only [encS, List.mem_cons, List.not_mem_nil, or_false] at hu
  rcases hu with rfl | rfl | rfl | rfl | rfl <;> rfl
theorem encC_one (e : Cnd) : ∀ u ∈ encC e, u.oneCell' = true := by
  intro u hu
  simp only [encC, List.mem_cons, List.not_mem_nil, or_false] at hu
  rcases hu with rfl | rfl | rfl | rfl <;> rfl

theorem own_ne_blk {w : World} {b R : Nat} {e t : TypeId} {s n : Nat} {v : Value} {xs : List Value} {cs : Array Value} (h : w.ownsRow b e s v n xs) (hR : w.heap[R]? = some (.cells cs t (0, 0))) (hne : e ≠ t) : v.ownBlock = none ∨ v.ownBlock ≠ some R := by
  rcases h.2 with ⟨rfl, _⟩ | ⟨g, cap, cur, rfl, _, hh, _⟩
  · exact .inl rfl
  · refine .inr fun he => ?_
    have : g = R := by simpa [Value.ownBlock] using he
    subst this
    rw [hh] at hR
    injection hR with hR
    injection hR with _ ht
    exact hne ht
theorem grown_set0 (w : World) (R i : Nat) (v : Value) : w.grownBy (w.setCell ⟨R, i, none⟩ v) (some R) :=
  ⟨rfl, rfl, rfl, by simp [World.setCell], fun k _ hk => Below.heap_setCell w ⟨R, i, none⟩ v k (fun e => hk (by rw [e]))⟩
theorem grown_own {W w w' : World} {row : Option Nat} {e : TypeId} {s n : Nat} {v : Value} {xs : List Value} (h : W.grownBy w row) (hown : w.ownsRow W.heap.size e s v n xs) (hg : w.grownBy w' v.ownBlock) : W.grownBy w' row :=
  ⟨hg.os.trans h.os, hg.tape.trans h.tape, hg.output.trans h.output, Nat.le_trans h.size hg.size, fun i hi hr => by
    have hne : some i ≠ v.ownBlock := by
      rcases hown.2 with ⟨rfl, _⟩ | ⟨g, cap, cur, rfl, hb, _⟩
      · simp [Value.ownBlock]
      · simp only [Value.ownBlock, ne_eq, Option.some.injEq]
        omega
    exact (hg.block i (by have := h.size; omega) hne).trans (h.block i hi hr)⟩

/-- While a pattern is read: the reader, the pattern's own block, its two rows. -/
structure St (W w : World) (R : Nat) (s : ByteArray) (a : Nat) (sl cl : Value) (ss : List Stp) (cs : List Cnd) : Prop where
  rd : Rd w R s a
  blk : w.heap[W.heap.size]? = some (.cells #[sl, cl, .int .i64 0] 106 (0, 0))
  own1 : w.ownsRow W.heap.size 171 5 sl ss.length (cellsOf encS ss)
  own2 : w.ownsRow W.heap.size 179 4 cl cs.length (cellsOf encC cs)
  grow : W.grownBy w (some R)
  lt : R < W.heap.size
  ha : a ≤ s.size
theorem St.move {W w w' : World} {R : Nat} {s : ByteArray} {a a' : Nat} {sl cl : Value} {ss : List Stp} {cs : List Cnd} (h : St W w R s a sl cl ss cs) (hr : Rd w' R s a') (hg : w.grownBy w' (some R)) (ha : a' ≤ s.size) : St W w' R s a' sl cl ss cs :=
  ⟨hr, (hg.block _ (blk_lt h.blk) (by have := h.lt; simp; omega)).trans h.blk, h.own1.kept hg (own_ne_blk h.own1 h.rd (by decide)), h.own2.kept hg (own_ne_blk h.own2 h.rd (by decide)), grown_trans h.grow hg, h.lt, ha⟩
theorem St.drew {W w : World} {R : Nat} {s : ByteArray} {a : Nat} {sl cl : Value} {ss : List Stp} {cs : List Cnd} (h : St W w R s a sl cl ss cs) : St W w.drew R s a sl cl ss cs :=
  h.move h.rd (grown_drew _ _) h.ha
theorem St.drewN {W w : World} {R : Nat} {s : ByteArray} {a : Nat} {sl cl : Value} {ss : List Stp} {cs : List Cnd} (h : St W w R s a sl cl ss cs) (n : Nat) : St W (w.drewN n) R s a sl cl ss cs :=
  h.move h.rd (grown_drewN _ _ _) h.ha
/-- A step more. -/
theorem St.step {W w w2 : World} {R : Nat} {s : ByteArray} {a : Nat} {sl cl r : Value} {ss : List Stp} {cs : List Cnd} {x : Stp} (h : St W w R s a sl cl ss cs) (hg : (w.alloc (.cells (encS x).toArray 171)).grownBy w2 sl.ownBlock)
    (ho : w2.ownsRow W.heap.size 171 5 r (ss.length + 1) (cellsOf encS ss ++ encS x)) : St W (w2.setCell ⟨W.heap.size, 0, none⟩ r) R s a r cl (ss ++ [x]) cs := by
  have own1' := h.own1.alloc (.cells (encS x).toArray 171)
  have own2' := h.own2.alloc (.cells (encS x).toArray 171)
  have hb := heap_kept (heap_alloc (o' := .cells (encS x).toArray 171) h.blk) own1' (by decide) hg
  have hr := heap_kept (heap_alloc (o' := .cells (encS x).toArray 171) h.rd) own1' (by decide) hg
  have hlt := h.lt
  exact ⟨(Below.heap_setCell w2 ⟨W.heap.size, 0, none⟩ r R (by show R ≠ W.heap.size; omega)).trans hr, blk_set hb 0 r, by
      rw [cellsOf_snoc, List.length_append]
      exact ho.kept (grown_set0 _ _ _ _) (own_ne_blk ho hb (by decide)), (own_kept2 own2' own1' (by decide) hg).kept (grown_set0 _ _ _ _) (own_ne_blk (own_kept2 own2' own1' (by decide) hg) hb (by decide)),
    grown_setNew (grown_own (grown_trans h.grow (grown_alloc _ _ _)) own1' hg) _ _ _ (Nat.le_refl _), h.lt, h.ha⟩
/-- A condition more. -/
theorem St.cond {W w w2 : World} {R : Nat} {s : ByteArray} {a : Nat} {sl cl r : Value} {ss : List Stp} {cs : List Cnd} {x : Cnd} (h : St W w R s a sl cl ss cs) (hg : (w.alloc (.cells (encC x).toArray 179)).grownBy w2 cl.ownBlock)
    (ho : w2.ownsRow W.heap.size 179 4 r (cs.length + 1) (cellsOf encC cs ++ encC x)) : St W (w2.setCell ⟨W.heap.size, 1, none⟩ r) R s a sl r ss (cs ++ [x]) := by
  have own1' := h.own1.alloc (.cells (encC x).toArray 179)
  have own2' := h.own2.alloc (.cells (encC x).toArray 179)
  have hb := heap_kept (heap_alloc (o' := .cells (encC x).toArray 179) h.blk) own2' (by decide) hg
  have hr := heap_kept (heap_alloc (o' := .cells (encC x).toArray 179) h.rd) own2' (by decide) hg
  have hlt := h.lt
  exact ⟨(Below.heap_setCell w2 ⟨W.heap.size, 1, none⟩ r R (by show R ≠ W.heap.size; omega)).trans hr, blk_set hb 1 r,
    (own_kept2 own1' own2' (by decide) hg).kept (grown_set0 _ _ _ _) (own_ne_blk (own_kept2 own1' own2' (by decide) hg) hb (by decide)), by
      rw [cellsOf_snoc, List.length_append]
      exact ho.kept (grown_set0 _ _ _ _) (own_ne_blk ho hb (by decide)),
    grown_setNew (grown_own (grown_trans h.grow (grown_alloc _ _ _)) own2' hg) _ _ _ (Nat.le_refl _), h.lt, h.ha⟩

theorem infoS : (Tryd.prog.info? 171).map (fun i => (i.zero, i.size, i.bytes)) = some (some (.agg #[.int .u8 0, .int .u8 0, .bool false, .int .i64 0, .int .i64 0]), 5, 24) := by kernel_rfl
theorem infoC : (Tryd.prog.info? 179).map (fun i => (i.zero, i.size, i.bytes)) = some (some (.agg #[.int .u8 0, .int .i64 0, .int .u8 0, .int .i64 0]), 4, 32) := by kernel_rfl
theorem build_s (w : World) (x : Stp) : (Instr.buildSlice 103 1 #[(0, stpV x)]).run Tryd.prog w = .ok (.slice (some ⟨w.heap.size, 0, none⟩) 1 1) (w.alloc (.cells (encS x).toArray 171)) := by
  unfold stpV encS
  go_simp
theorem build_c (w : World) (x : Cnd) : (Instr.buildSlice 104 1 #[(0, cndV x)]).run Tryd.prog w = .ok (.slice (some ⟨w.heap.size, 0, none⟩) 1 1) (w.alloc (.cells (encC x).toArray 179)) := by
  unfold cndV encC
  go_simp

theorem ex_step (l : List UInt8) (a n : Nat) : ∃ x : Stp, ∀ x' a', pStep l a n = .inr (x', a') → x' = x := by
  cases h : pStep l a n with
  | inl f => exact ⟨⟨0, 0, false, 0, 0⟩, fun x' a' he => by cases he⟩
  | inr f => exact ⟨f.1, fun x' a' he => by cases he; rfl⟩
theorem ex_cond (l : List UInt8) (a n : Nat) : ∃ x : Cnd, ∀ x' a', pCond l a n = .inr (x', a') → x' = x := by
  cases h : pCond l a n with
  | inl f => exact ⟨⟨0, 0, 0, 0⟩, fun x' a' he => by cases he⟩
  | inr f => exact ⟨f.1, fun x' a' he => by cases he; rfl⟩
theorem load_p0 {w : World} {g : Nat} {c0 c1 c2 : Value} (h : w.heap[g]? = some (.cells #[c0, c1, c2] 106 (0, 0))) : (Instr.loadAt 103 (.pointer (some ⟨g, 0, none⟩))).run Tryd.prog w = .ok c0 w := by
  have e0 : w.cell? ⟨g, 0, none⟩ = some c0 := by rw [Lib.cell_of_heap h]; rfl
  go_simp
theorem load_p1 {w : World} {g : Nat} {c0 c1 c2 : Value} (h : w.heap[g]? = some (.cells #[c0, c1, c2] 106 (0, 0))) : (Instr.loadAt 104 (.pointer (some ⟨g, 1, none⟩))).run Tryd.prog w = .ok c1 w := by
  have e0 : w.cell? ⟨g, 1, none⟩ = some c1 := by rw [Lib.cell_of_heap h]; rfl
  go_simp
theorem fld_p0 (w : World) (g : Nat) : (Instr.fieldAt 106 (.pointer (some ⟨g, 0, none⟩)) 0).run Tryd.prog w = .ok (.pointer (some ⟨g, 0, none⟩)) w := by go_simp
theorem fld_p1 (w : World) (g : Nat) : (Instr.fieldAt 106 (.pointer (some ⟨g, 0, none⟩)) 1).run Tryd.prog w = .ok (.pointer (some ⟨g, 1, none⟩)) w := by go_simp
theorem enter_step (v u : Value) (w : World) : (callFunc 90 #[v, u]).run Tryd.prog w = .ok (.enter 90 #[v, u]) w := by go_simp
theorem enter_cond (v u : Value) (w : World) : (callFunc 92 #[v, u]).run Tryd.prog w = .ok (.enter 92 #[v, u]) w := by go_simp

theorem own_slice {w : World} {b : Nat} {e : TypeId} {s n : Nat} {v : Value} {xs : List Value} (h : w.ownsRow b e s v n xs) : ∃ ad c, v = .slice ad n c := by
  rcases h.2 with ⟨rfl, rfl⟩ | ⟨g, cap, cur, rfl, _⟩
  · exact ⟨_, _, rfl⟩
  · exact ⟨_, _, rfl⟩
/-- The length of a slice that lies in a cell. -/
def lenAt (w : World) (B i : Nat) : Nat := match w.cell? ⟨B, i, none⟩ with
  | some (.slice _ n _) => n
  | _ => 0
theorem St.len1 {W w : World} {R : Nat} {s : ByteArray} {a : Nat} {sl cl : Value} {ss : List Stp} {cs : List Cnd} (h : St W w R s a sl cl ss cs) : lenAt w W.heap.size 0 = ss.length := by
  obtain ⟨ad, c, rfl⟩ := own_slice h.own1
  unfold lenAt
  rw [Lib.cell_of_heap h.blk]
  rfl
theorem St.len2 {W w : World} {R : Nat} {s : ByteArray} {a : Nat} {sl cl : Value} {ss : List Stp} {cs : List Cnd} (h : St W w R s a sl cl ss cs) : lenAt w W.heap.size 1 = cs.length := by
  obtain ⟨ad, c, rfl⟩ := own_slice h.own2
  unfold lenAt
  rw [Lib.cell_of_heap h.blk]
  rfl
theorem St.cells {W w : World} {R : Nat} {s : ByteArray} {a : Nat} {sl cl : Value} {ss : List Stp} {cs : List Cnd} (h : St W w R s a sl cl ss cs) :
    w.cell? ⟨W.heap.size, 0, none⟩ = some sl ∧ w.cell? ⟨W.heap.size, 1, none⟩ = some cl ∧ w.cell? ⟨W.heap.size, 2, none⟩ = some (.int .i64 0) ∧ w.frozen? ⟨W.heap.size, 0, none⟩ = false ∧ w.frozen? ⟨W.heap.size, 1, none⟩ = false ∧ w.frozen? ⟨W.heap.size, 2, none⟩ = false :=
  ⟨by rw [Lib.cell_of_heap h.blk]; rfl, by rw [Lib.cell_of_heap h.blk]; rfl, by rw [Lib.cell_of_heap h.blk]; rfl, Lib.frozen_of_heap h.blk 0, Lib.frozen_of_heap h.blk 1, Lib.frozen_of_heap h.blk 2⟩
theorem len_step (w : World) (ad : Option Addr) (n c : Nat) : (Builtin.len_ #[103] 3 #[.slice ad n c]).run Tryd.prog w = .ok (.int .i64 n) w := by
  simp [go_sem]
theorem len_cond (w : World) (ad : Option Addr) (n c : Nat) : (Builtin.len_ #[104] 3 #[.slice ad n c]).run Tryd.prog w = .ok (.int .i64 n) w := by
  simp [go_sem]

theorem own_set {w : World} {b B i : Nat} {e t : TypeId} {s n : Nat} {v u : Value} {xs : List Value} {cs : Array Value} (h : w.ownsRow b e s v n xs) (hB : w.heap[B]? = some (.cells cs t (0, 0))) (hne : e ≠ t) : (w.setCell ⟨B, i, none⟩ u).ownsRow b e s v n xs :=
  h.kept (grown_set0 _ _ _ _) (own_ne_blk h hB hne)
/-- The last stores. -/
theorem St.ret {p : Program} {f : Func} {Q : Ending → World → Prop} {ex : Exit} {act : Act} {W w : World} {R : Nat} {s : ByteArray} {a : Nat} {sl cl k : Value} {ss : List Stp} {cs : List Cnd} (h : St W w R s a sl cl ss cs)
    (H : ∀ w9 : World, w9.heap[W.heap.size]? = some (.cells #[sl, cl, k] 106 (0, 0)) → Rd w9 R s a → W.grownBy w9 (some R) → w9.ownsRow W.heap.size 171 5 sl ss.length (cellsOf encS ss) → w9.ownsRow W.heap.size 179 4 cl cs.length (cellsOf encC cs) → bodyPost p f Q ex act w9) :
    bodyPost p f Q ex act ((((w.setCell ⟨W.heap.size, 2, none⟩ k).setCell ⟨W.heap.size, 0, none⟩ sl).setCell ⟨W.heap.size, 1, none⟩ cl).setCell ⟨W.heap.size, 2, none⟩ k) := by
  have hb1 := blk_set h.blk 2 k
  have hb2 := blk_set hb1 0 sl
  have hb3 := blk_set hb2 1 cl
  have hb4 := blk_set hb3 2 k
  have hne : R ≠ W.heap.size := by have := h.lt; omega
  exact H _ hb4 ((((h.rd.set _ _ _ hne).set _ _ _ hne).set _ _ _ hne).set _ _ _ hne) (grown_setNew (grown_setNew (grown_setNew (grown_setNew h.grow _ _ _ (Nat.le_refl _)) _ _ _ (Nat.le_refl _)) _ _ _ (Nat.le_refl _)) _ _ _ (Nat.le_refl _))
    (own_set (own_set (own_set (own_set h.own1 h.blk (by decide)) hb1 (by decide)) hb2 (by decide)) hb3 (by decide)) (own_set (own_set (own_set (own_set h.own2 h.blk (by decide)) hb1 (by decide)) hb2 (by decide)) hb3 (by decide))

/-- What reading a pattern leaves. -/
def PostP (W : World) (R : Nat) (s : ByteArray) (r : PR Ptn) (e : Ending) (w' : World) : Prop :=
  match r with
  | .inl (k, er) => e = .panicked (faultV k er) ∧ W.grownBy w' (some R)
  | .inr (p, a') => ∃ sl cl, e = .returned (.agg #[sl, cl, .int .i64 p.wi]) ∧ Rd w' R s a' ∧ W.grownBy w' (some R) ∧ a' ≤ s.size ∧
      w'.ownsRow W.heap.size 171 5 sl p.ss.length (cellsOf encS p.ss) ∧ w'.ownsRow W.heap.size 179 4 cl p.cs.length (cellsOf encC p.cs)

set_option maxRecDepth 100000 in
set_option maxHeartbeats 3200000 in
theorem pattern_any (R : Nat) (s : ByteArray) (W : World) (h : Rd W R s 0) (hs : s.size ≤ 4096) :
    Calls Tryd.prog 73 #[.pointer (some ⟨R, 0, none⟩)] W (PostP W R s (pPat s.data.toList)) := by
  have hRlt := h.lt
  obtain ⟨i0, hi, hz0, hz1, hz2⟩ := info_parts infoS
  obtain ⟨i1, hj, hy0, hy1, hy2⟩ := info_parts infoC
  have hw2 : ∀ (w' : World) (b : Nat) (wd : ByteArray), wd.size ≤ 4096 → Rd w' R s b → b ≤ s.size → Calls Tryd.prog 89 #[.pointer (some ⟨R, 0, none⟩), .string wd] w' fun e w'' => Post R s (fun _ : Unit => .tuple #[]) w' (pWord s.data.toList wd.data.toList b) e w'' := fun w' b wd hl h hb => word_any R s b wd w' h hb hs hl
  have Hw := Lib.hid hw2
  have hh : ∀ (w' : World) (b x : Nat), Rd w' R s b → b ≤ s.size → Calls Tryd.prog 91 #[.pointer (some ⟨R, 0, none⟩), .int .u8 x] w' fun e w'' => e = .returned (.bool (pHas s.data.toList b x)) ∧ Rd w'' R s (if pHas s.data.toList b x then b + 1 else b) ∧ w'.grownBy w'' (some R) ∧ (if pHas s.data.toList b x then b + 1 else b) ≤ s.size := fun w' b x h hb => has_gen R s b x w' h hb hs
  have Hh := Lib.hid hh
  have hst0 : St W (W.alloc (.cells #[.slice none 0 0, .slice none 0 0, .int .i64 0] 106)) R s 0 (.slice none 0 0) (.slice none 0 0) [] [] :=
    ⟨h.alloc _, blk_new _ _, World.ownsRow_nil _ _ _ _, World.ownsRow_nil _ _ _ _, grown_alloc _ _ _, hRlt, by omega⟩
  have Hst0 := Lib.hid hst0
  have hn2 : ∀ (w' : World) (b : Nat), Rd w' R s b → b ≤ s.size → Calls Tryd.prog 93 #[.pointer (some ⟨R, 0, none⟩), .int .u8 48] w' fun e w'' => Post R s (fun b : Nat => .int .i64 b) w' (pNum s.data.toList b 48) e w'' := fun w' b h hb => number_any R s b 48 w' h hb hs (by omega)
  have Hn := Lib.hid hn2
  have Hs := Lib.hid hs
  clear hw2 hh hst0 h hn2
  go_enter Tryd.func73, Tryd.ntmps73
  go_wp2_with fail
  refine (Hw.out _ 0 ⟨#[83, 69, 81, 40]⟩ (by decide) Hst0.out.rd (by omega)).mono ?_
  rintro e w1 hpost
  refine hpost.split (fun fk fe h1 he hg1 => ?_) (fun x0 a0 h1 he hr1 hg1 hb1 => ?_)
  · subst he
    go_wp2_with fail
    refine ⟨rfl, ?_⟩
    rw [show pPat s.data.toList = _ from bind_fail h1.out _]
    exact ⟨rfl, grown_trans Hst0.out.grow hg1⟩
  subst he
  have HP : Hid (pPat s.data.toList = _) := Lib.hid (bind_to h1.out _)
  have hst1 := Lib.hid (Hst0.out.move hr1.out hg1 hb1)
  clear hpost h1 hr1 hg1 hb1 Hst0
  go_wp2_with fail
  obtain ⟨y, hy⟩ := ex_step s.data.toList a0 0
  refine Ord.call_append (h := 7) (t := 1) (floats := [(0, 5, .pointer (some ⟨W.heap.size, 0, none⟩)), (1, 6, .slice none 0 0), (2, 7, .pointer (some ⟨R, 0, none⟩)), (6, 11, .pointer (some ⟨W.heap.size, 0, none⟩))]) (ic := 3) (sc := 8) (ib := 4) (sb := 9) (ip := 5) (sp := 10)
    (by kernel_rfl) rfl (by kernel_rfl) (by kernel_rfl) (by kernel_rfl) (by kernel_rfl) (show [0, 1, 2, 6, 3, 4, 5].Nodup by decide) (show ∀ i, i < 7 → i ∈ [0, 1, 2, 6, 3, 4, 5] by decide) (show ∀ i ∈ [0, 1, 2, 6, 3, 4, 5], i < 7 by decide)
    (show [5, 6, 7, 11, 8, 9, 10].Nodup by decide) (show ∀ s ∈ [5, 6, 7, 11, 8, 9, 10], s < 63 by decide)
    W.heap.size _ _ hst1.out.blk W.heap.size 171 i0 _ 5 24 (.slice none 0 0) 0 (cellsOf encS []) (encS y) (stpV y) (by decide)
    (fun w => ∃ a1, Hid (pStep s.data.toList a0 0 = .inr (y, a1)) ∧ St W w R s a1 (.slice none 0 0) (.slice none 0 0) [] [])
    (fun w h => by obtain ⟨a1, _, h⟩ := h; exact ⟨h.blk, h.own1, h.grow.size⟩)
    ?_ ?_ ⟨_, rfl, rfl, rfl, fun a w h => Ord.run_build (Ord.eval_tmp h) (build_s w y)⟩ 6 1 103 ⟨_, rfl, rfl, rfl, rfl, Ord.waits_of (by kernel_rfl)⟩ (by simp)
    Tryd.underlying103 hi hz0 hz1 hz2 rfl (by decide) rfl (encS_one _) (by unfold maxLen; omega) (by omega) ?_
  · intro i' s' x' hm
    simp only [List.mem_cons, List.not_mem_nil, or_false, Prod.mk.injEq] at hm
    rcases hm with ⟨rfl, rfl, rfl⟩ | ⟨rfl, rfl, rfl⟩ | ⟨rfl, rfl, rfl⟩ | ⟨rfl, rfl, rfl⟩
    · exact ⟨_, rfl, rfl, rfl, fun a w hs hk hB => Ord.run_fld (Ord.eval_tmp ((hs.out 2 (show 2 ∉ [5, 6, 7, 11, 8, 9, 10] by decide)).trans rfl)) (fld_p0 w _)⟩
    · exact ⟨_, rfl, rfl, rfl, fun a w hs hk hB => Ord.run_load (Ord.eval_tmp (hk 0 5 (.pointer (some ⟨W.heap.size, 0, none⟩)) (by simp) (Ord.waits_of (by kernel_rfl)))) (load_p0 hB)⟩
    · exact ⟨_, rfl, rfl, rfl, fun a w hs hk hB => Ord.run_move (Ord.eval_tmp ((hs.out 0 (show 0 ∉ [5, 6, 7, 11, 8, 9, 10] by decide)).trans rfl))⟩
    · exact ⟨_, rfl, rfl, rfl, fun a w hs hk hB => Ord.run_fld (Ord.eval_tmp ((hs.out 2 (show 2 ∉ [5, 6, 7, 11, 8, 9, 10] by decide)).trans rfl)) (fld_p0 w _)⟩
  · intro a' K hs hk hK
    refine Ord.wpOp_enter (o := _) rfl rfl (Ord.run_enter2 (Ord.eval_tmp (hk _ 2 7 (.pointer (some ⟨R, 0, none⟩)) rfl (by simp) (Ord.waits_of (by kernel_rfl)))) rfl (enter_step _ _ _)) ?_
    refine (step_any R s a0 0 _ hst1.out.drew.rd hst1.out.ha Hs.out (by omega)).mono ?_
    rintro e w2 hpost
    refine hpost.split (fun fk fe h2 he hg2 => ?_) (fun x2 a2 h2 he hr2 hg2 hb2 => ?_)
    · subst he
      refine ⟨hs.defers, ?_⟩
      rw [HP.out.trans (bind_fail h2.out _)]
      exact ⟨rfl, grown_trans hst1.out.drew.grow hg2⟩
    · subst he
      obtain rfl := hy x2 a2 h2.out
      exact hK w2 ⟨a2, h2, hst1.out.drew.move hr2.out hg2 hb2⟩
  intro w1' w2 g cap hmid hgr hown hB
  obtain ⟨a1, h2, hst2⟩ := hmid
  have HP := Lib.hid (HP.out.trans (bind_to h2.out _))
  have hlt2 := pStep_lt h2.out (by omega)
  have hst3 := Lib.hid (hst2.step hgr hown)
  have hfz : w2.frozen? ⟨W.heap.size, 0, none⟩ = false := Lib.frozen_of_heap hB 0
  have hc0 : w2.cell? ⟨W.heap.size, 0, none⟩ = some (.slice none 0 0) := by rw [Lib.cell_of_heap hB]; rfl
  clear hst2 hgr hown h2 hy
  simp only [Ord.puts, List.map_cons, List.map_nil, List.cons_append, List.nil_append]
  go_wp2_with fail
  go_loopw [] (fun wr => ∃ (ss : List Stp) (a : Nat) (sl : Value), 1 ≤ ss.length ∧ ss.length ≤ 8 ∧ St W wr R s a sl (.slice none 0 0) ss [] ∧ pPat s.data.toList = (pSteps s.data.toList (9 - ss.length) a ss).bind fun ss a2 => pRest s.data.toList ss a2) (fun wr => 9 - lenAt wr W.heap.size 0)
  case atStart => exact ⟨[y], a1, _, by simp, by simp, hst3.out, HP.out⟩
  case round =>
    clear HP hst3 hB hfz hc0
    obtain ⟨ss, a, sl, hs1, hs8, hst, hP⟩ := hrel
    have hst := Lib.hid hst
    have HP := Lib.hid hP
    clear hP
    go_wp2_with fail
    refine (Hh.out _ a 44 hst.out.rd hst.out.ha).mono ?_
    rintro e w3 ⟨rfl, hr3, hg3, hb3⟩
    have hst4 := Lib.hid (hst.out.move hr3 hg3 hb3)
    cases hp : pHas s.data.toList a 44 with
    | true =>
      rw [hp] at hst4
      simp only [if_true] at hst4
      have HP := Lib.hid (HP.out.trans (congrArg (fun x => PR.bind x fun ss a2 => pRest s.data.toList ss a2) (show pSteps s.data.toList (9 - ss.length) a ss = (pStep s.data.toList (a + 1) ss.length).bind fun x a' => pSteps s.data.toList (8 - ss.length) a' (ss ++ [x]) by
        rw [show 9 - ss.length = (8 - ss.length) + 1 by omega]
        exact if_pos hp)))
      have HP := Lib.hid (HP.out.trans (PR.bind_assoc _ _ _))
      clear hp hr3 hg3 hb3
      go_wp2_with fail
      obtain ⟨sad, scap, hsl⟩ := own_slice hst4.out.own1
      subst hsl
      obtain ⟨y, hy⟩ := ex_step s.data.toList (a + 1) ss.length
      refine Ord.call_append (h := 10) (t := 1) (floats := [(0, 14, .pointer (some ⟨W.heap.size, 0, none⟩)), (1, 15, .slice sad ss.length scap), (2, 16, .pointer (some ⟨R, 0, none⟩)), (3, 17, .pointer (some ⟨W.heap.size, 0, none⟩)), (4, 18, .slice sad ss.length scap), (5, 19, .int .i64 ss.length), (9, 23, .pointer (some ⟨W.heap.size, 0, none⟩))]) (ic := 6) (sc := 20) (ib := 7) (sb := 21) (ip := 8) (sp := 22)
        (by kernel_rfl) rfl (by kernel_rfl) (by kernel_rfl) (by kernel_rfl) (by kernel_rfl) (show [0, 1, 2, 3, 4, 5, 9, 6, 7, 8].Nodup by decide) (show ∀ i, i < 10 → i ∈ [0, 1, 2, 3, 4, 5, 9, 6, 7, 8] by decide) (show ∀ i ∈ [0, 1, 2, 3, 4, 5, 9, 6, 7, 8], i < 10 by decide)
        (show [14, 15, 16, 17, 18, 19, 23, 20, 21, 22].Nodup by decide) (show ∀ s ∈ [14, 15, 16, 17, 18, 19, 23, 20, 21, 22], s < 63 by decide)
        W.heap.size _ _ hst4.out.blk W.heap.size 171 i0 _ 5 24 (.slice sad ss.length scap) ss.length (cellsOf encS ss) (encS y) (stpV y) (by decide)
        (fun w => ∃ a1, Hid (pStep s.data.toList (a + 1) ss.length = .inr (y, a1)) ∧ St W w R s a1 (.slice sad ss.length scap) (.slice none 0 0) ss [])
        (fun w h => by obtain ⟨a1, _, h⟩ := h; exact ⟨h.blk, h.own1, h.grow.size⟩)
        ?_ ?_ ⟨_, rfl, rfl, rfl, fun a w h => Ord.run_build (Ord.eval_tmp h) (build_s w y)⟩ 15 1 103 ⟨_, rfl, rfl, rfl, rfl, Ord.waits_of (by kernel_rfl)⟩ (by simp)
        Tryd.underlying103 hi hz0 hz1 hz2 rfl (by decide) rfl (encS_one _) (by unfold maxLen; omega) (by omega) ?_
      · intro i' s' x' hm
        simp only [List.mem_cons, List.not_mem_nil, or_false, Prod.mk.injEq] at hm
        rcases hm with ⟨rfl, rfl, rfl⟩ | ⟨rfl, rfl, rfl⟩ | ⟨rfl, rfl, rfl⟩ | ⟨rfl, rfl, rfl⟩ | ⟨rfl, rfl, rfl⟩ | ⟨rfl, rfl, rfl⟩ | ⟨rfl, rfl, rfl⟩
        · exact ⟨_, rfl, rfl, rfl, fun a w hs hk hB => Ord.run_fld (Ord.eval_tmp ((hs.out 2 (show 2 ∉ [14, 15, 16, 17, 18, 19, 23, 20, 21, 22] by decide)).trans rfl)) (fld_p0 w _)⟩
        · exact ⟨_, rfl, rfl, rfl, fun a w hs hk hB => Ord.run_load (Ord.eval_tmp (hk 0 14 (.pointer (some ⟨W.heap.size, 0, none⟩)) (by simp) (Ord.waits_of (by kernel_rfl)))) (load_p0 hB)⟩
        · exact ⟨_, rfl, rfl, rfl, fun a w hs hk hB => Ord.run_move (Ord.eval_tmp ((hs.out 0 (show 0 ∉ [14, 15, 16, 17, 18, 19, 23, 20, 21, 22] by decide)).trans rfl))⟩
        · exact ⟨_, rfl, rfl, rfl, fun a w hs hk hB => Ord.run_fld (Ord.eval_tmp ((hs.out 2 (show 2 ∉ [14, 15, 16, 17, 18, 19, 23, 20, 21, 22] by decide)).trans rfl)) (fld_p0 w _)⟩
        · exact ⟨_, rfl, rfl, rfl, fun a w hs hk hB => Ord.run_load (Ord.eval_tmp (hk 3 17 (.pointer (some ⟨W.heap.size, 0, none⟩)) (by simp) (Ord.waits_of (by kernel_rfl)))) (load_p0 hB)⟩
        · exact ⟨_, rfl, rfl, rfl, fun a w hs hk hB => Ord.run_len (ad := sad) (n := ss.length) (c := scap) (Ord.eval_tmp (hk 4 18 (.slice sad (ss.length) scap) (by simp) (Ord.waits_of (by kernel_rfl)))) (len_step w _ _ _)⟩
        · exact ⟨_, rfl, rfl, rfl, fun a w hs hk hB => Ord.run_fld (Ord.eval_tmp ((hs.out 2 (show 2 ∉ [14, 15, 16, 17, 18, 19, 23, 20, 21, 22] by decide)).trans rfl)) (fld_p0 w _)⟩
      · intro a' K hs hk hK
        refine Ord.wpOp_enter (o := _) rfl rfl (Ord.run_enter2 (Ord.eval_tmp (hk _ 2 16 (.pointer (some ⟨R, 0, none⟩)) rfl (by simp) (Ord.waits_of (by kernel_rfl)))) (Ord.eval_tmp (hk _ 5 19 (.int .i64 ss.length) rfl (by simp) (Ord.waits_of (by kernel_rfl)))) (enter_step _ _ _)) ?_
        refine (step_any R s (a + 1) ss.length _ hst4.out.drew.rd hst4.out.ha Hs.out (by omega)).mono ?_
        rintro e w2 hpost
        refine hpost.split (fun fk fe h2 he hg2 => ?_) (fun x2 a2 h2 he hr2 hg2 hb2 => ?_)
        · subst he
          refine ⟨hs.defers, ?_⟩
          rw [HP.out.trans (bind_fail h2.out _)]
          exact ⟨rfl, grown_trans hst4.out.drew.grow hg2⟩
        · subst he
          obtain rfl := hy x2 a2 h2.out
          exact hK w2 ⟨a2, h2, hst4.out.drew.move hr2.out hg2 hb2⟩
      intro w1' w2 g cap hmid hgr hown hB
      obtain ⟨a1, h2, hst2⟩ := hmid
      have HP := Lib.hid (HP.out.trans (bind_to h2.out _))
      have hlt2 := pStep_lt h2.out (by omega)
      have hst5 := Lib.hid (hst2.step hgr hown)
      have hfz : w2.frozen? ⟨W.heap.size, 0, none⟩ = false := Lib.frozen_of_heap hB 0
      have hc0 : w2.cell? ⟨W.heap.size, 0, none⟩ = some (.slice sad ss.length scap) := by rw [Lib.cell_of_heap hB]; rfl
      clear hst2 hgr hown h2 hy
      simp only [Ord.puts, List.map_cons, List.map_nil, List.cons_append, List.nil_append]
      go_wp2_with fail
      go_roundw
      case rel =>
        refine ⟨ss ++ [y], a1, _, by simp, by simp; omega, hst5.out, ?_⟩
        rw [HP.out, List.length_append]
        congr 2
        simp only [List.length_singleton]
        omega
      case measure =>
        have e1 := hst5.out.len1
        have e2 := hst.out.len1
        rw [List.length_append, List.length_singleton] at e1
        simp only [e1, e2]
        omega
    | false =>
      rw [hp] at hst4
      simp only [Bool.false_eq_true, if_false] at hst4
      have HP := Lib.hid (HP.out.trans (congrArg (fun x => PR.bind x fun ss a2 => pRest s.data.toList ss a2) (show pSteps s.data.toList (9 - ss.length) a ss = .inr (ss, a) by
        rw [show 9 - ss.length = (8 - ss.length) + 1 by omega]
        exact if_neg (by rw [hp]; simp))))
      clear hp hr3 hg3 hb3
      go_wp2_with fail
      refine (Hw.out _ a ⟨#[41, 32, 87]⟩ (by decide) hst4.out.rd hst4.out.ha).mono ?_
      rintro e w4 hpost
      refine hpost.split (fun fk fe h5 he hg5 => ?_) (fun x5 a5 h5 he hr5 hg5 hb5 => ?_)
      · subst he
        go_wp2_with fail
        refine ⟨rfl, ?_⟩
        rw [HP.out.trans (bind_fail h5.out _)]
        exact ⟨rfl, grown_trans hst4.out.grow hg5⟩
      subst he
      have HP := Lib.hid (HP.out.trans (bind_to h5.out _))
      have hst5 := Lib.hid (hst4.out.move hr5.out hg5 hb5)
      clear hpost h5 hr5 hg5 hb5 hst4
      go_wp2_with fail
      refine (Hh.out _ a5 72 hst5.out.rd hst5.out.ha).mono ?_
      rintro e w6 ⟨rfl, hr6, hg6, hb6⟩
      have hst6 := Lib.hid (hst5.out.move hr6 hg6 hb6)
      cases hp : pHas s.data.toList a5 72 with
      | true =>
        rw [hp] at hst6
        simp only [if_true] at hst6
        have HP := Lib.hid (HP.out.trans (if_pos hp))
        clear hp hr6 hg6 hb6
        go_wp2_with fail
        refine (Hw.out _ (a5 + 1) ⟨#[69, 82, 69, 32]⟩ (by decide) hst6.out.rd hst6.out.ha).mono ?_
        rintro e w4 hpost
        refine hpost.split (fun fk fe h5 he hg5 => ?_) (fun x5 a7 h5 he hr5 hg5 hb5 => ?_)
        · subst he
          go_wp2_with fail
          refine ⟨rfl, ?_⟩
          rw [HP.out.trans (bind_fail h5.out _)]
          exact ⟨rfl, grown_trans hst6.out.grow hg5⟩
        subst he
        have HP := Lib.hid (HP.out.trans (bind_to h5.out _))
        have hst7 := Lib.hid (hst6.out.move hr5.out hg5 hb5)
        clear hpost h5 hr5 hg5 hb5
        clear hst6
        go_wp2_with fail
        obtain ⟨y, hy⟩ := ex_cond s.data.toList a7 0
        refine Ord.call_append (h := 7) (t := 1) (floats := [(0, 30, .pointer (some ⟨W.heap.size, 1, none⟩)), (1, 31, .slice none 0 0), (2, 32, .pointer (some ⟨R, 0, none⟩)), (6, 36, .pointer (some ⟨W.heap.size, 1, none⟩))]) (ic := 3) (sc := 33) (ib := 4) (sb := 34) (ip := 5) (sp := 35)
          (by kernel_rfl) rfl (by kernel_rfl) (by kernel_rfl) (by kernel_rfl) (by kernel_rfl) (show [0, 1, 2, 6, 3, 4, 5].Nodup by decide) (show ∀ i, i < 7 → i ∈ [0, 1, 2, 6, 3, 4, 5] by decide) (show ∀ i ∈ [0, 1, 2, 6, 3, 4, 5], i < 7 by decide)
          (show [30, 31, 32, 36, 33, 34, 35].Nodup by decide) (show ∀ s ∈ [30, 31, 32, 36, 33, 34, 35], s < 63 by decide)
          W.heap.size _ _ hst7.out.blk W.heap.size 179 i1 _ 4 32 (.slice none 0 0) 0 (cellsOf encC []) (encC y) (cndV y) (by decide)
          (fun w => ∃ a1, Hid (pCond s.data.toList a7 0 = .inr (y, a1)) ∧ St W w R s a1 sl (.slice none 0 0) ss [])
          (fun w h => by obtain ⟨a1, _, h⟩ := h; exact ⟨h.blk, h.own2, h.grow.size⟩)
          ?_ ?_ ⟨_, rfl, rfl, rfl, fun a w h => Ord.run_build (Ord.eval_tmp h) (build_c w y)⟩ 31 1 104 ⟨_, rfl, rfl, rfl, rfl, Ord.waits_of (by kernel_rfl)⟩ (by simp)
          Tryd.underlying104 hj hy0 hy1 hy2 rfl (by decide) rfl (encC_one _) (by unfold maxLen; omega) (by omega) ?_
        · intro i' s' x' hm
          simp only [List.mem_cons, List.not_mem_nil, or_false, Prod.mk.injEq] at hm
          rcases hm with ⟨rfl, rfl, rfl⟩ | ⟨rfl, rfl, rfl⟩ | ⟨rfl, rfl, rfl⟩ | ⟨rfl, rfl, rfl⟩
          · exact ⟨_, rfl, rfl, rfl, fun a w hs hk hB => Ord.run_fld (Ord.eval_tmp ((hs.out 2 (show 2 ∉ [30, 31, 32, 36, 33, 34, 35] by decide)).trans rfl)) (fld_p1 w _)⟩
          · exact ⟨_, rfl, rfl, rfl, fun a w hs hk hB => Ord.run_load (Ord.eval_tmp (hk 0 30 (.pointer (some ⟨W.heap.size, 1, none⟩)) (by simp) (Ord.waits_of (by kernel_rfl)))) (load_p1 hB)⟩
          · exact ⟨_, rfl, rfl, rfl, fun a w hs hk hB => Ord.run_move (Ord.eval_tmp ((hs.out 0 (show 0 ∉ [30, 31, 32, 36, 33, 34, 35] by decide)).trans rfl))⟩
          · exact ⟨_, rfl, rfl, rfl, fun a w hs hk hB => Ord.run_fld (Ord.eval_tmp ((hs.out 2 (show 2 ∉ [30, 31, 32, 36, 33, 34, 35] by decide)).trans rfl)) (fld_p1 w _)⟩
        · intro a' K hs hk hK
          refine Ord.wpOp_enter (o := _) rfl rfl (Ord.run_enter2 (Ord.eval_tmp (hk _ 2 32 (.pointer (some ⟨R, 0, none⟩)) rfl (by simp) (Ord.waits_of (by kernel_rfl)))) rfl (enter_cond _ _ _)) ?_
          refine (cond_any R s a7 0 _ hst7.out.drew.rd hst7.out.ha Hs.out (by omega)).mono ?_
          rintro e w2 hpost
          refine hpost.split (fun fk fe h2 he hg2 => ?_) (fun x2 a2 h2 he hr2 hg2 hb2 => ?_)
          · subst he
            refine ⟨hs.defers, ?_⟩
            rw [HP.out.trans (bind_fail h2.out _)]
            exact ⟨rfl, grown_trans hst7.out.drew.grow hg2⟩
          · subst he
            obtain rfl := hy x2 a2 h2.out
            exact hK w2 ⟨a2, h2, hst7.out.drew.move hr2.out hg2 hb2⟩
        intro w1' w2 g cap hmid hgr hown hB
        obtain ⟨a1, h2, hst2⟩ := hmid
        have HP := Lib.hid (HP.out.trans (bind_to h2.out _))
        have hlt2 := pCond_lt h2.out (by omega)
        have hst8 := Lib.hid (hst2.cond hgr hown)
        have hfz : w2.frozen? ⟨W.heap.size, 1, none⟩ = false := Lib.frozen_of_heap hB 1
        have hc0 : w2.cell? ⟨W.heap.size, 1, none⟩ = some (.slice none 0 0) := by rw [Lib.cell_of_heap hB]; rfl
        clear hst2 hgr hown h2 hy
        simp only [Ord.puts, List.map_cons, List.map_nil, List.cons_append, List.nil_append]
        go_wp2_with fail
        refine (Hw.out _ a1 ⟨#[32]⟩ (by decide) hst8.out.rd hst8.out.ha).mono ?_
        rintro e w4 hpost
        refine hpost.split (fun fk fe h5 he hg5 => ?_) (fun x5 a9 h5 he hr5 hg5 hb5 => ?_)
        · subst he
          go_wp2_with fail
          refine ⟨rfl, ?_⟩
          rw [HP.out.trans (bind_fail h5.out _)]
          exact ⟨rfl, grown_trans hst8.out.grow hg5⟩
        subst he
        have HP := Lib.hid (HP.out.trans (bind_to h5.out _))
        have hst9 := Lib.hid (hst8.out.move hr5.out hg5 hb5)
        clear hpost h5 hr5 hg5 hb5
        clear hst8 hst7 hB hfz hc0
        go_wp2_with fail
        go_loopw [] (fun wr => ∃ (cs : List Cnd) (a : Nat) (cl : Value), 1 ≤ cs.length ∧ cs.length ≤ 16 ∧ St W wr R s a sl cl ss cs ∧ pPat s.data.toList = (pConds s.data.toList (17 - cs.length) a cs).bind fun cs a7 => (pWord s.data.toList [87] a7).bind fun _ a8 => pEnd s.data.toList ss cs a8) (fun wr => 17 - lenAt wr W.heap.size 1)
        case atStart => exact ⟨[y], a9, _, by simp, by simp, hst9.out, HP.out⟩
        case round =>
          clear HP hst9
          obtain ⟨cs, a, cl, hq1, hq16, hst, hP⟩ := hrel
          have hst := Lib.hid hst
          have HP := Lib.hid hP
          clear hP
          go_wp2_with fail
          refine (Hh.out _ a 65 hst.out.rd hst.out.ha).mono ?_
          rintro e w3 ⟨rfl, hr3, hg3, hb3⟩
          have hst4 := Lib.hid (hst.out.move hr3 hg3 hb3)
          cases hp : pHas s.data.toList a 65 with
          | true =>
            rw [hp] at hst4
            simp only [if_true] at hst4
            have HP := Lib.hid (HP.out.trans (congrArg (fun x => PR.bind x fun cs a7 => (pWord s.data.toList [87] a7).bind fun _ a8 => pEnd s.data.toList ss cs a8) (show pConds s.data.toList (17 - cs.length) a cs = (pWord s.data.toList [78, 68, 32] (a + 1)).bind fun _ a1 => (pCond s.data.toList a1 cs.length).bind fun x a2 => (pWord s.data.toList [32] a2).bind fun _ a3 => pConds s.data.toList (16 - cs.length) a3 (cs ++ [x]) by
              rw [show 17 - cs.length = (16 - cs.length) + 1 by omega]
              exact if_pos hp)))
            have HP := Lib.hid (HP.out.trans (PR.bind_assoc _ _ _))
            clear hp hr3 hg3 hb3
            go_wp2_with fail
            refine (Hw.out _ (a + 1) ⟨#[78, 68, 32]⟩ (by decide) hst4.out.rd hst4.out.ha).mono ?_
            rintro e w4 hpost
            refine hpost.split (fun fk fe h5 he hg5 => ?_) (fun x5 ax h5 he hr5 hg5 hb5 => ?_)
            · subst he
              go_wp2_with fail
              refine ⟨rfl, ?_⟩
              rw [HP.out.trans (bind_fail h5.out _)]
              exact ⟨rfl, grown_trans hst4.out.grow hg5⟩
            subst he
            have HP := Lib.hid (HP.out.trans (bind_to h5.out _))
            have hstx := Lib.hid (hst4.out.move hr5.out hg5 hb5)
            clear hpost h5 hr5 hg5 hb5
            have HP := Lib.hid (HP.out.trans (PR.bind_assoc _ _ _))
            clear hst4
            go_wp2_with fail
            obtain ⟨sad, scap, hsl⟩ := own_slice hstx.out.own2
            subst hsl
            obtain ⟨y, hy⟩ := ex_cond s.data.toList ax cs.length
            refine Ord.call_append (h := 10) (t := 1) (floats := [(0, 43, .pointer (some ⟨W.heap.size, 1, none⟩)), (1, 44, .slice sad cs.length scap), (2, 45, .pointer (some ⟨R, 0, none⟩)), (3, 46, .pointer (some ⟨W.heap.size, 1, none⟩)), (4, 47, .slice sad cs.length scap), (5, 48, .int .i64 cs.length), (9, 52, .pointer (some ⟨W.heap.size, 1, none⟩))]) (ic := 6) (sc := 49) (ib := 7) (sb := 50) (ip := 8) (sp := 51)
              (by kernel_rfl) rfl (by kernel_rfl) (by kernel_rfl) (by kernel_rfl) (by kernel_rfl) (show [0, 1, 2, 3, 4, 5, 9, 6, 7, 8].Nodup by decide) (show ∀ i, i < 10 → i ∈ [0, 1, 2, 3, 4, 5, 9, 6, 7, 8] by decide) (show ∀ i ∈ [0, 1, 2, 3, 4, 5, 9, 6, 7, 8], i < 10 by decide)
              (show [43, 44, 45, 46, 47, 48, 52, 49, 50, 51].Nodup by decide) (show ∀ s ∈ [43, 44, 45, 46, 47, 48, 52, 49, 50, 51], s < 63 by decide)
              W.heap.size _ _ hstx.out.blk W.heap.size 179 i1 _ 4 32 (.slice sad cs.length scap) cs.length (cellsOf encC cs) (encC y) (cndV y) (by decide)
              (fun w => ∃ a1, Hid (pCond s.data.toList ax cs.length = .inr (y, a1)) ∧ St W w R s a1 sl (.slice sad cs.length scap) ss cs)
              (fun w h => by obtain ⟨a1, _, h⟩ := h; exact ⟨h.blk, h.own2, h.grow.size⟩)
              ?_ ?_ ⟨_, rfl, rfl, rfl, fun a w h => Ord.run_build (Ord.eval_tmp h) (build_c w y)⟩ 44 1 104 ⟨_, rfl, rfl, rfl, rfl, Ord.waits_of (by kernel_rfl)⟩ (by simp)
              Tryd.underlying104 hj hy0 hy1 hy2 rfl (by decide) rfl (encC_one _) (by unfold maxLen; omega) (by omega) ?_
            · intro i' s' x' hm
              simp only [List.mem_cons, List.not_mem_nil, or_false, Prod.mk.injEq] at hm
              rcases hm with ⟨rfl, rfl, rfl⟩ | ⟨rfl, rfl, rfl⟩ | ⟨rfl, rfl, rfl⟩ | ⟨rfl, rfl, rfl⟩ | ⟨rfl, rfl, rfl⟩ | ⟨rfl, rfl, rfl⟩ | ⟨rfl, rfl, rfl⟩
              · exact ⟨_, rfl, rfl, rfl, fun a w hs hk hB => Ord.run_fld (Ord.eval_tmp ((hs.out 2 (show 2 ∉ [43, 44, 45, 46, 47, 48, 52, 49, 50, 51] by decide)).trans rfl)) (fld_p1 w _)⟩
              · exact ⟨_, rfl, rfl, rfl, fun a w hs hk hB => Ord.run_load (Ord.eval_tmp (hk 0 43 (.pointer (some ⟨W.heap.size, 1, none⟩)) (by simp) (Ord.waits_of (by kernel_rfl)))) (load_p1 hB)⟩
              · exact ⟨_, rfl, rfl, rfl, fun a w hs hk hB => Ord.run_move (Ord.eval_tmp ((hs.out 0 (show 0 ∉ [43, 44, 45, 46, 47, 48, 52, 49, 50, 51] by decide)).trans rfl))⟩
              · exact ⟨_, rfl, rfl, rfl, fun a w hs hk hB => Ord.run_fld (Ord.eval_tmp ((hs.out 2 (show 2 ∉ [43, 44, 45, 46, 47, 48, 52, 49, 50, 51] by decide)).trans rfl)) (fld_p1 w _)⟩
              · exact ⟨_, rfl, rfl, rfl, fun a w hs hk hB => Ord.run_load (Ord.eval_tmp (hk 3 46 (.pointer (some ⟨W.heap.size, 1, none⟩)) (by simp) (Ord.waits_of (by kernel_rfl)))) (load_p1 hB)⟩
              · exact ⟨_, rfl, rfl, rfl, fun a w hs hk hB => Ord.run_len (ad := sad) (n := cs.length) (c := scap) (Ord.eval_tmp (hk 4 47 (.slice sad (cs.length) scap) (by simp) (Ord.waits_of (by kernel_rfl)))) (len_cond w _ _ _)⟩
              · exact ⟨_, rfl, rfl, rfl, fun a w hs hk hB => Ord.run_fld (Ord.eval_tmp ((hs.out 2 (show 2 ∉ [43, 44, 45, 46, 47, 48, 52, 49, 50, 51] by decide)).trans rfl)) (fld_p1 w _)⟩
            · intro a' K hs hk hK
              refine Ord.wpOp_enter (o := _) rfl rfl (Ord.run_enter2 (Ord.eval_tmp (hk _ 2 45 (.pointer (some ⟨R, 0, none⟩)) rfl (by simp) (Ord.waits_of (by kernel_rfl)))) (Ord.eval_tmp (hk _ 5 48 (.int .i64 cs.length) rfl (by simp) (Ord.waits_of (by kernel_rfl)))) (enter_cond _ _ _)) ?_
              refine (cond_any R s ax cs.length _ hstx.out.drew.rd hstx.out.ha Hs.out (by omega)).mono ?_
              rintro e w2 hpost
              refine hpost.split (fun fk fe h2 he hg2 => ?_) (fun x2 a2 h2 he hr2 hg2 hb2 => ?_)
              · subst he
                refine ⟨hs.defers, ?_⟩
                rw [HP.out.trans (bind_fail h2.out _)]
                exact ⟨rfl, grown_trans hstx.out.drew.grow hg2⟩
              · subst he
                obtain rfl := hy x2 a2 h2.out
                exact hK w2 ⟨a2, h2, hstx.out.drew.move hr2.out hg2 hb2⟩
            intro w1' w2 g cap hmid hgr hown hB
            obtain ⟨a1, h2, hst2⟩ := hmid
            have HP := Lib.hid (HP.out.trans (bind_to h2.out _))
            have hlt2 := pCond_lt h2.out (by omega)
            have hsty := Lib.hid (hst2.cond hgr hown)
            have hfz : w2.frozen? ⟨W.heap.size, 1, none⟩ = false := Lib.frozen_of_heap hB 1
            have hc0 : w2.cell? ⟨W.heap.size, 1, none⟩ = some (.slice sad cs.length scap) := by rw [Lib.cell_of_heap hB]; rfl
            clear hst2 hgr hown h2 hy
            simp only [Ord.puts, List.map_cons, List.map_nil, List.cons_append, List.nil_append]
            go_wp2_with fail
            have HP := Lib.hid (HP.out.trans (PR.bind_assoc _ _ _))
            refine (Hw.out _ a1 ⟨#[32]⟩ (by decide) hsty.out.rd hsty.out.ha).mono ?_
            rintro e w4 hpost
            refine hpost.split (fun fk fe h5 he hg5 => ?_) (fun x5 az h5 he hr5 hg5 hb5 => ?_)
            · subst he
              go_wp2_with fail
              refine ⟨rfl, ?_⟩
              rw [HP.out.trans (bind_fail h5.out _)]
              exact ⟨rfl, grown_trans hsty.out.grow hg5⟩
            subst he
            have HP := Lib.hid (HP.out.trans (bind_to h5.out _))
            have hstz := Lib.hid (hsty.out.move hr5.out hg5 hb5)
            clear hpost h5 hr5 hg5 hb5
            go_wp2_with fail
            go_roundw
            case rel =>
              refine ⟨cs ++ [y], az, _, by simp, by simp; omega, hstz.out, ?_⟩
              rw [HP.out, List.length_append]
              congr 2
              simp only [List.length_singleton]
              omega
            case measure =>
              have e1 := hstz.out.len2
              have e2 := hst.out.len2
              rw [List.length_append, List.length_singleton] at e1
              simp only [e1, e2]
              omega
          | false =>
            rw [hp] at hst4
            simp only [Bool.false_eq_true, if_false] at hst4
            have HP := Lib.hid (HP.out.trans (congrArg (fun x => PR.bind x fun cs a7 => (pWord s.data.toList [87] a7).bind fun _ a8 => pEnd s.data.toList ss cs a8) (show pConds s.data.toList (17 - cs.length) a cs = .inr (cs, a) by
              rw [show 17 - cs.length = (16 - cs.length) + 1 by omega]
              exact if_neg (by rw [hp]; simp))))
            clear hp hr3 hg3 hb3
            go_wp2_with fail
            refine (Hw.out _ a ⟨#[87]⟩ (by decide) hst4.out.rd hst4.out.ha).mono ?_
            rintro e w4 hpost
            refine hpost.split (fun fk fe h5 he hg5 => ?_) (fun x5 av h5 he hr5 hg5 hb5 => ?_)
            · subst he
              go_wp2_with fail
              refine ⟨rfl, ?_⟩
              rw [HP.out.trans (bind_fail h5.out _)]
              exact ⟨rfl, grown_trans hst4.out.grow hg5⟩
            subst he
            have HP := Lib.hid (HP.out.trans (bind_to h5.out _))
            have hstv := Lib.hid (hst4.out.move hr5.out hg5 hb5)
            clear hpost h5 hr5 hg5 hb5
            go_wp2_with fail
            refine (Hw.out _ av ⟨#[73, 84, 72, 73, 78, 32]⟩ (by decide) hstv.out.rd hstv.out.ha).mono ?_
            rintro e w4 hpost
            refine hpost.split (fun fk fe h5 he hg5 => ?_) (fun x5 aw h5 he hr5 hg5 hb5 => ?_)
            · subst he
              go_wp2_with fail
              refine ⟨rfl, ?_⟩
              rw [HP.out.trans (bind_fail h5.out _)]
              exact ⟨rfl, grown_trans hstv.out.grow hg5⟩
            subst he
            have HP := Lib.hid (HP.out.trans (bind_to h5.out _))
            have hstw := Lib.hid (hstv.out.move hr5.out hg5 hb5)
            clear hpost h5 hr5 hg5 hb5
            go_wp2_with fail
            refine (Hn.out _ aw hstw.out.rd hstw.out.ha).mono ?_
            rintro e w8 hpost
            refine hpost.split (fun fk fe h5 he hg5 => ?_) (fun k ak h5 he hr5 hg5 hb5 => ?_)
            · subst he
              go_wp2_with fail
              refine ⟨rfl, ?_⟩
              rw [HP.out.trans (bind_fail h5.out _)]
              exact ⟨rfl, grown_trans hstw.out.grow hg5⟩
            subst he
            have HP := Lib.hid (HP.out.trans (bind_to h5.out _))
            have hk := pNum_bound (by omega) h5.out
            have hstk := Lib.hid (hstw.out.move hr5.out hg5 hb5)
            clear hpost h5 hr5 hg5 hb5
            obtain ⟨tad, tcap, htl⟩ := own_slice hstk.out.own1
            subst htl
            obtain ⟨vad, vcap, hvl⟩ := own_slice hstk.out.own2
            subst hvl
            obtain ⟨p0, p1, p2, p3, p4, p5⟩ := hstk.out.cells
            go_wp2_with fail
            refine hstk.out.ret fun w9 hB9 hr9 hg9 ho1 ho2 => ?_
            have m0 : w9.cell? ⟨W.heap.size, 0, none⟩ = some _ := (Lib.cell_of_heap hB9 0).trans rfl
            have m1 : w9.cell? ⟨W.heap.size, 1, none⟩ = some _ := (Lib.cell_of_heap hB9 1).trans rfl
            have m2 : w9.cell? ⟨W.heap.size, 2, none⟩ = some _ := (Lib.cell_of_heap hB9 2).trans rfl
            refine bodyPost_ret (by simp [results, Tryd.results73, go_sem, m0, m1, m2]; try rfl) rfl ?_
            rw [HP.out]
            exact ⟨_, _, rfl, hr9, hg9, hstk.out.ha, ho1, ho2⟩
      | false =>
        rw [hp] at hst6
        simp only [Bool.false_eq_true, if_false] at hst6
        have HP := Lib.hid (HP.out.trans (if_neg (by rw [hp]; simp)))
        clear hp hr6 hg6 hb6
        go_wp2_with fail
        refine (Hw.out _ a5 ⟨#[73, 84, 72, 73, 78, 32]⟩ (by decide) hst6.out.rd hst6.out.ha).mono ?_
        rintro e w4 hpost
        refine hpost.split (fun fk fe h5 he hg5 => ?_) (fun x5 aw h5 he hr5 hg5 hb5 => ?_)
        · subst he
          go_wp2_with fail
          refine ⟨rfl, ?_⟩
          rw [HP.out.trans (bind_fail h5.out _)]
          exact ⟨rfl, grown_trans hst6.out.grow hg5⟩
        subst he
        have HP := Lib.hid (HP.out.trans (bind_to h5.out _))
        have hstw := Lib.hid (hst6.out.move hr5.out hg5 hb5)
        clear hpost h5 hr5 hg5 hb5
        go_wp2_with fail
        refine (Hn.out _ aw hstw.out.rd hstw.out.ha).mono ?_
        rintro e w8 hpost
        refine hpost.split (fun fk fe h5 he hg5 => ?_) (fun k ak h5 he hr5 hg5 hb5 => ?_)
        · subst he
          go_wp2_with fail
          refine ⟨rfl, ?_⟩
          rw [HP.out.trans (bind_fail h5.out _)]
          exact ⟨rfl, grown_trans hstw.out.grow hg5⟩
        subst he
        have HP := Lib.hid (HP.out.trans (bind_to h5.out _))
        have hk := pNum_bound (by omega) h5.out
        have hstk := Lib.hid (hstw.out.move hr5.out hg5 hb5)
        clear hpost h5 hr5 hg5 hb5
        obtain ⟨tad, tcap, htl⟩ := own_slice hstk.out.own1
        subst htl
        obtain ⟨p0, p1, p2, p3, p4, p5⟩ := hstk.out.cells
        go_wp2_with fail
        refine hstk.out.ret fun w9 hB9 hr9 hg9 ho1 ho2 => ?_
        have m0 : w9.cell? ⟨W.heap.size, 0, none⟩ = some _ := (Lib.cell_of_heap hB9 0).trans rfl
        have m1 : w9.cell? ⟨W.heap.size, 1, none⟩ = some _ := (Lib.cell_of_heap hB9 1).trans rfl
        have m2 : w9.cell? ⟨W.heap.size, 2, none⟩ = some _ := (Lib.cell_of_heap hB9 2).trans rfl
        refine bodyPost_ret (by simp [results, Tryd.results73, go_sem, m0, m1, m2]; try rfl) rfl ?_
        rw [HP.out]
        exact ⟨_, _, rfl, hr9, hg9, hstk.out.ha, ho1, ho2⟩
end Go.Proofs.YtcojnojdgigmdaaDoor.WP
/- A region that begins with 'recover()', in a deferred closure: behind it the walk goes on as anywhere. No program in sight. -/
namespace Go.Proofs.YtcojnojdgigmdaaDoor.Rec

theorem range_cons (n : Nat) : List.range (n + 1) = 0 :: List.range' 1 n := by
  rw [List.range_eq_range']; rfl
theorem wpS_recover {P : Program} {Q : Exit → Act → List Frame → World → Prop} {a : Act} {cs cs' : List Frame} {w : World} {id : Nat} {o : Oper} {l : List Oper} {v : Value} (hg : o.guard = none)
    (hr : (execOp a.eval o).run P w = .ok .recover w) (hrec : recoverD cs = some (v, cs'))
    {Q1 : Exit → Act → World → Prop} (hQ : ∀ e a' w', Q1 e a' w' → Q e a' cs' w') (h : wpList P (o :: l).toArray Q1 l (a.put o.dst v) w) : (Code.region id (o :: l).toArray false).wpS P Q a cs w := by
  intro b k hb hro
  rw [← wpOps_eq_wpList l 1 (fun j => by simp [Nat.add_comm 1 j])] at h
  obtain ⟨e, a', w', hq, harr⟩ := wp_ops _ _ _ h b k cs'
  refine ⟨e, a', cs', w', hQ e a' w' hq, .of_steps (.one step_region) ?_⟩
  have hsz : (o :: l).toArray.size = l.length + 1 := by simp
  rw [hsz, range_cons]
  have ho : (o :: l).toArray[0]? = some o := by simp
  have hw : Region.wanted o (yielded (o :: l).toArray a.tmps) = true := by simp [Region.wanted, hg]
  have hgs := stepG_op (P := P) (b := b) (k := k) (cs := cs) (w := w) (rest := List.range' 1 l.length) ho hw
  have hk : (b.at a (.inRegion (o :: l).toArray (0 :: List.range' 1 l.length) :: k)).kind = .deferred := hb
  have htr := tryRecover_deferred hk cs
  have hfin : ∀ v, (b.at a (.inRegion (o :: l).toArray (0 :: List.range' 1 l.length) :: k)).finish v = b.at (a.put o.dst v) (.inRegion (o :: l).toArray (List.range' 1 l.length) :: k) := by
    intro v; rw [Frame.finish_at, ho]; rfl
  refine .of_steps (.one (step_lone_go ?_)) harr
  rw [hgs, ← hfin]
  simp only [Frame.at] at htr ⊢
  simp [stepG.apply, hr, htr, hrec]
theorem wpS_recover_none {P : Program} {Q : Exit → Act → List Frame → World → Prop} {a : Act} {cs : List Frame} {w : World} {id : Nat} {o : Oper} {l : List Oper} (hg : o.guard = none)
    (hr : (execOp a.eval o).run P w = .ok .recover w) (hrec : recoverD cs = none)
    {Q1 : Exit → Act → World → Prop} (hQ : ∀ e a' w', Q1 e a' w' → Q e a' cs w') (h : wpList P (o :: l).toArray Q1 l (a.put o.dst .nilIface) w) : (Code.region id (o :: l).toArray false).wpS P Q a cs w := by
  intro b k hb hro
  rw [← wpOps_eq_wpList l 1 (fun j => by simp [Nat.add_comm 1 j])] at h
  obtain ⟨e, a', w', hq, harr⟩ := wp_ops _ _ _ h b k cs
  refine ⟨e, a', cs, w', hQ e a' w' hq, .of_steps (.one step_region) ?_⟩
  have hsz : (o :: l).toArray.size = l.length + 1 := by simp
  rw [hsz, range_cons]
  have ho : (o :: l).toArray[0]? = some o := by simp
  have hw : Region.wanted o (yielded (o :: l).toArray a.tmps) = true := by simp [Region.wanted, hg]
  have hgs := stepG_op (P := P) (b := b) (k := k) (cs := cs) (w := w) (rest := List.range' 1 l.length) ho hw
  have hk : (b.at a (.inRegion (o :: l).toArray (0 :: List.range' 1 l.length) :: k)).kind = .deferred := hb
  have htr := tryRecover_deferred hk cs
  have hfin : ∀ v, (b.at a (.inRegion (o :: l).toArray (0 :: List.range' 1 l.length) :: k)).finish v = b.at (a.put o.dst v) (.inRegion (o :: l).toArray (List.range' 1 l.length) :: k) := by
    intro v; rw [Frame.finish_at, ho]; rfl
  refine .of_steps (.one (step_lone_go ?_)) harr
  rw [hgs, ← hfin]
  simp only [Frame.at] at htr ⊢
  simp [stepG.apply, hr, htr, hrec]
/-- A sequence whose first part is such a region. -/
theorem seq_recover {P : Program} {Q : Exit → Act → List Frame → World → Prop} {a : Act} {cs cs' : List Frame} {w : World} {id : Nat} {o : Oper} {l : List Oper} {v : Value} {y : Code} (hg : o.guard = none)
    (hr : (execOp a.eval o).run P w = .ok .recover w) (hrec : recoverD cs = some (v, cs')) {Q' : Exit → Act → World → Prop} (hQ : ∀ e a' w', Q' e a' w' → Q e a' cs' w')
    (h : wpList P (o :: l).toArray (Exit.then (y.wp P Q') Q') l (a.put o.dst v) w) : (Code.seq (Code.region id (o :: l).toArray false) y).wpS P Q a cs w := by
  refine wpS_seq (wpS_recover hg hr hrec ?_ h)
  intro e a' w' hq
  cases e with
  | normal => exact wpS_of_wp (Code.wp_mono hQ hq)
  | _ => exact hQ _ _ _ hq
theorem seq_recover_none {P : Program} {Q : Exit → Act → List Frame → World → Prop} {a : Act} {cs : List Frame} {w : World} {id : Nat} {o : Oper} {l : List Oper} {y : Code} (hg : o.guard = none)
    (hr : (execOp a.eval o).run P w = .ok .recover w) (hrec : recoverD cs = none) {Q' : Exit → Act → World → Prop} (hQ : ∀ e a' w', Q' e a' w' → Q e a' cs w')
    (h : wpList P (o :: l).toArray (Exit.then (y.wp P Q') Q') l (a.put o.dst .nilIface) w) : (Code.seq (Code.region id (o :: l).toArray false) y).wpS P Q a cs w := by
  refine wpS_seq (wpS_recover_none hg hr hrec ?_ h)
  intro e a' w' hq
  cases e with
  | normal => exact wpS_of_wp (Code.wp_mono hQ hq)
  | _ => exact hQ _ _ _ hq
/-- The end of such a closure's walk: 'bodyPost' for the frame below as it is then. -/
theorem postS {P : Program} {fn : Func} {c₀ : Frame} {cs : List Frame} {R : Ending → FrameMode → World → Prop} {u : FrameMode} (e : Exit) (a : Act) (w : World) (h : bodyPost P fn (fun e w' => R e u w') e a w) : bodyPostS P fn c₀ cs R e a ({ c₀ with mode := u } :: cs) w := by
  cases e with
  | normal => exact ⟨h.1, u, rfl, h.2⟩
  | ret => exact ⟨h.1, u, rfl, h.2⟩
  | panic ch => exact ⟨h.1, u, rfl, h.2⟩
  | outgrown => exact ⟨u, h⟩
  | exit id => exact h
  | goto l => exact h
end Go.Proofs.YtcojnojdgigmdaaDoor.Rec
/- The walk of pattern.Parse: its deferred closure, its body. -/
namespace Go.Proofs.YtcojnojdgigmdaaDoor.WP
open Go.RowKit Go.Proofs.YtcojnojdgigmdaaDoor Go.Proofs.YtcojnojdgigmdaaDoor.PP Go.Proofs.YtcojnojdgigmdaaDoor.Mem

theorem ta_nil (xT : TypeId) (w : World) : (Instr.typeAssert .nilIface xT 162 true).run Tryd.prog w = .ok (.tuple #[.agg #[.int .i64 0, .int .i64 0], .bool false]) w := by
  unfold Instr.typeAssert
  go_simp
theorem ta_fault (xT : TypeId) (v : Value) (w : World) : (Instr.typeAssert (.iface 162 v) xT 162 true).run Tryd.prog w = .ok (.tuple #[v, .bool true]) w := by
  unfold Instr.typeAssert
  go_simp
set_option maxRecDepth 100000 in
set_option maxHeartbeats 1600000 in
theorem catch_idle (p0 p1 p2 : Value) (w : World) :
    CallsD Tryd.prog 72 #[p0, p1, p2] .returning w fun e u' w' => e = .returned (.tuple #[]) ∧ u' = .returning ∧ Below w.heap.size w w' := by
  refine callsD_of_wpS Tryd.func72 rfl fun c₀ cs hu => ?_
  have hc : (c₀ :: cs) = ({ c₀ with mode := .returning } :: cs) := by cases c₀; simp_all
  refine Rec.seq_recover_none rfl rfl (by simp [recoverD, hu]) (Q' := bodyPost Tryd.prog Tryd.f72 fun e w' => e = .returned (.tuple #[]) ∧ FrameMode.returning = .returning ∧ Below w.heap.size w w') (fun e a w' h => by rw [hc]; exact Rec.postS e a w' h) ?_
  change wpList _ _ _ _ { tmps := #[p0, p1, p2, undef, undef, undef, .nilIface, undef, undef, undef, undef, undef, undef, undef, undef, undef], defers := [] } _
  have hta := fun xT => ta_nil xT w
  go_wp2_with fail
  go_end0
  exact ⟨rfl, trivial, (Below.refl _ _).alloc (Nat.le_refl _) _⟩

theorem drew_heap (w : World) : w.drew.heap = w.heap := rfl
theorem fin_catch {w w2 : World} {B : Nat} {t0 t1 t2 : TypeId} {c0 c1 c2 c3 c4 : Value} (hbel : Below B w w2) (G0 : w2.heap[B]? = some (.cells #[c0, c1, c2] t0 (0, 0))) (G1 : w2.heap[B + 1]? = some (.cells #[c3] t1 (0, 0))) (G2 : w2.heap[B + 2]? = some (.cells #[c4] t2 (0, 0))) (v0 v1 v2 v3 v4 : Value) :
    Below B w (((((w2.setCell ⟨B, 0, none⟩ v0).setCell ⟨B, 1, none⟩ v1).setCell ⟨B, 2, none⟩ v2).setCell ⟨B + 1, 0, none⟩ v3).setCell ⟨B + 2, 0, none⟩ v4).drew ∧
    (((((w2.setCell ⟨B, 0, none⟩ v0).setCell ⟨B, 1, none⟩ v1).setCell ⟨B, 2, none⟩ v2).setCell ⟨B + 1, 0, none⟩ v3).setCell ⟨B + 2, 0, none⟩ v4).drew.heap[B]? = some (.cells #[v0, v1, v2] t0 (0, 0)) ∧
    (((((w2.setCell ⟨B, 0, none⟩ v0).setCell ⟨B, 1, none⟩ v1).setCell ⟨B, 2, none⟩ v2).setCell ⟨B + 1, 0, none⟩ v3).setCell ⟨B + 2, 0, none⟩ v4).drew.heap[B + 1]? = some (.cells #[v3] t1 (0, 0)) ∧
    (((((w2.setCell ⟨B, 0, none⟩ v0).setCell ⟨B, 1, none⟩ v1).setCell ⟨B, 2, none⟩ v2).setCell ⟨B + 1, 0, none⟩ v3).setCell ⟨B + 2, 0, none⟩ v4).drew.heap[B + 2]? = some (.cells #[v4] t2 (0, 0)) := by
  have s0 := blk_set (blk_set (blk_set G0 0 v0) 1 v1) 2 v2
  have s1 := blk_other (blk_other (blk_other G1 B 0 v0 (by omega)) B 1 v1 (by omega)) B 2 v2 (by omega)
  have s2 := blk_other (blk_other (blk_other G2 B 0 v0 (by omega)) B 1 v1 (by omega)) B 2 v2 (by omega)
  have r0 := blk_other (blk_other s0 (B + 1) 0 v3 (by omega)) (B + 2) 0 v4 (by omega)
  have r1 := blk_other (blk_set s1 0 v3) (B + 2) 0 v4 (by omega)
  have r2 := blk_set (blk_other s2 (B + 1) 0 v3 (by omega)) 0 v4
  have hb1 := hbel.setCell (p := ⟨B, 0, none⟩) (Nat.le_refl _) v0
  have hb2 := hb1.setCell (p := ⟨B, 1, none⟩) (Nat.le_refl _) v1
  have hb3 := hb2.setCell (p := ⟨B, 2, none⟩) (Nat.le_refl _) v2
  have hb4 := hb3.setCell (p := ⟨B + 1, 0, none⟩) (Nat.le_succ B) v3
  have hb5 := hb4.setCell (p := ⟨B + 2, 0, none⟩) (Nat.le_add_right B 2) v4
  refine ⟨hb5.drew, ?_, ?_, ?_⟩
  · rw [drew_heap]; exact r0
  · rw [drew_heap]; exact r1
  · rw [drew_heap]; exact r2
set_option maxRecDepth 100000 in
set_option maxHeartbeats 1600000 in
theorem catch_panic (B : Nat) (k er : Int) (c0 c1 c2 c3 c4 : Value) (w : World) (h0 : w.heap[B]? = some (.cells #[c0, c1, c2] 106 (0, 0))) (h1 : w.heap[B + 1]? = some (.cells #[c3] 3 (0, 0))) (h2 : w.heap[B + 2]? = some (.cells #[c4] 60 (0, 0))) :
    CallsD Tryd.prog 72 #[.pointer (some ⟨B, 0, none⟩), .pointer (some ⟨B + 1, 0, none⟩), .pointer (some ⟨B + 2, 0, none⟩)] (.panicking (faultV k er)) w fun e u' w' => e = .returned (.tuple #[]) ∧ u' = .panicking [{ v := .iface 162 (.agg #[.int .i64 k, .int .i64 er]), recovered := true }] ∧ Below B w w' ∧
      w'.heap[B]? = some (.cells #[.slice none 0 0, .slice none 0 0, .int .i64 0] 106 (0, 0)) ∧ w'.heap[B + 1]? = some (.cells #[.int .i64 k] 3 (0, 0)) ∧ w'.heap[B + 2]? = some (.cells #[.int .i64 er] 60 (0, 0)) := by
  refine callsD_of_wpS Tryd.func72 rfl fun c₀ cs hu => ?_
  refine Rec.seq_recover rfl rfl (cs' := { c₀ with mode := .panicking [{ v := .iface 162 (.agg #[.int .i64 k, .int .i64 er]), recovered := true }] } :: cs) (v := .iface 162 (.agg #[.int .i64 k, .int .i64 er])) (by simp [recoverD, hu, faultV]) (Q' := bodyPost Tryd.prog Tryd.f72 fun e w' => e = .returned (.tuple #[]) ∧ FrameMode.panicking [{ v := .iface 162 (.agg #[.int .i64 k, .int .i64 er]), recovered := true }] = .panicking [{ v := .iface 162 (.agg #[.int .i64 k, .int .i64 er]), recovered := true }] ∧ Below B w w' ∧
      w'.heap[B]? = some (.cells #[.slice none 0 0, .slice none 0 0, .int .i64 0] 106 (0, 0)) ∧ w'.heap[B + 1]? = some (.cells #[.int .i64 k] 3 (0, 0)) ∧ w'.heap[B + 2]? = some (.cells #[.int .i64 er] 60 (0, 0))) (fun e a w' h => Rec.postS e a w' h) ?_
  change wpList _ _ _ _ { tmps := #[.pointer (some ⟨B, 0, none⟩), .pointer (some ⟨B + 1, 0, none⟩), .pointer (some ⟨B + 2, 0, none⟩), undef, undef, undef, .iface 162 (.agg #[.int .i64 k, .int .i64 er]), undef, undef, undef, undef, undef, undef, undef, undef, undef], defers := [] } _
  have hta := fun xT v => ta_fault xT v w
  have hl0 := blk_lt h0; have hl1 := blk_lt h1; have hl2 := blk_lt h2
  have H0 := Lib.hid h0; have H1 := Lib.hid h1; have H2 := Lib.hid h2
  clear h0 h1 h2
  go_wp2_with fail
  have hC2 := Lib.hid (blk_new w (.cells #[.int .i64 k, .int .i64 er] 162))
  have G0 := Lib.hid (blk_alloc H0.out (.cells #[.int .i64 k, .int .i64 er] 162))
  have G1 := Lib.hid (blk_alloc H1.out (.cells #[.int .i64 k, .int .i64 er] 162))
  have G2 := Lib.hid (blk_alloc H2.out (.cells #[.int .i64 k, .int .i64 er] 162))
  have hbel : Below B w (w.alloc (.cells #[.int .i64 k, .int .i64 er] 162)) := (Below.refl _ _).alloc (by omega) _
  generalize w.alloc (.cells #[.int .i64 k, .int .i64 er] 162) = w2 at *
  generalize w.heap.size = C at *
  have e0 : w2.cell? ⟨C, 0, none⟩ = some (.int .i64 k) := (Lib.cell_of_heap hC2.out 0).trans rfl
  have e1 : w2.cell? ⟨C, 1, none⟩ = some (.int .i64 er) := (Lib.cell_of_heap hC2.out 1).trans rfl
  have f0 := Lib.frozen_of_heap G0.out 0; have f1 := Lib.frozen_of_heap G0.out 1; have f2 := Lib.frozen_of_heap G0.out 2
  have f3 := Lib.frozen_of_heap G1.out 0; have f4 := Lib.frozen_of_heap G2.out 0
  have g0 : w2.cell? ⟨B, 0, none⟩ = some c0 := (Lib.cell_of_heap G0.out 0).trans rfl
  have g1 : w2.cell? ⟨B, 1, none⟩ = some c1 := (Lib.cell_of_heap G0.out 1).trans rfl
  have g2 : w2.cell? ⟨B, 2, none⟩ = some c2 := (Lib.cell_of_heap G0.out 2).trans rfl
  have g3 : w2.cell? ⟨B + 1, 0, none⟩ = some c3 := (Lib.cell_of_heap G1.out 0).trans rfl
  have g4 : w2.cell? ⟨B + 2, 0, none⟩ = some c4 := (Lib.cell_of_heap G2.out 0).trans rfl
  have n0 : C ≠ B := by omega
  have n1 : C ≠ B + 1 := by omega
  have n2 : C ≠ B + 2 := by omega
  have n3 : B ≠ C := by omega
  have n4 : B + 1 ≠ C := by omega
  have n5 : B + 2 ≠ C := by omega
  go_region_held3 (fun w' => w'.cell? ⟨C, 0, none⟩ = some (.int .i64 k) ∧ w'.cell? ⟨C, 1, none⟩ = some (.int .i64 er)) (go_keep) (fail)
  clear hta e0 e1 f0 f1 f2 f3 f4 g0 g1 g2 g3 g4 n0 n1 n2 n3 n4 n5
  go_wp2_with fail
  go_end0
  obtain ⟨q1, q2, q3, q4⟩ := fin_catch hbel G0.out G1.out G2.out (.slice none 0 0) (.slice none 0 0) (.int .i64 0) (.int .i64 k) (.int .i64 er)
  exact ⟨rfl, trivial, q1, q2, q3, q4⟩
end Go.Proofs.YtcojnojdgigmdaaDoor.WP
/- The walk of pattern.Parse. -/
namespace Go.Proofs.YtcojnojdgigmdaaDoor.WP
open Go.RowKit Go.Proofs.YtcojnojdgigmdaaDoor Go.Proofs.YtcojnojdgigmdaaDoor.PP Go.Proofs.YtcojnojdgigmdaaDoor.Mem

/-- What Parse leaves. -/
def PostT (W : World) (r : Sum (Nat × Int) Ptn) (e : Ending) (w' : World) : Prop :=
  Below W.heap.size W w' ∧ match r with
  | .inl (k, er) => e = .returned (.tuple #[.agg #[.slice none 0 0, .slice none 0 0, .int .i64 0], .int .i64 k, .int .i64 er])
  | .inr p => ∃ sl cl, e = .returned (.tuple #[.agg #[sl, cl, .int .i64 p.wi], .int .i64 0, .int .i64 0]) ∧
      w'.ownsRow W.heap.size 171 5 sl p.ss.length (cellsOf encS p.ss) ∧ w'.ownsRow W.heap.size 179 4 cl p.cs.length (cellsOf encC p.cs)

theorem own_base {w : World} {b b' : Nat} {e : TypeId} {s n : Nat} {v : Value} {xs : List Value} (h : w.ownsRow b e s v n xs) (hb : b' ≤ b) : w.ownsRow b' e s v n xs := by
  refine ⟨h.1, ?_⟩
  rcases h.2 with h | ⟨g, cap, cur, rfl, hg, rest⟩
  · exact .inl h
  · exact .inr ⟨g, cap, cur, rfl, Nat.le_trans hb hg, rest⟩
theorem below_grown1 {W w w' : World} {R : Nat} (h : Below W.heap.size W w) (hg : w.grownBy w' (some R)) (hR : W.heap.size ≤ R) : Below W.heap.size W w' :=
  h.trans ⟨hg.os, hg.tape, hg.output, hg.size, fun k hk => hg.block k (by have := h.size; omega) (by simp; omega)⟩

/-- The function's results, read out of their blocks. -/
theorem res_parse {w : World} {B : Nat} {c0 c1 c2 c3 c4 : Value} {tmps : Array Value} (h2 : tmps[2]? = some (.pointer (some ⟨B, 0, none⟩))) (h3 : tmps[3]? = some (.pointer (some ⟨B + 1, 0, none⟩))) (h4 : tmps[4]? = some (.pointer (some ⟨B + 2, 0, none⟩)))
    (s0 : w.heap[B]? = some (.cells #[c0, c1, c2] 106 (0, 0))) (s1 : w.heap[B + 1]? = some (.cells #[c3] 3 (0, 0))) (s2 : w.heap[B + 2]? = some (.cells #[c4] 60 (0, 0))) :
    (results Tryd.f42 tmps).run Tryd.prog w = .ok (.tuple #[.agg #[c0, c1, c2], c3, c4]) w := by
  have e0 : w.cell? ⟨B, 0, none⟩ = some c0 := (Lib.cell_of_heap s0 0).trans rfl
  have e1 : w.cell? ⟨B, 1, none⟩ = some c1 := (Lib.cell_of_heap s0 1).trans rfl
  have e2 : w.cell? ⟨B, 2, none⟩ = some c2 := (Lib.cell_of_heap s0 2).trans rfl
  have e3 : w.cell? ⟨B + 1, 0, none⟩ = some c3 := (Lib.cell_of_heap s1 0).trans rfl
  have e4 : w.cell? ⟨B + 2, 0, none⟩ = some c4 := (Lib.cell_of_heap s2 0).trans rfl
  simp [results, Tryd.results42, go_sem, h2, h3, h4, e0, e1, e2, e3, e4]

theorem grown_of_below {w w' : World} (h : Below w.heap.size w w') : w.grownBy w' none := ⟨h.os, h.tape, h.output, h.size, fun k hk _ => h.block k hk⟩
/-- The result's stores. -/
theorem fin3 {w : World} {B : Nat} {t0 t1 t2 : TypeId} {c0 c1 c2 c3 c4 : Value} (T0 : w.heap[B]? = some (.cells #[c0, c1, c2] t0 (0, 0))) (T1 : w.heap[B + 1]? = some (.cells #[c3] t1 (0, 0))) (T2 : w.heap[B + 2]? = some (.cells #[c4] t2 (0, 0))) {W : World} (hb : Below B W w) (v0 v1 v2 : Value)
    {e1 e2 : TypeId} {b1 b2 z1 z2 n1 n2 : Nat} {x1 x2 : Value} {xs1 xs2 : List Value} (o1 : w.ownsRow b1 e1 z1 x1 n1 xs1) (o2 : w.ownsRow b2 e2 z2 x2 n2 xs2) (h1 : e1 ≠ t0) (h2 : e2 ≠ t0) :
    let w' := ((w.setCell ⟨B, 0, none⟩ v0).setCell ⟨B, 1, none⟩ v1).setCell ⟨B, 2, none⟩ v2
    w'.heap[B]? = some (.cells #[v0, v1, v2] t0 (0, 0)) ∧ w'.heap[B + 1]? = some (.cells #[c3] t1 (0, 0)) ∧ w'.heap[B + 2]? = some (.cells #[c4] t2 (0, 0)) ∧ Below B W w' ∧ w'.ownsRow b1 e1 z1 x1 n1 xs1 ∧ w'.ownsRow b2 e2 z2 x2 n2 xs2 := by
  have q1 := blk_set T0 0 v0
  have q2 := blk_set q1 1 v1
  have q3 := blk_set q2 2 v2
  have hb1 := hb.setCell (p := ⟨B, 0, none⟩) (Nat.le_refl _) v0
  have hb2 := hb1.setCell (p := ⟨B, 1, none⟩) (Nat.le_refl _) v1
  have hb3 := hb2.setCell (p := ⟨B, 2, none⟩) (Nat.le_refl _) v2
  exact ⟨q3, blk_other (blk_other (blk_other T1 B 0 v0 (by omega)) B 1 v1 (by omega)) B 2 v2 (by omega), blk_other (blk_other (blk_other T2 B 0 v0 (by omega)) B 1 v1 (by omega)) B 2 v2 (by omega), hb3,
    own_set (own_set (own_set o1 T0 h1) q1 h1) q2 h1, own_set (own_set (own_set o2 T0 h2) q1 h2) q2 h2⟩
theorem fin2 {w : World} {B : Nat} {t0 t1 t2 : TypeId} {cs : Array Value} {c3 c4 : Value} (T0 : w.heap[B]? = some (.cells cs t0 (0, 0))) (T1 : w.heap[B + 1]? = some (.cells #[c3] t1 (0, 0))) (T2 : w.heap[B + 2]? = some (.cells #[c4] t2 (0, 0))) {W : World} (hb : Below B W w) (v3 v4 : Value)
    {e1 e2 : TypeId} {b1 b2 z1 z2 n1 n2 : Nat} {x1 x2 : Value} {xs1 xs2 : List Value} (o1 : w.ownsRow b1 e1 z1 x1 n1 xs1) (o2 : w.ownsRow b2 e2 z2 x2 n2 xs2) (h1 : e1 ≠ t1) (h2 : e2 ≠ t1) (h3 : e1 ≠ t2) (h4 : e2 ≠ t2) :
    let w' := (w.setCell ⟨B + 1, 0, none⟩ v3).setCell ⟨B + 2, 0, none⟩ v4
    w'.heap[B]? = some (.cells cs t0 (0, 0)) ∧ w'.heap[B + 1]? = some (.cells #[v3] t1 (0, 0)) ∧ w'.heap[B + 2]? = some (.cells #[v4] t2 (0, 0)) ∧ Below B W w' ∧ w'.ownsRow b1 e1 z1 x1 n1 xs1 ∧ w'.ownsRow b2 e2 z2 x2 n2 xs2 := by
  have q1 := blk_other T2 (B + 1) 0 v3 (by omega)
  have hb1 := hb.setCell (p := ⟨B + 1, 0, none⟩) (Nat.le_succ B) v3
  have hb2 := hb1.setCell (p := ⟨B + 2, 0, none⟩) (Nat.le_add_right B 2) v4
  exact ⟨blk_other (blk_other T0 (B + 1) 0 v3 (by omega)) (B + 2) 0 v4 (by omega), blk_other (blk_set T1 0 v3) (B + 2) 0 v4 (by omega), blk_set q1 0 v4, hb2, own_set (own_set o1 T1 h1) q1 h3, own_set (own_set o2 T1 h2) q1 h4⟩

set_option maxRecDepth 100000 in
set_option maxHeartbeats 1600000 in
theorem parse_any (s : ByteArray) (W : World) : Calls Tryd.prog 42 #[.string s] W (PostT W (pParse s.data.toList)) := by
  have hlen : s.data.toList.length = s.size := Array.length_toList
  have hmf : ∀ (fn : Fn) (first cap : Array Value) (w : World), (Instr.makeFunc fn first cap).run Tryd.prog w = .ok (.func fn first cap) w := fun _ _ _ _ => rfl
  by_cases hlong : 4096 < s.size
  · have hP : pParse s.data.toList = .inl (0, 5) := by unfold pParse; rw [if_pos (by omega)]
    rw [hP]
    have hl : (4096 : Int) < s.size := by omega
    clear hP hlen hlong
    go_enter_defers Tryd.func42, Tryd.ntmps42
    go_wp2_with fail
    refine ⟨_, res_parse rfl rfl rfl (blk_alloc (blk_alloc (blk_new W _) _) _) (blk_alloc (heap_new (by simp)) _) (heap_new (by simp)), ?_⟩
    exact ⟨(((Below.refl _ _).alloc (Nat.le_refl _) _).alloc (by simp) _).alloc (by simp; omega) _, rfl⟩
  · have hl : (s.size : Int) ≤ 4096 := by omega
    obtain ⟨w4, hw4⟩ : ∃ w4, w4 = (((W.alloc (.cells #[.slice none 0 0, .slice none 0 0, .int .i64 0] 106)).alloc (.cells #[.int .i64 0] 3)).alloc (.cells #[.int .i64 0] 60)).alloc (.cells #[.string s, .int .i64 0] 166) := ⟨_, rfl⟩
    have hz4 : w4.heap.size = W.heap.size + 4 := by rw [hw4]; simp
    have s0 : w4.heap[W.heap.size]? = some (.cells #[.slice none 0 0, .slice none 0 0, .int .i64 0] 106 (0, 0)) := by
      rw [hw4]; exact blk_alloc (blk_alloc (blk_alloc (blk_new W _) _) _) _
    have s1 : w4.heap[W.heap.size + 1]? = some (.cells #[.int .i64 0] 3 (0, 0)) := by
      rw [hw4]; exact blk_alloc (blk_alloc (heap_new (by simp)) _) _
    have s2 : w4.heap[W.heap.size + 2]? = some (.cells #[.int .i64 0] 60 (0, 0)) := by
      rw [hw4]; exact blk_alloc (heap_new (by simp)) _
    have hrd : Rd w4 (W.heap.size + 3) s 0 := by
      rw [hw4]; exact heap_new (by simp)
    have hbel : Below W.heap.size W w4 := by
      rw [hw4]; exact ((((Below.refl _ _).alloc (Nat.le_refl _) _).alloc (by simp) _).alloc (by simp; omega) _).alloc (by simp; omega) _
    have hpat := pattern_any (W.heap.size + 3) s w4 hrd (by omega)
    have HP := Lib.hid (show pParse s.data.toList = (match pPat s.data.toList with
      | .inl f => .inl f
      | .inr (p, a) => if a < s.data.toList.length then .inl (a, 20) else .inr p) by unfold pParse; rw [if_neg (by omega)]; rfl)
    have Hlen := Lib.hid hlen
    have Hpat := Lib.hid hpat
    have S0 := Lib.hid s0; have S1 := Lib.hid s1; have S2 := Lib.hid s2
    clear hrd hpat hlen s0 s1 s2 hlong
    go_enter_defers Tryd.func42, Tryd.ntmps42
    go_wp2_with fail
    rw [← hw4]
    refine Hpat.out.mono ?_
    rintro e w5 hpost
    cases hpp : pPat s.data.toList with
    | inl f =>
      obtain ⟨k, er⟩ := f
      rw [hpp] at hpost HP
      obtain ⟨rfl, hg5⟩ := hpost
      have HP := HP.out
      simp only at HP
      go_wp2_with fail
      refine leaves_cons (f := 72) (args := #[.pointer (some ⟨W.heap.size, 0, none⟩), .pointer (some ⟨W.heap.size + 1, 0, none⟩), .pointer (some ⟨W.heap.size + 2, 0, none⟩)]) (by simp) (by simp [go_sem]) ?_
      refine (catch_panic W.heap.size k er _ _ _ _ _ w5 (blk_grown S0.out hg5 (by omega)) (blk_grown S1.out hg5 (by omega)) (blk_grown S2.out hg5 (by omega))).mono ?_
      rintro e u' w6 ⟨rfl, rfl, hb6, t0, t1, t2⟩
      refine ⟨_, res_parse rfl rfl rfl t0 t1 t2, ?_⟩
      exact ⟨(below_grown1 hbel hg5 (by omega)).trans hb6, rfl⟩
    | inr f =>
      obtain ⟨p, a⟩ := f
      rw [hpp] at hpost HP
      obtain ⟨sl, cl, rfl, hr5, hg5, ha5, ho1, ho2⟩ := hpost
      have HP := Lib.hid (show pParse s.data.toList = if a < s.data.toList.length then .inl ((a : Nat), (20 : Int)) else .inr p from HP.out)
      rw [Hlen.out] at HP
      obtain ⟨sad, scap, hsl⟩ := own_slice ho1
      obtain ⟨cad, ccap, hcl⟩ := own_slice ho2
      subst hsl; subst hcl
      have T0 := Lib.hid (blk_grown S0.out hg5 (by omega)); have T1 := Lib.hid (blk_grown S1.out hg5 (by omega)); have T2 := Lib.hid (blk_grown S2.out hg5 (by omega))
      have hb5 := below_grown1 hbel hg5 (by omega)
      have hz5 := hg5.size
      obtain ⟨r0, r1, r2⟩ := hr5.cells
      have r1 : w5.cell? ⟨W.heap.size + 1 + 1 + 1, 1, none⟩ = some (.int .i64 a) := r1
      have f0 := Lib.frozen_of_heap T0.out 0; have f1 := Lib.frozen_of_heap T0.out 1; have f2 := Lib.frozen_of_heap T0.out 2
      have f3 := Lib.frozen_of_heap T1.out 0
      have f4 : w5.frozen? ⟨W.heap.size + 1 + 1, 0, none⟩ = false := Lib.frozen_of_heap T2.out 0
      have g0 : w5.cell? ⟨W.heap.size, 0, none⟩ = some (.slice none 0 0) := (Lib.cell_of_heap T0.out 0).trans rfl
      have g1 : w5.cell? ⟨W.heap.size, 1, none⟩ = some (.slice none 0 0) := (Lib.cell_of_heap T0.out 1).trans rfl
      have g2 : w5.cell? ⟨W.heap.size, 2, none⟩ = some (.int .i64 0) := (Lib.cell_of_heap T0.out 2).trans rfl
      have g3 : w5.cell? ⟨W.heap.size + 1, 0, none⟩ = some (.int .i64 0) := (Lib.cell_of_heap T1.out 0).trans rfl
      have g4 : w5.cell? ⟨W.heap.size + 1 + 1, 0, none⟩ = some (.int .i64 0) := (Lib.cell_of_heap T2.out 0).trans rfl
      have Ho1 := Lib.hid (own_base ho1 (show W.heap.size ≤ w4.heap.size by omega)); have Ho2 := Lib.hid (own_base ho2 (show W.heap.size ≤ w4.heap.size by omega))
      clear r0 r2 hr5 ho1 ho2 hg5 hw4
      rcases Nat.lt_or_ge a s.size with hlt | hge
      · have hlt' : (a : Int) < s.size := by omega
        rw [if_pos hlt] at HP
        have hx : ∀ w', Calls Tryd.prog 74 #[.pointer (some ⟨W.heap.size + 1 + 1 + 1, 0, none⟩), .int .i64 a, .int .i64 20] w' fun e w'' => e = .panicked (faultV a 20) ∧ w' = w'' := fun w' => fail_any _ _ _ w'
        have Hx := Lib.hid hx
        clear hx
        go_wp2_with fail
        refine (Hx.out _).mono ?_
        rintro e w6 ⟨rfl, rfl⟩
        go_wp2_with fail
        obtain ⟨u0, u1, u2, hb6, -, -⟩ := fin3 T0.out T1.out T2.out hb5 (.slice sad p.ss.length scap) (.slice cad p.cs.length ccap) (.int .i64 p.wi) Ho1.out Ho2.out (by decide) (by decide)
        rw [HP.out]
        refine leaves_cons (f := 72) (args := #[.pointer (some ⟨W.heap.size, 0, none⟩), .pointer (some ⟨W.heap.size + 1, 0, none⟩), .pointer (some ⟨W.heap.size + 2, 0, none⟩)]) (by simp) (by simp [go_sem]) ?_
        refine (catch_panic W.heap.size a 20 _ _ _ _ _ _ u0 u1 u2).mono ?_
        rintro e u' w6 ⟨rfl, rfl, hb7, t0, t1, t2⟩
        refine ⟨_, res_parse rfl rfl rfl t0 t1 t2, ?_⟩
        exact ⟨hb6.trans hb7, rfl⟩
      · have hge' : (s.size : Int) ≤ a := by omega
        rw [if_neg (by omega)] at HP
        go_wp2_with fail
        obtain ⟨u0, u1, u2, hb6, o1, o2⟩ := fin3 T0.out T1.out T2.out hb5 (.slice sad p.ss.length scap) (.slice cad p.cs.length ccap) (.int .i64 p.wi) Ho1.out Ho2.out (by decide) (by decide)
        obtain ⟨u0, u1, u2, hb6, o1, o2⟩ := fin3 u0 u1 u2 hb6 (.slice sad p.ss.length scap) (.slice cad p.cs.length ccap) (.int .i64 p.wi) o1 o2 (by decide) (by decide)
        obtain ⟨u0, u1, u2, hb6, o1, o2⟩ := fin2 u0 u1 u2 hb6 (.int .i64 0) (.int .i64 0) o1 o2 (by decide) (by decide) (by decide) (by decide)
        rw [HP.out]
        refine leaves_cons (f := 72) (args := #[.pointer (some ⟨W.heap.size, 0, none⟩), .pointer (some ⟨W.heap.size + 1, 0, none⟩), .pointer (some ⟨W.heap.size + 2, 0, none⟩)]) (by simp) (by simp [go_sem]) ?_
        refine (catch_idle _ _ _ _).mono ?_
        rintro e u' w6 ⟨rfl, rfl, hb7⟩
        refine ⟨_, res_parse rfl rfl rfl ((hb7.block _ (blk_lt u0)).trans u0) ((hb7.block _ (blk_lt u1)).trans u1) ((hb7.block _ (blk_lt u2)).trans u2), ?_⟩
        have hg7 := grown_of_below hb7
        refine ⟨hb6.trans ⟨hb7.os, hb7.tape, hb7.output, hb7.size, fun k hk => hb7.block k (Nat.lt_of_lt_of_le hk hb6.size)⟩, _, _, rfl, o1.kept hg7 ?_, o2.kept hg7 ?_⟩
        · by_cases hx : (Value.slice sad p.ss.length scap).ownBlock = none
          · exact .inl hx
          · exact .inr hx
        · by_cases hx : (Value.slice cad p.cs.length ccap).ownBlock = none
          · exact .inl hx
          · exact .inr hx
end Go.Proofs.YtcojnojdgigmdaaDoor.WP
/- A row's cells. No program in sight. -/
namespace Go.Proofs.YtcojnojdgigmdaaDoor.WP
open Go.RowKit Go.Proofs.YtcojnojdgigmdaaDoor Go.Proofs.YtcojnojdgigmdaaDoor.PP Go.Proofs.YtcojnojdgigmdaaDoor.Mem

/-- A row's cells. -/
theorem own_cells {w : World} {b : Nat} {e : TypeId} {s n : Nat} {v : Value} {xs : List Value} (h : w.ownsRow b e s v n xs) (hn : 0 < n) :
    ∃ g cap, v = .slice (some ⟨g, 0, none⟩) n cap ∧ b ≤ g ∧ g < w.heap.size ∧ ∀ j u, xs[j]? = some u → w.cell? ⟨g, j, none⟩ = some u := by
  rcases h.2 with ⟨_, h0⟩ | ⟨g, cap, cur, rfl, hb, hg, _, _, _, htake⟩
  · omega
  · refine ⟨g, cap, rfl, hb, blk_lt hg, fun j u hu => ?_⟩
    rw [← htake, List.getElem?_take] at hu
    split at hu
    · rw [Lib.cell_of_heap hg]
      simpa using hu
    · cases hu

end Go.Proofs.YtcojnojdgigmdaaDoor.WP
