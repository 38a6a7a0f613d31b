/- The walk of oxbowlaw19.patterns: the program's and the document's pattern of plain data. -/
import Derived.Test.YtcfimponmioneaaDoorGS
import Derived.Test.YtcfimponmioneaaDoorWake
import Derived.Test.YtcfimponmioneaaDoorReg
import Derived.Test.YtcfimponmioneaaDoorApp
import Derived.Deep.RegionHeld3
import Derived.Deep.DeepCutAuto
namespace Go.Proofs.YtcfimponmioneaaDoor.WL
open Go Go.RowKit Go.Sort Go.Proofs.YtcfimponmioneaaDoor Go.Proofs.YtcfimponmioneaaDoor.PL Go.Proofs.YtcfimponmioneaaDoor.Mem Go.Proofs.YtcfimponmioneaaDoor.WP

theorem infoS1 : (Tryd.prog.info? 48).map (fun i => (i.zero, i.size, i.bytes)) = some (some (.agg #[.int .u8 0, .int .u8 0, .bool false, .int .i64 0, .int .i64 0]), 5, 24) := by kernel_rfl
theorem infoS2 : (Tryd.prog.info? 49).map (fun i => (i.zero, i.size, i.bytes)) = some (some (.agg #[.int .u8 0, .int .u8 0, .bool false, .int .i64 0, .int .i64 0]), 5, 24) := by kernel_rfl
theorem infoC1 : (Tryd.prog.info? 54).map (fun i => (i.zero, i.size, i.bytes)) = some (some (.agg #[.int .u8 0, .int .i64 0, .int .u8 0, .int .i64 0]), 4, 32) := by kernel_rfl
theorem infoC2 : (Tryd.prog.info? 55).map (fun i => (i.zero, i.size, i.bytes)) = some (some (.agg #[.int .u8 0, .int .i64 0, .int .u8 0, .int .i64 0]), 4, 32) := by kernel_rfl
theorem encG_one (e : GS) : ∀ u ∈ encG e, u.oneCell' = true := by
  intro u hu
  simp only [encG, List.mem_cons, List.not_mem_nil, or_false] at hu
  rcases hu with rfl | rfl | rfl | rfl | rfl <;> rfl
theorem encD_one (e : GC) : ∀ u ∈ encD e, u.oneCell' = true := by
  intro u hu
  simp only [encD, List.mem_cons, List.not_mem_nil, or_false] at hu
  rcases hu with rfl | rfl | rfl | rfl <;> rfl
theorem take_snocL {α : Type} (l : List α) (k : Nat) (h : k < l.length) : l.take (k + 1) = l.take k ++ [l[k]] := by
  rw [List.take_succ_eq_append_getElem h]

/-- The two patterns under way. -/
structure Pk (W w : World) (vs vc : Value) (wi : Int) (ba bb : Nat) (sa ca sb cb : Value) (n : Nat) (ss : List GS) (m : Nat) (cs : List GC) (m' : Nat) (cs' : List GC) : Prop where
  bel : Below W.heap.size W w
  pb : w.heap[W.heap.size]? = some (.cells #[vs, vc, .int .i64 wi] 25 (0, 0))
  r2 : w.heap[W.heap.size + 1]? = some (.cells #[.slice none 0 0, .slice none 0 0, .int .i64 0] 29 (0, 0))
  r3 : w.heap[W.heap.size + 2]? = some (.cells #[.slice none 0 0, .slice none 0 0, .int .i64 0] 33 (0, 0))
  ab : w.heap[ba]? = some (.cells #[sa, ca, .int .i64 wi] 29 (0, 0))
  bc : w.heap[bb]? = some (.cells #[sb, cb, .int .i64 wi] 33 (0, 0))
  la : W.heap.size + 2 < ba
  lb : W.heap.size + 2 < bb
  ne : ba ≠ bb
  o1 : w.ownsRow W.heap.size 48 5 sa n (cellsOf encG ss)
  o2 : w.ownsRow W.heap.size 49 5 sb n (cellsOf encG ss)
  o3 : w.ownsRow W.heap.size 54 4 ca m (cellsOf encD cs)
  o4 : w.ownsRow W.heap.size 55 4 cb m' (cellsOf encD cs')

abbrev nilP : Value := .slice none 0 0
theorem Pk.begin {W w3 w : World} {vs vc : Value} {wi : Int} {ba bb : Nat}
    (hw : w3 = ((W.alloc (.cells #[vs, vc, .int .i64 wi] 25)).alloc (.cells #[nilP, nilP, .int .i64 0] 29)).alloc (.cells #[nilP, nilP, .int .i64 0] 33))
    (h : (ba = W.heap.size + 3 ∧ bb = W.heap.size + 3 + 1 ∧ w = ((w3.alloc (.cells #[nilP, nilP, .int .i64 wi] 29)).alloc (.cells #[nilP, nilP, .int .i64 wi] 33)).drew) ∨
      (ba = W.heap.size + 3 + 1 ∧ bb = W.heap.size + 3 ∧ w = ((w3.alloc (.cells #[nilP, nilP, .int .i64 wi] 33)).alloc (.cells #[nilP, nilP, .int .i64 wi] 29)).drew)) : Pk W w vs vc wi ba bb nilP nilP nilP nilP 0 [] 0 [] 0 [] := by
  have hz3 : w3.heap.size = W.heap.size + 3 := by rw [hw]; simp
  have B3 : Below W.heap.size W w3 := by rw [hw]; exact (((Below.refl _ _).alloc (Nat.le_refl _) _).alloc (by simp) _).alloc (by simp; omega) _
  have P0 : w3.heap[W.heap.size]? = some (.cells #[vs, vc, .int .i64 wi] 25 (0, 0)) := by rw [hw]; exact heap_alloc (heap_alloc (heap_new rfl))
  have P1 : w3.heap[W.heap.size + 1]? = some (.cells #[nilP, nilP, .int .i64 0] 29 (0, 0)) := by rw [hw]; exact heap_alloc (heap_new (by simp))
  have P2 : w3.heap[W.heap.size + 2]? = some (.cells #[nilP, nilP, .int .i64 0] 33 (0, 0)) := by rw [hw]; exact heap_new (by simp)
  clear hw
  rcases h with ⟨rfl, rfl, rfl⟩ | ⟨rfl, rfl, rfl⟩
  · exact ⟨((B3.alloc B3.size _).alloc (by simp; omega) _).drew, Mem.heap_drew (heap_alloc (heap_alloc P0)), Mem.heap_drew (heap_alloc (heap_alloc P1)), Mem.heap_drew (heap_alloc (heap_alloc P2)), Mem.heap_drew (heap_alloc (heap_new (by omega))), Mem.heap_drew (heap_new (by simp; omega)), by omega, by omega, by omega,
      World.ownsRow_nil _ _ _ _, World.ownsRow_nil _ _ _ _, World.ownsRow_nil _ _ _ _, World.ownsRow_nil _ _ _ _⟩
  · exact ⟨((B3.alloc B3.size _).alloc (by simp; omega) _).drew, Mem.heap_drew (heap_alloc (heap_alloc P0)), Mem.heap_drew (heap_alloc (heap_alloc P1)), Mem.heap_drew (heap_alloc (heap_alloc P2)), Mem.heap_drew (heap_new (by simp; omega)), Mem.heap_drew (heap_alloc (heap_new (by omega))), by omega, by omega, by omega,
      World.ownsRow_nil _ _ _ _, World.ownsRow_nil _ _ _ _, World.ownsRow_nil _ _ _ _, World.ownsRow_nil _ _ _ _⟩
section
variable {W w w' : World} {vs vc sa ca sb cb : Value} {wi : Int} {ba bb n m m' : Nat} {ss : List GS} {cs cs' : List GC}
theorem Pk.alloc (h : Pk W w vs vc wi ba bb sa ca sb cb n ss m cs m' cs') (o : Obj) : Pk W (w.alloc o) vs vc wi ba bb sa ca sb cb n ss m cs m' cs' :=
  ⟨h.bel.alloc h.bel.size o, heap_alloc h.pb, heap_alloc h.r2, heap_alloc h.r3, heap_alloc h.ab, heap_alloc h.bc, h.la, h.lb, h.ne, h.o1.alloc _, h.o2.alloc _, h.o3.alloc _, h.o4.alloc _⟩
end

abbrev agS (x : GS) : Value := .agg #[.int .u8 x.k, .int .u8 x.nm, .bool x.neg, .int .i64 x.lo, .int .i64 x.hi]
theorem fld_pat0 (w : World) (g : Nat) : (Instr.fieldAt 29 (.pointer (some ⟨g, 0, none⟩)) 0).run Tryd.prog w = .ok (.pointer (some ⟨g, 0, none⟩)) w := by go_simp
theorem fld_rpat0 (w : World) (g : Nat) : (Instr.fieldAt 33 (.pointer (some ⟨g, 0, none⟩)) 0).run Tryd.prog w = .ok (.pointer (some ⟨g, 0, none⟩)) w := by go_simp
theorem load_sps {w : World} {g j : Nat} {u : Value} (h : w.cell? ⟨g, j, none⟩ = some u) : (Instr.loadAt 26 (.pointer (some ⟨g, j, none⟩))).run Tryd.prog w = .ok u w := by go_simp
theorem load_rsps {w : World} {g j : Nat} {u : Value} (h : w.cell? ⟨g, j, none⟩ = some u) : (Instr.loadAt 30 (.pointer (some ⟨g, j, none⟩))).run Tryd.prog w = .ok u w := by go_simp
theorem load_lstep {w : World} {g : Nat} {x : GS} (h : w.heap[g]? = some (.cells #[.int .u8 x.k, .int .u8 x.nm, .bool x.neg, .int .i64 x.lo, .int .i64 x.hi] 47 (0, 0))) :
    (Instr.loadAt 47 (.pointer (some ⟨g, 0, none⟩))).run Tryd.prog w = .ok (agS x) w := by
  have e0 : w.cell? ⟨g, 0, none⟩ = some (.int .u8 x.k) := (Lib.cell_of_heap h 0).trans rfl
  have e1 : w.cell? ⟨g, 1, none⟩ = some (.int .u8 x.nm) := (Lib.cell_of_heap h 1).trans rfl
  have e2 : w.cell? ⟨g, 2, none⟩ = some (.bool x.neg) := (Lib.cell_of_heap h 2).trans rfl
  have e3 : w.cell? ⟨g, 3, none⟩ = some (.int .i64 x.lo) := (Lib.cell_of_heap h 3).trans rfl
  have e4 : w.cell? ⟨g, 4, none⟩ = some (.int .i64 x.hi) := (Lib.cell_of_heap h 4).trans rfl
  go_simp
theorem build_sp (w : World) (x : GS) : (Instr.buildSlice 26 1 #[(0, agS x)]).run Tryd.prog w = .ok (.slice (some ⟨w.heap.size, 0, none⟩) 1 1) (w.alloc (.cells (encG x).toArray 48)) := by
  unfold encG
  go_simp
theorem build_rsp (w : World) (x : GS) : (Instr.buildSlice 30 1 #[(0, agS x)]).run Tryd.prog w = .ok (.slice (some ⟨w.heap.size, 0, none⟩) 1 1) (w.alloc (.cells (encG x).toArray 49)) := by
  unfold encG
  go_simp

/-- One step more. -/
theorem Pk.push {W w : World} {vs vc sa sb : Value} {wi : Int} {ba bb g1 c1 g2 c2 n : Nat} {ss ss' : List GS} {x : GS} (hbw : Below W.heap.size W w)
    (b3 : w.heap[W.heap.size]? = some (.cells #[vs, vc, .int .i64 wi] 25 (0, 0))) (b4 : w.heap[W.heap.size + 1]? = some (.cells #[nilP, nilP, .int .i64 0] 29 (0, 0))) (b5 : w.heap[W.heap.size + 2]? = some (.cells #[nilP, nilP, .int .i64 0] 33 (0, 0)))
    (b1 : w.heap[ba]? = some (.cells #[sa, nilP, .int .i64 wi] 29 (0, 0))) (b2 : w.heap[bb]? = some (.cells #[sb, nilP, .int .i64 wi] 33 (0, 0))) (la : W.heap.size + 2 < ba) (lb : W.heap.size + 2 < bb) (ne : ba ≠ bb)
    (hA : w.ownsRow W.heap.size 48 5 (.slice (some ⟨g1, 0, none⟩) (n + 1) c1) (n + 1) (cellsOf encG ss ++ encG x)) (hB : w.ownsRow W.heap.size 49 5 (.slice (some ⟨g2, 0, none⟩) (n + 1) c2) (n + 1) (cellsOf encG ss ++ encG x)) (hs : ss' = ss ++ [x]) :
    Pk W ((w.setCell ⟨ba, 0, none⟩ (.slice (some ⟨g1, 0, none⟩) (n + 1) c1)).setCell ⟨bb, 0, none⟩ (.slice (some ⟨g2, 0, none⟩) (n + 1) c2)) vs vc wi ba bb (.slice (some ⟨g1, 0, none⟩) (n + 1) c1) nilP (.slice (some ⟨g2, 0, none⟩) (n + 1) c2) nilP (n + 1) ss' 0 [] 0 [] := by
  have hc : cellsOf encG ss' = cellsOf encG ss ++ encG x := by rw [hs, cellsOf_snoc]
  have b2' := blk_other b2 ba 0 (.slice (some ⟨g1, 0, none⟩) (n + 1) c1) (Ne.symm ne)
  refine ⟨(hbw.setCell (p := ⟨ba, 0, none⟩) (by show W.heap.size ≤ ba; omega) _).setCell (p := ⟨bb, 0, none⟩) (by show W.heap.size ≤ bb; omega) _,
    blk_other (blk_other b3 _ 0 _ (by omega)) _ 0 _ (by omega), blk_other (blk_other b4 _ 0 _ (by omega)) _ 0 _ (by omega), blk_other (blk_other b5 _ 0 _ (by omega)) _ 0 _ (by omega),
    blk_other (blk_set b1 0 _) _ 0 _ ne, blk_set b2' 0 _, la, lb, ne, ?_, ?_, World.ownsRow_nil _ _ _ _, World.ownsRow_nil _ _ _ _⟩
  · rw [hc]; exact own_set (own_set hA b1 (by decide)) b2' (by decide)
  · rw [hc]; exact own_set (own_set hB b1 (by decide)) b2' (by decide)
section
variable {W w w' : World} {vs vc sa ca sb cb : Value} {wi : Int} {ba bb n m m' : Nat} {ss : List GS} {cs cs' : List GC}
/-- One condition more. -/
theorem Pk.pushA (h : Pk W w vs vc wi ba bb sa ca sb cb n ss m cs m' cs') {x : GC} {g cap : Nat} (hgr : w.grownBy w' ca.ownBlock)
    (hown : w'.ownsRow W.heap.size 54 4 (.slice (some ⟨g, 0, none⟩) (m + 1) cap) (m + 1) (cellsOf encD cs ++ encD x)) :
    Pk W (w'.setCell ⟨ba, 1, none⟩ (.slice (some ⟨g, 0, none⟩) (m + 1) cap)) vs vc wi ba bb sa (.slice (some ⟨g, 0, none⟩) (m + 1) cap) sb cb n ss (m + 1) (cs ++ [x]) m' cs' := by
  have la := h.la; have lb := h.lb; have ne := h.ne
  have b1 := heap_kept h.ab h.o3 (by decide) hgr
  refine ⟨(below_grown h.bel h.o3 hgr h.bel.size (Nat.le_refl _)).setCell (p := ⟨ba, 1, none⟩) (by show W.heap.size ≤ ba; omega) _,
    blk_other (heap_kept h.pb h.o3 (by decide) hgr) _ 1 _ (by omega), blk_other (heap_kept h.r2 h.o3 (by decide) hgr) _ 1 _ (by omega), blk_other (heap_kept h.r3 h.o3 (by decide) hgr) _ 1 _ (by omega),
    blk_set b1 1 _, blk_other (heap_kept h.bc h.o3 (by decide) hgr) _ 1 _ (Ne.symm ne), la, lb, ne, own_set (own_kept2 h.o1 h.o3 (by decide) hgr) b1 (by decide), own_set (own_kept2 h.o2 h.o3 (by decide) hgr) b1 (by decide), ?_, own_set (own_kept2 h.o4 h.o3 (by decide) hgr) b1 (by decide)⟩
  rw [cellsOf_snoc]; exact own_set hown b1 (by decide)
theorem Pk.pushB (h : Pk W w vs vc wi ba bb sa ca sb cb n ss m cs m' cs') {x : GC} {g cap : Nat} (hgr : w.grownBy w' cb.ownBlock)
    (hown : w'.ownsRow W.heap.size 55 4 (.slice (some ⟨g, 0, none⟩) (m' + 1) cap) (m' + 1) (cellsOf encD cs' ++ encD x)) :
    Pk W (w'.setCell ⟨bb, 1, none⟩ (.slice (some ⟨g, 0, none⟩) (m' + 1) cap)) vs vc wi ba bb sa ca sb (.slice (some ⟨g, 0, none⟩) (m' + 1) cap) n ss m cs (m' + 1) (cs' ++ [x]) := by
  have la := h.la; have lb := h.lb; have ne := h.ne
  have b1 := heap_kept h.bc h.o4 (by decide) hgr
  refine ⟨(below_grown h.bel h.o4 hgr h.bel.size (Nat.le_refl _)).setCell (p := ⟨bb, 1, none⟩) (by show W.heap.size ≤ bb; omega) _,
    blk_other (heap_kept h.pb h.o4 (by decide) hgr) _ 1 _ (by omega), blk_other (heap_kept h.r2 h.o4 (by decide) hgr) _ 1 _ (by omega), blk_other (heap_kept h.r3 h.o4 (by decide) hgr) _ 1 _ (by omega),
    blk_other (heap_kept h.ab h.o4 (by decide) hgr) _ 1 _ ne, blk_set b1 1 _, la, lb, ne, own_set (own_kept2 h.o1 h.o4 (by decide) hgr) b1 (by decide), own_set (own_kept2 h.o2 h.o4 (by decide) hgr) b1 (by decide), own_set (own_kept2 h.o3 h.o4 (by decide) hgr) b1 (by decide), ?_⟩
  rw [cellsOf_snoc]; exact own_set hown b1 (by decide)
end
/-- Three cells of a block are written. -/
theorem set3 {w w' : World} {B : Nat} {t : TypeId} {c0 c1 c2 x1 x2 x3 : Value} (hb : w.heap[B]? = some (.cells #[c0, c1, c2] t (0, 0))) (hw : w' = ((w.setCell ⟨B, 0, none⟩ x1).setCell ⟨B, 1, none⟩ x2).setCell ⟨B, 2, none⟩ x3) :
    w'.heap[B]? = some (.cells #[x1, x2, x3] t (0, 0)) ∧ (∀ {g : Nat} {o : Obj}, g ≠ B → w.heap[g]? = some o → w'.heap[g]? = some o) ∧ (∀ {b : Nat} {e : TypeId} {s k : Nat} {v : Value} {xs : List Value}, w.ownsRow b e s v k xs → e ≠ t → w'.ownsRow b e s v k xs) ∧
      (∀ {W : World}, W.heap.size ≤ B → Below W.heap.size W w → Below W.heap.size W w') := by
  have a1 := blk_set hb 0 x1
  have a2 := blk_set a1 1 x2
  have a3 := blk_set a2 2 x3
  rw [← hw] at a3
  refine ⟨a3, fun hg ho => ?_, fun ho he => ?_, fun hB hw' => ?_⟩
  · rw [hw]; exact blk_other (blk_other (blk_other ho _ 0 x1 hg) _ 1 x2 hg) _ 2 x3 hg
  · rw [hw]; exact own_set (own_set (own_set ho hb he) a1 he) a2 he
  · rw [hw]; exact ((hw'.setCell (p := ⟨B, 0, none⟩) hB _).setCell (p := ⟨B, 1, none⟩) hB _).setCell (p := ⟨B, 2, none⟩) hB _
/-- The results' cells are written. -/
theorem Pk.fin {W w w1 w2 w3 : World} {vs vc sa ca sb cb : Value} {wi : Int} {ba bb n m m' : Nat} {ss : List GS} {cs cs' : List GC} {x1 x2 x3 y1 y2 y3 : Value} (h : Pk W w vs vc wi ba bb sa ca sb cb n ss m cs m' cs')
    (h1 : w1 = ((w.setCell ⟨W.heap.size + 1, 0, none⟩ x1).setCell ⟨W.heap.size + 1, 1, none⟩ x2).setCell ⟨W.heap.size + 1, 2, none⟩ x3) (h2 : w2 = ((w1.setCell ⟨W.heap.size + 2, 0, none⟩ y1).setCell ⟨W.heap.size + 2, 1, none⟩ y2).setCell ⟨W.heap.size + 2, 2, none⟩ y3) (h3 : w3 = w2.drew) :
    Below W.heap.size W w3 ∧ w3.ownsRow W.heap.size 48 5 sa n (cellsOf encG ss) ∧ w3.ownsRow W.heap.size 49 5 sb n (cellsOf encG ss) ∧ w3.ownsRow W.heap.size 54 4 ca m (cellsOf encD cs) ∧ w3.ownsRow W.heap.size 55 4 cb m' (cellsOf encD cs') ∧
      w3.heap[W.heap.size + 1]? = some (.cells #[x1, x2, x3] 29 (0, 0)) ∧ w3.heap[W.heap.size + 2]? = some (.cells #[y1, y2, y3] 33 (0, 0)) := by
  obtain ⟨p1, p2, p3, p4⟩ := set3 h.r2 h1
  obtain ⟨q1, q2, q3, q4⟩ := set3 (p2 (by omega) h.r3) h2
  subst h3
  exact ⟨(q4 (by omega) (p4 (by omega) h.bel)).drew, (q3 (p3 h.o1 (by decide)) (by decide)).drew, (q3 (p3 h.o2 (by decide)) (by decide)).drew, (q3 (p3 h.o3 (by decide)) (by decide)).drew, (q3 (p3 h.o4 (by decide)) (by decide)).drew, Mem.heap_drew (q2 (by omega) p1), Mem.heap_drew q1⟩
/-- The function's results, read out of their cells. -/
theorem res_pats {w : World} {B B' : Nat} {c0 c1 c2 d0 d1 d2 : Value} {tmps : Array Value} (h2 : tmps[2]? = some (.pointer (some ⟨B, 0, none⟩))) (h3 : tmps[3]? = some (.pointer (some ⟨B', 0, none⟩)))
    (e0 : w.cell? ⟨B, 0, none⟩ = some c0) (e1 : w.cell? ⟨B, 1, none⟩ = some c1) (e2 : w.cell? ⟨B, 2, none⟩ = some c2) (k0 : w.cell? ⟨B', 0, none⟩ = some d0) (k1 : w.cell? ⟨B', 1, none⟩ = some d1) (k2 : w.cell? ⟨B', 2, none⟩ = some d2) :
    (results Tryd.f5 tmps).run Tryd.prog w = .ok (.tuple #[.agg #[c0, c1, c2], .agg #[d0, d1, d2]]) w := by
  simp [results, Tryd.results5, go_sem, h2, h3, e0, e1, e2, k0, k1, k2]

def PatsPost (W : World) (ss : List GS) (cs : List GC) (wi : Int) (e : Ending) (w : World) : Prop :=
  ∃ sa ca sb cb, e = .returned (.tuple #[.agg #[sa, ca, .int .i64 wi], .agg #[sb, cb, .int .i64 wi]]) ∧ Below W.heap.size W w ∧
    w.ownsRow W.heap.size 48 5 sa ss.length (cellsOf encG ss) ∧ w.ownsRow W.heap.size 49 5 sb ss.length (cellsOf encG ss) ∧
    w.ownsRow W.heap.size 54 4 ca cs.length (cellsOf encD cs) ∧ w.ownsRow W.heap.size 55 4 cb cs.length (cellsOf encD cs)

set_option maxRecDepth 100000 in
set_option maxHeartbeats 3200000 in
theorem pats_any (vs vc : Value) (wi : Int) (ss : List GS) (cs : List GC) (W : World) (h1 : Stps W W.heap.size vs ss) (h2 : Cnds W W.heap.size vc cs) (hl1 : ss.length * 24 ≤ 140737488351232) (hl2 : cs.length * 32 ≤ 140737488351232) :
    Calls Tryd.prog 5 #[.agg #[vs, vc, .int .i64 wi]] W (PatsPost W ss cs wi) := by
  obtain ⟨a1, c1, rfl⟩ := Sl.shape h1
  obtain ⟨a2, c2, rfl⟩ := Sl.shape h2
  have H1 := Lib.hid h1; have H2 := Lib.hid h2
  clear h1 h2
  go_enter Tryd.func5, Tryd.ntmps5
  go_wp2_with fail
  obtain ⟨w3, hw3⟩ : ∃ w3, w3 = ((W.alloc (.cells #[.slice a1 ss.length c1, .slice a2 cs.length c2, .int .i64 wi] 25)).alloc (.cells #[.slice none 0 0, .slice none 0 0, .int .i64 0] 29)).alloc (.cells #[.slice none 0 0, .slice none 0 0, .int .i64 0] 33) := ⟨_, rfl⟩
  have hz3 : w3.heap.size = W.heap.size + 3 := by rw [hw3]; simp
  have B3 := Lib.hid (show Below W.heap.size W w3 by rw [hw3]; exact (((Below.refl _ _).alloc (Nat.le_refl _) _).alloc (by simp) _).alloc (by simp; omega) _)
  have P0 := Lib.hid (show w3.heap[W.heap.size]? = some (.cells #[.slice a1 ss.length c1, .slice a2 cs.length c2, .int .i64 wi] 25 (0, 0)) by rw [hw3]; exact heap_alloc (heap_alloc (heap_new rfl)))
  have P1 := Lib.hid (show w3.heap[W.heap.size + 1]? = some (.cells #[.slice none 0 0, .slice none 0 0, .int .i64 0] 29 (0, 0)) by rw [hw3]; exact heap_alloc (heap_new (by simp)))
  have P2 := Lib.hid (show w3.heap[W.heap.size + 2]? = some (.cells #[.slice none 0 0, .slice none 0 0, .int .i64 0] 33 (0, 0)) by rw [hw3]; exact heap_new (by simp))
  rw [← hw3]
  have HW3 := Lib.hid hw3
  clear hw3
  have x2 : w3.cell? ⟨W.heap.size, 2, none⟩ = some (.int .i64 wi) := (Lib.cell_of_heap P0.out 2).trans rfl
  go_cut [4, 5] (fun s4 s5 wx => ∃ ba bb : Nat, s4 = .pointer (some ⟨ba, 0, none⟩) ∧ s5 = .pointer (some ⟨bb, 0, none⟩) ∧ Pk W wx (.slice a1 ss.length c1) (.slice a2 cs.length c2) wi ba bb (.slice none 0 0) (.slice none 0 0) (.slice none 0 0) (.slice none 0 0) 0 [] 0 [] 0 [])
  case first =>
    go_region_held3 (fun w' => w'.cell? ⟨W.heap.size, 2, none⟩ = some (.int .i64 wi)) (go_keep) (fail)
    all_goals (go_wp2_with fail; go_meet)
    · exact ⟨_, _, rfl, rfl, Pk.begin HW3.out (.inl ⟨rfl, rfl, rfl⟩)⟩
    · exact ⟨_, _, rfl, rfl, Pk.begin HW3.out (.inr ⟨rfl, rfl, rfl⟩)⟩
  case rest =>
    obtain ⟨ba, bb, rfl, rfl, hpk⟩ := hcut
    have HPK := Lib.hid hpk
    clear hpk B3 P0 P1 P2 HW3 x2
    have q0 : wc.cell? ⟨W.heap.size, 0, none⟩ = some (.slice a1 ss.length c1) := (Lib.cell_of_heap HPK.out.pb 0).trans rfl
    have hba := HPK.out.la; have hbb := HPK.out.lb; have hne := HPK.out.ne
    obtain ⟨i0, hi, hz0, hz1, hz2⟩ := info_parts infoS1
    obtain ⟨i1, hj, hy0, hy1, hy2⟩ := info_parts infoS2
    go_wp2_with fail
    go_loopw [19] (fun u wr => ∃ k : Nat, k ≤ ss.length ∧ u = .int .i64 k ∧ ∃ sa sb, Pk W wr (.slice a1 ss.length c1) (.slice a2 cs.length c2) wi ba bb sa nilP sb nilP k (ss.take k) 0 [] 0 []) (fun u _ => ss.length - (intOf u).toNat)
    case atStart => exact ⟨0, by omega, rfl, _, _, HPK.out⟩
    case round =>
      obtain ⟨k, hk, rfl, sa, sb, hpk⟩ := hrel
      have HR := Lib.hid hpk
      clear hpk
      by_cases hlt : k < ss.length
      · obtain ⟨b, o, c', hc', hbl, g0, g1, g2, g3, g4⟩ := H1.out.at_ hlt
        obtain ⟨rfl, rfl⟩ : a1 = some ⟨b, o, none⟩ ∧ c1 = c' := by simpa using hc'
        have hlt' : (k : Int) < (ss.length : Int) := by omega
        have hk0 : (0 : Int) ≤ (k : Int) := by omega
        have hc0 := (HR.out.bel.cell (p := ⟨b, o + k * 5, none⟩) hbl).trans g0
        have hc1 := (HR.out.bel.cell (p := ⟨b, o + k * 5 + 1, none⟩) hbl).trans g1
        have hc2 := (HR.out.bel.cell (p := ⟨b, o + k * 5 + 2, none⟩) hbl).trans g2
        have hc3 := (HR.out.bel.cell (p := ⟨b, o + k * 5 + 3, none⟩) hbl).trans g3
        have hc4 := (HR.out.bel.cell (p := ⟨b, o + k * 5 + 4, none⟩) hbl).trans g4
        have HS := Lib.hid (show ss.take (k + 1) = ss.take k ++ [ss[k]] from take_snocL ss k hlt)
        obtain ⟨x, hx⟩ : ∃ x, ss[k] = x := ⟨_, rfl⟩
        rw [hx] at hc0 hc1 hc2 hc3 hc4 HS
        have HA := Lib.hid (HR.out.alloc (.cells #[.int .u8 x.k, .int .u8 x.nm, .bool x.neg, .int .i64 x.lo, .int .i64 x.hi] 47))
        have X7 := Lib.hid (blk_new wr (.cells #[.int .u8 x.k, .int .u8 x.nm, .bool x.neg, .int .i64 x.lo, .int .i64 x.hi] 47))
        clear g0 g1 g2 g3 g4 hc' hx
        go_wp2_with fail
        generalize hw5 : wr.alloc (.cells #[.int .u8 x.k, .int .u8 x.nm, .bool x.neg, .int .i64 x.lo, .int .i64 x.hi] 47) = w5 at *
        generalize wr.heap.size = H7 at *
        clear hw5 hc0 hc1 hc2 hc3 hc4 HR
        refine Reg.two_rows (W := W) (h := 11) (t := 3) (known := [(0, 23, .pointer (some ⟨ba, 0, none⟩)), (1, 24, sa), (2, 25, agS x), (5, 28, .pointer (some ⟨bb, 0, none⟩)), (6, 29, sb), (7, 30, agS x), (10, 33, .pointer (some ⟨ba, 0, none⟩))])
          (boxes := [(H7, #[.int .u8 x.k, .int .u8 x.nm, .bool x.neg, .int .i64 x.lo, .int .i64 x.hi], 47), (ba, #[sa, nilP, .int .i64 wi], 29), (bb, #[sb, nilP, .int .i64 wi], 33),
            (W.heap.size, #[.slice (some ⟨b, o, none⟩) ss.length c1, .slice a2 cs.length c2, .int .i64 wi], 25), (W.heap.size + 1, #[nilP, nilP, .int .i64 0], 29), (W.heap.size + 2, #[nilP, nilP, .int .i64 0], 33)])
          (A := { ib := 3, ip := 4, sb := 26, sp := 27, base := W.heap.size, e := 48, sz := 5, v := sa, n := k, xs := cellsOf encG (ss.take k), news := encG x })
          (B := { ib := 8, ip := 9, sb := 31, sp := 32, base := W.heap.size, e := 49, sz := 5, v := sb, n := k, xs := cellsOf encG (ss.take k), news := encG x })
          (srcA := 24) (srcB := 29) (jsA := 1) (jsB := 6) (tA := 26) (tB := 30) (iA := i0) (iB := i1) (zA := .agg #[.int .u8 0, .int .u8 0, .bool false, .int .i64 0, .int .i64 0]) (zB := .agg #[.int .u8 0, .int .u8 0, .bool false, .int .i64 0, .int .i64 0]) (bA := 24) (bB := 24)
          (by kernel_rfl) rfl (by kernel_rfl) (by kernel_rfl) (by kernel_rfl) (show (48 : TypeId) ≠ 49 by decide) (show [0, 1, 2, 5, 6, 7, 10, 3, 4, 8, 9].Nodup by decide) (show ∀ i, i < 11 → i ∈ [0, 1, 2, 5, 6, 7, 10, 3, 4, 8, 9] by decide) (show [23, 24, 25, 28, 29, 30, 33, 26, 27, 31, 32].Nodup by decide) (show ∀ s ∈ [23, 24, 25, 28, 29, 30, 33, 26, 27, 31, 32], s < 66 by decide) (show ∀ i ∈ [0, 1, 2, 5, 6, 7, 10, 3, 4, 8, 9], i < 11 by decide)
          ?_ ?_ ?_ HA.out.bel ?_ HA.out.o1 HA.out.o2 ?_
        · intro i s y hm
          simp only [List.mem_cons, List.not_mem_nil, or_false, Prod.mk.injEq] at hm
          rcases hm with ⟨rfl, rfl, rfl⟩ | ⟨rfl, rfl, rfl⟩ | ⟨rfl, rfl, rfl⟩ | ⟨rfl, rfl, rfl⟩ | ⟨rfl, rfl, rfl⟩ | ⟨rfl, rfl, rfl⟩ | ⟨rfl, rfl, rfl⟩
          · refine ⟨_, rfl, rfl, rfl, fun a w hs _ => ?_⟩
            have h4 := hs.out 4 (show 4 ∉ [23, 24, 25, 28, 29, 30, 33, 26, 27, 31, 32] by decide)
            exact Ord.run_fld (Reg.eval_tmp (h4.trans rfl)) (fld_pat0 w ba)
          · refine ⟨_, rfl, rfl, rfl, fun a w hs hk => ?_⟩
            exact Reg.run_load (Reg.eval_tmp (hk 0 23 _ (by simp) (Reg.waits_of (by kernel_rfl)))) (load_sps ((Lib.cell_of_heap (hs.boxes ba #[y, nilP, .int .i64 wi] 29 (by simp)) 0).trans rfl))
          · refine ⟨_, rfl, rfl, rfl, fun a w hs _ => ?_⟩
            have h7 := hs.out 7 (show 7 ∉ [23, 24, 25, 28, 29, 30, 33, 26, 27, 31, 32] by decide)
            exact Reg.run_load (Reg.eval_tmp (h7.trans rfl)) (load_lstep (hs.boxes H7 _ _ (by simp)))
          · refine ⟨_, rfl, rfl, rfl, fun a w hs _ => ?_⟩
            have h5 := hs.out 5 (show 5 ∉ [23, 24, 25, 28, 29, 30, 33, 26, 27, 31, 32] by decide)
            exact Ord.run_fld (Reg.eval_tmp (h5.trans rfl)) (fld_rpat0 w bb)
          · refine ⟨_, rfl, rfl, rfl, fun a w hs hk => ?_⟩
            exact Reg.run_load (Reg.eval_tmp (hk 5 28 _ (by simp) (Reg.waits_of (by kernel_rfl)))) (load_rsps ((Lib.cell_of_heap (hs.boxes bb #[y, nilP, .int .i64 wi] 33 (by simp)) 0).trans rfl))
          · refine ⟨_, rfl, rfl, rfl, fun a w hs _ => ?_⟩
            have h7 := hs.out 7 (show 7 ∉ [23, 24, 25, 28, 29, 30, 33, 26, 27, 31, 32] by decide)
            exact Reg.run_load (Reg.eval_tmp (h7.trans rfl)) (load_lstep (hs.boxes H7 _ _ (by simp)))
          · refine ⟨_, rfl, rfl, rfl, fun a w hs _ => ?_⟩
            have h4 := hs.out 4 (show 4 ∉ [23, 24, 25, 28, 29, 30, 33, 26, 27, 31, 32] by decide)
            exact Ord.run_fld (Reg.eval_tmp (h4.trans rfl)) (fld_pat0 w ba)
        · refine { base := rfl, build := ⟨_, rfl, rfl, rfl, fun a w hs hkn => ?_⟩, app := ⟨_, rfl, rfl, rfl, rfl, Reg.waits_of (by kernel_rfl), Reg.waits_of (by kernel_rfl)⟩, src := by simp, ht := Tryd.underlying26, hi := hi, hz := hz0, hsize := hz1, hby := hz2, hzs := rfl, hsz := (show 0 < 5 by decide), hnl := rfl, h1 := encG_one _, h63 := (show k + 1 ≤ maxLen by unfold maxLen; omega), hbytes := (show (k + 1) * 24 ≤ 140737488355328 by omega), hbox := ?_ }
          · exact Reg.run_build (Reg.eval_tmp (hkn 2 25 (agS x) (by simp) (Reg.waits_of (by kernel_rfl)))) (build_sp w x)
          · intro g cs t hm
            simp only [List.mem_cons, List.not_mem_nil, or_false, Prod.mk.injEq] at hm
            rcases hm with ⟨_, _, rfl⟩ | ⟨_, _, rfl⟩ | ⟨_, _, rfl⟩ | ⟨_, _, rfl⟩ | ⟨_, _, rfl⟩ | ⟨_, _, rfl⟩ <;> (show (48 : TypeId) ≠ _; decide)
        · refine { base := rfl, build := ⟨_, rfl, rfl, rfl, fun a w hs hkn => ?_⟩, app := ⟨_, rfl, rfl, rfl, rfl, Reg.waits_of (by kernel_rfl), Reg.waits_of (by kernel_rfl)⟩, src := by simp, ht := Tryd.underlying30, hi := hj, hz := hy0, hsize := hy1, hby := hy2, hzs := rfl, hsz := (show 0 < 5 by decide), hnl := rfl, h1 := encG_one _, h63 := (show k + 1 ≤ maxLen by unfold maxLen; omega), hbytes := (show (k + 1) * 24 ≤ 140737488355328 by omega), hbox := ?_ }
          · exact Reg.run_build (Reg.eval_tmp (hkn 7 30 (agS x) (by simp) (Reg.waits_of (by kernel_rfl)))) (build_rsp w x)
          · intro g cs t hm
            simp only [List.mem_cons, List.not_mem_nil, or_false, Prod.mk.injEq] at hm
            rcases hm with ⟨_, _, rfl⟩ | ⟨_, _, rfl⟩ | ⟨_, _, rfl⟩ | ⟨_, _, rfl⟩ | ⟨_, _, rfl⟩ | ⟨_, _, rfl⟩ <;> (show (49 : TypeId) ≠ _; decide)
        · intro g cs t hm
          simp only [List.mem_cons, List.not_mem_nil, or_false, Prod.mk.injEq] at hm
          rcases hm with ⟨rfl, rfl, rfl⟩ | ⟨rfl, rfl, rfl⟩ | ⟨rfl, rfl, rfl⟩ | ⟨rfl, rfl, rfl⟩ | ⟨rfl, rfl, rfl⟩ | ⟨rfl, rfl, rfl⟩
          · exact X7.out
          · exact HA.out.ab
          · exact HA.out.bc
          · exact HA.out.pb
          · exact HA.out.r2
          · exact HA.out.r3
        · intro w x1 g1 c1' x2 g2 c2' hbw hbx hA hB
          have b1 := hbx ba #[sa, nilP, .int .i64 wi] 29 (by simp)
          have b2 := hbx bb #[sb, nilP, .int .i64 wi] 33 (by simp)
          have b3 := hbx W.heap.size #[.slice (some ⟨b, o, none⟩) ss.length c1, .slice a2 cs.length c2, .int .i64 wi] 25 (by simp)
          have b4 := hbx (W.heap.size + 1) #[nilP, nilP, .int .i64 0] 29 (by simp)
          have b5 := hbx (W.heap.size + 2) #[nilP, nilP, .int .i64 0] 33 (by simp)
          have HQ := Lib.hid (Pk.push hbw b3 b4 b5 b1 b2 HA.out.la HA.out.lb HA.out.ne hA hB HS.out)
          have y0 := (Lib.cell_of_heap b1 0).trans rfl
          have y1 := (Lib.cell_of_heap b2 0).trans rfl
          have f0 := Lib.frozen_of_heap b1 0
          have f1 := Lib.frozen_of_heap b2 0
          clear hbw hbx hA hB b1 b2 b3 b4 b5
          simp only [Reg.puts, List.map_cons, List.map_nil, List.cons_append, List.nil_append]
          go_wp2_with fail
          go_roundw
          case rel => exact ⟨k + 1, by omega, by go_num, _, _, HQ.out⟩
          case measure => simp [intOf]; omega
      · obtain rfl : k = ss.length := by omega
        have HR := Lib.hid (show Pk W wr (.slice a1 ss.length c1) (.slice a2 cs.length c2) wi ba bb sa nilP sb nilP ss.length ss 0 [] 0 [] by have := HR.out; rwa [List.take_length] at this)
        have q1 : wr.cell? ⟨W.heap.size, 1, none⟩ = some (.slice a2 cs.length c2) := (Lib.cell_of_heap HR.out.pb 1).trans rfl
        clear i0 hi hz0 hz1 hz2 i1 hj hy0 hy1 hy2
        obtain ⟨i0, hi, hz0, hz1, hz2⟩ := info_parts infoC1
        obtain ⟨i1, hj, hy0, hy1, hy2⟩ := info_parts infoC2
        go_wp2_with fail
        obtain ⟨wo, rfl⟩ : ∃ wo : World, wo = wr := ⟨_, rfl⟩
        go_loopw [39] (fun u wr => ∃ k : Nat, k ≤ cs.length ∧ u = .int .i64 k ∧ ∃ ca cb, Pk W wr (.slice a1 ss.length c1) (.slice a2 cs.length c2) wi ba bb sa ca sb cb ss.length ss k (cs.take k) k (cs.take k)) (fun u _ => cs.length - (intOf u).toNat)
        case atStart => exact ⟨0, by omega, rfl, _, _, HR.out⟩
        case round =>
          obtain ⟨k, hk, rfl, ca, cb, hpk⟩ := hrel
          have HR := Lib.hid hpk
          clear hpk q1
          by_cases hlt : k < cs.length
          · obtain ⟨b, o, c', hc', hbl, g0, g1, g2, g3⟩ := H2.out.at_ hlt
            obtain ⟨rfl, rfl⟩ : a2 = some ⟨b, o, none⟩ ∧ c2 = c' := by simpa using hc'
            have hlt' : (k : Int) < (cs.length : Int) := by omega
            have hk0 : (0 : Int) ≤ (k : Int) := by omega
            have hc0 := (HR.out.bel.cell (p := ⟨b, o + k * 4, none⟩) hbl).trans g0
            have hc1 := (HR.out.bel.cell (p := ⟨b, o + k * 4 + 1, none⟩) hbl).trans g1
            have hc2 := (HR.out.bel.cell (p := ⟨b, o + k * 4 + 2, none⟩) hbl).trans g2
            have hc3 := (HR.out.bel.cell (p := ⟨b, o + k * 4 + 3, none⟩) hbl).trans g3
            have HS := Lib.hid (show cs.take (k + 1) = cs.take k ++ [cs[k]] from take_snocL cs k hlt)
            obtain ⟨x, hx⟩ : ∃ x, cs[k] = x := ⟨_, rfl⟩
            rw [hx] at hc0 hc1 hc2 hc3 HS
            have HA := Lib.hid (HR.out.alloc (.cells #[.int .u8 x.l, .int .i64 x.op, .int .u8 x.r, .int .i64 x.k] 51))
            have X9 := Lib.hid (blk_new wr (.cells #[.int .u8 x.l, .int .i64 x.op, .int .u8 x.r, .int .i64 x.k] 51))
            have hz9 : (wr.alloc (.cells #[.int .u8 x.l, .int .i64 x.op, .int .u8 x.r, .int .i64 x.k] 51)).heap.size = wr.heap.size + 1 := by simp
            have HZ9 := Lib.hid hz9
            clear g0 g1 g2 g3 hc' hx hz9
            have y0 := (Lib.cell_of_heap HA.out.ab 1).trans rfl
            have hna : ba ≠ wr.heap.size := Nat.ne_of_lt (blk_lt HR.out.ab)
            go_wp2_with (at_builtin; refine wpList_append_lies _ rfl (.tmp 44) (.tmp 54) 27 rfl W.heap.size 54 i0 _ 4 32 Tryd.underlying27 hi hz0 hz1 hz2 rfl (by decide) _ _ _ rfl (HA.out.o3.alloc _) ⟨wr.heap.size + 1, 0, none⟩ 1 1 (encD x) rfl rfl ?c1 ?c2 (by decide) ?c3 ?c4 ?c5 _ rfl ?_)
            case c1 =>
              intro j u hu
              have h := new_cell (wr.alloc (.cells #[.int .u8 x.l, .int .i64 x.op, .int .u8 x.r, .int .i64 x.k] 51)) (encD x).toArray 54 j u (by simpa using hu)
              rw [HZ9.out] at h
              exact h
            case c2 => exact encD_one x
            case c3 => unfold maxLen; omega
            case c4 => omega
            case c5 => have := HR.out.bel.size; simp; omega
            intro gn cap w13 hown hgr _ _
            have HP13 := Lib.hid (Pk.pushA (HA.out.alloc _) hgr hown)
            have X13 := Lib.hid (heap_kept (heap_alloc X9.out) (HA.out.o3.alloc _) (by decide) hgr)
            have b13 := heap_kept (heap_alloc HA.out.ab) (HA.out.o3.alloc _) (by decide) hgr
            have X14 := Lib.hid (blk_other X13.out ba 1 (.slice (some ⟨gn, 0, none⟩) (k + 1) cap) (Ne.symm hna))
            have z0 := (Lib.cell_of_heap b13 1).trans rfl
            have zf := Lib.frozen_of_heap b13 1
            have hsz13 := Lib.hid hgr.size
            have y1 : w13.cell? ⟨bb, 1, none⟩ = some cb := (Lib.cell_of_heap (heap_kept (heap_alloc HA.out.bc) (HA.out.o3.alloc _) (by decide) hgr) 1).trans rfl
            have n0 := (Lib.cell_of_heap X13.out 0).trans rfl
            have n1 := (Lib.cell_of_heap X13.out 1).trans rfl
            have n2 := (Lib.cell_of_heap X13.out 2).trans rfl
            have n3 := (Lib.cell_of_heap X13.out 3).trans rfl
            have HZ14 := Lib.hid (show (w13.setCell ⟨ba, 1, none⟩ (.slice (some ⟨gn, 0, none⟩) (k + 1) cap)).heap.size = w13.heap.size by simp)
            clear hown hgr b13 y0 HA X9 hc0 hc1 hc2 hc3
            go_wp2_with (at_builtin; refine wpList_append_lies _ rfl (.tmp 58) (.tmp 60) 31 rfl W.heap.size 55 i1 _ 4 32 Tryd.underlying31 hj hy0 hy1 hy2 rfl (by decide) _ _ _ rfl (HP13.out.o4.alloc _) ⟨w13.heap.size, 0, none⟩ 1 1 (encD x) rfl rfl ?d1 ?d2 (by decide) ?d3 ?d4 ?d5 _ rfl ?_)
            case d1 =>
              intro j u hu
              have h := new_cell (w13.setCell ⟨ba, 1, none⟩ (.slice (some ⟨gn, 0, none⟩) (k + 1) cap)) (encD x).toArray 55 j u (by simpa using hu)
              rw [HZ14.out] at h
              exact h
            case d2 => exact encD_one x
            case d3 => unfold maxLen; omega
            case d4 => omega
            case d5 => have := HP13.out.bel.size; exact Nat.le_trans this (by simp)
            intro gm cap2 w15 hown hgr _ _
            have HP15 := Lib.hid (Pk.pushB (HP13.out.alloc _) hgr hown)
            have b15 := heap_kept (heap_alloc HP13.out.bc) (HP13.out.o4.alloc _) (by decide) hgr
            have z0 := (Lib.cell_of_heap b15 1).trans rfl
            have zf := Lib.frozen_of_heap b15 1
            clear hown hgr b15 HP13 X13 X14 n0 n1 n2 n3 y1
            go_wp2_with fail
            go_roundw
            case rel => exact ⟨k + 1, by omega, by go_num, _, _, by rw [HS.out]; exact HP15.out⟩
            case measure => simp [intOf]; omega
          · obtain rfl : k = cs.length := by omega
            have HR := Lib.hid (show Pk W wr (.slice a1 ss.length c1) (.slice a2 cs.length c2) wi ba bb sa ca sb cb ss.length ss cs.length cs cs.length cs by have := HR.out; rwa [List.take_length] at this)
            obtain ⟨d1, e1, rfl⟩ := own_slice HR.out.o1
            obtain ⟨d2, e2, rfl⟩ := own_slice HR.out.o2
            obtain ⟨d3, e3, rfl⟩ := own_slice HR.out.o3
            obtain ⟨d4, e4, rfl⟩ := own_slice HR.out.o4
            have b0 := (Lib.cell_of_heap HR.out.ab 0).trans rfl
            have b1 := (Lib.cell_of_heap HR.out.ab 1).trans rfl
            have b2 := (Lib.cell_of_heap HR.out.ab 2).trans rfl
            have k0 := (Lib.cell_of_heap HR.out.bc 0).trans rfl
            have k1 := (Lib.cell_of_heap HR.out.bc 1).trans rfl
            have k2 := (Lib.cell_of_heap HR.out.bc 2).trans rfl
            have r0 := (Lib.cell_of_heap HR.out.r2 0).trans rfl
            have r1 := (Lib.cell_of_heap HR.out.r2 1).trans rfl
            have r2 := (Lib.cell_of_heap HR.out.r2 2).trans rfl
            have s0 := (Lib.cell_of_heap HR.out.r3 0).trans rfl
            have s1 := (Lib.cell_of_heap HR.out.r3 1).trans rfl
            have s2 := (Lib.cell_of_heap HR.out.r3 2).trans rfl
            have f2 : ∀ j, wr.frozen? ⟨W.heap.size + 1, j, none⟩ = false := fun j => Lib.frozen_of_heap HR.out.r2 j
            have f3 : ∀ j, wr.frozen? ⟨W.heap.size + 2, j, none⟩ = false := fun j => Lib.frozen_of_heap HR.out.r3 j
            have hm1 : W.heap.size + 1 ≠ ba := by omega
            have hm2 : W.heap.size + 2 ≠ ba := by omega
            have hm3 : W.heap.size + 1 ≠ bb := by omega
            have hm4 : W.heap.size + 2 ≠ bb := by omega
            go_wp2_with fail
            go_region_held3 (fun w' => w'.cell? ⟨ba, 0, none⟩ = some (.slice d1 ss.length e1) ∧ w'.cell? ⟨ba, 1, none⟩ = some (.slice d3 cs.length e3) ∧ w'.cell? ⟨ba, 2, none⟩ = some (.int .i64 wi) ∧ w'.cell? ⟨bb, 0, none⟩ = some (.slice d2 ss.length e2) ∧ w'.cell? ⟨bb, 1, none⟩ = some (.slice d4 cs.length e4) ∧ w'.cell? ⟨bb, 2, none⟩ = some (.int .i64 wi)) (go_keep) (fail)
            obtain ⟨q1, q2, q3, q4, q5, q6, q7⟩ := HR.out.fin (x1 := .slice d1 ss.length e1) (x2 := .slice d3 cs.length e3) (x3 := .int .i64 wi) (y1 := .slice d2 ss.length e2) (y2 := .slice d4 cs.length e4) (y3 := .int .i64 wi) rfl rfl rfl
            go_wp2_with fail
            exact bodyPost_ret (res_pats rfl rfl ((Lib.cell_of_heap q6 0).trans rfl) ((Lib.cell_of_heap q6 1).trans rfl) ((Lib.cell_of_heap q6 2).trans rfl) ((Lib.cell_of_heap q7 0).trans rfl) ((Lib.cell_of_heap q7 1).trans rfl) ((Lib.cell_of_heap q7 2).trans rfl)) rfl ⟨_, _, _, _, rfl, q1, q2, q3, q4, q5⟩
end Go.Proofs.YtcfimponmioneaaDoor.WL
