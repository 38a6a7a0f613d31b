/- For PlanNames: the walks of its closure 'turn' and of 'alike'; the renamed pattern under way. -/
import Derived.Test.YtcfimponmioneaaPNames
import Derived.Test.YtcfimponmioneaaWSame20
import Derived.Test.YtcfimponmioneaaPats
import Derived.Test.YtcfimponmioneaaOrd3
namespace Go.Proofs.Ytcfimponmioneaa.WL
open Go Go.RowKit Go.Sort Go.Proofs.Ytcfimponmioneaa Go.Proofs.Ytcfimponmioneaa.PL Go.Proofs.Ytcfimponmioneaa.PP Go.Proofs.Ytcfimponmioneaa.Mem Go.Proofs.Ytcfimponmioneaa.WP

set_option maxRecDepth 100000 in
theorem turn_any (k b : Int) (bx : Nat) (W : World) (hk : 0 ≤ k ∧ k < 26) (hb : b = 0 ∨ isNm b) (hc : W.cell? ⟨bx, 0, none⟩ = some (.int .i64 k)) :
    Calls Try.prog 26 #[.int .u8 b, .pointer (some ⟨bx, 0, none⟩)] W fun e w' => e = .returned (.int .u8 (tn k b)) ∧ w' = W := by
  go_enter Try.func26, Try.ntmps26
  rcases hb with rfl | hb
  · go_wp2_with fail
    go_ret
    exact ⟨rfl, rfl⟩
  · unfold isNm at hb
    have hb0 : (b == 0) = false := by simp; omega
    have hb1 : 0 ≤ b - 97 := by omega
    have hb2 : b - 97 ≤ 25 := by omega
    have htn : tn k b = 97 + (b - 97 + k) % 26 := by unfold tn; rw [if_neg (by omega)]
    have HTN := Lib.hid htn
    clear htn
    go_wp2_with fail
    go_ret
    exact ⟨by rw [HTN.out]; rfl, rfl⟩

set_option maxRecDepth 100000 in
set_option maxHeartbeats 3200000 in
theorem alike_any (v1 v2 : Value) (l : List PT) (w : World) (L : Nat) (h1 : Tests w L w.heap.size v1 l) (h2 : Tests w L w.heap.size v2 l) (h16 : l.length ≤ 16) :
    Calls Try.prog 27 #[v1, v2] w fun e w' => e = .returned (.bool true) ∧ Grw w w' := by
  obtain ⟨a1, c1, rfl⟩ := Sl.shape h1.1
  obtain ⟨a2, c2, rfl⟩ := Sl.shape h2.1
  have H1 := Lib.hid h1
  have H2 := Lib.hid h2
  have h16' : (l.length : Int) ≤ 16 := by omega
  clear h1 h2
  go_enter Try.func27, Try.ntmps27
  go_wp2_with fail
  go_loopw [13] (fun u wr => ∃ i : Nat, u = .int .i64 i ∧ i ≤ l.length ∧ Grw w wr) (fun u _ => l.length - (intOf u).toNat)
  case atStart => exact ⟨0, rfl, by omega, Grw.refl _⟩
  case round =>
    obtain ⟨i, rfl, hi, hg⟩ := hrel
    have HG := Lib.hid hg
    have hsz := hg.size
    clear hg
    by_cases hlt : i < l.length
    · have hlt' : (i : Int) < (l.length : Int) := by omega
      have hi0 : (0 : Int) ≤ (i : Int) := by omega
      obtain ⟨g1, o1, q1, e1, hb1, x0, x1, x2, x3⟩ := H1.out.at_ hlt
      obtain ⟨g2, o2, q2, e2, hb2, y0, y1, y2, y3⟩ := H2.out.at_ hlt
      obtain ⟨rfl, rfl⟩ : a1 = some ⟨g1, o1, none⟩ ∧ c1 = q1 := by simpa using e1
      obtain ⟨rfl, rfl⟩ : a2 = some ⟨g2, o2, none⟩ ∧ c2 = q2 := by simpa using e2
      have d0 := HG.out.cell hb1 x0
      have d1 := HG.out.cell hb1 x1
      have d2 := HG.out.cell hb1 x2
      have d3 := HG.out.cell hb1 x3
      have d4 := HG.out.cell hb2 y0
      have d5 := HG.out.cell hb2 y1
      have d6 := HG.out.cell hb2 y2
      have d7 := HG.out.cell hb2 y3
      generalize l[i] = x at *
      clear e1 e2 x0 x1 x2 x3 y0 y1 y2 y3
      go_wp2_with fail
      go_quiet (fail)
      go_wp2_with fail
      go_roundw
      case rel => exact ⟨i + 1, by go_num, by omega, HG.out.drewN _⟩
      case measure => simp [intOf]; omega
    · obtain rfl : i = l.length := by omega
      go_wp2_with fail
      go_ret
      exact ⟨rfl, HG.out⟩

theorem enter_turn (v u : Value) (w : World) : (callFunc 26 (#[v] ++ #[u])).run Try.prog w = .ok (.enter 26 (#[v] ++ #[u])) w := by
  show (callFunc 26 #[v, u]).run Try.prog w = .ok (.enter 26 #[v, u]) w
  go_simp
theorem fld_cnd0 (w : World) (g : Nat) : (Instr.fieldAt 78 (.pointer (some ⟨g, 0, none⟩)) 0).run Try.prog w = .ok (.pointer (some ⟨g, 0, none⟩)) w := by go_simp
theorem fld_cnd2 (w : World) (g : Nat) : (Instr.fieldAt 78 (.pointer (some ⟨g, 0, none⟩)) 2).run Try.prog w = .ok (.pointer (some ⟨g, 2, none⟩)) w := by go_simp
theorem run_store_u8 {a : Act} {w : World} {x y : Operand} {g j : Nat} {b : Int} {old : Value} {ty : TypeId} {pos : String} {af : Array Edge} (hx : a.eval x = .pointer (some ⟨g, j, none⟩)) (hy : a.eval y = .int .u8 b) (hc : w.cell? ⟨g, j, none⟩ = some old) (hf : w.frozen? ⟨g, j, none⟩ = false) :
    (execOp a.eval { dst := none, op := .store 5 x y, type := ty, pos := pos, after := af, guard := none }).run Try.prog w = .ok .skip (w.setCell ⟨g, j, none⟩ (.int .u8 b)) := by
  simp only [execOp, hx, hy]
  go_simp
theorem Sl.own_more'' {w : World} {b s n : Nat} {e : TypeId} {v : Value} {xs : List Value} (h : w.ownsRow b e s v n xs) : Sl w w.heap.size s v n xs := Sl.of_own h
/-! ### a plan, or none -/
def pdG (ss : List GS) (cs : List GC) (wi : Int) : List (Grp Unit) := if (checkP ss cs wi).2 = 0 then groups (unitl ss) else []
def pdT (ss : List GS) (cs : List GC) (wi : Int) : Nat → List PT := if (checkP ss cs wi).2 = 0 then testsAt ss cs else fun _ => []
def pdW (ss : List GS) (cs : List GC) (wi : Int) : Int := if (checkP ss cs wi).2 = 0 then wi else 0
theorem PostM.uni {W w' : World} {ss : List GS} {cs : List GC} {wi : Int} {e : Ending} (h : PostM W ss cs wi e w') : Below W.heap.size W w' ∧ ∃ pad pc,
    e = .returned (.tuple #[.agg #[.slice pad (pdG ss cs wi).length pc, .int .i64 (pdW ss cs wi)], .int .i64 (checkP ss cs wi).1, .int .i64 (checkP ss cs wi).2]) ∧
    PlanAt w' W.heap.size w'.heap.size (.slice pad (pdG ss cs wi).length pc) (pdG ss cs wi) (pdT ss cs wi) := by
  obtain ⟨hb, h⟩ := h
  refine ⟨hb, ?_⟩
  rcases h with ⟨hbad, rfl⟩ | ⟨hck, _, vs, rfl, hpl⟩
  · have e1 : pdG ss cs wi = [] := by unfold pdG; rw [if_neg hbad]
    have e3 : pdW ss cs wi = 0 := by unfold pdW; rw [if_neg hbad]
    rw [e1, e3]
    exact ⟨none, 0, rfl, none, 0, rfl, fun q hq => absurd hq (by simp)⟩
  · have hc : (checkP ss cs wi).2 = 0 := by rw [hck]
    have e1 : pdG ss cs wi = groups (unitl ss) := by unfold pdG; rw [if_pos hc]
    have e2 : pdT ss cs wi = testsAt ss cs := by unfold pdT; rw [if_pos hc]
    have e3 : pdW ss cs wi = wi := by unfold pdW; rw [if_pos hc]
    rw [e1, e2, e3, hck]
    obtain ⟨ad, c, rfl, hq⟩ := hpl
    exact ⟨ad, c, rfl, ad, c, rfl, hq⟩
theorem pd_bnd (ss : List GS) (cs : List GC) (wi : Int) : (pdG ss cs wi).length ≤ 8 ∧ (∀ i, (pdT ss cs wi i).length ≤ 16) ∧ ∀ q (h : q < (pdG ss cs wi).length), (pdG ss cs wi)[q].2.length ≤ 8 := by
  by_cases hc : (checkP ss cs wi).2 = 0
  · have hok : OKP ss cs wi := by
      rcases checkP_cases ss cs wi with h | h
      · exact absurd hc h
      · exact h.2
    have e1 : pdG ss cs wi = groups (unitl ss) := by unfold pdG; rw [if_pos hc]
    have e2 : pdT ss cs wi = testsAt ss cs := by unfold pdT; rw [if_pos hc]
    rw [e2]
    refine ⟨by rw [e1]; exact hok.groups8, hok.tests, ?_⟩
    rw [e1]
    intro q hq
    have h1 := startG_succ _ q hq
    have h2 := startG_le8 hok (q + 1)
    omega
  · have e1 : pdG ss cs wi = [] := by unfold pdG; rw [if_neg hc]
    have e2 : pdT ss cs wi = fun _ => [] := by unfold pdT; rw [if_neg hc]
    rw [e1, e2]
    exact ⟨by simp, fun _ => by simp, fun q hq => absurd hq (by simp)⟩
theorem pd_t {k : Int} {ss : List GS} {cs : List GC} (hs : ∀ s ∈ ss, isNm s.nm) (hc : ∀ c ∈ cs, isNm c.l ∧ (c.r = 0 ∨ isNm c.r)) (wi : Int) :
    pdG (ss.map (tS k)) (cs.map (tC k)) wi = (pdG ss cs wi).map (tG k) ∧ pdT (ss.map (tS k)) (cs.map (tC k)) wi = pdT ss cs wi ∧ pdW (ss.map (tS k)) (cs.map (tC k)) wi = pdW ss cs wi := by
  unfold pdG pdT pdW
  rw [checkP_t hs hc]
  refine ⟨?_, ?_, rfl⟩
  · split
    · exact groups_t k ss
    · rfl
  · split
    · funext i; exact testsAt_t hs hc i
    · rfl

/-- The renamed pattern under way, behind V's blocks. -/
structure Nk (V w : World) (wi : Int) (sv cv : Value) (n : Nat) (ss : List GS) (m : Nat) (cs : List GC) : Prop where
  bel : Below V.heap.size V w
  bc : w.heap[V.heap.size]? = some (.cells #[sv, cv, .int .i64 wi] 25 (0, 0))
  o1 : w.ownsRow V.heap.size 76 5 sv n (cellsOf encG ss)
  o2 : w.ownsRow V.heap.size 78 4 cv m (cellsOf encD cs)
section
variable {V w w' : World} {sv cv : Value} {wi : Int} {n m : Nat} {ss : List GS} {cs : List GC}
theorem Nk.alloc (h : Nk V w wi sv cv n ss m cs) (o : Obj) : Nk V (w.alloc o) wi sv cv n ss m cs :=
  ⟨h.bel.alloc h.bel.size o, heap_alloc h.bc, h.o1.alloc _, h.o2.alloc _⟩
theorem Nk.below (h : Nk V w wi sv cv n ss m cs) (hb : Below w.heap.size w w') : Nk V w' wi sv cv n ss m cs :=
  ⟨h.bel.trans (hb.mono h.bel.size), (hb.block _ (blk_lt h.bc)).trans h.bc, own_below h.o1 hb, own_below h.o2 hb⟩
theorem Nk.drew (h : Nk V w wi sv cv n ss m cs) : Nk V w.drew wi sv cv n ss m cs := ⟨h.bel.drew, Mem.heap_drew h.bc, h.o1.drew, h.o2.drew⟩
/-- One step more. -/
theorem Nk.pushS (h : Nk V w wi sv cv n ss m cs) {x : GS} {g cap : Nat} (hgr : w.grownBy w' sv.ownBlock)
    (hown : w'.ownsRow V.heap.size 76 5 (.slice (some ⟨g, 0, none⟩) (n + 1) cap) (n + 1) (cellsOf encG ss ++ encG x)) :
    Nk V (w'.setCell ⟨V.heap.size, 0, none⟩ (.slice (some ⟨g, 0, none⟩) (n + 1) cap)) wi (.slice (some ⟨g, 0, none⟩) (n + 1) cap) cv (n + 1) (ss ++ [x]) m cs := by
  have b1 := heap_kept h.bc h.o1 (by decide) hgr
  refine ⟨(below_grown h.bel h.o1 hgr h.bel.size (Nat.le_refl _)).setCell (p := ⟨V.heap.size, 0, none⟩) (Nat.le_refl _) _, blk_set b1 0 _, ?_, own_set (own_kept2 h.o2 h.o1 (by decide) hgr) b1 (by decide)⟩
  rw [cellsOf_snoc]; exact own_set hown b1 (by decide)
/-- One condition more. -/
theorem Nk.pushC (h : Nk V w wi sv cv n ss m cs) {x : GC} {g cap : Nat} (hgr : w.grownBy w' cv.ownBlock)
    (hown : w'.ownsRow V.heap.size 78 4 (.slice (some ⟨g, 0, none⟩) (m + 1) cap) (m + 1) (cellsOf encD cs ++ encD x)) :
    Nk V (w'.setCell ⟨V.heap.size, 1, none⟩ (.slice (some ⟨g, 0, none⟩) (m + 1) cap)) wi sv (.slice (some ⟨g, 0, none⟩) (m + 1) cap) n ss (m + 1) (cs ++ [x]) := by
  have b1 := heap_kept h.bc h.o2 (by decide) hgr
  refine ⟨(below_grown h.bel h.o2 hgr h.bel.size (Nat.le_refl _)).setCell (p := ⟨V.heap.size, 1, none⟩) (Nat.le_refl _) _, blk_set b1 1 _, own_set (own_kept2 h.o1 h.o2 (by decide) hgr) b1 (by decide), ?_⟩
  rw [cellsOf_snoc]; exact own_set hown b1 (by decide)
end
end Go.Proofs.Ytcfimponmioneaa.WL
