/- The walk of oxbowlaw19.same at two patterns that are the same. -/
import Derived.Test.YtcfimponmioneaaDoorWake
import Derived.BigQuiet
import Derived.Deep.QuietTactic
namespace Go.Proofs.YtcfimponmioneaaDoor.WP
open Go.RowKit Go.Proofs.YtcfimponmioneaaDoor Go.Proofs.YtcfimponmioneaaDoor.PP Go.Proofs.YtcfimponmioneaaDoor.Mem

theorem encS_len (e : Stp) : (encS e).length = 5 := rfl
theorem encC_len (e : Cnd) : (encC e).length = 4 := rfl
theorem cellS (ss : List Stp) (i : Nat) (hi : i < ss.length) : (cellsOf encS ss)[i * 5]? = some (.int .u8 ss[i].k) ∧ (cellsOf encS ss)[i * 5 + 1]? = some (.int .u8 ss[i].nm) ∧ (cellsOf encS ss)[i * 5 + 2]? = some (.bool ss[i].neg) ∧ (cellsOf encS ss)[i * 5 + 3]? = some (.int .i64 ss[i].lo) ∧ (cellsOf encS ss)[i * 5 + 4]? = some (.int .i64 ss[i].hi) :=
  ⟨(cellsOf_get encS_len ss i 0 (by omega) hi).trans rfl, (cellsOf_get encS_len ss i 1 (by omega) hi).trans rfl, (cellsOf_get encS_len ss i 2 (by omega) hi).trans rfl, (cellsOf_get encS_len ss i 3 (by omega) hi).trans rfl, (cellsOf_get encS_len ss i 4 (by omega) hi).trans rfl⟩
theorem cellC (cs : List Cnd) (i : Nat) (hi : i < cs.length) : (cellsOf encC cs)[i * 4]? = some (.int .u8 cs[i].l) ∧ (cellsOf encC cs)[i * 4 + 1]? = some (.int .i64 cs[i].op) ∧ (cellsOf encC cs)[i * 4 + 2]? = some (.int .u8 cs[i].r) ∧ (cellsOf encC cs)[i * 4 + 3]? = some (.int .i64 cs[i].k) :=
  ⟨(cellsOf_get encC_len cs i 0 (by omega) hi).trans rfl, (cellsOf_get encC_len cs i 1 (by omega) hi).trans rfl, (cellsOf_get encC_len cs i 2 (by omega) hi).trans rfl, (cellsOf_get encC_len cs i 3 (by omega) hi).trans rfl⟩
theorem below_drewN {B : Nat} {a w : World} (h : Below B a w) (n : Nat) : Below B a (w.drewN n) := ⟨h.os, h.tape, h.output, h.size, h.block⟩
theorem keep_cell {W w : World} {g j : Nat} {u : Value} (hb : Below W.heap.size W w) (hg : g < W.heap.size) (h : W.cell? ⟨g, j, none⟩ = some u) : w.cell? ⟨g, j, none⟩ = some u :=
  (hb.cell (p := ⟨g, j, none⟩) hg).trans h

set_option maxRecDepth 100000 in
set_option maxHeartbeats 3200000 in
theorem same_any (W : World) (sl1 cl1 sl2 cl2 : Value) (ss : List Stp) (cs : List Cnd) (k : Int) (b : Nat) (h1 : W.ownsRow b 48 5 sl1 ss.length (cellsOf encS ss)) (h2 : W.ownsRow b 49 5 sl2 ss.length (cellsOf encS ss))
    (h3 : W.ownsRow b 54 4 cl1 cs.length (cellsOf encC cs)) (h4 : W.ownsRow b 55 4 cl2 cs.length (cellsOf encC cs)) (hs : ss.length ≤ 4096) (hc : cs.length ≤ 4096) :
    Calls Tryd.prog 11 #[.agg #[sl1, cl1, .int .i64 k], .agg #[sl2, cl2, .int .i64 k]] W fun e w' => e = .returned (.bool true) ∧ Below W.heap.size W w' := by
  have H1 := Lib.hid h1; have H2 := Lib.hid h2; have H3 := Lib.hid h3; have H4 := Lib.hid h4
  clear h1 h2 h3 h4
  obtain ⟨a1, c1, e1⟩ := own_slice H1.out
  obtain ⟨a2, c2, e2⟩ := own_slice H2.out
  obtain ⟨a3, c3, e3⟩ := own_slice H3.out
  obtain ⟨a4, c4, e4⟩ := own_slice H4.out
  subst e1 e2 e3 e4
  obtain ⟨w2, hw2⟩ : ∃ w2, w2 = (W.alloc (.cells #[.slice a1 ss.length c1, .slice a3 cs.length c3, .int .i64 k] 29)).alloc (.cells #[.slice a2 ss.length c2, .slice a4 cs.length c4, .int .i64 k] 33) := ⟨_, rfl⟩
  have hz2 : w2.heap.size = W.heap.size + 2 := by rw [hw2]; simp
  have B2 := Lib.hid (show Below W.heap.size W w2 by rw [hw2]; exact ((Below.refl _ _).alloc (Nat.le_refl _) _).alloc (by simp) _)
  have X0 := Lib.hid (show w2.heap[W.heap.size]? = some (.cells #[.slice a1 ss.length c1, .slice a3 cs.length c3, .int .i64 k] 29 (0, 0)) by rw [hw2]; exact blk_alloc (blk_new W _) _)
  have X1 := Lib.hid (show w2.heap[W.heap.size + 1]? = some (.cells #[.slice a2 ss.length c2, .slice a4 cs.length c4, .int .i64 k] 33 (0, 0)) by rw [hw2]; exact heap_new (by simp))
  have Hw2 := Lib.hid hw2
  clear hw2
  go_enter Tryd.func11, Tryd.ntmps11
  go_wp2_with fail
  rw [← Hw2.out]
  clear Hw2
  go_loopw [35] (fun u wr => ∃ i : Nat, u = .int .i64 i ∧ i ≤ ss.length ∧ Below w2.heap.size w2 wr) (fun u _ => ss.length - (intOf u).toNat)
  case atStart => exact ⟨0, rfl, by omega, Below.refl _ _⟩
  case round =>
    obtain ⟨i, rfl, hi, hbr⟩ := hrel
    have HBR := Lib.hid hbr
    have HB := Lib.hid (B2.out.trans (hbr.mono (by omega)))
    have hbs := hbr.size
    have y0 : wr.cell? ⟨W.heap.size, 0, none⟩ = some (.slice a1 ss.length c1) := (hbr.cell (p := ⟨W.heap.size, 0, none⟩) (by show W.heap.size < w2.heap.size; omega)).trans ((Lib.cell_of_heap X0.out 0).trans rfl)
    have y1 : wr.cell? ⟨W.heap.size, 1, none⟩ = some (.slice a3 cs.length c3) := (hbr.cell (p := ⟨W.heap.size, 1, none⟩) (by show W.heap.size < w2.heap.size; omega)).trans ((Lib.cell_of_heap X0.out 1).trans rfl)
    have z0 : wr.cell? ⟨W.heap.size + 1, 0, none⟩ = some (.slice a2 ss.length c2) := (hbr.cell (p := ⟨W.heap.size + 1, 0, none⟩) (by show W.heap.size + 1 < w2.heap.size; omega)).trans ((Lib.cell_of_heap X1.out 0).trans rfl)
    have z1 : wr.cell? ⟨W.heap.size + 1, 1, none⟩ = some (.slice a4 cs.length c4) := (hbr.cell (p := ⟨W.heap.size + 1, 1, none⟩) (by show W.heap.size + 1 < w2.heap.size; omega)).trans ((Lib.cell_of_heap X1.out 1).trans rfl)
    clear hbr
    by_cases hlt : i < ss.length
    · have hlt' : (i : Int) < (ss.length : Int) := by omega
      have hi0 : (0 : Int) ≤ (i : Int) := by omega
      obtain ⟨g1, q1, f1, _, hl1, hcell1⟩ := own_cells H1.out (by omega)
      obtain ⟨g2, q2, f2, _, hl2, hcell2⟩ := own_cells H2.out (by omega)
      obtain ⟨rfl, rfl⟩ : a1 = some ⟨g1, 0, none⟩ ∧ c1 = q1 := by simpa using f1
      obtain ⟨rfl, rfl⟩ : a2 = some ⟨g2, 0, none⟩ ∧ c2 = q2 := by simpa using f2
      obtain ⟨s0, s1, s2, s3, s4⟩ := cellS ss i hlt
      have d0 := keep_cell HB.out hl1 (hcell1 _ _ s0)
      have d1 := keep_cell HB.out hl1 (hcell1 _ _ s1)
      have d2 := keep_cell HB.out hl1 (hcell1 _ _ s2)
      have d3 := keep_cell HB.out hl1 (hcell1 _ _ s3)
      have d4 := keep_cell HB.out hl1 (hcell1 _ _ s4)
      have HB' := Lib.hid (HB.out.alloc (by omega) (.cells #[.int .u8 ss[i].k, .int .u8 ss[i].nm, .bool ss[i].neg, .int .i64 ss[i].lo, .int .i64 ss[i].hi] 48))
      have HBR' := Lib.hid (HBR.out.alloc hbs (.cells #[.int .u8 ss[i].k, .int .u8 ss[i].nm, .bool ss[i].neg, .int .i64 ss[i].lo, .int .i64 ss[i].hi] 48))
      have d5 := keep_cell HB'.out hl2 (hcell2 _ _ s0)
      have d6 := keep_cell HB'.out hl2 (hcell2 _ _ s1)
      have d7 := keep_cell HB'.out hl2 (hcell2 _ _ s2)
      have d8 := keep_cell HB'.out hl2 (hcell2 _ _ s3)
      have d9 := keep_cell HB'.out hl2 (hcell2 _ _ s4)
      have z2 : (wr.alloc (.cells #[.int .u8 ss[i].k, .int .u8 ss[i].nm, .bool ss[i].neg, .int .i64 ss[i].lo, .int .i64 ss[i].hi] 48)).cell? ⟨W.heap.size + 1, 0, none⟩ = some (.slice (some ⟨g2, 0, none⟩) ss.length c2) := by
        rw [World.cell?_of_block (Below.heap_alloc wr _ (W.heap.size + 1) (by omega))]; exact z0
      generalize ss[i] = x at *
      clear f1 f2 hcell1 hcell2 s0 s1 s2 s3 s4 hlt hi
      go_wp2_with fail
      go_quiet (fail)
      go_wp2_with fail
      go_roundw
      case rel => exact ⟨i + 1, by go_num, by omega, below_drewN HBR'.out _⟩
      case measure => simp [intOf]; omega
    · obtain rfl : i = ss.length := by omega
      go_wp2_with fail
      clear y0 z0
      go_loopw [51] (fun u wq => ∃ i : Nat, u = .int .i64 i ∧ i ≤ cs.length ∧ Below w2.heap.size w2 wq) (fun u _ => cs.length - (intOf u).toNat)
      case atStart => exact ⟨0, rfl, by omega, HBR.out⟩
      case round =>
        clear y1 z1 HB HBR hbs hlt hi
        obtain ⟨i, rfl, hi, hbr⟩ := hrel
        have HBR := Lib.hid hbr
        have HB := Lib.hid (B2.out.trans (hbr.mono (by omega)))
        have hbs := hbr.size
        have y1 : wr.cell? ⟨W.heap.size, 1, none⟩ = some (.slice a3 cs.length c3) := (hbr.cell (p := ⟨W.heap.size, 1, none⟩) (by show W.heap.size < w2.heap.size; omega)).trans ((Lib.cell_of_heap X0.out 1).trans rfl)
        have z1 : wr.cell? ⟨W.heap.size + 1, 1, none⟩ = some (.slice a4 cs.length c4) := (hbr.cell (p := ⟨W.heap.size + 1, 1, none⟩) (by show W.heap.size + 1 < w2.heap.size; omega)).trans ((Lib.cell_of_heap X1.out 1).trans rfl)
        clear hbr
        by_cases hlt : i < cs.length
        · have hlt' : (i : Int) < (cs.length : Int) := by omega
          have hi0 : (0 : Int) ≤ (i : Int) := by omega
          obtain ⟨g1, q1, f1, _, hl1, hcell1⟩ := own_cells H3.out (by omega)
          obtain ⟨g2, q2, f2, _, hl2, hcell2⟩ := own_cells H4.out (by omega)
          obtain ⟨rfl, rfl⟩ : a3 = some ⟨g1, 0, none⟩ ∧ c3 = q1 := by simpa using f1
          obtain ⟨rfl, rfl⟩ : a4 = some ⟨g2, 0, none⟩ ∧ c4 = q2 := by simpa using f2
          obtain ⟨s0, s1, s2, s3⟩ := cellC cs i hlt
          have d0 := keep_cell HB.out hl1 (hcell1 _ _ s0)
          have d1 := keep_cell HB.out hl1 (hcell1 _ _ s1)
          have d2 := keep_cell HB.out hl1 (hcell1 _ _ s2)
          have d3 := keep_cell HB.out hl1 (hcell1 _ _ s3)
          have HB' := Lib.hid (HB.out.alloc (by omega) (.cells #[.int .u8 cs[i].l, .int .i64 cs[i].op, .int .u8 cs[i].r, .int .i64 cs[i].k] 54))
          have HBR' := Lib.hid (HBR.out.alloc hbs (.cells #[.int .u8 cs[i].l, .int .i64 cs[i].op, .int .u8 cs[i].r, .int .i64 cs[i].k] 54))
          have d5 := keep_cell HB'.out hl2 (hcell2 _ _ s0)
          have d6 := keep_cell HB'.out hl2 (hcell2 _ _ s1)
          have d7 := keep_cell HB'.out hl2 (hcell2 _ _ s2)
          have d8 := keep_cell HB'.out hl2 (hcell2 _ _ s3)
          have z2 : (wr.alloc (.cells #[.int .u8 cs[i].l, .int .i64 cs[i].op, .int .u8 cs[i].r, .int .i64 cs[i].k] 54)).cell? ⟨W.heap.size + 1, 1, none⟩ = some (.slice (some ⟨g2, 0, none⟩) cs.length c4) := by
            rw [World.cell?_of_block (Below.heap_alloc wr _ (W.heap.size + 1) (by omega))]; exact z1
          generalize cs[i] = x at *
          clear f1 f2 hcell1 hcell2 s0 s1 s2 s3 hlt hi
          go_wp2_with fail
          go_quiet (fail)
          go_wp2_with fail
          go_roundw
          case rel => exact ⟨i + 1, by go_num, by omega, below_drewN HBR'.out _⟩
          case measure => simp [intOf]; omega
        · obtain rfl : i = cs.length := by omega
          go_wp2_with fail
          go_ret
          exact ⟨rfl, HB.out⟩
end Go.Proofs.YtcfimponmioneaaDoor.WP
