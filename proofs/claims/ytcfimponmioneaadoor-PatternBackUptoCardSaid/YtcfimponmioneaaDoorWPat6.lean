/- The walk of pattern.Parse: its deferred closure, its body. -/
import Derived.Test.YtcfimponmioneaaDoorWPat5
import Derived.Test.YtcfimponmioneaaDoorRec
import Derived.Defers
import Derived.Deep.RegionHeld3
namespace Go.Proofs.YtcfimponmioneaaDoor.WP
open Go.RowKit Go.Proofs.YtcfimponmioneaaDoor Go.Proofs.YtcfimponmioneaaDoor.PP Go.Proofs.YtcfimponmioneaaDoor.Mem

theorem ta_nil (xT : TypeId) (w : World) : (Instr.typeAssert .nilIface xT 64 true).run Tryd.prog w = .ok (.tuple #[.agg #[.int .i64 0, .int .i64 0], .bool false]) w := by
  unfold Instr.typeAssert
  go_simp
theorem ta_fault (xT : TypeId) (v : Value) (w : World) : (Instr.typeAssert (.iface 64 v) xT 64 true).run Tryd.prog w = .ok (.tuple #[v, .bool true]) w := by
  unfold Instr.typeAssert
  go_simp
set_option maxRecDepth 100000 in
set_option maxHeartbeats 1600000 in
theorem catch_idle (p0 p1 p2 : Value) (w : World) :
    CallsD Tryd.prog 18 #[p0, p1, p2] .returning w fun e u' w' => e = .returned (.tuple #[]) ∧ u' = .returning ∧ Below w.heap.size w w' := by
  refine callsD_of_wpS Tryd.func18 rfl fun c₀ cs hu => ?_
  have hc : (c₀ :: cs) = ({ c₀ with mode := .returning } :: cs) := by cases c₀; simp_all
  refine Rec.seq_recover_none rfl rfl (by simp [recoverD, hu]) (Q' := bodyPost Tryd.prog Tryd.f18 fun e w' => e = .returned (.tuple #[]) ∧ FrameMode.returning = .returning ∧ Below w.heap.size w w') (fun e a w' h => by rw [hc]; exact Rec.postS e a w' h) ?_
  change wpList _ _ _ _ { tmps := #[p0, p1, p2, undef, undef, undef, .nilIface, undef, undef, undef, undef, undef, undef, undef, undef, undef], defers := [] } _
  have hta := fun xT => ta_nil xT w
  go_wp2_with fail
  go_end0
  exact ⟨rfl, trivial, (Below.refl _ _).alloc (Nat.le_refl _) _⟩

theorem drew_heap (w : World) : w.drew.heap = w.heap := rfl
theorem fin_catch {w w2 : World} {B : Nat} {t0 t1 t2 : TypeId} {c0 c1 c2 c3 c4 : Value} (hbel : Below B w w2) (G0 : w2.heap[B]? = some (.cells #[c0, c1, c2] t0 (0, 0))) (G1 : w2.heap[B + 1]? = some (.cells #[c3] t1 (0, 0))) (G2 : w2.heap[B + 2]? = some (.cells #[c4] t2 (0, 0))) (v0 v1 v2 v3 v4 : Value) :
    Below B w (((((w2.setCell ⟨B, 0, none⟩ v0).setCell ⟨B, 1, none⟩ v1).setCell ⟨B, 2, none⟩ v2).setCell ⟨B + 1, 0, none⟩ v3).setCell ⟨B + 2, 0, none⟩ v4).drew ∧
    (((((w2.setCell ⟨B, 0, none⟩ v0).setCell ⟨B, 1, none⟩ v1).setCell ⟨B, 2, none⟩ v2).setCell ⟨B + 1, 0, none⟩ v3).setCell ⟨B + 2, 0, none⟩ v4).drew.heap[B]? = some (.cells #[v0, v1, v2] t0 (0, 0)) ∧
    (((((w2.setCell ⟨B, 0, none⟩ v0).setCell ⟨B, 1, none⟩ v1).setCell ⟨B, 2, none⟩ v2).setCell ⟨B + 1, 0, none⟩ v3).setCell ⟨B + 2, 0, none⟩ v4).drew.heap[B + 1]? = some (.cells #[v3] t1 (0, 0)) ∧
    (((((w2.setCell ⟨B, 0, none⟩ v0).setCell ⟨B, 1, none⟩ v1).setCell ⟨B, 2, none⟩ v2).setCell ⟨B + 1, 0, none⟩ v3).setCell ⟨B + 2, 0, none⟩ v4).drew.heap[B + 2]? = some (.cells #[v4] t2 (0, 0)) := by
  have s0 := blk_set (blk_set (blk_set G0 0 v0) 1 v1) 2 v2
  have s1 := blk_other (blk_other (blk_other G1 B 0 v0 (by omega)) B 1 v1 (by omega)) B 2 v2 (by omega)
  have s2 := blk_other (blk_other (blk_other G2 B 0 v0 (by omega)) B 1 v1 (by omega)) B 2 v2 (by omega)
  have r0 := blk_other (blk_other s0 (B + 1) 0 v3 (by omega)) (B + 2) 0 v4 (by omega)
  have r1 := blk_other (blk_set s1 0 v3) (B + 2) 0 v4 (by omega)
  have r2 := blk_set (blk_other s2 (B + 1) 0 v3 (by omega)) 0 v4
  have hb1 := hbel.setCell (p := ⟨B, 0, none⟩) (Nat.le_refl _) v0
  have hb2 := hb1.setCell (p := ⟨B, 1, none⟩) (Nat.le_refl _) v1
  have hb3 := hb2.setCell (p := ⟨B, 2, none⟩) (Nat.le_refl _) v2
  have hb4 := hb3.setCell (p := ⟨B + 1, 0, none⟩) (Nat.le_succ B) v3
  have hb5 := hb4.setCell (p := ⟨B + 2, 0, none⟩) (Nat.le_add_right B 2) v4
  refine ⟨hb5.drew, ?_, ?_, ?_⟩
  · rw [drew_heap]; exact r0
  · rw [drew_heap]; exact r1
  · rw [drew_heap]; exact r2
set_option maxRecDepth 100000 in
set_option maxHeartbeats 1600000 in
theorem catch_panic (B : Nat) (k er : Int) (c0 c1 c2 c3 c4 : Value) (w : World) (h0 : w.heap[B]? = some (.cells #[c0, c1, c2] 29 (0, 0))) (h1 : w.heap[B + 1]? = some (.cells #[c3] 3 (0, 0))) (h2 : w.heap[B + 2]? = some (.cells #[c4] 40 (0, 0))) :
    CallsD Tryd.prog 18 #[.pointer (some ⟨B, 0, none⟩), .pointer (some ⟨B + 1, 0, none⟩), .pointer (some ⟨B + 2, 0, none⟩)] (.panicking (faultV k er)) w fun e u' w' => e = .returned (.tuple #[]) ∧ u' = .panicking [{ v := .iface 64 (.agg #[.int .i64 k, .int .i64 er]), recovered := true }] ∧ Below B w w' ∧
      w'.heap[B]? = some (.cells #[.slice none 0 0, .slice none 0 0, .int .i64 0] 29 (0, 0)) ∧ w'.heap[B + 1]? = some (.cells #[.int .i64 k] 3 (0, 0)) ∧ w'.heap[B + 2]? = some (.cells #[.int .i64 er] 40 (0, 0)) := by
  refine callsD_of_wpS Tryd.func18 rfl fun c₀ cs hu => ?_
  refine Rec.seq_recover rfl rfl (cs' := { c₀ with mode := .panicking [{ v := .iface 64 (.agg #[.int .i64 k, .int .i64 er]), recovered := true }] } :: cs) (v := .iface 64 (.agg #[.int .i64 k, .int .i64 er])) (by simp [recoverD, hu, faultV]) (Q' := bodyPost Tryd.prog Tryd.f18 fun e w' => e = .returned (.tuple #[]) ∧ FrameMode.panicking [{ v := .iface 64 (.agg #[.int .i64 k, .int .i64 er]), recovered := true }] = .panicking [{ v := .iface 64 (.agg #[.int .i64 k, .int .i64 er]), recovered := true }] ∧ Below B w w' ∧
      w'.heap[B]? = some (.cells #[.slice none 0 0, .slice none 0 0, .int .i64 0] 29 (0, 0)) ∧ w'.heap[B + 1]? = some (.cells #[.int .i64 k] 3 (0, 0)) ∧ w'.heap[B + 2]? = some (.cells #[.int .i64 er] 40 (0, 0))) (fun e a w' h => Rec.postS e a w' h) ?_
  change wpList _ _ _ _ { tmps := #[.pointer (some ⟨B, 0, none⟩), .pointer (some ⟨B + 1, 0, none⟩), .pointer (some ⟨B + 2, 0, none⟩), undef, undef, undef, .iface 64 (.agg #[.int .i64 k, .int .i64 er]), undef, undef, undef, undef, undef, undef, undef, undef, undef], defers := [] } _
  have hta := fun xT v => ta_fault xT v w
  have hl0 := blk_lt h0; have hl1 := blk_lt h1; have hl2 := blk_lt h2
  have H0 := Lib.hid h0; have H1 := Lib.hid h1; have H2 := Lib.hid h2
  clear h0 h1 h2
  go_wp2_with fail
  have hC2 := Lib.hid (blk_new w (.cells #[.int .i64 k, .int .i64 er] 64))
  have G0 := Lib.hid (blk_alloc H0.out (.cells #[.int .i64 k, .int .i64 er] 64))
  have G1 := Lib.hid (blk_alloc H1.out (.cells #[.int .i64 k, .int .i64 er] 64))
  have G2 := Lib.hid (blk_alloc H2.out (.cells #[.int .i64 k, .int .i64 er] 64))
  have hbel : Below B w (w.alloc (.cells #[.int .i64 k, .int .i64 er] 64)) := (Below.refl _ _).alloc (by omega) _
  generalize w.alloc (.cells #[.int .i64 k, .int .i64 er] 64) = w2 at *
  generalize w.heap.size = C at *
  have e0 : w2.cell? ⟨C, 0, none⟩ = some (.int .i64 k) := (Lib.cell_of_heap hC2.out 0).trans rfl
  have e1 : w2.cell? ⟨C, 1, none⟩ = some (.int .i64 er) := (Lib.cell_of_heap hC2.out 1).trans rfl
  have f0 := Lib.frozen_of_heap G0.out 0; have f1 := Lib.frozen_of_heap G0.out 1; have f2 := Lib.frozen_of_heap G0.out 2
  have f3 := Lib.frozen_of_heap G1.out 0; have f4 := Lib.frozen_of_heap G2.out 0
  have g0 : w2.cell? ⟨B, 0, none⟩ = some c0 := (Lib.cell_of_heap G0.out 0).trans rfl
  have g1 : w2.cell? ⟨B, 1, none⟩ = some c1 := (Lib.cell_of_heap G0.out 1).trans rfl
  have g2 : w2.cell? ⟨B, 2, none⟩ = some c2 := (Lib.cell_of_heap G0.out 2).trans rfl
  have g3 : w2.cell? ⟨B + 1, 0, none⟩ = some c3 := (Lib.cell_of_heap G1.out 0).trans rfl
  have g4 : w2.cell? ⟨B + 2, 0, none⟩ = some c4 := (Lib.cell_of_heap G2.out 0).trans rfl
  have n0 : C ≠ B := by omega
  have n1 : C ≠ B + 1 := by omega
  have n2 : C ≠ B + 2 := by omega
  have n3 : B ≠ C := by omega
  have n4 : B + 1 ≠ C := by omega
  have n5 : B + 2 ≠ C := by omega
  go_region_held3 (fun w' => w'.cell? ⟨C, 0, none⟩ = some (.int .i64 k) ∧ w'.cell? ⟨C, 1, none⟩ = some (.int .i64 er)) (go_keep) (fail)
  clear hta e0 e1 f0 f1 f2 f3 f4 g0 g1 g2 g3 g4 n0 n1 n2 n3 n4 n5
  go_wp2_with fail
  go_end0
  obtain ⟨q1, q2, q3, q4⟩ := fin_catch hbel G0.out G1.out G2.out (.slice none 0 0) (.slice none 0 0) (.int .i64 0) (.int .i64 k) (.int .i64 er)
  exact ⟨rfl, trivial, q1, q2, q3, q4⟩
end Go.Proofs.YtcfimponmioneaaDoor.WP
