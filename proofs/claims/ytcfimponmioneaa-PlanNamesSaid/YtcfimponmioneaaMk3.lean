/- For plan.Make's last loop: a condition at which nothing is wrong; what the loop's operations do. -/
import Derived.Test.YtcfimponmioneaaFl2
namespace Go.Proofs.Ytcfimponmioneaa.WL
open Go Go.RowKit Go.Proofs.Ytcfimponmioneaa Go.Proofs.Ytcfimponmioneaa.PL Go.Proofs.Ytcfimponmioneaa.Mem Go.Proofs.Ytcfimponmioneaa.WP

/-- What plan.Make comes to: the fault and its place, or the plan. -/
def PostM (W : World) (ss : List GS) (cs : List GC) (wi : Int) (e : Ending) (w' : World) : Prop :=
  Below W.heap.size W w' ∧ (((checkP ss cs wi).2 ≠ 0 ∧ e = .returned (.tuple #[.agg #[nilS, .int .i64 0], .int .i64 (checkP ss cs wi).1, .int .i64 (checkP ss cs wi).2])) ∨
    (checkP ss cs wi = (0, 0) ∧ OKP ss cs wi ∧ ∃ vs, e = .returned (.tuple #[.agg #[vs, .int .i64 wi], .int .i64 0, .int .i64 0]) ∧ PlanAt w' W.heap.size w'.heap.size vs (groups (unitl ss)) (testsAt ss cs)))
/-- The function's results, read out of their cells. -/
theorem res_make2 {w : World} {B : Nat} {c0 c1 v3 v4 : Value} {tmps : Array Value} (h2 : tmps[2]? = some (.pointer (some ⟨B, 0, none⟩))) (h3 : tmps[3]? = some v3) (h4 : tmps[4]? = some v4)
    (e0 : w.cell? ⟨B, 0, none⟩ = some c0) (e1 : w.cell? ⟨B, 1, none⟩ = some c1) :
    (results Try.f19 tmps).run Try.prog w = .ok (.tuple #[.agg #[c0, c1], v3, v4]) w := by
  simp [results, Try.results19, go_sem, h2, h3, h4, e0, e1]

theorem condE_ok {ss : List GS} {d : GC} (h : condE ss d = 0) : (0 ≤ d.op ∧ d.op ≤ 5) ∧ (-9007199254740992 ≤ d.k ∧ d.k ≤ 9007199254740992) ∧ (∃ p : Nat, findP ss d.l = p ∧ p < ss.length) ∧
    (d.r ≠ 0 → ∃ p r : Nat, findP ss d.l = p ∧ findP ss d.r = r ∧ p < ss.length ∧ r < ss.length ∧ (ss[min p r]!).neg = false) := by
  unfold condE at h
  split at h
  · omega
  split at h
  · omega
  split at h
  · omega
  rename_i h1 h2 h3
  have hl := findP_lt ss d.l
  have hr := findP_lt ss d.r
  refine ⟨by omega, by omega, ⟨(findP ss d.l).toNat, by omega, by omega⟩, fun hd => ?_⟩
  rw [if_neg hd] at h
  have hr0 : 0 ≤ findP ss d.r := by
    rcases Int.lt_or_le (findP ss d.r) 0 with h4 | h4
    · exact absurd (.inr ⟨hd, h4⟩) h3
    · exact h4
  have hl0 : 0 ≤ findP ss d.l := by omega
  refine ⟨(findP ss d.l).toNat, (findP ss d.r).toNat, by omega, by omega, by omega, by omega, ?_⟩
  split at h
  · omega
  · rename_i h5
    rw [show min (findP ss d.l).toNat (findP ss d.r).toNat = (min (findP ss d.l) (findP ss d.r)).toNat by omega]
    simpa using h5

section
variable {a : Act} {w : World} {d : Option Tmp} {ty : TypeId} {pos : String} {af : Array Edge} {gd : Option (Nat × Bool)}
theorem run_ix {x y : Operand} {g n c k : Nat} (h1 : a.eval x = .slice (some ⟨g, 0, none⟩) n c) (h2 : a.eval y = .int .i64 k) (hl : k < n) :
    (execOp a.eval { dst := d, op := .indexAddr 106 x y, type := ty, pos := pos, after := af, guard := gd }).run Try.prog w = .ok (.value (.pointer (some ⟨g, k * 2, none⟩))) w := by
  have h3 : (k : Int) < (n : Int) := by omega
  have h4 : (0 : Int) ≤ (k : Int) := by omega
  simp only [execOp, h1, h2]
  go_simp
theorem fld_tests1 (w : World) (g j : Nat) : (Instr.fieldAt 109 (.pointer (some ⟨g, j, none⟩)) 1).run Try.prog w = .ok (.pointer (some ⟨g, j + 1, none⟩)) w := by go_simp
theorem load_ptr {w : World} {g j : Nat} {u : Value} (h : w.cell? ⟨g, j, none⟩ = some u) : (Instr.loadAt 107 (.pointer (some ⟨g, j, none⟩))).run Try.prog w = .ok u w := by go_simp
theorem load_tests {w : World} {g j : Nat} {u : Value} (h : w.cell? ⟨g, j, none⟩ = some u) : (Instr.loadAt 64 (.pointer (some ⟨g, j, none⟩))).run Try.prog w = .ok u w := by go_simp
theorem load_test {w : World} {g : Nat} {t : PT} (h : w.heap[g]? = some (.cells (encT t).toArray 73 (0, 0))) : (Instr.loadAt 73 (.pointer (some ⟨g, 0, none⟩))).run Try.prog w = .ok (.agg (encT t).toArray) w := by
  have e0 : w.cell? ⟨g, 0, none⟩ = some (.int .i64 t.op) := (Lib.cell_of_heap h 0).trans rfl
  have e1 : w.cell? ⟨g, 1, none⟩ = some (.int .i64 t.step) := (Lib.cell_of_heap h 1).trans rfl
  have e2 : w.cell? ⟨g, 2, none⟩ = some (.int .i64 t.add) := (Lib.cell_of_heap h 2).trans rfl
  have e3 : w.cell? ⟨g, 3, none⟩ = some (.bool t.turn) := (Lib.cell_of_heap h 3).trans rfl
  unfold encT
  go_simp
theorem build_t (w : World) (t : PT) : (Instr.buildSlice 64 1 #[(0, .agg (encT t).toArray)]).run Try.prog w = .ok (.slice (some ⟨w.heap.size, 0, none⟩) 1 1) (w.alloc (.cells (encT t).toArray 73)) := by
  unfold encT
  go_simp
end
end Go.Proofs.Ytcfimponmioneaa.WL
