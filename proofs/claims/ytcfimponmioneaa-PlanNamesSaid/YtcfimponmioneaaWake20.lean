/- The walk of oxbowlaw20.wakes: the program's plan at one text. -/
import Derived.Test.YtcfimponmioneaaWPlan5
import Derived.Test.YtcfimponmioneaaWBinds
import Derived.Test.YtcfimponmioneaaWSame20
namespace Go.Proofs.Ytcfimponmioneaa.WL
open Go Go.RowKit Go.Sort Go.Proofs.Ytcfimponmioneaa Go.Proofs.Ytcfimponmioneaa.PL Go.Proofs.Ytcfimponmioneaa.PP Go.Proofs.Ytcfimponmioneaa.Mem Go.Proofs.Ytcfimponmioneaa.WP

def ssW : List GS := [⟨65, 97, false, 1, 1⟩, ⟨66, 98, true, 1, 1⟩, ⟨67, 99, false, 1, 3⟩]
def csW : List GC := [⟨99, 4, 97, 2⟩, ⟨98, 3, 0, 5⟩]
theorem checkW : checkP ssW csW 10 = (0, 0) := by decide
theorem groupsW : groups (unitl ssW) = [((⟨65, 97, false, 1, 1⟩, ()), [(⟨66, 98, true, 1, 1⟩, ())]), ((⟨67, 99, false, 1, 3⟩, ()), [])] := by decide
theorem testsW0 : testsAt ssW csW 0 = [] := by decide
theorem testsW1 : testsAt ssW csW 1 = [⟨3, -1, 5, false⟩] := by decide
theorem testsW2 : testsAt ssW csW 2 = [⟨4, 0, 2, false⟩] := by decide

/-- The plan's cells. -/
theorem openW {w : World} {L B : Nat} {vs : Value} (h : PlanAt w L B vs (groups (unitl ssW)) (testsAt ssW csW)) : ∃ gv cv gb cb g1 o1 c1 g2 o2 c2 vt0 vb1, vs = .slice (some ⟨gv, 0, none⟩) 2 cv ∧ gv < B ∧ gb < B ∧ g1 < B ∧ g2 < B ∧
    w.cell? ⟨gv, 0, none⟩ = some (.int .u8 65) ∧ w.cell? ⟨gv, 1, none⟩ = some (.int .i64 1) ∧ w.cell? ⟨gv, 2, none⟩ = some (.int .i64 1) ∧ w.cell? ⟨gv, 3, none⟩ = some vt0 ∧ w.cell? ⟨gv, 4, none⟩ = some (.slice (some ⟨gb, 0, none⟩) 1 cb) ∧
    w.cell? ⟨gb, 0, none⟩ = some (.int .u8 66) ∧ w.cell? ⟨gb, 1, none⟩ = some (.slice (some ⟨g1, o1, none⟩) 1 c1) ∧
    w.cell? ⟨g1, o1, none⟩ = some (.int .i64 3) ∧ w.cell? ⟨g1, o1 + 1, none⟩ = some (.int .i64 (-1)) ∧ w.cell? ⟨g1, o1 + 2, none⟩ = some (.int .i64 5) ∧ w.cell? ⟨g1, o1 + 3, none⟩ = some (.bool false) ∧
    w.cell? ⟨gv, 8, none⟩ = some (.slice (some ⟨g2, o2, none⟩) 1 c2) ∧ w.cell? ⟨gv, 9, none⟩ = some vb1 ∧
    w.cell? ⟨g2, o2, none⟩ = some (.int .i64 4) ∧ w.cell? ⟨g2, o2 + 1, none⟩ = some (.int .i64 0) ∧ w.cell? ⟨g2, o2 + 2, none⟩ = some (.int .i64 2) ∧ w.cell? ⟨g2, o2 + 3, none⟩ = some (.bool false) := by
  rw [groupsW] at h
  obtain ⟨ad, cv, rfl, hq⟩ := h
  obtain ⟨gv, rfl, hgv, p0, p1, p2, ⟨vt0, p3, ht0⟩, vb0, p4, hb0⟩ := hq 0 (by decide)
  obtain ⟨gv', e', _, r0, r1, r2, ⟨vt2, r3, ht2⟩, vb1, r4, _⟩ := hq 1 (by decide)
  obtain rfl : gv = gv' := by simpa using e'
  obtain ⟨bad, cb, rfl, hr⟩ := hb0
  obtain ⟨gb, rfl, hgb, b0, vt1, b1, ht1⟩ := hr 0 (by decide)
  have t1 : Tests w L B vt1 [⟨3, -1, 5, false⟩] := ht1
  have t2 : Tests w L B vt2 [⟨4, 0, 2, false⟩] := ht2
  obtain ⟨g1, o1, c1, rfl, hg1, y0, y1, y2, y3⟩ := t1.at_ (i := 0) (by decide)
  obtain ⟨g2, o2, c2, rfl, hg2, z0, z1, z2, z3⟩ := t2.at_ (i := 0) (by decide)
  exact ⟨gv, cv, gb, cb, g1, o1, c1, g2, o2, c2, vt0, vb1, rfl, hgv.2, hgb.2, hg1, hg2, p0, p1, p2, p3, p4, b0, b1, y0, y1, y2, y3, r3, r4, z0, z1, z2, z3⟩

set_option maxRecDepth 100000 in
set_option maxHeartbeats 3200000 in
theorem wakes20_any (W : World) : Calls Try.prog 21 #[] W fun e w' => e = .returned (.bool true) ∧ Below W.heap.size W w' := by
  have hp1 := compile_any str1 W
  rw [str1_list, parse1] at hp1
  have Hp1 := Lib.hid hp1
  clear hp1
  go_enter Try.func21, Try.ntmps21
  go_wp2_with fail
  refine Hp1.out.mono ?_
  rintro e w1 ⟨hb1, hpost⟩
  have hpost' : ∃ vs, e = .returned (.tuple #[.agg #[vs, .int .i64 10], .int .i64 0]) ∧ PlanAt w1 W.heap.size w1.heap.size vs (groups (unitl ssW)) (testsAt ssW csW) := by
    rcases hpost with ⟨hbad, _⟩ | ⟨_, _, vs, he, hpl⟩
    · exact absurd (show (checkP ssW csW 10).2 = 0 by rw [checkW]) hbad
    · exact ⟨vs, he, hpl⟩
  obtain ⟨vs, rfl, hpl⟩ := hpost'
  clear hpost
  obtain ⟨gv, cv, gb, cb, g1, o1, c1, g2, o2, c2, vt0, vb1, rfl, hgv, hgb, hg1, hg2, p0, p1, p2, p3, p4, b0, b1, y0, y1, y2, y3, r3, r4, z0, z1, z2, z3⟩ := openW hpl
  have hn1 : gv ≠ w1.heap.size := by omega
  have hn2 : gb ≠ w1.heap.size := by omega
  have hn3 : g1 ≠ w1.heap.size := by omega
  have hn4 : g2 ≠ w1.heap.size := by omega
  have hb2 := Lib.hid (hb1.alloc hb1.size (.cells #[.slice (some ⟨gv, 0, none⟩) 2 cv, .int .i64 10] 51))
  have hpl2 : PlanAt (w1.alloc (.cells #[.slice (some ⟨gv, 0, none⟩) 2 cv, .int .i64 10] 51)) W.heap.size (w1.alloc (.cells #[.slice (some ⟨gv, 0, none⟩) 2 cv, .int .i64 10] 51)).heap.size (.slice (some ⟨gv, 0, none⟩) 2 cv) (groups (unitl ssW)) (testsAt ssW csW) :=
    (hpl.keep fun p _ h2 => World.cell?_of_block (Below.heap_alloc w1 _ p.block h2)).more (Nat.le_refl _) (by simp)
  have hbn := binds_any _ 10 _ _ _ _ hpl2 (by rw [groupsW]; decide) (by rw [groupsW]; decide)
  have hbv : bindsG (groups (unitl ssW)) (groups (unitl ssW)).length = 4 := by decide
  rw [hbv] at hbn
  have HBN := Lib.hid hbn
  have hsz := hb1.size
  clear hpl hpl2 hbn hbv hb1 Hp1
  go_wp2_with fail
  refine HBN.out.mono ?_
  rintro e w3 ⟨rfl, hg3⟩
  go_wp2_with fail
  go_ret
  exact ⟨rfl, hb2.out.trans (hg3.below.mono hb2.out.size)⟩
end Go.Proofs.Ytcfimponmioneaa.WL
