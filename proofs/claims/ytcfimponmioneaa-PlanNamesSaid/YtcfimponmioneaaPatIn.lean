/- The pattern that PlanSteps and PlanAhead look at, in a variable of its own. No code is walked here. -/
import Derived.Test.YtcfimponmioneaaWPlan5
namespace Go.Proofs.Ytcfimponmioneaa.WL
open Go Go.RowKit Go.Sort Go.Proofs.Ytcfimponmioneaa Go.Proofs.Ytcfimponmioneaa.PL Go.Proofs.Ytcfimponmioneaa.PP Go.Proofs.Ytcfimponmioneaa.Mem Go.Proofs.Ytcfimponmioneaa.WP

theorem Sl.own_more' {w w' : World} {b s n : Nat} {e : TypeId} {v : Value} {xs : List Value} (h : w.ownsRow b e s v n xs) (hb : Below w.heap.size w w') : Sl w' w'.heap.size s v n xs :=
  Sl.more (Sl.below (Sl.of_own h) hb) hb.size
theorem Stps.of_own' {w w' : World} {b : Nat} {e : TypeId} {v : Value} {l : List Stp} (h : w.ownsRow b e 5 v l.length (cellsOf encS l)) (hb : Below w.heap.size w w') : Stps w' w'.heap.size v (l.map gS) := by
  have h := Sl.more (Sl.below (Sl.of_own h) hb) hb.size
  rw [cells_gS] at h
  unfold Stps
  rw [List.length_map]
  exact h
theorem Cnds.of_own' {w w' : World} {b : Nat} {e : TypeId} {v : Value} {l : List Cnd} (h : w.ownsRow b e 4 v l.length (cellsOf encC l)) (hb : Below w.heap.size w w') : Cnds w' w'.heap.size v (l.map gC) := by
  have h := Sl.more (Sl.below (Sl.of_own h) hb) hb.size
  rw [cells_gC] at h
  unfold Cnds
  rw [List.length_map]
  exact h
/-- The pattern under test. -/
structure PatIn (W w : World) (va vb : Value) (wi : Int) (ss : List GS) (cs : List GC) : Prop where
  bel : Below W.heap.size W w
  st : Stps w w.heap.size va ss
  cd : Cnds w w.heap.size vb cs
  l1 : ss.length ≤ maxLen
  l2 : cs.length ≤ maxLen
theorem PatIn.below {W w w' : World} {va vb : Value} {wi : Int} {ss : List GS} {cs : List GC} (h : PatIn W w va vb wi ss cs) (hb : Below w.heap.size w w') : PatIn W w' va vb wi ss cs :=
  ⟨h.bel.trans (hb.mono h.bel.size), Sl.more (Sl.below h.st hb) hb.size, Sl.more (Sl.below h.cd hb) hb.size, h.l1, h.l2⟩
end Go.Proofs.Ytcfimponmioneaa.WL
