/- Worlds with blocks more and draws more. No program in sight. -/
import Derived.Test.YtceeijamhhokaaaMem
import Derived.WalkKit
import Derived.BigQuiet
import Derived.Deep.QuietTactic
import Derived.Shelf.SlSortCmp.QuietGrown
namespace Go.Proofs.Ytceeijamhhokaaa.Mem
open Go Go.RowKit Go.Sort

/-- Blocks more, draws more. -/
def Grw (w w' : World) : Prop := ∃ q os, w' = grow (w.drewN q) os
theorem Grw.refl (w : World) : Grw w w := ⟨0, #[], by rw [grow_empty]; rfl⟩
theorem Grw.alloc {a w : World} (h : Grw a w) (o : Obj) : Grw a (w.alloc o) := by
  obtain ⟨q, os, rfl⟩ := h
  exact ⟨q, os ++ #[o], by rw [alloc_eq_grow, grow_grow]⟩
theorem Grw.drewN {a w : World} (h : Grw a w) (n : Nat) : Grw a (w.drewN n) := by
  obtain ⟨q, os, rfl⟩ := h
  refine ⟨q + n, os, ?_⟩
  rw [← World.drewN_drewN]; rfl
theorem Grw.trans {a b c : World} (h : Grw a b) (h' : Grw b c) : Grw a c := by
  obtain ⟨q, os, rfl⟩ := h
  obtain ⟨r, os', rfl⟩ := h'
  refine ⟨q + r, os ++ os', ?_⟩
  show grow (grow ((a.drewN q).drewN r) os) os' = _
  rw [grow_grow, World.drewN_drewN]
theorem Grw.below {a w : World} (h : Grw a w) : Below a.heap.size a w := by
  obtain ⟨q, os, rfl⟩ := h
  exact ⟨rfl, rfl, rfl, by rw [size_grow]; exact Nat.le_add_right _ _, fun k hk => heap_grow_old (a.drewN q) os hk⟩
theorem Grw.size {a w : World} (h : Grw a w) : a.heap.size ≤ w.heap.size := h.below.size
theorem Grw.cell {a w : World} (h : Grw a w) {b o : Nat} (hb : b < a.heap.size) {u : Value} (hc : a.cell? ⟨b, o, none⟩ = some u) : w.cell? ⟨b, o, none⟩ = some u :=
  (h.below.cell (p := ⟨b, o, none⟩) hb).trans hc
theorem Grw.grown {P : Program} {f : FuncId} {args : Array Value} {w : World} {n : Nat} {os : Array Obj} {v : Value}
    (h : Calls P f args (grow (w.drewN n) os) fun e w' => e = .returned v ∧ Grw (grow (w.drewN n) os) w') : Calls P f args (grow (w.drewN n) os) fun e w'' => e = .returned v ∧ ∃ p : GrownBy, w'' = grow (w.drewN p.n) p.os :=
  Calls.grown_of h
theorem Grw.cellG {w : World} {b o : Nat} {u : Value} (hb : b < w.heap.size) (h : w.cell? ⟨b, o, none⟩ = some u) : ∀ n os, (grow (w.drewN n) os).cell? ⟨b, o, none⟩ = some u := fun n os => cell_grown hb h n os
end Go.Proofs.Ytceeijamhhokaaa.Mem
