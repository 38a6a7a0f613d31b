/- event.compare, event.Less, oxbowref18.Less. -/
import Derived.Test.YtceeijamhhokaaaDoorPEvKey
import Derived.Test.YtceeijamhhokaaaDoorWOr
import Derived.Test.YtceeijamhhokaaaDoorWCmp
import Derived.StillTailTactics
namespace Go.Proofs.YtceeijamhhokaaaDoor.WK
open Go Go.RowKit Go.Sort Go.Proofs.YtceeijamhhokaaaDoor Go.Proofs.YtceeijamhhokaaaDoor.PK Go.Proofs.YtceeijamhhokaaaDoor.Mem

set_option maxRecDepth 100000 in
set_option maxHeartbeats 800000 in
theorem ecmp_any (x y : Ev) (W : World) :
    Calls Tryd.prog 41 #[WE.evV x, WE.evV y] W fun e w' => e = .returned (.int .i64 (evCmp x y)) ∧ Grw W w' := by
  unfold WE.evV
  have HR := Lib.hid (show (if cmpI x.time y.time ≠ 0 then cmpI x.time y.time else cmpI x.id y.id) = evCmp x y from rfl)
  obtain ⟨p, hp⟩ : ∃ p, cmpI x.time y.time = p := ⟨_, rfl⟩
  obtain ⟨q, hq⟩ : ∃ q, cmpI x.id y.id = q := ⟨_, rfl⟩
  have HC1 := Lib.hid (fun w => cmpint_any x.time y.time w)
  have HC2 := Lib.hid (fun w => cmpint_any x.id y.id w)
  rw [hp, hq] at HR
  rw [hp] at HC1
  rw [hq] at HC2
  clear hp hq
  have HB := Lib.hid (show ∃ w1, w1 = (W.alloc (.cells #[.int .i64 x.id, .int .i64 x.time, .int .u8 x.kind, .int .i64 x.val] 47)).alloc (.cells #[.int .i64 y.id, .int .i64 y.time, .int .u8 y.kind, .int .i64 y.val] 47) from ⟨_, rfl⟩)
  obtain ⟨w1, hw1⟩ := HB.out
  have x0 : w1.cell? ⟨W.heap.size, 0, none⟩ = some (.int .i64 x.id) := by rw [hw1]; exact (Lib.cell_of_heap (heap_alloc (heap_new rfl)) 0).trans rfl
  have x1 : w1.cell? ⟨W.heap.size, 1, none⟩ = some (.int .i64 x.time) := by rw [hw1]; exact (Lib.cell_of_heap (heap_alloc (heap_new rfl)) 1).trans rfl
  have y0 : w1.cell? ⟨W.heap.size + 1, 0, none⟩ = some (.int .i64 y.id) := by rw [hw1]; exact (Lib.cell_of_heap (heap_new (by simp)) 0).trans rfl
  have y1 : w1.cell? ⟨W.heap.size + 1, 1, none⟩ = some (.int .i64 y.time) := by rw [hw1]; exact (Lib.cell_of_heap (heap_new (by simp)) 1).trans rfl
  have HG := Lib.hid (show Grw W w1 by rw [hw1]; exact ((Grw.refl W).alloc _).alloc _)
  have HW := Lib.hid hw1
  have HS := Lib.hid (show w1.heap.size = W.heap.size + 2 by rw [hw1]; simp)
  clear hw1 HB
  go_enter Tryd.func41, Tryd.ntmps41
  go_wp2_with fail
  rw [← HW.out]
  go_still_tail 10, (by kernel_rfl)
  still_call (HC1.out _)
  repeat still_step
  still_call (HC2.out _)
  repeat still_step
  try refine wpStill_nil ?_
  have HO := Lib.hid (or_any p q (W.heap.size + 2) (w1.drew.alloc (.cells #[.int .i64 p, .int .i64 q] 3)) ((Lib.cell_of_heap (heap_new HS.out.symm) 0).trans rfl) ((Lib.cell_of_heap (heap_new HS.out.symm) 1).trans rfl))
  rw [HR.out] at HO
  change wpList _ _ _ _ _ w1.drew
  have hz : w1.drew.heap.size = W.heap.size + 2 := HS.out
  have HGD := Lib.hid (show Grw W (w1.drew.alloc (.cells #[.int .i64 p, .int .i64 q] 3)) from (HG.out.drewN 1).alloc _)
  clear x0 x1 y0 y1
  generalize w1.drew = w2 at *
  go_wp2_with fail
  refine HO.out.mono ?_
  rintro e w3 ⟨rfl, rfl⟩
  go_wp2_with fail
  go_ret
  exact ⟨rfl, HGD.out⟩

set_option maxRecDepth 100000 in
set_option maxHeartbeats 800000 in
theorem eless_any (x y : Ev) (W : World) :
    Calls Tryd.prog 27 #[WE.evV x, WE.evV y] W fun e w' => e = .returned (.bool (lessE x y)) ∧ Grw W w' := by
  have HC := Lib.hid (fun w => ecmp_any x y w)
  unfold WE.evV at HC ⊢
  have HR := Lib.hid (evCmp_less x y)
  obtain ⟨r, hr⟩ : ∃ r, evCmp x y = r := ⟨_, rfl⟩
  obtain ⟨s, hs⟩ : ∃ s, lessE x y = s := ⟨_, rfl⟩
  rw [hr, hs] at HR
  rw [hs]
  rw [hr] at HC
  clear hr hs
  go_enter Tryd.func27, Tryd.ntmps27
  go_wp2_with fail
  refine (HC.out _).mono ?_
  rintro e w3 ⟨rfl, hg⟩
  have hdec := HR.out
  have HG := Lib.hid ((((Grw.refl W).alloc _).alloc _).trans hg)
  clear hg HR
  go_wp2_with fail
  go_ret
  exact ⟨rfl, HG.out⟩

set_option maxRecDepth 100000 in
set_option maxHeartbeats 800000 in
theorem rless_any (x y : Ev) (W : World) :
    Calls Tryd.prog 28 #[WE.evV x, WE.evV y] W fun e w' => e = .returned (.bool (lessE x y)) ∧ Grw W w' := by
  unfold WE.evV
  have HR := Lib.hid (show decide (x.time < y.time ∨ x.time = y.time ∧ x.id < y.id) = lessE x y from rfl)
  obtain ⟨s, hs⟩ : ∃ s, lessE x y = s := ⟨_, rfl⟩
  rw [hs] at HR
  rw [hs]
  clear hs
  by_cases ht : x.time = y.time
  · have ht' : (x.time != y.time) = false := by simp [ht]
    have hdec : decide (x.id < y.id) = s := by rw [← HR.out, decide_eq_decide]; simp [ht]
    clear HR
    go_enter Tryd.func28, Tryd.ntmps28
    go_wp2_with fail
    go_ret
    exact ⟨rfl, ((Grw.refl W).alloc _).alloc _⟩
  · have ht' : (x.time != y.time) = true := by simp [ht]
    have hdec : decide (x.time < y.time) = s := by rw [← HR.out, decide_eq_decide]; simp [ht]
    clear HR
    go_enter Tryd.func28, Tryd.ntmps28
    go_wp2_with fail
    go_ret
    exact ⟨rfl, ((Grw.refl W).alloc _).alloc _⟩
end Go.Proofs.YtceeijamhhokaaaDoor.WK
