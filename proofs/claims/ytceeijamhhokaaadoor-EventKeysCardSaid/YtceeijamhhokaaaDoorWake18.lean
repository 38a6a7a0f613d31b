/- oxbowlaw18.wakes. -/
import Derived.Test.YtceeijamhhokaaaDoorEPut
import Derived.Test.YtceeijamhhokaaaDoorWGood
namespace Go.Proofs.YtceeijamhhokaaaDoor.L18
open Go.RowKit Go.Proofs.YtceeijamhhokaaaDoor Go.Proofs.YtceeijamhhokaaaDoor.Mem Go.Proofs.YtceeijamhhokaaaDoor.PE

theorem wake_put : putEs [⟨1, 2, 65, -1⟩] = [2, 4, 130, 1, 1] := by rfl
theorem evs_one (W : World) (e : Ev) (t : TypeId) : Evs (W.alloc (.cells #[.int .i64 e.id, .int .i64 e.time, .int .u8 e.kind, .int .i64 e.val] t)) (W.heap.size + 1) (.slice (some ⟨W.heap.size, 0, none⟩) 1 1) [e] :=
  Sl.new W t #[.int .i64 e.id, .int .i64 e.time, .int .u8 e.kind, .int .i64 e.val] 1 4 rfl W.heap.size rfl

set_option maxRecDepth 100000 in
set_option maxHeartbeats 400000 in
theorem wakes_any (W : World) : Calls Tryd.prog 20 #[] W fun e w' => e = .returned (.bool true) ∧ Below W.heap.size W w' := by
  go_enter Tryd.func20, Tryd.ntmps20
  go_wp2_with fail
  have hE := evs_one W ⟨1, 2, 65, -1⟩ 47
  refine (WE.put_any _ [⟨1, 2, 65, -1⟩] _ (hE.more (by simp)) (by simp) (by intro x hx; simp at hx; subst hx; unfold Ev.fits; simp only; omega)).mono ?_
  rintro e w1 ⟨rfl, hb1⟩
  rw [wake_put]
  have hb1 : Below W.heap.size W w1 := ((Below.refl _ _).alloc (Nat.le_refl _) _).trans (hb1.mono (by simp))
  go_wp2_with fail
  refine (WE.good_any ⟨1, 0, 65, 0⟩ _).mono ?_
  rintro e w2 ⟨rfl, hb2⟩
  have hb2 : Below W.heap.size W w2 := hb1.trans (hb2.mono hb1.size)
  have hg1 : WE.goodN ⟨1, 0, 65, 0⟩ = 0 := by decide
  rw [hg1]
  clear hg1
  go_wp2_with fail
  refine (WE.good_any ⟨0, 0, 0, 0⟩ _).mono ?_
  rintro e w3 ⟨rfl, hb3⟩
  have hb3 : Below W.heap.size W w3 := hb2.trans (hb3.mono hb2.size)
  have hg1 : WE.goodN ⟨0, 0, 0, 0⟩ = 2 := by decide
  rw [hg1]
  clear hg1
  go_wp2_with fail
  go_ret
  exact ⟨rfl, hb3⟩
end Go.Proofs.YtceeijamhhokaaaDoor.L18
