/- cmp.Or at two numbers. -/
import Derived.Test.YtceeijamhhokaaaChecked
import Derived.Test.YtceeijamhhokaaaMem
import Derived.Test.YtceeijamhhokaaaGrw
import Derived.WalkKit
import Derived.Outline
import Derived.RegionTactic
import Derived.Lib.Hide
namespace Go.Proofs.Ytceeijamhhokaaa.WK
open Go Go.RowKit Go.Proofs.Ytceeijamhhokaaa Go.Proofs.Ytceeijamhhokaaa.Mem

set_option maxRecDepth 100000 in
set_option maxHeartbeats 800000 in
theorem or_any (a b : Int) (A : Nat) (W : World) (c0 : W.cell? ⟨A, 0, none⟩ = some (.int .i64 a)) (c1 : W.cell? ⟨A, 1, none⟩ = some (.int .i64 b)) :
    Calls Try.prog 29 #[.slice (some ⟨A, 0, none⟩) 2 2] W fun e w' => e = .returned (.int .i64 (if a ≠ 0 then a else b)) ∧ w' = W := by
  obtain ⟨r, hr⟩ : ∃ r, (if a ≠ 0 then a else b) = r := ⟨_, rfl⟩
  rw [hr]
  have HR := Lib.hid hr
  clear hr
  go_enter Try.func29, Try.ntmps29
  go_wp2_with fail
  go_loopw [8] (fun i wr => ∃ k : Nat, k ≤ 2 ∧ i = .int .i64 k ∧ (1 ≤ k → a = 0) ∧ (2 ≤ k → b = 0) ∧ wr = W) (fun i _ => 2 - (intOf i).toNat)
  case atStart => exact ⟨0, by omega, rfl, by omega, by omega, rfl⟩
  case round =>
    obtain ⟨k, hk, rfl, h1, h2, rfl⟩ := hrel
    rcases (by omega : k = 0 ∨ k = 1 ∨ k = 2) with rfl | rfl | rfl
    · by_cases ha : a = 0
      · have ha' : (a != 0) = false := by simp [ha]
        go_wp2_with fail
        go_roundw
        case rel => exact ⟨1, by omega, by go_num, fun _ => ha, by omega, by trivial⟩
        case measure => simp [intOf]
      · have ha' : (a != 0) = true := by simp [ha]
        go_wp2_with fail
        go_ret
        exact ⟨by rw [← HR.out, if_pos ha]; rfl, rfl⟩
    · have ha := h1 (by omega)
      by_cases hb : b = 0
      · have hb' : (b != 0) = false := by simp [hb]
        go_wp2_with fail
        go_roundw
        case rel => exact ⟨2, by omega, by go_num, fun _ => ha, fun _ => hb, by trivial⟩
        case measure => simp [intOf]
      · have hb' : (b != 0) = true := by simp [hb]
        go_wp2_with fail
        go_ret
        exact ⟨by rw [← HR.out, if_neg (by simp [ha])]; rfl, rfl⟩
    · have ha := h1 (by omega)
      have hb := h2 (by omega)
      go_wp2_with fail
      go_ret
      exact ⟨by rw [← HR.out, if_neg (by simp [ha]), hb]; rfl, rfl⟩
end Go.Proofs.Ytceeijamhhokaaa.WK
