/- The walks of layer 18's check: event.Good and the document's Good. -/
import Derived.Test.YtcojnojdgigmdaaGreatDoorChecked
import Derived.Test.YtcojnojdgigmdaaGreatDoorPEv
import Derived.WalkKit
import Derived.Outline
import Derived.Lib.Hide
import Derived.WalkSpells
import Derived.WalkLawsBesides
set_option maxHeartbeats 800000
set_option maxRecDepth 100000
namespace Go.Proofs.YtcojnojdgigmdaaGreatDoor.WE
open Go.RowKit Go.Proofs.YtcojnojdgigmdaaGreatDoor Go.Proofs.YtcojnojdgigmdaaGreatDoor.Mem Go.Proofs.YtcojnojdgigmdaaGreatDoor.PE

def goodN (e : Ev) : Int := if good e then 0 else 2
theorem good_cases (e : Ev) : e.id < 1 \/ (1 <= e.id /\ 9007199254740992 < e.id) \/ (1 <= e.id /\ e.id <= 9007199254740992 /\ e.time < 0) \/ (1 <= e.id /\ e.id <= 9007199254740992 /\ 0 <= e.time /\ 9007199254740992 < e.time) \/
  (1 <= e.id /\ e.id <= 9007199254740992 /\ 0 <= e.time /\ e.time <= 9007199254740992 /\ e.kind < 65) \/ (1 <= e.id /\ e.id <= 9007199254740992 /\ 0 <= e.time /\ e.time <= 9007199254740992 /\ 65 <= e.kind /\ 90 < e.kind) \/
  (1 <= e.id /\ e.id <= 9007199254740992 /\ 0 <= e.time /\ e.time <= 9007199254740992 /\ 65 <= e.kind /\ e.kind <= 90 /\ e.val < -9007199254740992) \/
  (1 <= e.id /\ e.id <= 9007199254740992 /\ 0 <= e.time /\ e.time <= 9007199254740992 /\ 65 <= e.kind /\ e.kind <= 90 /\ -9007199254740992 <= e.val /\ 9007199254740992 < e.val) \/
  (1 <= e.id /\ e.id <= 9007199254740992 /\ 0 <= e.time /\ e.time <= 9007199254740992 /\ 65 <= e.kind /\ e.kind <= 90 /\ -9007199254740992 <= e.val /\ e.val <= 9007199254740992) := by omega
theorem goodN_ok {e : Ev} (h : good e) : goodN e = 0 := if_pos h
theorem goodN_no {e : Ev} (h : ¬ good e) : goodN e = 2 := if_neg h
theorem ret_int {k : IntKind} {a b : Int} (h : a = b) : Ending.returned (.int k a) = .returned (.int k b) := by rw [h]
def evV (e : Ev) : Value := .agg #[.int .i64 e.id, .int .i64 e.time, .int .u8 e.kind, .int .i64 e.val]

theorem good_any (x : Ev) (W : World) : Calls Tryz.prog 84 #[evV x] W fun e w' => e = .returned (.int .i64 (goodN x)) /\ Below W.heap.size W w' := by
 unfold evV
 rcases good_cases x with h | ⟨h1, h⟩ | ⟨h1, h2, h⟩ | ⟨h1, h2, h3, h⟩ | ⟨h1, h2, h3, h4, h⟩ | ⟨h1, h2, h3, h4, h5, h⟩ | ⟨h1, h2, h3, h4, h5, h6, h⟩ | ⟨h1, h2, h3, h4, h5, h6, h7, h⟩ | ⟨h1, h2, h3, h4, h5, h6, h7, h8⟩
 all_goals
  go_enter Tryz.func84, Tryz.ntmps84
  go_wp2; go_ret; refine ⟨?_, (Below.refl _ _).alloc (Nat.le_refl _) _⟩
  first
   | exact ret_int (goodN_no (by unfold good; omega)).symm
   | exact ret_int (goodN_ok (by unfold good; omega)).symm

end Go.Proofs.YtcojnojdgigmdaaGreatDoor.WE
