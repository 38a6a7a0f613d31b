/- KeyAbove: what is above a beginning is above all that begins so, and below it is nothing that is. The card: its listed variables are tied to the program's text. -/
import Derived.Test.YtceeijamhhokaaaDoorLawAbove
import Derived.Test.YtceeijamhhokaaaDoorDoor
import Derived.Test.YtceeijamhhokaaaDoorTie
import Derived.Test.YtceeijamhhokaaaDoorCards
import Derived.ProofKit
import Derived.OpenShut
import Derived.ChangeMaps
import Derived.LaidMore
import Derived.Lay
import Derived.SevenTiedAt
import Derived.Stop.Joined
namespace Go.Proofs.YtceeijamhhokaaaDoor.keyAbove
open Go.ChangeShapes Go.WideShapes Go.ChangeAt Go.RowKit
open Go.ChangeMaps (open_string shut_string)

theorem own : ownKnob Tryd.prog.godebug = none := by kernel_rfl

set_option maxRecDepth 100000 in
theorem lifted (os : Os) (started : os.Started) (H : Type) (enc : TypeId × Value → H) :
    ReturnsInHanded {} Tryd.checked os 4 .any (fun w args => (Rows.keyAboveSpec.pre enc Tryd.prog Tryd.f4 Rows.keyAboveRow.domain false w args ∧ laidMetH Tryd.prog Rows.keyAboveRow.laid w) ∧ sizedMet enc Tryd.prog Tryd.f4 (OpenSpec.ofChange Rows.keyAboveSpec) false w args)
      (Rows.keyAboveSpec.post enc Tryd.prog Tryd.f4 false true false false) := by
  refine Door.returns_and_shaped (C := Tryd.checked) (X := fun w _ => laidMetH Tryd.prog Rows.keyAboveRow.laid w) (fun _ _ _ hh h => h.of_heap hh) own started (by kernel_rfl) Tryd.func4
    (ChangeSpec.witness_shaped (enc := enc) (C := Tryd.checked) (os := os) (X := fun w _ => laidMetH Tryd.prog Rows.keyAboveRow.laid w) false (World.laidAll Tryd.prog os Rows.keyAboveRow.laid) #[.string .empty, .string .empty, .string .empty] 8 (World.laidAll_os _ _ _)
      (World.shaped_of_ZipB (by kernel_rfl) (by kernel_rfl)) (by kernel_rfl) (by kernel_rfl) (by kernel_rfl)
      (by rw [MakeChecks.laidMetH_plain _ _ _ (by kernel_rfl)]; exact laidMet_laidAll _ (by kernel_rfl) (by kernel_rfl))) ?_
  intro W base args ds gs before hval0 hW hcnd hsz _ hshape
  obtain ⟨hmax, hgl⟩ := Door.maxLen_shaped hshape
  have hval : ∀ (j : Nat) t v, Tryd.f4.params[j]? = some t → args[j]? = some v → Value.okWide Tryd.prog W .any base t v := hval0
  have hW' := hW
  obtain ⟨p, q, hA0, hV, rfl, hfz, hnd⟩ := hW
  have hA : DataW.TrodAll enc Tryd.prog W 0 (fun _ => true) true Tryd.f4.params.toList args.toList ds p := hA0
  rw [Tryd.params4] at hA hval hsz
  obtain ⟨v0, vs0, d0, ds0, p0, q0, hargs, rfl, rfl, h0, r0⟩ := trodAll_cons hA
  obtain ⟨v1, vs1, d1, ds1, p1, q1, rfl, rfl, rfl, h1, r1⟩ := trodAll_cons r0
  obtain ⟨v2, vs2, d2, ds2, p2, q2, rfl, rfl, rfl, h2, r2⟩ := trodAll_cons r1
  obtain ⟨rfl, rfl, rfl⟩ := trodAll_nil r2
  obtain rfl : args = #[v0, v1, v2] := by cases args; simp_all
  obtain ⟨rfl, rfl⟩ := trodVars_none hV
  obtain ⟨s, rfl, rfl, rfl, hx0⟩ := open_string Tryd.underlying9 (hval 0 9 v0 rfl rfl) h0
  obtain ⟨t, rfl, rfl, rfl, hx1⟩ := open_string Tryd.underlying9 (hval 1 9 v1 rfl rfl) h1
  obtain ⟨u, rfl, rfl, rfl, hx2⟩ := open_string Tryd.underlying9 (hval 2 9 v2 rfl rfl) h2
  clear hA0 hval0
  simp only [List.append_nil] at hW'
  have e0 : s.data.toList.length = s.size := Array.length_toList
  have e1 : t.data.toList.length = t.size := Array.length_toList
  have e2 : u.data.toList.length = u.size := Array.length_toList
  have e0' : s.data.size = s.size := rfl
  have e1' : t.data.size = t.size := rfl
  have e2' : u.data.size = u.size := rfl
  simp only [List.cons_append, List.nil_append, DataW.weightsEach, DataW.weights, reachBytes, List.all_cons, Bool.and_eq_true] at hsz
  obtain ⟨z0, z1, z2, -⟩ := hsz
  have z0 := of_decide_eq_true z0
  have z1 := of_decide_eq_true z1
  have z2 := of_decide_eq_true z2
  refine (WK.above_law s t u W (by omega) (by omega) (by omega) hmax hgl).mono fun e W' ⟨he, bel⟩ => ?_
  subst he
  exact ⟨_, rfl, _, _, _, [], _, [], hW', trodAll_mk1 (shut_bool Tryd.underlying4 _), (trodAll_cons_mk (shut_string Tryd.underlying9 hx0) (trodAll_cons_mk (shut_string Tryd.underlying9 hx1) (trodAll_cons_mk (shut_string Tryd.underlying9 hx2) trodAll_mk0))), rfl, bel.frame _, fun h => by cases h⟩

theorem row : Rows.KeyAboveSaid :=
  OpenClaim.holds_of_wide 4 Tryd.f4 rfl rfl rfl rfl rfl rfl rfl ⟨rfl, rfl, rfl, rfl, rfl⟩ rfl rfl rfl rfl rfl (by kernel_rfl) Tryd.func4 (by kernel_rfl)
    (of_decide_eq_true (by kernel_rfl)) (by unfold Func.isWrapper; first | (rw [if_pos (by decide +kernel)]; kernel_rfl) | (rw [if_neg (by decide +kernel)]; exact ⟨rfl, rfl⟩))
    (fun os started H enc _ => lifted os started H enc)

/-- The statement. -/
theorem proved : Rows.KeyAboveCardSaid :=
  Claim7.holds_tied_plain_at .later [] [.data, .pinned] true (true, "02bc980107a6b10c4e06c178c0c8598d1c833c6df8e9ed49b423e8fc0397bb59") false row (fun _ h => by cases h) (by kernel_rfl) (fun _ h => by cases h) keyAbove_row_tie rfl ⟨rfl, rfl⟩ (by kernel_rfl) rfl
    (fun f fn hf hfn => by
      obtain rfl : f = 4 := Option.some.inj ((show Tryd.prog.funcNamed "oxbow/oxbowlaw02.KeyAbove" = some 4 by kernel_rfl).symm.trans hf) |>.symm
      obtain rfl : fn = Tryd.f4 := (Option.some.inj (Tryd.func4.symm.trans hfn)).symm
      exact ⟨by kernel_rfl, fun j t ht => by
        rw [Tryd.params4] at ht
        have hm : t ∈ [9, 9, 9] := by simpa using Array.mem_of_getElem? ht
        have hall : ([9, 9, 9].all fun u => !Tryd.prog.wantsStandIn u) = true := by kernel_rfl
        exact (show Tryd.prog.wantsStandIn t = false by simpa using List.all_eq_true.1 hall t hm)⟩)
    (by kernel_rfl)
end Go.Proofs.YtceeijamhhokaaaDoor.keyAbove
