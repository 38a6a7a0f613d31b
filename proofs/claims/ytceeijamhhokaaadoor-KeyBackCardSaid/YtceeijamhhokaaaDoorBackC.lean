/- KeyBack: parts are read back from their key; bytes that are read as parts are their key. The card: its listed variables are tied to the program's text. -/
import Derived.Test.YtceeijamhhokaaaDoorLawBack
import Derived.Test.YtceeijamhhokaaaDoorDoor
import Derived.Test.YtceeijamhhokaaaDoorOpenKey
import Derived.Test.YtceeijamhhokaaaDoorTie
import Derived.Test.YtceeijamhhokaaaDoorCards
import Derived.ProofKit
import Derived.OpenShut
import Derived.ChangeMaps
import Derived.LaidMore
import Derived.Lay
import Derived.SevenTiedAt
import Derived.Stop.Joined
namespace Go.Proofs.YtceeijamhhokaaaDoor.keyBack
open Go.ChangeShapes Go.WideShapes Go.ChangeAt Go.RowKit
open Go.ChangeMaps (open_string shut_string)

theorem own : ownKnob Tryd.prog.godebug = none := by kernel_rfl
theorem laidOut : laidOutB Tryd.prog = true := by kernel_rfl

set_option maxRecDepth 100000 in
theorem lifted (os : Os) (started : os.Started) (H : Type) (enc : TypeId × Value → H) :
    ReturnsInHanded {} Tryd.checked os 6 .any (fun w args => (Rows.keyBackSpec.pre enc Tryd.prog Tryd.f6 Rows.keyBackRow.domain false w args ∧ laidMetH Tryd.prog Rows.keyBackRow.laid w) ∧ sizedMet enc Tryd.prog Tryd.f6 (OpenSpec.ofChange Rows.keyBackSpec) false w args)
      (Rows.keyBackSpec.post enc Tryd.prog Tryd.f6 false true false false) := by
  refine Door.returns_and_shaped (C := Tryd.checked) (X := fun w _ => laidMetH Tryd.prog Rows.keyBackRow.laid w) (fun _ _ _ hh h => h.of_heap hh) own started (by kernel_rfl) Tryd.func6
    (ChangeSpec.witness_shaped (enc := enc) (C := Tryd.checked) (os := os) (X := fun w _ => laidMetH Tryd.prog Rows.keyBackRow.laid w) false (World.laidAll Tryd.prog os Rows.keyBackRow.laid) #[.slice none 0 0, .string .empty] 8 (World.laidAll_os _ _ _)
      (World.shaped_of_ZipB (by kernel_rfl) (by kernel_rfl)) (by kernel_rfl) (by kernel_rfl) (by kernel_rfl)
      (by rw [MakeChecks.laidMetH_plain _ _ _ (by kernel_rfl)]; exact laidMet_laidAll _ (by kernel_rfl) (by kernel_rfl))) ?_
  intro W base args ds gs before hval0 hW hcnd hsz _ hshape
  obtain ⟨hmax, hgl⟩ := Door.maxLen_shaped hshape
  have hval : ∀ (j : Nat) t v, Tryd.f6.params[j]? = some t → args[j]? = some v → Value.okWide Tryd.prog W .any base t v := hval0
  have hW' := hW
  obtain ⟨p, q, hA0, hV, rfl, hfz, hnd⟩ := hW
  have hA : DataW.TrodAll enc Tryd.prog W 0 (fun _ => true) true Tryd.f6.params.toList args.toList ds p := hA0
  rw [Tryd.params6] at hA hval hsz
  obtain ⟨v0, vs0, d0, ds0, p0, q0, hargs, rfl, rfl, h0, r0⟩ := trodAll_cons hA
  obtain ⟨v1, vs1, d1, ds1, p1, q1, rfl, rfl, rfl, h1, r1⟩ := trodAll_cons r0
  obtain ⟨rfl, rfl, rfl⟩ := trodAll_nil r1
  obtain rfl : args = #[v0, v1] := by cases args; simp_all
  obtain ⟨rfl, rfl⟩ := trodVars_none hV
  have k0 := h0
  have lt0 : ∀ x ∈ p0, x.block < W.heap.size := by obtain ⟨m, hm⟩ := k0; exact DataW.trod_lt m _ _ _ hm
  simp only [List.cons_append, List.nil_append, DataW.weightsEach, List.append_nil, List.all_append, Bool.and_eq_true] at hsz
  obtain ⟨l0, hp0, hf0, hl0⟩ := WK.open_parts (hval 0 22 v0 rfl rfl) h0 hsz.1
  obtain ⟨s1, rfl, rfl, rfl, hx1⟩ := open_string Tryd.underlying9 (hval 1 9 v1 rfl rfl) h1
  have z1 : s1.size ≤ 140737488351232 := by have e : s1.data.toList.length = s1.size := Array.length_toList; have h := hsz.2.1; simp only [DataW.weights, reachBytes, List.all_cons, List.all_nil, Bool.and_true] at h; have := of_decide_eq_true h; omega
  clear hA0 hval0
  simp only [List.append_nil] at hW'
  refine (WK.back_law v0 l0 s1 W hp0 (fun p hp => (hf0 p hp).1) hl0 (by omega) hmax hgl).mono fun e W' ⟨he, bel⟩ => ?_
  subst he
  exact ⟨_, rfl, _, _, _, [], _, [], hW', trodAll_mk1 (shut_bool Tryd.underlying4 _), (trodAll_cons_mk (Below.trod laidOut (by kernel_rfl) (of_decide_eq_true (by kernel_rfl)) k0 bel lt0) (trodAll_cons_mk (shut_string Tryd.underlying9 hx1) trodAll_mk0)), rfl, bel.frame _, fun h => by cases h⟩

theorem row : Rows.KeyBackSaid :=
  OpenClaim.holds_of_wide 6 Tryd.f6 rfl rfl rfl rfl rfl rfl rfl ⟨rfl, rfl, rfl, rfl, rfl⟩ rfl rfl rfl rfl rfl (by kernel_rfl) Tryd.func6 (by kernel_rfl)
    (of_decide_eq_true (by kernel_rfl)) (by unfold Func.isWrapper; first | (rw [if_pos (by decide +kernel)]; kernel_rfl) | (rw [if_neg (by decide +kernel)]; exact ⟨rfl, rfl⟩))
    (fun os started H enc _ => lifted os started H enc)

/-- The statement. -/
theorem proved : Rows.KeyBackCardSaid :=
  Claim7.holds_tied_plain_at .later [] [.data, .pinned] true (true, "02bc980107a6b10c4e06c178c0c8598d1c833c6df8e9ed49b423e8fc0397bb59") false row (fun _ h => by cases h) (by kernel_rfl) (fun _ h => by cases h) keyBack_row_tie rfl ⟨rfl, rfl⟩ (by kernel_rfl) rfl
    (fun f fn hf hfn => by
      obtain rfl : f = 6 := Option.some.inj ((show Tryd.prog.funcNamed "oxbow/oxbowlaw02.KeyBack" = some 6 by kernel_rfl).symm.trans hf) |>.symm
      obtain rfl : fn = Tryd.f6 := (Option.some.inj (Tryd.func6.symm.trans hfn)).symm
      exact ⟨by kernel_rfl, fun j t ht => by
        rw [Tryd.params6] at ht
        have hm : t ∈ [22, 9] := by simpa using Array.mem_of_getElem? ht
        have hall : ([22, 9].all fun u => !Tryd.prog.wantsStandIn u) = true := by kernel_rfl
        exact (show Tryd.prog.wantsStandIn t = false by simpa using List.all_eq_true.1 hall t hm)⟩)
    (by kernel_rfl)
end Go.Proofs.YtceeijamhhokaaaDoor.keyBack
