/- TopRising: each row that three loops find, each once. The card: its listed variables are tied to the program's text. -/
import Derived.Test.YtcojnojdgigmdaaDoorLawRise
import Derived.Test.YtcojnojdgigmdaaDoorB13
import Derived.Test.YtcojnojdgigmdaaDoorTie
import Derived.Test.YtcojnojdgigmdaaDoorCards
import Derived.ProofKit
import Derived.OpenShut
import Derived.ChangeMaps
import Derived.LaidMore
import Derived.Lay
import Derived.SevenTiedAt
import Derived.Stop.Joined
namespace Go.Proofs.YtcojnojdgigmdaaDoor.topRising
open Go.ChangeShapes Go.WideShapes Go.ChangeAt Go.RowKit Go.Proofs.YtcojnojdgigmdaaDoor.Mem
open Go.ChangeMaps (open_string shut_string)

theorem own : ownKnob Tryd.prog.godebug = none := by kernel_rfl
theorem laidOut : laidOutB Tryd.prog = true := by kernel_rfl

theorem events {H : Type} {enc : TypeId × Value → H} {w : World} {fuel : Nat} {v : Value} {x : DataW H × List MemPlace} (h : DataW.trod enc Tryd.prog w 0 (fun _ => true) true fuel 68 [v] = some x) :
    ∃ l : List Ev, WR.Tps w w.heap.size v l ∧ (∀ e ∈ l, e.fits) ∧ ((l = [] ∧ x.1 = .nil) ∨ ∃ elems spare, x.1 = .slice elems spare ∧ elems.length = l.length) := by
  refine WR.open_tops Tryd.underlying68 Tryd.underlying113 (by kernel_rfl) (by kernel_rfl) rfl ?_ h
  intro j f hf
  match j, hf with
  | 0, hf => injection hf with hf; subst hf; exact ⟨_, rfl, Tryd.underlying2, rfl⟩
  | 1, hf => injection hf with hf; subst hf; exact ⟨_, rfl, Tryd.underlying5, rfl⟩
  | 2, hf => injection hf with hf; subst hf; exact ⟨_, rfl, Tryd.underlying2, rfl⟩
  | j + 3, hf => simp at hf

set_option maxRecDepth 100000 in
theorem lifted (os : Os) (started : os.Started) (H : Type) (enc : TypeId × Value → H) :
    ReturnsInHanded {} Tryd.checked os 9 .any (fun w args => (Rows.topRisingSpec.pre enc Tryd.prog Tryd.f9 Rows.topRisingRow.domain false w args ∧ laidMetH Tryd.prog Rows.topRisingRow.laid w) ∧ sizedMet enc Tryd.prog Tryd.f9 (OpenSpec.ofChange Rows.topRisingSpec) false w args)
      (Rows.topRisingSpec.post enc Tryd.prog Tryd.f9 false true false false) := by
  refine Door.returns_and_shaped (C := Tryd.checked) (X := fun w _ => laidMetH Tryd.prog Rows.topRisingRow.laid w) (fun _ _ _ hh h => h.of_heap hh) own started (by kernel_rfl) Tryd.func9
    (ChangeSpec.witness_shaped (enc := enc) (C := Tryd.checked) (os := os) (X := fun w _ => laidMetH Tryd.prog Rows.topRisingRow.laid w) false (World.laidAll Tryd.prog os Rows.topRisingRow.laid) #[.slice none 0 0, .int .i64 0] 8 (World.laidAll_os _ _ _)
      (World.shaped_of_ZipB (by kernel_rfl) (by kernel_rfl)) (by kernel_rfl) (by kernel_rfl) (by kernel_rfl)
      (by rw [MakeChecks.laidMetH_plain _ _ _ (by kernel_rfl)]; exact laidMet_laidAll _ (by kernel_rfl) (by kernel_rfl))) ?_
  intro W base args ds gs before hval0 hW hcnd hsz hL hshape
  have htab : WS.Tab W := WS.tab_of hL
  have hpow := WS.pow_lt htab
  have hval : ∀ (j : Nat) t v, Tryd.f9.params[j]? = some t → args[j]? = some v → Value.okWide Tryd.prog W .any base t v := hval0
  have hW' := hW
  obtain ⟨p, q, hA0, hV, rfl, hfz, hnd⟩ := hW
  have hA : DataW.TrodAll enc Tryd.prog W 0 (fun _ => true) true Tryd.f9.params.toList args.toList ds p := hA0
  rw [Tryd.params9] at hA hval hsz
  obtain ⟨v0, vs0, d0, ds0, p0, q0, hargs, rfl, rfl, h0, r0⟩ := trodAll_cons hA
  obtain ⟨v1, vs1, d1, ds1, p1, q1, rfl, rfl, rfl, h1, r1⟩ := trodAll_cons r0
  obtain ⟨rfl, rfl, rfl⟩ := trodAll_nil r1
  obtain rfl : args = #[v0, v1] := by cases args; simp_all
  obtain ⟨rfl, rfl⟩ := trodVars_none hV
  obtain ⟨sa0, len0, cap0, rfl⟩ := okWide_slice Tryd.underlying68 (hval 0 68 v0 rfl rfl)
  have k0 := h0
  have lt0 : ∀ x ∈ p0, x.block < W.heap.size := by obtain ⟨m, hm⟩ := k0; exact DataW.trod_lt m _ _ _ hm
  obtain ⟨fuel0, hfu0⟩ := h0
  obtain ⟨l0, hl0, hfit0, _⟩ := events hfu0
  obtain ⟨n1, rfl, rfl, rfl, wc1⟩ := open_int Tryd.underlying2 (hval 1 2 v1 rfl rfl) h1
  have wb1 : -9223372036854775808 ≤ n1 ∧ n1 ≤ 9223372036854775807 := by simpa [Lit.wf, IntKind.min, IntKind.max, IntKind.signed, IntKind.bits] using wc1
  clear hA0 hval0
  simp only [List.append_nil] at hW'
  refine (WR.rise_law _ l0 n1 W hl0 hfit0 wb1 htab hpow).mono fun e W' ⟨he, bel⟩ => ?_
  subst he
  exact ⟨_, rfl, _, _, _, [], _, [], hW', trodAll_mk1 (shut_bool Tryd.underlying4 _), (trodAll_cons_mk (Below.trod laidOut (by kernel_rfl) (of_decide_eq_true (by kernel_rfl)) k0 bel lt0) (trodAll_cons_mk (shut_int Tryd.underlying2 wc1) trodAll_mk0)), rfl, bel.frame _, fun h => by cases h⟩

theorem row : Rows.TopRisingSaid :=
  OpenClaim.holds_of_wide 9 Tryd.f9 rfl rfl rfl rfl rfl rfl rfl ⟨rfl, rfl, rfl, rfl, rfl⟩ rfl rfl rfl rfl rfl (by kernel_rfl) Tryd.func9 (by kernel_rfl)
    (of_decide_eq_true (by kernel_rfl)) (by unfold Func.isWrapper; first | (rw [if_pos (by decide +kernel)]; kernel_rfl) | (rw [if_neg (by decide +kernel)]; exact ⟨rfl, rfl⟩))
    (fun os started H enc _ => lifted os started H enc)

/-- The statement. -/
theorem proved : Rows.TopRisingCardSaid :=
  Claim7.holds_tied_plain_at .later [] _ _ _ _ row (fun _ h => by cases h) (by kernel_rfl) (fun _ h => by cases h) topRising_row_tie rfl ⟨rfl, rfl⟩ (by kernel_rfl) rfl
    (fun f fn hf hfn => by
      obtain rfl : f = 9 := Option.some.inj ((show Tryd.prog.funcNamed "oxbow/oxbowtop.TopRising" = some 9 by kernel_rfl).symm.trans hf) |>.symm
      obtain rfl : fn = Tryd.f9 := (Option.some.inj (Tryd.func9.symm.trans hfn)).symm
      exact ⟨by kernel_rfl, fun j t ht => by
        rw [Tryd.params9] at ht
        have hm : t ∈ [68, 2] := by simpa using Array.mem_of_getElem? ht
        have hall : ([68, 2].all fun u => !Tryd.prog.wantsStandIn u) = true := by kernel_rfl
        exact (show Tryd.prog.wantsStandIn t = false by simpa using List.all_eq_true.1 hall t hm)⟩)
    (by kernel_rfl)
end Go.Proofs.YtcojnojdgigmdaaDoor.topRising
