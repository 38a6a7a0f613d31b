/- EventSorts: every events are brought in the document's order, in a new list. -/
import Derived.Test.YtceeijamhhokaaaLaw18S
import Derived.Test.YtceeijamhhokaaaOpen
import Derived.ProofKit
import Derived.OpenShut
import Derived.ChangeMaps
import Derived.Test.YtceeijamhhokaaaRows
namespace Go.Proofs.Ytceeijamhhokaaa.eventSorts
open Go.ChangeShapes Go.WideShapes Go.ChangeAt Go.RowKit Go.Proofs.Ytceeijamhhokaaa.Mem
open Go.ChangeMaps (open_string shut_string)

theorem own : ownKnob Try.prog.godebug = none := by kernel_rfl
theorem laidOut : laidOutB Try.prog = true := by kernel_rfl

theorem events {H : Type} {enc : TypeId × Value → H} {w : World} {fuel : Nat} {v : Value} {x : DataW H × List MemPlace} (h : DataW.trod enc Try.prog w 0 (fun _ => true) true fuel 22 [v] = some x) :
    ∃ l : List Ev, Evs w w.heap.size v l ∧ (∀ e ∈ l, e.fits) ∧ ((l = [] ∧ x.1 = .nil) ∨ ∃ elems spare, x.1 = .slice elems spare ∧ elems.length = l.length) := by
  refine Op.open_events Try.underlying22 Try.underlying26 (by kernel_rfl) (by kernel_rfl) rfl ?_ h
  intro j f hf
  match j, hf with
  | 0, hf => injection hf with hf; subst hf; exact ⟨_, rfl, Try.underlying2, rfl⟩
  | 1, hf => injection hf with hf; subst hf; exact ⟨_, rfl, Try.underlying2, rfl⟩
  | 2, hf => injection hf with hf; subst hf; exact ⟨_, rfl, Try.underlying5, rfl⟩
  | 3, hf => injection hf with hf; subst hf; exact ⟨_, rfl, Try.underlying2, rfl⟩
  | j + 4, hf => simp at hf


set_option maxRecDepth 100000 in
theorem lifted (os : Os) (started : os.Started) (H : Type) (enc : TypeId × Value → H) :
    ReturnsInHanded {} Try.checked os 5 .any (Rows.eventSortsSpec.pre6 enc Try.prog Try.f5 Rows.eventSortsRow.domain false) (Rows.eventSortsSpec.post enc Try.prog Try.f5 false true false false) := by
  refine returnsInHanded_of_change (C := Try.checked) own started (by kernel_rfl) Try.func5
    (ChangeSpec.witness6 (enc := enc) (C := Try.checked) false ⟨#[], #[.slice none 0 0], []⟩ 8 (by kernel_rfl) (by kernel_rfl) (by kernel_rfl) (by kernel_rfl)) ?_
  intro W base args ds gs before hval0 hW hcnd _
  have hval : ∀ (j : Nat) t v, Try.f5.params[j]? = some t → args[j]? = some v → Value.okWide Try.prog W .any base t v := hval0
  have hW' := hW
  obtain ⟨p, q, hA0, hV, rfl, hfz, hnd⟩ := hW
  have hA : DataW.TrodAll enc Try.prog W 0 (fun _ => true) true Try.f5.params.toList args.toList ds p := hA0
  rw [Try.params5] at hA hval
  obtain ⟨v0, vs0, d0, ds0, p0, q0, hargs, rfl, rfl, h0, r0⟩ := trodAll_cons hA
  obtain ⟨rfl, rfl, rfl⟩ := trodAll_nil r0
  obtain rfl : args = #[v0] := by cases args; simp_all
  obtain ⟨rfl, rfl⟩ := trodVars_none hV
  obtain ⟨a0, len0, cap0, rfl⟩ := okWide_slice Try.underlying22 (hval 0 22 v0 rfl rfl)
  have k0 := h0
  have lt0 : ∀ x ∈ p0, x.block < W.heap.size := by obtain ⟨m, hm⟩ := k0; exact DataW.trod_lt m _ _ _ hm
  obtain ⟨fuel, hf0⟩ := h0
  obtain ⟨l, hl, hfit, _⟩ := events hf0
  clear hA0 hval0
  simp only [List.append_nil] at hW'
  refine (L18.sorts_any _ l W hl hfit).mono fun e W' ⟨he, bel⟩ => ?_
  subst he
  exact ⟨_, rfl, _, _, _, [], _, [], hW', trodAll_mk1 (shut_bool Try.underlying4 _), (trodAll_cons_mk (Below.trod laidOut (by kernel_rfl) (of_decide_eq_true (by kernel_rfl)) k0 bel lt0) trodAll_mk0), rfl, bel.frame _, fun h => by cases h⟩

theorem over : Rows.eventSortsRow.holds Try.pinned (OpenSpec.ofChange Rows.eventSortsSpec) :=
  OpenClaim.holds_of_wide 5 Try.f5 rfl rfl rfl rfl rfl rfl rfl ⟨rfl, rfl, rfl, rfl, rfl⟩ rfl rfl rfl rfl rfl (by kernel_rfl) Try.func5 (by kernel_rfl)
    (of_decide_eq_true (by kernel_rfl)) (by unfold Func.isWrapper; first | (rw [if_pos (by decide +kernel)]; kernel_rfl) | (rw [if_neg (by decide +kernel)]; exact ⟨rfl, rfl⟩))
    (fun os started H enc _ => lifted os started H enc)

/-- The statement. -/
theorem proved : Rows.EventSortsSaid :=
  over
end Go.Proofs.Ytceeijamhhokaaa.eventSorts
