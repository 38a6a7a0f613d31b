/- EventPuts, proved where the arguments are of bulk at most 1048576: every events have the document's bytes, and every bytes the document's events, or its error. -/
import Derived.Test.YtceeijamhhokaaaOpen
import Derived.Test.YtceeijamhhokaaaLaw18P
namespace Go.Proofs.Ytceeijamhhokaaa.eventPuts
open Go.ChangeShapes Go.WideShapes Go.ChangeAt Go.RowKit Go.Proofs.Ytceeijamhhokaaa.Mem
open Go.ChangeMaps (open_string shut_string)

theorem own : ownKnob Try.prog.godebug = none := by kernel_rfl
theorem laidOut : laidOutB Try.prog = true := by kernel_rfl

theorem events {H : Type} {enc : TypeId × Value → H} {w : World} {fuel : Nat} {v : Value} {x : DataW H × List MemPlace} (h : DataW.trod enc Try.prog w 0 (fun _ => true) true fuel 22 [v] = some x) :
    ∃ l : List Ev, Evs w w.heap.size v l ∧ (∀ e ∈ l, e.fits) ∧ ((l = [] ∧ x.1 = .nil) ∨ ∃ elems spare, x.1 = .slice elems spare ∧ elems.length = l.length) := by
  refine Op.open_events Try.underlying22 Try.underlying26 (by kernel_rfl) (by kernel_rfl) rfl ?_ h
  intro j f hf
  match j, hf with
  | 0, hf => injection hf with hf; subst hf; exact ⟨_, rfl, Try.underlying2, rfl⟩
  | 1, hf => injection hf with hf; subst hf; exact ⟨_, rfl, Try.underlying2, rfl⟩
  | 2, hf => injection hf with hf; subst hf; exact ⟨_, rfl, Try.underlying5, rfl⟩
  | 3, hf => injection hf with hf; subst hf; exact ⟨_, rfl, Try.underlying2, rfl⟩
  | j + 4, hf => simp at hf

theorem bulk_len {H : Type} (l : List (DataW H)) : l.length ≤ Rows.uptoBulkAll l := by
  induction l with
  | nil => simp [Rows.uptoBulkAll]
  | cons x r ih =>
    have : 1 ≤ Rows.uptoBulk x := by
      cases x with
      | lit l => cases l <;> simp [Rows.uptoBulk]
      | _ => simp [Rows.uptoBulk]
    simp only [Rows.uptoBulkAll, List.length_cons]; omega

set_option maxRecDepth 100000 in
theorem lifted (os : Os) (started : os.Started) (H : Type) (enc : TypeId × Value → H) (F : Stop.Interp) :
    ReturnsInHanded {} Try.checked os 3 .any ((Rows.OpenSpec.upto Rows.eventPutsSpec).pre6 enc Try.prog Try.f3 Rows.eventPutsUptoRow.domain false) (((Rows.OpenSpec.upto Rows.eventPutsSpec).at F).post enc Try.prog Try.f3 false true false false) := by
  refine returnsInHanded_of_cond (C := Try.checked) (s := Rows.OpenSpec.upto Rows.eventPutsSpec) (k := Rows.uptoSmall) rfl own started (by kernel_rfl) Try.func3
    (OpenSpec.witness (enc := enc) (C := Try.checked) (s := Rows.OpenSpec.upto Rows.eventPutsSpec) (k := Rows.uptoSmall) rfl false ⟨#[], #[.slice none 0 0, .string .empty], []⟩ 8 (by kernel_rfl) (by kernel_rfl) (by kernel_rfl)
      (x := ([.nil, .lit (.string [])], [], [])) (by kernel_rfl) rfl (by kernel_rfl)) ?_
  intro W base args ds gs before hval0 hW _ hk _
  have hval : ∀ (j : Nat) t v, Try.f3.params[j]? = some t → args[j]? = some v → Value.okWide Try.prog W .any base t v := hval0
  have hW' := hW
  obtain ⟨p, q, hA0, hV, rfl, hfz, hnd⟩ := hW
  have hA : DataW.TrodAll enc Try.prog W 0 (fun _ => true) true Try.f3.params.toList args.toList ds p := hA0
  rw [Try.params3] at hA hval
  obtain ⟨v0, vs0, d0, ds0, p0, q0, hargs, rfl, rfl, h0, r0⟩ := trodAll_cons hA
  obtain ⟨v1, vs1, d1, ds1, p1, q1, rfl, rfl, rfl, h1, r1⟩ := trodAll_cons r0
  obtain ⟨rfl, rfl, rfl⟩ := trodAll_nil r1
  obtain rfl : args = #[v0, v1] := by cases args; simp_all
  obtain ⟨rfl, rfl⟩ := trodVars_none hV
  obtain ⟨a0, len0, cap0, rfl⟩ := okWide_slice Try.underlying22 (hval 0 22 v0 rfl rfl)
  have k0 := h0
  have lt0 : ∀ x ∈ p0, x.block < W.heap.size := by obtain ⟨m, hm⟩ := k0; exact DataW.trod_lt m _ _ _ hm
  obtain ⟨s, rfl, rfl, rfl, hmax⟩ := open_string Try.underlying9 (hval 1 9 v1 rfl rfl) h1
  obtain ⟨fuel, hf0⟩ := h0
  obtain ⟨l, hl, hfit, hlen⟩ := events hf0
  have hb : Rows.uptoBulkAll [d0, DataW.lit (H := H) (.string s.data.toList)] ≤ 1048576 := by
    have h := of_decide_eq_true hk
    simpa using h
  simp only [Rows.uptoBulkAll, Rows.uptoBulk] at hb
  have es : s.data.toList.length = s.size := Array.length_toList
  have hll : l.length ≤ 1048576 := by
    rcases hlen with ⟨rfl, _⟩ | ⟨elems, spare, hx, hel⟩
    · simp
    · simp only at hx
      subst hx
      have := bulk_len elems
      simp only [Rows.uptoBulk] at hb
      omega
  clear hA0 hval0
  refine (L18.puts_any _ l s W hl (by omega) (by omega) hfit).mono fun e W' ⟨he, bel⟩ => ?_
  subst he
  exact ⟨_, rfl, _, _, _, [], _, [], hW', trodAll_mk1 (shut_bool Try.underlying4 _), (trodAll_cons_mk (Below.trod laidOut (by kernel_rfl) (of_decide_eq_true (by kernel_rfl)) k0 bel lt0) (trodAll_cons_mk (shut_string Try.underlying9 hmax) trodAll_mk0)), rfl, bel.frame _, fun h => by cases h⟩

/-- The statement. -/
theorem proved : Rows.EventPutsUptoSaid :=
  OpenClaim.holds_of_cond 3 Try.f3 rfl rfl rfl rfl rfl rfl rfl ⟨rfl, rfl, rfl, rfl, rfl⟩ rfl rfl rfl rfl rfl (by kernel_rfl) Try.func3 (by kernel_rfl)
    (of_decide_eq_true (by kernel_rfl)) (by unfold Func.isWrapper; first | (rw [if_pos (by decide +kernel)]; kernel_rfl) | (rw [if_neg (by decide +kernel)]; exact ⟨rfl, rfl⟩))
    (fun os started H enc _ F => lifted os started H enc F)
end Go.Proofs.Ytceeijamhhokaaa.eventPuts
