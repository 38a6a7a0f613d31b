/- How a slice of parts (oxbowlaw02.Part) that came in reads. -/
import Derived.Test.YtceeijamhhokaaaDoorRecs
import Derived.Test.YtceeijamhhokaaaDoorWLists
import Derived.SizedLaws
namespace Go.Proofs.YtceeijamhhokaaaDoor.WK
open Go.RowKit Go.ChangeShapes Go.WideShapes Go.Deep Go.Proofs.YtceeijamhhokaaaDoor Go.Proofs.YtceeijamhhokaaaDoor.Mem Go.Proofs.YtceeijamhhokaaaDoor.Op Go.Proofs.YtceeijamhhokaaaDoor.PK

theorem list3 {α : Type} {l : List α} (h : l.length = 3) : ∃ a b c, l = [a, b, c] := by
  match l, h with
  | [a, b, c], _ => exact ⟨a, b, c, rfl⟩
theorem cell_at {ds : List TypeDesc} {vs : List Value} {d : TypeDesc} (h : ∀ j (h : j < vs.length), ∃ d, ds[j]? = some d ∧ cellIs d vs[j]) {j : Nat} (hj : j < vs.length) (hd : ds[j]? = some d) : cellIs d vs[j] := by
  obtain ⟨d', h1, h2⟩ := h j hj
  rw [hd] at h1
  cases h1
  exact h2
theorem dec_K (vs : List Value) (hl : vs.length = 3) (h : ∀ j (h : j < vs.length), ∃ d, [TypeDesc.bool, .int .i64, .string][j]? = some d ∧ cellIs d vs[j]) : ∃ x, (fitK x ∧ x.s.size ≤ maxLen) ∧ encK x = vs := by
  obtain ⟨a, b, c, rfl⟩ := list3 hl
  obtain ⟨b0, e0⟩ := cell_at h (j := 0) (by simp) rfl
  obtain ⟨n1, e1, w1⟩ := cell_at h (j := 1) (by simp) rfl
  obtain ⟨s2, e2, w2⟩ := cell_at h (j := 2) (by simp) rfl
  simp only [List.getElem_cons_zero, List.getElem_cons_succ] at e0 e1 e2
  subst e0 e1 e2
  exact ⟨⟨b0, n1, s2⟩, ⟨wf_i64 w1, w2⟩, rfl⟩

set_option maxRecDepth 100000 in
/-- The argument, read. -/
theorem open_parts {H : Type} {enc : TypeId × Value → H} {w : World} {v : Value} {d : DataW H} {p : List MemPlace} (hv : Value.okWide Tryd.prog w .any 0 22 v) (h : DataW.Trod enc Tryd.prog w 0 (fun _ => true) true 22 v d p)
    (hsz : (DataW.weights Tryd.prog 22 d).all (· ≤ reachBytes) = true) :
    ∃ l : List KP, Prts w w.heap.size v l ∧ (∀ p ∈ l, fitK p ∧ p.s.size ≤ maxLen) ∧ l.length * 32 ≤ 140737488351232 := by
  obtain ⟨a0, len0, cap0, rfl⟩ := okWide_slice Tryd.underlying22 hv
  obtain ⟨m, hm⟩ := h
  obtain ⟨l, h1, h2, h3⟩ := open_recs encK_len (by decide) dec_K Tryd.underlying22 Tryd.underlying33 (by kernel_rfl) (by kernel_rfl) rfl (by
    intro j f hf
    match j, hf with
    | 0, hf => injection hf with hf; subst hf; exact ⟨_, rfl, Tryd.underlying4, rfl⟩
    | 1, hf => injection hf with hf; subst hf; exact ⟨_, rfl, Tryd.underlying2, rfl⟩
    | 2, hf => injection hf with hf; subst hf; exact ⟨_, rfl, Tryd.underlying9, rfl⟩
    | j + 3, hf => simp at hf) hm
  refine ⟨l, h1, h2, ?_⟩
  have hu1 := Tryd.underlying22
  have hb1 : Tryd.prog.bytesOf 33 = 32 := by kernel_rfl
  rcases h3 with ⟨rfl, _⟩ | ⟨elems, spare, hx, hel⟩
  · simp
  · simp only at hx
    rw [hx] at hsz
    simp [DataW.weights, hu1, hb1, reachBytes] at hsz
    have := of_decide_eq_true hsz.1
    omega
end Go.Proofs.YtceeijamhhokaaaDoor.WK
