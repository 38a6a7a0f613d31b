/- How a pattern of plain data (oxbowlaw20.Pat) that came in reads. -/
import Derived.Test.YtcfimponmioneaaRecs
import Derived.Test.YtcfimponmioneaaWPlan
import Derived.Lib.SmallJoins
import Derived.Carry
import Derived.SizedLaws
namespace Go.Proofs.Ytcfimponmioneaa.WL
open Go.RowKit Go.ChangeShapes Go.WideShapes Go.Joins Go.Proofs.Ytcfimponmioneaa Go.Proofs.Ytcfimponmioneaa.Mem Go.Proofs.Ytcfimponmioneaa.Op Go.Proofs.Ytcfimponmioneaa.PL

theorem list5 {α : Type} {l : List α} (h : l.length = 5) : ∃ a b c d e, l = [a, b, c, d, e] := by
  match l, h with
  | [a, b, c, d, e], _ => exact ⟨a, b, c, d, e, rfl⟩
theorem list4 {α : Type} {l : List α} (h : l.length = 4) : ∃ a b c d, l = [a, b, c, d] := by
  match l, h with
  | [a, b, c, d], _ => exact ⟨a, b, c, d, rfl⟩
/-- The numbers lie within their kinds. -/
def fitG (s : GS) : Prop := (0 ≤ s.k ∧ s.k ≤ 255) ∧ (0 ≤ s.nm ∧ s.nm ≤ 255) ∧ (-9223372036854775808 ≤ s.lo ∧ s.lo ≤ 9223372036854775807) ∧ (-9223372036854775808 ≤ s.hi ∧ s.hi ≤ 9223372036854775807)
def fitD (c : GC) : Prop := (0 ≤ c.l ∧ c.l ≤ 255) ∧ (0 ≤ c.r ∧ c.r ≤ 255) ∧ (-9223372036854775808 ≤ c.op ∧ c.op ≤ 9223372036854775807) ∧ (-9223372036854775808 ≤ c.k ∧ c.k ≤ 9223372036854775807)
theorem cell_at {ds : List TypeDesc} {vs : List Value} {d : TypeDesc} (h : ∀ j (h : j < vs.length), ∃ d, ds[j]? = some d ∧ cellIs d vs[j]) {j : Nat} (hj : j < vs.length) (hd : ds[j]? = some d) : cellIs d vs[j] := by
  obtain ⟨d', h1, h2⟩ := h j hj
  rw [hd] at h1
  cases h1
  exact h2
theorem dec_G (vs : List Value) (hl : vs.length = 5) (h : ∀ j (h : j < vs.length), ∃ d, [TypeDesc.int .u8, .int .u8, .bool, .int .i64, .int .i64][j]? = some d ∧ cellIs d vs[j]) : ∃ x, fitG x ∧ encG x = vs := by
  obtain ⟨a, b, c, d, e, rfl⟩ := list5 hl
  obtain ⟨n0, e0, w0⟩ := cell_at h (j := 0) (by simp) rfl
  obtain ⟨n1, e1, w1⟩ := cell_at h (j := 1) (by simp) rfl
  obtain ⟨b2, e2⟩ := cell_at h (j := 2) (by simp) rfl
  obtain ⟨n3, e3, w3⟩ := cell_at h (j := 3) (by simp) rfl
  obtain ⟨n4, e4, w4⟩ := cell_at h (j := 4) (by simp) rfl
  simp only [List.getElem_cons_zero, List.getElem_cons_succ] at e0 e1 e2 e3 e4
  subst e0 e1 e2 e3 e4
  exact ⟨⟨n0, n1, b2, n3, n4⟩, ⟨wf_u8 w0, wf_u8 w1, wf_i64 w3, wf_i64 w4⟩, rfl⟩
theorem dec_D (vs : List Value) (hl : vs.length = 4) (h : ∀ j (h : j < vs.length), ∃ d, [TypeDesc.int .u8, .int .i64, .int .u8, .int .i64][j]? = some d ∧ cellIs d vs[j]) : ∃ x, fitD x ∧ encD x = vs := by
  obtain ⟨a, b, c, d, rfl⟩ := list4 hl
  obtain ⟨n0, e0, w0⟩ := cell_at h (j := 0) (by simp) rfl
  obtain ⟨n1, e1, w1⟩ := cell_at h (j := 1) (by simp) rfl
  obtain ⟨n2, e2, w2⟩ := cell_at h (j := 2) (by simp) rfl
  obtain ⟨n3, e3, w3⟩ := cell_at h (j := 3) (by simp) rfl
  simp only [List.getElem_cons_zero, List.getElem_cons_succ] at e0 e1 e2 e3
  subst e0 e1 e2 e3
  exact ⟨⟨n0, n1, n2, n3⟩, ⟨wf_u8 w0, wf_u8 w2, wf_i64 w1, wf_i64 w3⟩, rfl⟩

set_option maxRecDepth 100000 in
/-- The argument, read. -/
theorem open_pat {H : Type} {enc : TypeId × Value → H} {w : World} {v : Value} {d : DataW H} {p : List MemPlace} (hv : Value.okWide Try.prog w .any 0 46 v) (h : DataW.Trod enc Try.prog w 0 (fun _ => true) true 46 v d p)
    (hsz : (DataW.weights Try.prog 46 d).all (· ≤ reachBytes) = true) :
    ∃ (vs vc : Value) (wi : Int) (ss : List GS) (cs : List GC), v = .agg #[vs, vc, .int .i64 wi] ∧ Stps w w.heap.size vs ss ∧ Cnds w w.heap.size vc cs ∧ ss.length * 24 ≤ 140737488351232 ∧ cs.length * 32 ≤ 140737488351232 ∧ (∀ s ∈ ss, fitG s) ∧ (∀ c ∈ cs, fitD c) ∧ -9223372036854775808 ≤ wi ∧ wi ≤ 9223372036854775807 := by
  obtain ⟨v0, v1, v2, y0, y1, y2, n, rfl, rfl, rfl, h0, h1, h2⟩ := open_agg3 Try.underlying46 (by kernel_rfl) (by kernel_rfl) hv h
  obtain ⟨ss, hs1, hs2, hs3⟩ := open_recs encG_len (by decide) dec_G Try.underlying43 Try.underlying101 (by kernel_rfl) (by kernel_rfl) rfl (by
    intro j f hf
    match j, hf with
    | 0, hf => injection hf with hf; subst hf; exact ⟨_, rfl, Try.underlying5, rfl⟩
    | 1, hf => injection hf with hf; subst hf; exact ⟨_, rfl, Try.underlying5, rfl⟩
    | 2, hf => injection hf with hf; subst hf; exact ⟨_, rfl, Try.underlying4, rfl⟩
    | 3, hf => injection hf with hf; subst hf; exact ⟨_, rfl, Try.underlying3, rfl⟩
    | 4, hf => injection hf with hf; subst hf; exact ⟨_, rfl, Try.underlying3, rfl⟩
    | j + 5, hf => simp at hf) h0
  obtain ⟨cs, hc1, hc2, hc3⟩ := open_recs encD_len (by decide) dec_D Try.underlying44 Try.underlying102 (by kernel_rfl) (by kernel_rfl) rfl (by
    intro j f hf
    match j, hf with
    | 0, hf => injection hf with hf; subst hf; exact ⟨_, rfl, Try.underlying5, rfl⟩
    | 1, hf => injection hf with hf; subst hf; exact ⟨_, rfl, Try.underlying3, rfl⟩
    | 2, hf => injection hf with hf; subst hf; exact ⟨_, rfl, Try.underlying5, rfl⟩
    | 3, hf => injection hf with hf; subst hf; exact ⟨_, rfl, Try.underlying2, rfl⟩
    | j + 4, hf => simp at hf) h1
  obtain ⟨wi, e2, _, hw2⟩ := DataW.trod_int Try.underlying2 h2
  have e2 : v2 = .int .i64 wi := by simpa using e2
  subst e2
  have hu := Try.underlying46
  have hu1 := Try.underlying43
  have hu2 := Try.underlying44
  have hb1 : Try.prog.bytesOf 101 = 24 := by kernel_rfl
  have hb2 : Try.prog.bytesOf 102 = 32 := by kernel_rfl
  refine ⟨v0, v1, wi, ss, cs, rfl, hs1, hc1, ?_, ?_, hs2, hc2, (wf_i64 hw2).1, (wf_i64 hw2).2⟩
  · rcases hs3 with ⟨rfl, _⟩ | ⟨elems, spare, hx, hel⟩
    · simp
    · rw [hx] at hsz
      simp [DataW.weights, DataW.weightsEach, hu, hu1, hb1, reachBytes] at hsz
      have := of_decide_eq_true hsz.1
      omega
  · rcases hc3 with ⟨rfl, _⟩ | ⟨elems, spare, hx, hel⟩
    · simp
    · rw [hx] at hsz
      simp [DataW.weights, DataW.weightsEach, hu, hu2, hb2, reachBytes] at hsz
      have := of_decide_eq_true hsz.2.1
      omega
end Go.Proofs.Ytcfimponmioneaa.WL
