/- How a pattern of plain data (oxbowlaw19.Pat) that came in reads. -/
import Derived.Test.YtcfimponmioneaaDoorRecs
import Derived.Test.YtcfimponmioneaaDoorGS
import Derived.Lib.SmallJoins
import Derived.Carry
import Derived.SizedLaws
import Derived.Test.YtcfimponmioneaaDoorRows
namespace Go.Proofs.YtcfimponmioneaaDoor.WL
open Go.RowKit Go.ChangeShapes Go.WideShapes Go.Joins Go.Proofs.YtcfimponmioneaaDoor Go.Proofs.YtcfimponmioneaaDoor.Mem Go.Proofs.YtcfimponmioneaaDoor.Op Go.Proofs.YtcfimponmioneaaDoor.PL

theorem list5 {α : Type} {l : List α} (h : l.length = 5) : ∃ a b c d e, l = [a, b, c, d, e] := by
  match l, h with
  | [a, b, c, d, e], _ => exact ⟨a, b, c, d, e, rfl⟩
theorem list4 {α : Type} {l : List α} (h : l.length = 4) : ∃ a b c d, l = [a, b, c, d] := by
  match l, h with
  | [a, b, c, d], _ => exact ⟨a, b, c, d, rfl⟩
/-- The numbers lie within their kinds. -/
def fitG (s : GS) : Prop := (0 ≤ s.k ∧ s.k ≤ 255) ∧ (0 ≤ s.nm ∧ s.nm ≤ 255) ∧ (-9223372036854775808 ≤ s.lo ∧ s.lo ≤ 9223372036854775807) ∧ (-9223372036854775808 ≤ s.hi ∧ s.hi ≤ 9223372036854775807)
def fitD (c : GC) : Prop := (0 ≤ c.l ∧ c.l ≤ 255) ∧ (0 ≤ c.r ∧ c.r ≤ 255) ∧ (-9223372036854775808 ≤ c.op ∧ c.op ≤ 9223372036854775807) ∧ (-9223372036854775808 ≤ c.k ∧ c.k ≤ 9223372036854775807)
theorem cell_at {ds : List TypeDesc} {vs : List Value} {d : TypeDesc} (h : ∀ j (h : j < vs.length), ∃ d, ds[j]? = some d ∧ cellIs d vs[j]) {j : Nat} (hj : j < vs.length) (hd : ds[j]? = some d) : cellIs d vs[j] := by
  obtain ⟨d', h1, h2⟩ := h j hj
  rw [hd] at h1
  cases h1
  exact h2
theorem dec_G (vs : List Value) (hl : vs.length = 5) (h : ∀ j (h : j < vs.length), ∃ d, [TypeDesc.int .u8, .int .u8, .bool, .int .i64, .int .i64][j]? = some d ∧ cellIs d vs[j]) : ∃ x, fitG x ∧ encG x = vs := by
  obtain ⟨a, b, c, d, e, rfl⟩ := list5 hl
  obtain ⟨n0, e0, w0⟩ := cell_at h (j := 0) (by simp) rfl
  obtain ⟨n1, e1, w1⟩ := cell_at h (j := 1) (by simp) rfl
  obtain ⟨b2, e2⟩ := cell_at h (j := 2) (by simp) rfl
  obtain ⟨n3, e3, w3⟩ := cell_at h (j := 3) (by simp) rfl
  obtain ⟨n4, e4, w4⟩ := cell_at h (j := 4) (by simp) rfl
  simp only [List.getElem_cons_zero, List.getElem_cons_succ] at e0 e1 e2 e3 e4
  subst e0 e1 e2 e3 e4
  exact ⟨⟨n0, n1, b2, n3, n4⟩, ⟨wf_u8 w0, wf_u8 w1, wf_i64 w3, wf_i64 w4⟩, rfl⟩
theorem dec_D (vs : List Value) (hl : vs.length = 4) (h : ∀ j (h : j < vs.length), ∃ d, [TypeDesc.int .u8, .int .i64, .int .u8, .int .i64][j]? = some d ∧ cellIs d vs[j]) : ∃ x, fitD x ∧ encD x = vs := by
  obtain ⟨a, b, c, d, rfl⟩ := list4 hl
  obtain ⟨n0, e0, w0⟩ := cell_at h (j := 0) (by simp) rfl
  obtain ⟨n1, e1, w1⟩ := cell_at h (j := 1) (by simp) rfl
  obtain ⟨n2, e2, w2⟩ := cell_at h (j := 2) (by simp) rfl
  obtain ⟨n3, e3, w3⟩ := cell_at h (j := 3) (by simp) rfl
  simp only [List.getElem_cons_zero, List.getElem_cons_succ] at e0 e1 e2 e3
  subst e0 e1 e2 e3
  exact ⟨⟨n0, n1, n2, n3⟩, ⟨wf_u8 w0, wf_u8 w2, wf_i64 w1, wf_i64 w3⟩, rfl⟩

theorem bulk_len {H : Type} (l : List (DataW H)) : l.length ≤ Rows.uptoBulkAll l := by
  induction l with
  | nil => simp [Rows.uptoBulkAll]
  | cons x r ih =>
    have : 1 ≤ Rows.uptoBulk x := by
      cases x with
      | lit l => cases l <;> simp [Rows.uptoBulk]
      | _ => simp [Rows.uptoBulk]
    simp only [Rows.uptoBulkAll, List.length_cons]; omega

set_option maxRecDepth 100000 in
/-- The argument, read. -/
theorem open_pat {H : Type} {enc : TypeId × Value → H} {w : World} {v : Value} {d : DataW H} {p : List MemPlace} (hv : Value.okWide Tryd.prog w .any 0 25 v) (h : DataW.Trod enc Tryd.prog w 0 (fun _ => true) true 25 v d p)
    (hsz : (DataW.weights Tryd.prog 25 d).all (· ≤ reachBytes) = true) :
    ∃ (vs vc : Value) (wi : Int) (ss : List GS) (cs : List GC), v = .agg #[vs, vc, .int .i64 wi] ∧ Stps w w.heap.size vs ss ∧ Cnds w w.heap.size vc cs ∧ ss.length * 24 ≤ 140737488351232 ∧ cs.length * 32 ≤ 140737488351232 ∧ (∀ s ∈ ss, fitG s) ∧ (∀ c ∈ cs, fitD c) ∧ -9223372036854775808 ≤ wi ∧ wi ≤ 9223372036854775807 ∧ ss.length ≤ Rows.uptoBulk d ∧ cs.length ≤ Rows.uptoBulk d := by
  obtain ⟨v0, v1, v2, y0, y1, y2, n, rfl, rfl, rfl, h0, h1, h2⟩ := open_agg3 Tryd.underlying25 (by kernel_rfl) (by kernel_rfl) hv h
  obtain ⟨ss, hs1, hs2, hs3⟩ := open_recs encG_len (by decide) dec_G Tryd.underlying22 Tryd.underlying47 (by kernel_rfl) (by kernel_rfl) rfl (by
    intro j f hf
    match j, hf with
    | 0, hf => injection hf with hf; subst hf; exact ⟨_, rfl, Tryd.underlying5, rfl⟩
    | 1, hf => injection hf with hf; subst hf; exact ⟨_, rfl, Tryd.underlying5, rfl⟩
    | 2, hf => injection hf with hf; subst hf; exact ⟨_, rfl, Tryd.underlying4, rfl⟩
    | 3, hf => injection hf with hf; subst hf; exact ⟨_, rfl, Tryd.underlying3, rfl⟩
    | 4, hf => injection hf with hf; subst hf; exact ⟨_, rfl, Tryd.underlying3, rfl⟩
    | j + 5, hf => simp at hf) h0
  obtain ⟨cs, hc1, hc2, hc3⟩ := open_recs encD_len (by decide) dec_D Tryd.underlying23 Tryd.underlying51 (by kernel_rfl) (by kernel_rfl) rfl (by
    intro j f hf
    match j, hf with
    | 0, hf => injection hf with hf; subst hf; exact ⟨_, rfl, Tryd.underlying5, rfl⟩
    | 1, hf => injection hf with hf; subst hf; exact ⟨_, rfl, Tryd.underlying3, rfl⟩
    | 2, hf => injection hf with hf; subst hf; exact ⟨_, rfl, Tryd.underlying5, rfl⟩
    | 3, hf => injection hf with hf; subst hf; exact ⟨_, rfl, Tryd.underlying2, rfl⟩
    | j + 4, hf => simp at hf) h1
  obtain ⟨wi, e2, _, hw2⟩ := DataW.trod_int Tryd.underlying2 h2
  have e2 : v2 = .int .i64 wi := by simpa using e2
  subst e2
  have hu := Tryd.underlying25
  have hu1 := Tryd.underlying22
  have hu2 := Tryd.underlying23
  have hb1 : Tryd.prog.bytesOf 47 = 24 := by kernel_rfl
  have hb2 : Tryd.prog.bytesOf 51 = 32 := by kernel_rfl
  refine ⟨v0, v1, wi, ss, cs, rfl, hs1, hc1, ?_, ?_, hs2, hc2, (wf_i64 hw2).1, (wf_i64 hw2).2, ?_, ?_⟩
  · rcases hs3 with ⟨rfl, _⟩ | ⟨elems, spare, hx, hel⟩
    · simp
    · rw [hx] at hsz
      simp [DataW.weights, DataW.weightsEach, hu, hu1, hb1, reachBytes] at hsz
      have := of_decide_eq_true hsz.1
      omega
  · rcases hc3 with ⟨rfl, _⟩ | ⟨elems, spare, hx, hel⟩
    · simp
    · rw [hx] at hsz
      simp [DataW.weights, DataW.weightsEach, hu, hu2, hb2, reachBytes] at hsz
      have := of_decide_eq_true hsz.2.1
      omega
  · rcases hs3 with ⟨rfl, _⟩ | ⟨elems, spare, hx, hel⟩
    · simp
    · have hx' : _ = DataW.slice elems spare := hx
      have := bulk_len elems
      simp only [Rows.uptoBulk, Rows.uptoBulkAll, hx']
      omega
  · rcases hc3 with ⟨rfl, _⟩ | ⟨elems, spare, hx, hel⟩
    · simp
    · have hx' : _ = DataW.slice elems spare := hx
      have := bulk_len elems
      simp only [Rows.uptoBulk, Rows.uptoBulkAll, hx']
      omega
end Go.Proofs.YtcfimponmioneaaDoor.WL
