/- How the arguments read: slices of structs of plain fields as lists. -/
import Derived.Test.YtceeijamhhokaaaRows
import Derived.Test.YtceeijamhhokaaaMem
import Derived.WalkKit
import Derived.ProofKit
import Derived.OpenShut
import Derived.ShutString
import Derived.ChangeOld
import Derived.JoinedCond
import Derived.Deep.Slices
import Derived.Deep.Fields
import Derived.ChangeSame
namespace Go.Proofs.Ytceeijamhhokaaa.Op
open Go.RowKit Go.ChangeShapes Go.WideShapes Go.Deep Go.Proofs.Ytceeijamhhokaaa Go.Proofs.Ytceeijamhhokaaa.Mem

/-- What stands in a cell of a plain kind. -/
def cellIs : TypeDesc → Value → Prop
  | .int k, v => ∃ n, v = .int k n ∧ (Lit.int k n).wf = true
  | .bool, v => ∃ b, v = .bool b
  | .string, v => ∃ s : ByteArray, v = .string s ∧ s.size ≤ maxLen
  | _, _ => True

/-- Is the kind a plain one? -/
def plainK : TypeDesc → Bool
  | .int _ => true
  | .bool => true
  | .string => true
  | _ => false

section
variable {H : Type} {enc : TypeId × Value → H} {P : Program} {w : World}
theorem cell_of_trod {t : TypeId} {d : TypeDesc} {fuel : Nat} {v : Value} {x : DataW H × List MemPlace} (ht : P.underlying t = some d) (hd : plainK d = true)
    (h : DataW.trod enc P w 0 (fun _ => true) true fuel t [v] = some x) : cellIs d v := by
  cases d with
  | int k =>
    obtain ⟨n, hv, _, hw⟩ := DataW.trod_int ht h
    exact ⟨n, by simpa using hv, hw⟩
  | bool =>
    obtain ⟨b, hv, _⟩ := DataW.trod_bool ht h
    exact ⟨b, by simpa using hv⟩
  | string =>
    obtain ⟨s, hv, _, hs⟩ := DataW.trod_string ht h
    exact ⟨s, by simpa using hv, hs⟩
  | _ => cases hd

theorem open_structs {t e : TypeId} {fs : Array Field} {ds : List TypeDesc} {fuel : Nat} {cs : List Value} {x : DataW H × List MemPlace} (ht : P.underlying t = some (.slice e)) (he : P.underlying e = some (.struct fs))
    (hone : oneCellFields P fs = true) (hC : P.cellsOf e = fs.size) (hds : ∀ (j : Nat) (f : Field), fs[j]? = some f → ∃ d, ds[j]? = some d ∧ P.underlying f.type = some d ∧ plainK d = true)
    (h : DataW.trod enc P w 0 (fun _ => true) true fuel t cs = some x) :
    (cs = [.slice none 0 0] ∧ x.1 = .nil) ∨
    ∃ (a : Addr) (len cap : Nat) (elems spare : List (DataW H)), cs = [.slice (some a) len cap] ∧ len ≤ cap ∧ x.1 = .slice elems spare ∧ elems.length = len ∧
      ∀ i, i < len → ∀ j, j < fs.size → ∃ d v, ds[j]? = some d ∧ w.cell? (a.add (i * fs.size + j)) = some v ∧ cellIs d v := by
  rcases open_slice ht h with h0 | ⟨a, len, cap, m, n, D, Pl, hcs, hb, hl, hm, hmm, hx, hi⟩
  · exact .inl ⟨h0.1, by rw [h0.2]⟩
  · refine .inr ⟨a, len, cap, _, _, hcs, hl, by rw [hx], by simp, fun i him j hj => ?_⟩
    have hmm' : m = cap := by simpa using hmm
    obtain ⟨cs', hc, ht'⟩ := hi i (by omega)
    rw [hC] at hc
    obtain ⟨ys, n', hn', hy, hlen, hyl, hf⟩ := DataW.trod_struct he ht'
    obtain ⟨_, hcl, hat⟩ := World.cells?_some hc
    have hjf : fs[j]? = some fs[j] := by simp [hj]
    obtain ⟨d, hd, hu, hk⟩ := hds j _ hjf
    obtain ⟨ho, hkk⟩ := hone_of hone j _ hjf
    have hcell := hat j hj
    have h1 := hf j _ hjf
    rw [ho, hkk] at h1
    have hone' : (cs'.drop j).take 1 = [cs'[j]'(by omega)] := by
      rw [List.drop_eq_getElem_cons (by omega)]
      rfl
    rw [hone'] at h1
    have hys : ys[j]? = some (ys[j]'(by omega)) := List.getElem?_eq_getElem (by omega)
    refine ⟨d, cs'[j]'(by omega), hd, ?_, cell_of_trod hu hk (h1.trans hys)⟩
    rw [← Mem.add_add, hcell]
    exact List.getElem?_eq_getElem (by omega)
end

theorem pick {α : Type} {p : Nat → α → Prop} : ∀ n : Nat, (∀ i, i < n → ∃ x, p i x) → ∃ l : List α, l.length = n ∧ ∀ i (h : i < l.length), p i l[i]
  | 0, _ => ⟨[], rfl, fun i h => absurd h (by simp)⟩
  | n + 1, h => by
    obtain ⟨l, hl, hp⟩ := pick n (fun i hi => h i (by omega))
    obtain ⟨x, hx⟩ := h n (by omega)
    refine ⟨l ++ [x], by simp [hl], fun i hi => ?_⟩
    by_cases hin : i < l.length
    · rw [List.getElem_append_left hin]; exact hp i hin
    · have : i = l.length := by simp at hi; omega
      subst this
      rw [List.getElem_append_right (by omega)]
      simpa [hl] using hx

theorem wf_i64 {n : Int} (h : (Lit.int .i64 n).wf = true) : -9223372036854775808 ≤ n ∧ n ≤ 9223372036854775807 := by simpa [Lit.wf, IntKind.min, IntKind.max, IntKind.signed, IntKind.bits] using h
theorem wf_u8 {n : Int} (h : (Lit.int .u8 n).wf = true) : 0 ≤ n ∧ n ≤ 255 := by simpa [Lit.wf, IntKind.min, IntKind.max, IntKind.signed, IntKind.bits] using h

/-- A slice of events (whatever their type's name) that came in. -/
theorem open_events {H : Type} {enc : TypeId × Value → H} {P : Program} {w : World} {t e : TypeId} {fs : Array Field} {fuel : Nat} {v : Value} {x : DataW H × List MemPlace} (ht : P.underlying t = some (.slice e)) (he : P.underlying e = some (.struct fs))
    (hone : oneCellFields P fs = true) (hC : P.cellsOf e = fs.size) (h4 : fs.size = 4) (hds : ∀ (j : Nat) (f : Field), fs[j]? = some f → ∃ d, [TypeDesc.int .i64, .int .i64, .int .u8, .int .i64][j]? = some d ∧ P.underlying f.type = some d ∧ plainK d = true)
    (h : DataW.trod enc P w 0 (fun _ => true) true fuel t [v] = some x) :
    ∃ l : List Ev, Evs w w.heap.size v l ∧ (∀ e ∈ l, e.fits) ∧ ((l = [] ∧ x.1 = .nil) ∨ ∃ elems spare, x.1 = .slice elems spare ∧ elems.length = l.length) := by
  rcases open_structs ht he hone hC hds h with ⟨hcs, hx⟩ | ⟨a, len, cap, elems, spare, hcs, hl, hx, hel, hcell⟩
  · have hv : v = .slice none 0 0 := by simpa using hcs
    subst hv
    exact ⟨[], Sl.nil_ _ _ _, by simp, .inl ⟨rfl, hx⟩⟩
  · have hv : v = .slice (some a) len cap := by simpa using hcs
    subst hv
    rw [h4] at hcell
    have hex : ∀ i, i < len → ∃ e : Ev, e.fits ∧ w.cell? (a.add (i * 4)) = some (.int .i64 e.id) ∧ w.cell? (a.add (i * 4 + 1)) = some (.int .i64 e.time) ∧ w.cell? (a.add (i * 4 + 2)) = some (.int .u8 e.kind) ∧ w.cell? (a.add (i * 4 + 3)) = some (.int .i64 e.val) := by
      intro i hi
      obtain ⟨d0, v0, e0, c0, k0⟩ := hcell i hi 0 (by omega)
      obtain ⟨d1, v1, e1, c1, k1⟩ := hcell i hi 1 (by omega)
      obtain ⟨d2, v2, e2, c2, k2⟩ := hcell i hi 2 (by omega)
      obtain ⟨d3, v3, e3, c3, k3⟩ := hcell i hi 3 (by omega)
      simp only [List.getElem?_cons_zero, List.getElem?_cons_succ, Option.some.injEq] at e0 e1 e2 e3
      subst e0; subst e1; subst e2; subst e3
      obtain ⟨n0, rfl, w0⟩ := k0
      obtain ⟨n1, rfl, w1⟩ := k1
      obtain ⟨n2, rfl, w2⟩ := k2
      obtain ⟨n3, rfl, w3⟩ := k3
      exact ⟨⟨n0, n1, n2, n3⟩, ⟨wf_i64 w0, wf_i64 w1, wf_u8 w2, wf_i64 w3⟩, c0, c1, c2, c3⟩
    obtain ⟨l, hll, hp⟩ := pick len hex
    refine ⟨l, ⟨cellsOf_length encE_len l, _, cap, by rw [hll], by omega, fun hn => ?_⟩, ?_, .inr ⟨elems, spare, hx, by omega⟩⟩
    · have hp0 := hp 0 hn
      have hblk : a.block < w.heap.size := by
        have := World.block_lt_of_cell? w _ hp0.2.1
        rwa [Mem.block_add] at this
      have hlit : ∃ b o, a = ⟨b, o, none⟩ := by
        have := hp0.2.1
        rw [Nat.zero_mul] at this
        have e : a.add 0 = a := by simp [Addr.add]
        rw [e] at this
        exact lit_of_cell this
      obtain ⟨b, o, rfl⟩ := hlit
      refine ⟨b, o, rfl, hblk, fun j u hu => ?_⟩
      have hj : j < l.length * 4 := by
        have := (List.getElem?_eq_some_iff.1 hu).1
        rwa [cellsOf_length encE_len] at this
      have hq : j / 4 < l.length := by omega
      have hpj := hp (j / 4) hq
      have hje : j = j / 4 * 4 + j % 4 := by omega
      rw [hje, cellsOf_get encE_len l (j / 4) (j % 4) (by omega) hq] at hu
      have h4c : j % 4 = 0 ∨ j % 4 = 1 ∨ j % 4 = 2 ∨ j % 4 = 3 := by omega
      rw [hje, ← lit_add]
      rcases h4c with h | h | h | h <;> rw [h] at hu ⊢ <;> simp only [encE, List.getElem?_cons_zero, List.getElem?_cons_succ, Option.some.injEq] at hu <;> subst hu
      · exact hpj.2.1
      · exact hpj.2.2.1
      · exact hpj.2.2.2.1
      · exact hpj.2.2.2.2
    · intro e he'
      obtain ⟨i, hi, rfl⟩ := List.getElem_of_mem he'
      exact (hp i hi).1
end Go.Proofs.Ytceeijamhhokaaa.Op
