/- How slices of structs of plain fields read, as lists of whatever things. -/
import Derived.Test.YtcfimponmioneaaDoorOpen
namespace Go.Proofs.YtcfimponmioneaaDoor.Op
open Go.RowKit Go.ChangeShapes Go.WideShapes Go.Deep Go.Proofs.YtcfimponmioneaaDoor Go.Proofs.YtcfimponmioneaaDoor.Mem

theorem vals_of {w : World} {a : Addr} {i k : Nat} {ds : List TypeDesc} : ∀ m, m ≤ k → (∀ j, j < k → ∃ d v, ds[j]? = some d ∧ w.cell? (a.add (i * k + j)) = some v ∧ cellIs d v) → ∃ vs : List Value, vs.length = m ∧ ∀ j (h : j < vs.length), ∃ d, ds[j]? = some d ∧ cellIs d vs[j] ∧ w.cell? (a.add (i * k + j)) = some vs[j]
  | 0, _, _ => ⟨[], rfl, fun j h => absurd h (by simp)⟩
  | m + 1, hm, h => by
    obtain ⟨vs, hl, hp⟩ := vals_of m (by omega) h
    obtain ⟨d, v, h1, h2, h3⟩ := h m (by omega)
    refine ⟨vs ++ [v], by simp [hl], fun j hj => ?_⟩
    by_cases hjm : j < vs.length
    · rw [List.getElem_append_left hjm]; exact hp j hjm
    · have : j = vs.length := by simp at hj; omega
      subst this
      rw [List.getElem_append_right (by omega)]
      simp only [hl] at h1 h2 ⊢
      exact ⟨d, h1, by simpa using h3, by simpa using h2⟩

/-- A slice of structs (whatever their type's name) that came in. -/
theorem open_recs {α : Type} {enc : α → List Value} {fits : α → Prop} {k : Nat} {ds : List TypeDesc} (hk : ∀ x, (enc x).length = k) (hk0 : 0 < k)
    (hdec : ∀ vs : List Value, vs.length = k → (∀ j (h : j < vs.length), ∃ d, ds[j]? = some d ∧ cellIs d vs[j]) → ∃ x, fits x ∧ enc x = vs)
    {H : Type} {encH : TypeId × Value → H} {P : Program} {w : World} {t e : TypeId} {fs : Array Field} {fuel : Nat} {v : Value} {x : DataW H × List MemPlace} (ht : P.underlying t = some (.slice e)) (he : P.underlying e = some (.struct fs))
    (hone : oneCellFields P fs = true) (hC : P.cellsOf e = fs.size) (h4 : fs.size = k) (hds : ∀ (j : Nat) (f : Field), fs[j]? = some f → ∃ d, ds[j]? = some d ∧ P.underlying f.type = some d ∧ plainK d = true)
    (h : DataW.trod encH P w 0 (fun _ => true) true fuel t [v] = some x) :
    ∃ l : List α, Sl w w.heap.size k v l.length (cellsOf enc l) ∧ (∀ e ∈ l, fits e) ∧ ((l = [] ∧ x.1 = .nil) ∨ ∃ elems spare, x.1 = .slice elems spare ∧ elems.length = l.length) := by
  rcases open_structs ht he hone hC hds h with ⟨hcs, hx⟩ | ⟨a, len, cap, elems, spare, hcs, hl, hx, hel, hcell⟩
  · have hv : v = .slice none 0 0 := by simpa using hcs
    subst hv
    exact ⟨[], Sl.nil_ _ _ _, by simp, .inl ⟨rfl, hx⟩⟩
  · have hv : v = .slice (some a) len cap := by simpa using hcs
    subst hv
    rw [h4] at hcell
    have hex : ∀ i, i < len → ∃ y : α, fits y ∧ ∀ j u, (enc y)[j]? = some u → w.cell? (a.add (i * k + j)) = some u := by
      intro i hi
      obtain ⟨vs, hvl, hvp⟩ := vals_of k (Nat.le_refl _) (hcell i hi)
      obtain ⟨y, hf, hy⟩ := hdec vs hvl (fun j hj => by obtain ⟨d, h1, h2, _⟩ := hvp j hj; exact ⟨d, h1, h2⟩)
      refine ⟨y, hf, fun j u hu => ?_⟩
      rw [hy] at hu
      obtain ⟨hj, rfl⟩ := List.getElem?_eq_some_iff.1 hu
      obtain ⟨d, _, _, h3⟩ := hvp j hj
      exact h3
    obtain ⟨l, hll, hp⟩ := pick len hex
    refine ⟨l, ⟨cellsOf_length hk l, _, cap, by rw [hll], by omega, fun hn => ?_⟩, ?_, .inr ⟨elems, spare, hx, by omega⟩⟩
    · have hp0 := (hp 0 hn).2 0 ((enc l[0])[0]'(by rw [hk]; exact hk0)) (List.getElem?_eq_getElem _)
      rw [Nat.zero_mul, Nat.zero_add] at hp0
      have e : a.add 0 = a := by simp [Addr.add]
      rw [e] at hp0
      have hblk : a.block < w.heap.size := World.block_lt_of_cell? w _ hp0
      obtain ⟨b, o, rfl⟩ := lit_of_cell hp0
      refine ⟨b, o, rfl, hblk, fun j u hu => ?_⟩
      have hj : j < l.length * k := by
        have := (List.getElem?_eq_some_iff.1 hu).1
        rwa [cellsOf_length hk] at this
      have hq : j / k < l.length := Nat.div_lt_of_lt_mul (by rw [Nat.mul_comm]; exact hj)
      have hpj := (hp (j / k) hq).2
      have hje : j = j / k * k + j % k := by rw [Nat.mul_comm]; exact (Nat.div_add_mod j k).symm
      have hm : j % k < k := Nat.mod_lt _ hk0
      rw [hje, cellsOf_get hk l (j / k) (j % k) hm hq] at hu
      rw [hje, ← lit_add]
      exact hpj _ u hu
    · intro e he'
      obtain ⟨i, hi, rfl⟩ := List.getElem_of_mem he'
      exact (hp i hi).1
end Go.Proofs.YtcfimponmioneaaDoor.Op
