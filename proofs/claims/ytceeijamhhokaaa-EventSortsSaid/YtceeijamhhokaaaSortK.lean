/- Sorting events: the row of events that a sort turns is still a row of the call's own. Plain worlds; no program in sight. -/
import Derived.Test.YtceeijamhhokaaaMem
import Derived.Shelf.SlSortCmp.InsertionK
namespace Go.Proofs.Ytceeijamhhokaaa.Mem
open Go Go.RowKit Go.Sort

instance : Inhabited Ev := ⟨⟨0, 0, 0, 0⟩⟩
theorem flat_cells (d : Array Ev) : (flatK encE 4 d).toList = cellsOf encE d.toList := by
  apply List.ext_getElem?
  intro t
  by_cases ht : t < d.size * 4
  · have h1 : (flatK encE 4 d).toList[t]? = some ((flatK encE 4 d)[t]!) := by
      rw [Array.getElem?_toList, getElem!_pos _ t (by simpa using ht), Array.getElem?_eq_getElem]
    rw [h1, get_flatK _ _ _ _ ht]
    have hd : t / 4 < d.size := by omega
    have e : t = t / 4 * 4 + t % 4 := by omega
    have h2 := cellsOf_get encE_len d.toList (t / 4) (t % 4) (by omega) (by simpa using hd)
    rw [← e] at h2
    rw [h2, getElem!_pos d (t / 4) hd]
    have hl : t % 4 < (encE d[t / 4]).length := by rw [encE_len]; omega
    rw [Array.getElem_toList, List.getElem?_eq_getElem hl]
    show some ((encE d[t / 4])[t % 4]!) = _
    rw [getElem!_pos (encE d[t / 4]) (t % 4) hl]
  · rw [List.getElem?_eq_none (by simp; omega), List.getElem?_eq_none (by rw [cellsOf_length encE_len]; simp; omega)]
/-- The row holds its events. -/
theorem holds_own {w : World} {base g n cap : Nat} {e : TypeId} {l : List Ev} (h : w.ownsRow base e 4 (.slice (some ⟨g, 0, none⟩) n cap) n (cellsOf encE l)) : HoldsK encE 4 w g 0 l.toArray := by
  have hn : l.length = n := by
    have := h.1
    rw [cellsOf_length encE_len] at this; omega
  intro j hj
  have hj' : j < n * 4 := by
    have : j < l.toArray.size * 4 := by simpa using hj
    simp at this; omega
  have hl : j < (cellsOf encE l).length := by rw [cellsOf_length encE_len]; omega
  have hc := h.cells (g := g) rfl j _ (List.getElem?_eq_getElem hl)
  rw [lit_add] at hc
  refine ⟨?_, ?_⟩
  · rw [hc]
    congr 1
    have e1 : (flatK encE 4 l.toArray)[j]! = (flatK encE 4 l.toArray)[j] := getElem!_pos _ j (by simpa using hj)
    show _ = (flatK encE 4 l.toArray)[j]!
    rw [e1]
    have h2 := flat_cells l.toArray
    have h3 : (flatK encE 4 l.toArray).toList[j]? = (cellsOf encE l)[j]? := by rw [h2]
    rw [Array.getElem?_toList, Array.getElem?_eq_getElem (by simpa using hj), List.getElem?_eq_getElem hl] at h3
    injection h3 with h3
    exact h3.symm
  · rcases h.2 with ⟨h0, _⟩ | ⟨g', cap', cur, h0, _, hh, _⟩
    · cases h0
    · injection h0 with h0; injection h0 with h0; injection h0 with h0
      subst h0
      simp [World.frozen?, hh]
theorem heap_putRow_other (w : World) (blk off : Nat) (F : Array Value) (k : Nat) (hk : k ≠ blk) : (putRow id w blk off F).heap[k]? = w.heap[k]? := by
  simp only [putRow, mapBlock, Array.getElem?_modify]
  rw [if_neg (Ne.symm hk)]
theorem heap_putRow_same (w : World) (blk off : Nat) (F cur : Array Value) (t : TypeId) (fr : Nat × Nat) (h : w.heap[blk]? = some (.cells cur t fr)) : (putRow id w blk off F).heap[blk]? = some (.cells (putCells id off F cur) t fr) := by
  simp only [putRow, mapBlock, Array.getElem?_modify, if_true, h]
  rfl
/-- Behind the sort: a row of the call's own, older memory as it was. -/
theorem own_sorted {w : World} {base g n cap m : Nat} {e : TypeId} {l : List Ev} {d : Array Ev} {os : Array Obj} (h : w.ownsRow base e 4 (.slice (some ⟨g, 0, none⟩) n cap) n (cellsOf encE l)) (hd : d.size = n) :
    (sortWorldK encE 4 w g 0 m d os).ownsRow base e 4 (.slice (some ⟨g, 0, none⟩) n cap) n (cellsOf encE d.toList) ∧ Below base w (sortWorldK encE 4 w g 0 m d os) := by
  rcases h.2 with ⟨h0, _⟩ | ⟨g', cap', cur, h0, hb, hh, hnc, hcm, hcs, hx⟩
  · cases h0
  · injection h0 with h0 _ hc; injection h0 with h0; injection h0 with h0
    subst h0 hc
    have hg : g < w.heap.size := heap_lt hh
    have hp : (putRow id (Sort.ahead w m) g 0 (flatK encE 4 d)).heap[g]? = some (.cells (putCells id 0 (flatK encE 4 d) cur) e (0, 0)) := heap_putRow_same (Sort.ahead w m) g 0 _ cur e (0, 0) hh
    have hsz : (putRow id (Sort.ahead w m) g 0 (flatK encE 4 d)).heap.size = w.heap.size := by
      show (putRowK encE 4 (Sort.ahead w m) g 0 d).heap.size = _
      rw [size_putRowK]; rfl
    refine ⟨⟨by rw [cellsOf_length encE_len]; simp [hd], .inr ⟨g, cap, putCells id 0 (flatK encE 4 d) cur, rfl, hb, ?_, hnc, hcm, ?_, ?_⟩⟩, ?_⟩
    · show (grow (putRow id (Sort.ahead w m) g 0 (flatK encE 4 d)) os).heap[g]? = _
      rw [heap_grow_old _ os (by rw [hsz]; exact hg), hp]
    · simp [putCells, hcs]
    · rw [← flat_cells]
      apply List.ext_getElem?
      intro t
      by_cases ht : t < n * 4
      · have h1 : t < cur.size := by
          have := Nat.mul_le_mul_right 4 hnc; omega
        rw [List.getElem?_take_of_lt ht, Array.getElem?_toList, Array.getElem?_toList]
        simp only [putCells, Array.getElem?_mapIdx, Array.getElem?_eq_getElem h1, Option.map_some]
        rw [if_pos ⟨Nat.zero_le _, by simp [hd]; omega⟩, Array.getElem?_eq_getElem (by simp [hd]; omega)]
        rw [getElem!_pos _ _ (by simp [hd]; omega)]; rfl
      · rw [List.getElem?_eq_none (by simp; omega), List.getElem?_eq_none (by simp [hd]; omega)]
    · refine ⟨rfl, rfl, rfl, ?_, fun k hk => ?_⟩
      · show w.heap.size ≤ (grow (putRow id (Sort.ahead w m) g 0 (flatK encE 4 d)) os).heap.size
        rw [size_grow, hsz]; exact Nat.le_add_right _ _
      · show (grow (putRow id (Sort.ahead w m) g 0 (flatK encE 4 d)) os).heap[k]? = _
        rw [heap_grow_old _ os (by rw [hsz]; omega), heap_putRow_other _ _ _ _ _ (by omega)]
        rfl
end Go.Proofs.Ytceeijamhhokaaa.Mem
