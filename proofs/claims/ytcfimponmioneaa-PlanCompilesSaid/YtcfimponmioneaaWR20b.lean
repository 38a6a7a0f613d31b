/- The walks of oxbowref20's cond and Check. -/
import Derived.Test.YtcfimponmioneaaWR20a
namespace Go.Proofs.Ytcfimponmioneaa.WL
open Go Go.RowKit Go.Sort Go.Proofs.Ytcfimponmioneaa Go.Proofs.Ytcfimponmioneaa.PL Go.Proofs.Ytcfimponmioneaa.Mem

set_option maxRecDepth 100000 in
set_option maxHeartbeats 3200000 in
theorem cond20 (sl cl : Value) (wi : Int) (ss : List GS) (d : GC) (w : World) (hs : Stps w w.heap.size sl ss) (hbig : ss.length ≤ maxLen) :
    Calls Try.prog 41 #[.agg #[sl, cl, .int .i64 wi], .agg #[.int .u8 d.l, .int .i64 d.op, .int .u8 d.r, .int .i64 d.k]] w fun e w' => e = .returned (.int .i64 (condE ss d)) ∧ Grw w w' := by
  have hbig' : ss.length ≤ 9223372036854775807 := hbig
  obtain ⟨a, c, rfl⟩ := Sl.shape hs
  obtain ⟨w1, hw1⟩ : ∃ w1, w1 = w.alloc (.cells #[.slice a ss.length c, cl, .int .i64 wi] 32) := ⟨_, rfl⟩
  obtain ⟨w2, hw2⟩ : ∃ w2, w2 = w1.alloc (.cells #[.int .u8 d.l, .int .i64 d.op, .int .u8 d.r, .int .i64 d.k] 97) := ⟨_, rfl⟩
  have hz1 : w1.heap.size = w.heap.size + 1 := by rw [hw1]; simp
  have hz2 : w2.heap.size = w.heap.size + 2 := by rw [hw2]; simp; omega
  have G1 : Grw w w1 := by rw [hw1]; exact (Grw.refl w).alloc _
  have G2 : Grw w w2 := by rw [hw2]; exact G1.alloc _
  have hf := fun (nm : Int) (w' : World) (g' : Grw w w') => find20 (.slice a ss.length c) cl wi nm ss w' ((Sl.below hs g'.below).more g'.size) hbig
  have HF := Lib.hid hf
  have HS := Lib.hid hs
  have HW1 := Lib.hid hw1
  have HW2 := Lib.hid hw2
  have HG2 := Lib.hid G2
  have hr : condE ss d = if d.op < 0 ∨ 5 < d.op then 20 else if d.k < -9007199254740992 ∨ 9007199254740992 < d.k then 2 else if findP ss d.l < 0 ∨ (d.r ≠ 0 ∧ findP ss d.r < 0) then 21 else if d.r = 0 then 0 else if (ss[(min (findP ss d.l) (findP ss d.r)).toNat]!).neg = true then 23 else 0 := rfl
  generalize condE ss d = r at *
  have HR := Lib.hid hr
  have P1 := Lib.hid (show w2.heap[w.heap.size]? = some (.cells #[.slice a ss.length c, cl, .int .i64 wi] 32 (0, 0)) by rw [hw2]; exact heap_alloc (by rw [hw1]; exact heap_new rfl))
  have P2 := Lib.hid (show w2.heap[w.heap.size + 1]? = some (.cells #[.int .u8 d.l, .int .i64 d.op, .int .u8 d.r, .int .i64 d.k] 97 (0, 0)) by rw [hw2]; exact heap_new (by omega))
  have y0 : w2.cell? ⟨w.heap.size, 0, none⟩ = some (.slice a ss.length c) := (Lib.cell_of_heap P1.out 0).trans rfl
  have y1 : w2.cell? ⟨w.heap.size, 1, none⟩ = some cl := (Lib.cell_of_heap P1.out 1).trans rfl
  have y2 : w2.cell? ⟨w.heap.size, 2, none⟩ = some (.int .i64 wi) := (Lib.cell_of_heap P1.out 2).trans rfl
  rw [hw2, hw1] at y0 y1 y2
  clear hf hs hw1 hw2 G1 G2 hr hbig
  go_enter Try.func41, Try.ntmps41
  by_cases A : d.op < 0 ∨ 5 < d.op
  case pos =>
    have HR2 := Lib.hid (HR.out.trans (if_pos A))
    go_wp2_with fail
    all_goals first
      | (exfalso; omega)
      | (go_ret; exact ⟨by rw [HR2.out]; rfl, by rw [← HW1.out, ← HW2.out]; exact HG2.out⟩)
  have h2 := HR.out.trans (if_neg A)
  have A1 : ¬ d.op < 0 := by omega
  have A2 : ¬ 5 < d.op := by omega
  clear HR A
  by_cases B : d.k < -9007199254740992 ∨ 9007199254740992 < d.k
  case pos =>
    have HR2 := Lib.hid (h2.trans (if_pos B))
    clear h2
    go_wp2_with fail
    all_goals first
      | (exfalso; omega)
      | (go_ret; exact ⟨by rw [HR2.out]; rfl, by rw [← HW1.out, ← HW2.out]; exact HG2.out⟩)
  have HR2 := Lib.hid (h2.trans (if_neg B))
  have B1 : ¬ d.k < -9007199254740992 := by omega
  have B2 : ¬ 9007199254740992 < d.k := by omega
  clear h2 B
  go_wp2_with fail
  rw [← HW1.out, ← HW2.out]
  refine (HF.out d.l w2 HG2.out).mono ?_
  rintro e w3 ⟨rfl, g3⟩
  have HG3 := Lib.hid (HG2.out.trans g3)
  have hz3 := g3.size
  have u0 : w3.cell? ⟨w.heap.size, 0, none⟩ = some (.slice a ss.length c) := g3.cell (by omega) ((Lib.cell_of_heap P1.out 0).trans rfl)
  have u1 : w3.cell? ⟨w.heap.size, 1, none⟩ = some cl := g3.cell (by omega) ((Lib.cell_of_heap P1.out 1).trans rfl)
  have u2 : w3.cell? ⟨w.heap.size, 2, none⟩ = some (.int .i64 wi) := g3.cell (by omega) ((Lib.cell_of_heap P1.out 2).trans rfl)
  have v2 : w3.cell? ⟨w.heap.size + 1, 2, none⟩ = some (.int .u8 d.r) := g3.cell (by omega) ((Lib.cell_of_heap P2.out 2).trans rfl)
  clear y0 y1 y2 g3 P1 P2 HW1 HW2 A1 A2 B1 B2
  rcases findP_cases ss d.l with hl | ⟨i, hl, hi, _⟩
  · have h := HR2.out
    rw [hl] at h ⊢
    have HR3 := Lib.hid h
    generalize findP ss d.r = fr at *
    clear HR2 h hl
    go_wp2_with fail
    all_goals
      go_ret
      refine ⟨?_, HG3.out⟩
      have h := HR3.out
      clear HR3 u0 u1 u2 v2 HG3 HG2
      refine congrArg (fun z => Ending.returned (Value.int .i64 z)) (?_ : _ = r)
      rw [h]
      clear h
      try simp only [↓reduceIte, Bool.false_eq_true]
      repeat' split
      all_goals first | rfl | (exfalso; omega) | (exfalso; simp_all; done)
  · obtain ⟨g, o, c', e, hgb, _, _, d2, _, _⟩ := Stps.at_ HS.out hi
    obtain ⟨rfl, rfl⟩ : a = some ⟨g, o, none⟩ ∧ c = c' := by simpa using e
    have D2 := Lib.hid d2
    clear d2
    by_cases hd : d.r = 0
    · have h := HR2.out
      rw [hl] at h ⊢
      have HR3 := Lib.hid h
      generalize findP ss d.r = fr at *
      clear HR2 h hl
      rw [hd] at v2
      go_wp2_with fail
      all_goals
        go_ret
        refine ⟨?_, HG3.out⟩
        have h := HR3.out
        clear HR3 u0 u1 u2 v2 HG3 HG2
        refine congrArg (fun z => Ending.returned (Value.int .i64 z)) (?_ : _ = r)
        rw [h]
        clear h
        try simp only [↓reduceIte, Bool.false_eq_true]
        repeat' split
        all_goals first | rfl | (exfalso; omega) | (exfalso; simp_all; done)
    have hb1 : (d.r == 0) = false := by simp [hd]
    rw [hl]
    go_wp2_with fail
    refine (HF.out d.r w3 HG3.out).mono ?_
    rintro e w4 ⟨rfl, g4⟩
    have HG4 := Lib.hid (HG3.out.trans g4)
    have t0 : w4.cell? ⟨w.heap.size, 0, none⟩ = some (.slice (some ⟨g, o, none⟩) ss.length c) := g4.cell (by omega) u0
    have d3 := HG4.out.cell hgb D2.out
    clear g4 u0 u1 u2 v2 HF
    rcases findP_cases ss d.r with hl2 | ⟨j, hl2, hj, _⟩
    · have h := HR2.out
      rw [hl, hl2] at h
      rw [hl2]
      have HR3 := Lib.hid h
      clear HR2 h hl hl2
      go_wp2_with fail
      all_goals
        go_ret
        refine ⟨?_, HG4.out⟩
        have h := HR3.out
        clear HR3 t0 d3 HG3 HG2
        refine congrArg (fun z => Ending.returned (Value.int .i64 z)) (?_ : _ = r)
        rw [h]
        clear h
        try simp only [↓reduceIte, Bool.false_eq_true]
        repeat' split
        all_goals first | rfl | (exfalso; omega) | (exfalso; simp_all; done)
    · obtain ⟨g', o', c', e', _, _, _, d2, _, _⟩ := Stps.at_ HS.out hj
      obtain ⟨⟨rfl, rfl⟩, rfl⟩ : (g' = g ∧ o' = o) ∧ c' = c := by simpa [eq_comm] using e'
      have d4 := HG4.out.cell hgb d2
      clear d2
      have h := HR2.out
      rw [hl, hl2] at h
      rw [hl2]
      have hil : (i : Int) < (ss.length : Int) := by omega
      have hjl : (j : Int) < (ss.length : Int) := by omega
      have hi0 : (0 : Int) ≤ (i : Int) := by omega
      have hj0 : (0 : Int) ≤ (j : Int) := by omega
      obtain ⟨x, hx⟩ : ∃ x, ss[i].neg = x := ⟨_, rfl⟩
      obtain ⟨y, hy⟩ : ∃ y, ss[j].neg = y := ⟨_, rfl⟩
      have hneg : (ss[(min (i : Int) (j : Int)).toNat]!).neg = if i ≤ j then x else y := by
        split
        · rename_i h1
          rw [show (min (i : Int) (j : Int)).toNat = i by omega, getElem!_pos ss i hi]; exact hx
        · rename_i h1
          rw [show (min (i : Int) (j : Int)).toNat = j by omega, getElem!_pos ss j hj]; exact hy
      have hij : i = j → x = y := fun e => by subst e; rw [← hx, ← hy]
      rw [hx] at d3
      rw [hy] at d4
      rcases Nat.lt_trichotomy i j with hlt | heq | hgt
      · rw [hneg.trans (if_pos (by omega : i ≤ j))] at h
        have HR3 := Lib.hid h
        clear HR2 h hl hl2 hneg hx hy hij D2
        cases x <;> cases y
        all_goals (go_wp2_with fail)
        all_goals
          go_ret
          refine ⟨?_, HG4.out⟩
          have h := HR3.out
          clear HR3 t0 d3 d4 HG3 HG2
          refine congrArg (fun z => Ending.returned (Value.int .i64 z)) (?_ : _ = r)
          rw [h]
          clear h
          try simp only [↓reduceIte, Bool.false_eq_true]
          repeat' split
          all_goals first | rfl | (exfalso; omega) | (exfalso; simp_all; done)
      · rw [hneg.trans (if_pos (by omega : i ≤ j))] at h
        have hxy := hij heq
        subst hxy
        subst heq
        have HR3 := Lib.hid h
        clear HR2 h hl hl2 hneg hx hy hij D2 d4
        cases x
        all_goals (go_wp2_with fail)
        all_goals
          go_ret
          refine ⟨?_, HG4.out⟩
          have h := HR3.out
          clear HR3 t0 d3 HG3 HG2
          refine congrArg (fun z => Ending.returned (Value.int .i64 z)) (?_ : _ = r)
          rw [h]
          clear h
          try simp only [↓reduceIte, Bool.false_eq_true]
          repeat' split
          all_goals first | rfl | (exfalso; omega) | (exfalso; simp_all; done)
      · rw [hneg.trans (if_neg (by omega : ¬ i ≤ j))] at h
        have HR3 := Lib.hid h
        clear HR2 h hl hl2 hneg hx hy hij D2
        cases x <;> cases y
        all_goals (go_wp2_with fail)
        all_goals
          go_ret
          refine ⟨?_, HG4.out⟩
          have h := HR3.out
          clear HR3 t0 d3 d4 HG3 HG2
          refine congrArg (fun z => Ending.returned (Value.int .i64 z)) (?_ : _ = r)
          rw [h]
          clear h
          try simp only [↓reduceIte, Bool.false_eq_true]
          repeat' split
          all_goals first | rfl | (exfalso; omega) | (exfalso; simp_all; done)
end Go.Proofs.Ytcfimponmioneaa.WL
