/- The walk of plan.cond: what is wrong with a condition. -/
import Derived.Test.YtcfimponmioneaaWPlan2
namespace Go.Proofs.Ytcfimponmioneaa.WL
open Go Go.RowKit Go.Sort Go.Proofs.Ytcfimponmioneaa Go.Proofs.Ytcfimponmioneaa.PL Go.Proofs.Ytcfimponmioneaa.Mem

set_option maxRecDepth 100000 in
set_option maxHeartbeats 3200000 in
theorem cond_any (sl cl : Value) (wi : Int) (ss : List GS) (d : GC) (w : World) (hs : Stps w w.heap.size sl ss) (hbig : ss.length ≤ maxLen) :
    Calls Try.prog 53 #[.agg #[sl, cl, .int .i64 wi], .agg #[.int .u8 d.l, .int .i64 d.op, .int .u8 d.r, .int .i64 d.k]] w fun e w' => e = .returned (.int .i64 (condE ss d)) ∧ Grw w w' := by
  have hbig' : ss.length ≤ 9223372036854775807 := hbig
  obtain ⟨a, c, rfl⟩ := Sl.shape hs
  obtain ⟨w1, hw1⟩ : ∃ w1, w1 = w.alloc (.cells #[.slice a ss.length c, cl, .int .i64 wi] 25) := ⟨_, rfl⟩
  obtain ⟨w2, hw2⟩ : ∃ w2, w2 = w1.alloc (.cells #[.int .u8 d.l, .int .i64 d.op, .int .u8 d.r, .int .i64 d.k] 78) := ⟨_, rfl⟩
  have hz1 : w1.heap.size = w.heap.size + 1 := by rw [hw1]; simp
  have hz2 : w2.heap.size = w.heap.size + 2 := by rw [hw2]; simp; omega
  have G1 : Grw w w1 := by rw [hw1]; exact (Grw.refl w).alloc _
  have G2 : Grw w w2 := by rw [hw2]; exact G1.alloc _
  have hf := fun (nm : Int) (w' : World) (g' : Grw w w') => find_any (.slice a ss.length c) cl wi nm ss w' ((Sl.below hs g'.below).more g'.size) hbig
  have HF := Lib.hid hf
  have HS := Lib.hid hs
  have HW1 := Lib.hid hw1
  have HW2 := Lib.hid hw2
  have HG2 := Lib.hid G2
  have hr : condE ss d = if d.op < 0 ∨ 5 < d.op then 20 else if d.k < -9007199254740992 ∨ 9007199254740992 < d.k then 2 else if findP ss d.l < 0 ∨ (d.r ≠ 0 ∧ findP ss d.r < 0) then 21 else if d.r = 0 then 0 else if (ss[(min (findP ss d.l) (findP ss d.r)).toNat]!).neg = true then 23 else 0 := rfl
  generalize condE ss d = r at *
  have HR := Lib.hid hr
  have P1 := Lib.hid (show w2.heap[w.heap.size]? = some (.cells #[.slice a ss.length c, cl, .int .i64 wi] 25 (0, 0)) by rw [hw2]; exact heap_alloc (by rw [hw1]; exact heap_new rfl))
  have P2 := Lib.hid (show w2.heap[w.heap.size + 1]? = some (.cells #[.int .u8 d.l, .int .i64 d.op, .int .u8 d.r, .int .i64 d.k] 78 (0, 0)) by rw [hw2]; exact heap_new (by omega))
  clear hf hs hw1 hw2 G1 G2 hr hbig
  go_enter Try.func53, Try.ntmps53
  go_wp2_with fail
  rw [← HW1.out, ← HW2.out]
  have y0 : ∀ n os, (grow (w2.drewN n) os).cell? ⟨w.heap.size, 0, none⟩ = some (.slice a ss.length c) := cell_grown (by show w.heap.size < _; omega) ((Lib.cell_of_heap P1.out 0).trans rfl)
  have y1 : ∀ n os, (grow (w2.drewN n) os).cell? ⟨w.heap.size, 1, none⟩ = some cl := cell_grown (by show w.heap.size < _; omega) ((Lib.cell_of_heap P1.out 1).trans rfl)
  have y2 : ∀ n os, (grow (w2.drewN n) os).cell? ⟨w.heap.size, 2, none⟩ = some (.int .i64 wi) := cell_grown (by show w.heap.size < _; omega) ((Lib.cell_of_heap P1.out 2).trans rfl)
  have z0 : ∀ n os, (grow (w2.drewN n) os).cell? ⟨w.heap.size + 1, 0, none⟩ = some (.int .u8 d.l) := cell_grown (by show w.heap.size + 1 < _; omega) ((Lib.cell_of_heap P2.out 0).trans rfl)
  have z2 : ∀ n os, (grow (w2.drewN n) os).cell? ⟨w.heap.size + 1, 2, none⟩ = some (.int .u8 d.r) := cell_grown (by show w.heap.size + 1 < _; omega) ((Lib.cell_of_heap P2.out 2).trans rfl)
  have hq : ∀ nm n os, Calls Try.prog 39 #[.agg #[.slice a ss.length c, cl, .int .i64 wi], .int .u8 nm] (grow (w2.drewN n) os) fun e w' => e = .returned (.int .i64 (findP ss nm)) ∧ Grw (grow (w2.drewN n) os) w' := fun nm n os => HF.out nm _ (HG2.out.trans ⟨n, os, rfl⟩)
  have HQ := Lib.hid hq
  clear hq HF
  have mixed : Try.prog.follows .mixedOrders = true := by kernel_rfl
  go_quiet_grown (first | (go_at_call 39; exact Grw.grown (HQ.out _ _ _)) | exact Grw.grown (HQ.out _ _ _))
  have g3 : Grw w2 (grow (w2.drewN nq) osq) := ⟨nq, osq, rfl⟩
  have y3 := y0 nq osq
  have z3 := z0 nq osq
  have z5 := z2 nq osq
  have z4 : (grow (w2.drewN nq) osq).cell? ⟨w.heap.size + 1, 1, none⟩ = some (.int .i64 d.op) := g3.cell (by omega) ((Lib.cell_of_heap P2.out 1).trans rfl)
  have z6 : (grow (w2.drewN nq) osq).cell? ⟨w.heap.size + 1, 3, none⟩ = some (.int .i64 d.k) := g3.cell (by omega) ((Lib.cell_of_heap P2.out 3).trans rfl)
  have HG3 := Lib.hid (HG2.out.trans g3)
  clear y0 y1 y2 z0 z2 g3 HQ mixed
  change Exit.then _ _ Exit.normal _ (grow (w2.drewN nq) osq)
  generalize grow (w2.drewN nq) osq = w3 at *
  have hno : findP ss d.l = findP ss d.l := rfl
  rcases findP_cases ss d.l with hl | ⟨i, hl, hi, _⟩
  · have h := HR.out
    rw [hl] at h ⊢
    have HR2 := Lib.hid h
    generalize findP ss d.r = fr at *
    clear HR h hl hno
    go_wp2_with fail
    all_goals
      go_ret
      refine ⟨?_, HG3.out⟩
      have h := HR2.out
      clear HR2 P1 P2 z3 z4 z5 z6 y3 HG3 HG2 HW1 HW2
      refine congrArg (fun z => Ending.returned (Value.int .i64 z)) (?_ : _ = r)
      rw [h]
      clear h
      repeat' split
      all_goals first | rfl | (exfalso; omega)
  · obtain ⟨g, o, c', e, hgb, _, _, d2, _, _⟩ := Stps.at_ HS.out hi
    obtain ⟨rfl, rfl⟩ : a = some ⟨g, o, none⟩ ∧ c = c' := by simpa using e
    have d3 := HG3.out.cell hgb d2
    clear d2
    by_cases hd : d.r = 0
    · have h := HR.out
      rw [hl] at h ⊢
      have HR2 := Lib.hid h
      generalize findP ss d.r = fr at *
      clear HR h hl hno
      rw [hd] at z5
      go_wp2_with fail
      all_goals
        go_ret
        refine ⟨?_, HG3.out⟩
        have h := HR2.out
        clear HR2 P1 P2 z3 z4 z5 z6 y3 HG3 HG2 HW1 HW2
        refine congrArg (fun z => Ending.returned (Value.int .i64 z)) (?_ : _ = r)
        rw [h]
        clear h
        repeat' split
        all_goals first | rfl | (exfalso; omega)
    have hb1 : (d.r != 0) = true := by simp [hd]
    have hb2 : (d.r == 0) = false := by simp [hd]
    rcases findP_cases ss d.r with hl2 | ⟨j, hl2, hj, _⟩
    · have h := HR.out
      rw [hl2] at h ⊢
      rw [hl] at h ⊢
      have HR2 := Lib.hid h
      clear HR h hl hl2 hno
      go_wp2_with fail
      all_goals
        go_ret
        refine ⟨?_, HG3.out⟩
        have h := HR2.out
        clear HR2 P1 P2 z3 z4 z5 z6 y3 HG3 HG2 HW1 HW2
        refine congrArg (fun z => Ending.returned (Value.int .i64 z)) (?_ : _ = r)
        rw [h]
        clear h
        repeat' split
        all_goals first | rfl | (exfalso; omega)
    · obtain ⟨g', o', c', e', _, _, _, d2, _, _⟩ := Stps.at_ HS.out hj
      obtain ⟨⟨rfl, rfl⟩, rfl⟩ : (g' = g ∧ o' = o) ∧ c' = c := by simpa [eq_comm] using e'
      have d4 := HG3.out.cell hgb d2
      clear d2
      have h := HR.out
      rw [hl, hl2] at h ⊢
      rcases Nat.lt_trichotomy i j with hij | hij | hij
      · have hm : min (i : Int) (j : Int) = i := by omega
        have hM : max (i : Int) (j : Int) = j := by omega
        rw [hm, Int.toNat_natCast, getElem!_pos ss i hi] at h
        cases hn : ss[i].neg with
        | false =>
          rw [hn] at h d3
          have HR2 := Lib.hid h
          clear HR h hl hl2 hno hn
          go_wp2_with fail
          all_goals
            go_ret
            refine ⟨?_, HG3.out⟩
            have h := HR2.out
            clear HR2 P1 P2 z3 z4 z5 z6 y3 HG3 HG2 HW1 HW2
            refine congrArg (fun z => Ending.returned (Value.int .i64 z)) (?_ : _ = r)
            rw [h]
            clear h
            repeat' split
            all_goals first | rfl | (exfalso; omega) | (exfalso; simp_all; done)
        | true =>
          rw [hn] at h d3
          have HR2 := Lib.hid h
          clear HR h hl hl2 hno hn
          go_wp2_with fail
          all_goals
            go_ret
            refine ⟨?_, HG3.out⟩
            have h := HR2.out
            clear HR2 P1 P2 z3 z4 z5 z6 y3 HG3 HG2 HW1 HW2
            refine congrArg (fun z => Ending.returned (Value.int .i64 z)) (?_ : _ = r)
            rw [h]
            clear h
            repeat' split
            all_goals first | rfl | (exfalso; omega) | (exfalso; simp_all; done)
      · subst hij
        have hm : min (i : Int) (i : Int) = i := by omega
        have hM : max (i : Int) (i : Int) = i := by omega
        rw [hm, Int.toNat_natCast, getElem!_pos ss i hi] at h
        clear d4
        cases hn : ss[i].neg with
        | false =>
          rw [hn] at h d3
          have HR2 := Lib.hid h
          clear HR h hl hl2 hno hn
          go_wp2_with fail
          all_goals
            go_ret
            refine ⟨?_, HG3.out⟩
            have h := HR2.out
            clear HR2 P1 P2 z3 z4 z5 z6 y3 HG3 HG2 HW1 HW2
            refine congrArg (fun z => Ending.returned (Value.int .i64 z)) (?_ : _ = r)
            rw [h]
            clear h
            repeat' split
            all_goals first | rfl | (exfalso; omega) | (exfalso; simp_all; done)
        | true =>
          rw [hn] at h d3
          have HR2 := Lib.hid h
          clear HR h hl hl2 hno hn
          go_wp2_with fail
          all_goals
            go_ret
            refine ⟨?_, HG3.out⟩
            have h := HR2.out
            clear HR2 P1 P2 z3 z4 z5 z6 y3 HG3 HG2 HW1 HW2
            refine congrArg (fun z => Ending.returned (Value.int .i64 z)) (?_ : _ = r)
            rw [h]
            clear h
            repeat' split
            all_goals first | rfl | (exfalso; omega) | (exfalso; simp_all; done)
      · have hm : min (i : Int) (j : Int) = j := by omega
        have hM : max (i : Int) (j : Int) = i := by omega
        rw [hm, Int.toNat_natCast, getElem!_pos ss j hj] at h
        cases hn : ss[j].neg with
        | false =>
          rw [hn] at h d4
          have HR2 := Lib.hid h
          clear HR h hl hl2 hno hn
          go_wp2_with fail
          all_goals
            go_ret
            refine ⟨?_, HG3.out⟩
            have h := HR2.out
            clear HR2 P1 P2 z3 z4 z5 z6 y3 HG3 HG2 HW1 HW2
            refine congrArg (fun z => Ending.returned (Value.int .i64 z)) (?_ : _ = r)
            rw [h]
            clear h
            repeat' split
            all_goals first | rfl | (exfalso; omega) | (exfalso; simp_all; done)
        | true =>
          rw [hn] at h d4
          have HR2 := Lib.hid h
          clear HR h hl hl2 hno hn
          go_wp2_with fail
          all_goals
            go_ret
            refine ⟨?_, HG3.out⟩
            have h := HR2.out
            clear HR2 P1 P2 z3 z4 z5 z6 y3 HG3 HG2 HW1 HW2
            refine congrArg (fun z => Ending.returned (Value.int .i64 z)) (?_ : _ = r)
            rw [h]
            clear h
            repeat' split
            all_goals first | rfl | (exfalso; omega) | (exfalso; simp_all; done)
end Go.Proofs.Ytcfimponmioneaa.WL
