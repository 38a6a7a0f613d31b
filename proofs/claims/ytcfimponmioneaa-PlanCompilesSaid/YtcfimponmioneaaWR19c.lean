/- The walk of the document's reader's cond. -/
import Derived.Test.YtcfimponmioneaaWR19b
namespace Go.Proofs.Ytcfimponmioneaa.WP
open Go.RowKit Go.Proofs.Ytcfimponmioneaa Go.Proofs.Ytcfimponmioneaa.PP

/-- Four stores into a block of the call's own, at its end. -/
theorem ret4_9 {p : Program} {f : Func} {Q : Ending → World → Prop} {ex : Exit} {act : Act} {w w5 : World} {R B : Nat} {s : ByteArray} {st : S9} {t : TypeId} {c0 c1 c2 c3 v0 v1 v2 v3 : Value}
    (hr : R9 w5 R s st) (hg : w.grownBy w5 (some R)) (hB : w5.heap[B]? = some (.cells #[c0, c1, c2, c3] t (0, 0))) (hRB : R ≠ B) (hwB : w.heap.size ≤ B)
    (h : ∀ w9 : World, w9.heap[B]? = some (.cells #[v0, v1, v2, v3] t (0, 0)) → R9 w9 R s st → w.grownBy w9 (some R) → bodyPost p f Q ex act w9) :
    bodyPost p f Q ex act ((((w5.setCell ⟨B, 0, none⟩ v0).setCell ⟨B, 1, none⟩ v1).setCell ⟨B, 2, none⟩ v2).setCell ⟨B, 3, none⟩ v3) :=
  h _ (blk_set (blk_set (blk_set (blk_set hB 0 v0) 1 v1) 2 v2) 3 v3) ((((hr.set B 0 _ hRB).set B 1 _ hRB).set B 2 _ hRB).set B 3 _ hRB) (grown_setNew (grown_setNew (grown_setNew (grown_setNew hg B 0 _ hwB) B 1 _ hwB) B 2 _ hwB) B 3 _ hwB)
/-- 'fail', in whatever state. -/
theorem fail9 (R : Nat) (s : ByteArray) (st : S9) (k : Nat) (er : Int) (w : World) (h : R9 w R s st) (her : er ≠ 0) :
    Calls Try.prog 37 #[.pointer (some ⟨R, 0, none⟩), .int .i64 k, .int .i64 er] w fun e w' => ∃ st' : S9, e = .returned (.tuple #[]) ∧ R9 w' R s st' ∧ w.grownBy w' (some R) ∧ ∀ (u : Unit), Goes st (fun _ => (.inl (k, er) : PR Unit)) u st' := by
  rcases st with ⟨k', er', a⟩ | a
  · refine (fail9_dead R s k' er' a _ _ w h).mono ?_
    rintro e w' ⟨rfl, hr, hg⟩
    exact ⟨_, rfl, hr, hg, fun _ => ⟨a, rfl⟩⟩
  · refine (fail9_alive R s a k er w h her).mono ?_
    rintro e w' ⟨rfl, hr, hg⟩
    exact ⟨_, rfl, hr, hg, fun _ => ⟨a, rfl⟩⟩

set_option maxRecDepth 100000 in
set_option maxHeartbeats 3200000 in
theorem cond9 (R : Nat) (s : ByteArray) (st : S9) (n : Nat) (w : World) (h : R9 w R s st) (hs : s.size ≤ 4096) (hn : n ≤ 16) :
    Calls Try.prog 35 #[.pointer (some ⟨R, 0, none⟩), .int .i64 n] w (Post9 R s cndV w st (fun a => pCond s.data.toList a n)) := by
  obtain ⟨w2, hw2⟩ : ∃ w2, w2 = (w.alloc (.cells #[.int .u8 0, .int .i64 0, .int .u8 0, .int .i64 0] 97)).alloc (.cells #[.int .u8 0, .int .i64 0, .int .u8 0, .int .i64 0] 97) := ⟨_, rfl⟩
  have hR2 : R9 w2 R s st := by rw [hw2]; exact (h.alloc _).alloc _
  have hRlt := h.lt
  have HB2 := Lib.hid (show w2.heap[w.heap.size]? = some (.cells #[.int .u8 0, .int .i64 0, .int .u8 0, .int .i64 0] 97 (0, 0)) by rw [hw2]; exact blk_alloc (blk_new w _) _)
  have HC2 := Lib.hid (show w2.heap[w.heap.size + 1]? = some (.cells #[.int .u8 0, .int .i64 0, .int .u8 0, .int .i64 0] 97 (0, 0)) by rw [hw2]; exact Mem.heap_new (by simp))
  have HG2 := Lib.hid (show w.grownBy w2 (some R) by rw [hw2]; exact grown_trans (grown_alloc _ _ _) (grown_alloc _ _ _))
  have HR2 := Lib.hid hR2
  obtain ⟨-, r1, -, -, -, -, -, -⟩ := cells4 hR2.blk
  rw [hw2] at r1
  have hRC : R < w.heap.size + 1 := by omega
  clear hR2 h
  go_enter Try.func35, Try.ntmps35
  have ho : ∀ (w' : World) (st : S9), R9 w' R s st → Calls Try.prog 34 #[.pointer (some ⟨R, 0, none⟩), .int .u8 97, .int .u8 122] w' (Post9 R s (fun b : Nat => .int .u8 b) w' st (fun a => pOne s.data.toList a 97 122)) := fun w' st h => take9 R s st 97 122 w' h hs
  have Ho := Lib.hid ho
  clear ho
  go_wp2_with fail
  rw [← hw2]
  refine (Ho.out _ _ HR2.out).mono ?_
  rintro e w3 ⟨x1, st1, rfl, hr3, hg3, hgo1⟩
  clear r1
  have HC3 := Lib.hid (blk_grown HC2.out hg3 (by omega))
  have HB3 := Lib.hid (blk_grown HB2.out hg3 (by omega))
  have HG3 := Lib.hid (grown_trans HG2.out hg3)
  have hwC : w.heap.size ≤ w.heap.size + 1 := by omega
  have hBC : w.heap.size ≠ w.heap.size + 1 := by omega
  generalize hCe : w.heap.size + 1 = C at *
  generalize hBe : w.heap.size = B at *
  have HR3 := Lib.hid hr3; have Hgo1 := Lib.hid hgo1
  clear hr3 hgo1 hg3 hw2
  obtain ⟨k0, k1, k2, k3, k4, k5, k6, k7⟩ := cells4 HC3.out
  have HC3s := Lib.hid (blk_set HC3.out 0 (.int .u8 x1))
  have HB3s := Lib.hid (blk_other HB3.out C 0 (.int .u8 x1) (by omega))
  have HG3s := Lib.hid (grown_setNew HG3.out C 0 (.int .u8 x1) (by omega))
  have HR3s := Lib.hid (HR3.out.set C 0 (.int .u8 x1) (by omega))
  by_cases h16 : n = 16
  case' pos =>
    subst h16
    go_wp2_with fail
    refine (fail9 R s st1 st.at 24 _ HR3s.out (by decide)).mono ?_
    rintro e w4 ⟨stX, rfl, hr4, hg4, hgoX⟩
    have HC4 := Lib.hid (blk_grown HC3s.out hg4 (by omega))
    have HB4 := Lib.hid (blk_grown HB3s.out hg4 (by omega))
    have HG4 := Lib.hid (grown_trans HG3s.out hg4)
    have HR4 := Lib.hid hr4
    have HGO : Hid (∀ v st', Goes stX (fun a1 => (pOp s.data.toList a1).bind fun o a2 => pTl s.data.toList x1 o a2) v st' → Goes st (fun a => pCond s.data.toList a 16) v st') := Lib.hid (by
      intro v st' hh
      rcases st with ⟨k, er, a⟩ | a
      · obtain ⟨a1, rfl⟩ := Hgo1.out
        obtain ⟨a2, rfl⟩ := hgoX ()
        exact hh
      · have h1 := Hgo1.out
        have hp : pCond s.data.toList a 16 = (pOne s.data.toList a 97 122).bind fun _ _ => .inl (a, 24) := by unfold pCond; rw [if_pos rfl]
        simp only [Goes] at h1 ⊢
        rw [hp]
        cases hx : pOne s.data.toList a 97 122 with
        | inl f =>
          obtain ⟨k, er⟩ := f
          rw [hx] at h1
          obtain ⟨a1, rfl⟩ := h1
          obtain ⟨a2, rfl⟩ := hgoX ()
          exact hh
        | inr f =>
          obtain ⟨x0, a1⟩ := f
          rw [hx] at h1
          obtain ⟨rfl, rfl⟩ := h1
          obtain ⟨a2, rfl⟩ := hgoX ()
          exact hh)
    clear hgoX hr4 hg4
  case' neg =>
    have h16' : (n : Int) < 16 := by omega
    have HGO : Hid (∀ v st', Goes st1 (fun a1 => (pOp s.data.toList a1).bind fun o a2 => pTl s.data.toList x1 o a2) v st' → Goes st (fun a => pCond s.data.toList a n) v st') := Lib.hid (by
      intro v st' hh
      refine (Hgo1.out.bind (q := fun x a1 => (pOp s.data.toList a1).bind fun o a2 => pTl s.data.toList x o a2) hh).eq fun a _ => ?_
      exact (pCond_tl _ _ _ h16).symm)
    go_wp2_with fail
    generalize st1 = stX at *
    have HC4 := HC3s; have HB4 := HB3s; have HG4 := HG3s; have HR4 := HR3s
    generalize w3.setCell ⟨C, 0, none⟩ (.int .u8 x1) = w4 at *
  all_goals
    clear HC3 HB3 HG3 HC3s HB3s HG3s HR3s HR3 Hgo1 k0 k1 k2 k3 k4 k5 k6 k7
    try go_wp2_with fail
    refine (op9 R s stX _ HR4.out hs).mono ?_
    rintro e w5 ⟨x2, st2, rfl, hr5, hg5, hgo2⟩
    have HC5 := Lib.hid (blk_grown HC4.out hg5 (by omega))
    have HB5 := Lib.hid (blk_grown HB4.out hg5 (by omega))
    have HG5 := Lib.hid (grown_trans HG4.out hg5)
    have HR5 := Lib.hid hr5
    have HGO2 : Hid (∀ v st', Goes st2 (fun a2 => pTl s.data.toList x1 x2 a2) v st' → Goes st _ v st') := Lib.hid fun v st' hh => HGO.out v st' (hgo2.bind (q := fun o a2 => pTl s.data.toList x1 o a2) hh)
    obtain ⟨k0, k1, k2, k3, k4, k5, k6, k7⟩ := cells4 HC5.out
    have HC6 := Lib.hid (blk_set HC5.out 1 (.int .i64 x2))
    have HB6 := Lib.hid (blk_other HB5.out C 1 (.int .i64 x2) (by omega))
    have HG6 := Lib.hid (grown_setNew HG5.out C 1 (.int .i64 x2) (by omega))
    have HR6 := Lib.hid (HR5.out.set C 1 (.int .i64 x2) (by omega))
    clear hr5 hg5 hgo2 HGO
    go_wp2_with fail
    clear HC5 HB5 HG5 HR5 HC4 HB4 HG4 HR4 k0 k1 k2 k3 k4 k5 k6 k7
    generalize w5.setCell ⟨C, 1, none⟩ (.int .i64 x2) = w6 at *
    have Hn := Lib.hid (next9 R s st2 48 57 w6 HR6.out hs)
    cases hb1 : nextB s.data.toList st2 48 57 with
    | true =>
      obtain ⟨a2, rfl⟩ := nextB_alive hb1
      have hib : inB s.data.toList a2 48 57 = true := hb1
      rw [inB_peek (by omega)] at hib
      simp only [Bool.and_eq_true, decide_eq_true_eq] at hib
      have hp : pTl s.data.toList x1 x2 a2 = (pNum s.data.toList a2 48).bind fun k a3 => .inr (⟨x1, x2, 0, k⟩, a3) := by
        unfold pTl
        rw [if_neg (by omega), if_pos hib]
      rw [hb1] at Hn
      have Hp := Lib.hid hp
      clear hp hib hb1
      refine Hn.out.mono ?_
      rintro e w7 ⟨rfl, n7, rfl⟩
      go_wp2_with fail
      refine (number9 R s _ 48 _ (HR6.out.drewN n7) hs (by decide)).mono ?_
      rintro e w8 ⟨k, st8, hk, rfl, hr8, hg8, hgo8⟩
      have HC8 := Lib.hid (blk_grown (w := w6.drewN n7) HC6.out hg8 (by omega))
      have HB8 := Lib.hid (blk_grown (w := w6.drewN n7) HB6.out hg8 (by omega))
      have HG8 := Lib.hid (grown_trans (grown_trans HG6.out (grown_drewN w6 n7 _)) hg8)
      have HR8 := Lib.hid hr8; have Hgo8 := Lib.hid hgo8
      clear hr8 hg8 hgo8 HC6 HB6 HG6 HR6
      obtain ⟨k0, k1, k2, k3, k4, k5, k6, k7⟩ := cells4 HC8.out
      obtain ⟨j0, j1, j2, j3, j4, j5, j6, j7⟩ := cells4 HB8.out
      go_wp2_with fail
      refine ret4_9 (HR8.out.set C 3 _ (by omega)) (grown_setNew HG8.out C 3 _ (by omega)) (blk_other HB8.out C 3 _ (by omega)) (by omega) (by omega) fun w9 hB9 hr9 hg9 => ?_
      obtain ⟨m0, m1, m2, m3, -, -, -, -⟩ := cells4 hB9
      refine bodyPost_ret (by simp [results, Try.results35, go_sem, m0, m1, m2, m3]; try rfl) rfl ?_
      refine ⟨⟨x1, x2, 0, k⟩, _, rfl, hr9, hg9, HGO2.out _ _ ?_⟩
      refine (Hgo8.out.bind (q := fun k a3 => .inr (⟨x1, x2, 0, k⟩, a3)) ?_).alive Hp.out.symm
      rcases st8 with ⟨k', er', a'⟩ | a'
      · exact ⟨a', rfl⟩
      · exact ⟨rfl, rfl⟩
    | false =>
      rw [hb1] at Hn
      have Hb1 := Lib.hid hb1
      clear hb1
      refine Hn.out.mono ?_
      rintro e w7 ⟨rfl, n7, rfl⟩
      have Hn2 := Lib.hid (next9 R s st2 45 45 (w6.drewN n7) (HR6.out.drewN n7) hs)
      cases hb2 : nextB s.data.toList st2 45 45 with
      | true =>
        obtain ⟨a2, rfl⟩ := nextB_alive hb2
        have hib : pHas s.data.toList a2 45 = true := inB_has.symm.trans hb2
        have hpk := hib
        rw [peek_has (by omega), beq_iff_eq] at hpk
        have hp : pTl s.data.toList x1 x2 a2 = (pNum s.data.toList (a2 + 1) 49).bind fun k a3 => .inr (⟨x1, x2, 0, -(k : Int)⟩, a3) := by
          unfold pTl
          rw [if_pos hpk]
        rw [hb2] at Hn2
        have Hp := Lib.hid hp; have Hib := Lib.hid hib
        clear hp hib hb2 hpk
        go_wp2_with fail
        refine Hn2.out.mono ?_
        rintro e w7' ⟨rfl, n7', rfl⟩
        go_wp2_with fail
        refine (signed9_minus R s a2 _ (HR6.out.drewN _) hs Hib.out).mono ?_
        rintro e w8 ⟨k, st8, rfl, hr8, hg8, hgo8⟩
        have HC8 := Lib.hid (blk_grown (w := w6.drewN (n7 + n7')) HC6.out hg8 (by omega))
        have HB8 := Lib.hid (blk_grown (w := w6.drewN (n7 + n7')) HB6.out hg8 (by omega))
        have HG8 := Lib.hid (grown_trans (grown_trans HG6.out (grown_drewN w6 (n7 + n7') _)) hg8)
        have HR8 := Lib.hid hr8; have Hgo8 := Lib.hid hgo8
        clear hr8 hg8 hgo8 HC6 HB6 HG6 HR6
        obtain ⟨k0, k1, k2, k3, k4, k5, k6, k7⟩ := cells4 HC8.out
        obtain ⟨j0, j1, j2, j3, j4, j5, j6, j7⟩ := cells4 HB8.out
        go_wp2_with fail
        refine ret4_9 (HR8.out.set C 3 _ (by omega)) (grown_setNew HG8.out C 3 _ (by omega)) (blk_other HB8.out C 3 _ (by omega)) (by omega) (by omega) fun w9 hB9 hr9 hg9 => ?_
        obtain ⟨m0, m1, m2, m3, -, -, -, -⟩ := cells4 hB9
        refine bodyPost_ret (by simp [results, Try.results35, go_sem, m0, m1, m2, m3]; try rfl) rfl ?_
        refine ⟨⟨x1, x2, 0, -(k : Int)⟩, _, rfl, hr9, hg9, HGO2.out _ _ ?_⟩
        have hq := Hgo8.out.bind (q := fun k a3 => .inr (⟨x1, x2, 0, -(k : Int)⟩, a3)) (y := (⟨x1, x2, 0, -(k : Int)⟩ : Cnd)) (st2 := st8) (by
          rcases st8 with ⟨k', er', a'⟩ | a'
          · exact ⟨a', rfl⟩
          · exact ⟨rfl, rfl⟩)
        simp only [Goes] at hq ⊢
        rw [Hp.out]
        exact hq
      | false =>
        rw [hb2] at Hn2
        have HGO3 : Hid (∀ v st', Goes st2 (fun a2 => (pOne s.data.toList a2 97 122).bind fun r a3 => pTl2 s.data.toList x1 x2 r a3) v st' → Goes st _ v st') := Lib.hid fun v st' hh => HGO2.out v st' (hh.eq fun a2 he => by
          subst he
          have q1 : inB s.data.toList a2 48 57 = false := Hb1.out
          have q2 : pHas s.data.toList a2 45 = false := inB_has.symm.trans hb2
          rw [peek_has (by omega), beq_eq_false_iff_ne] at q2
          rw [inB_peek (by omega)] at q1
          unfold pTl
          rw [if_neg q2, if_neg]
          intro hh
          rw [decide_eq_true hh.1, decide_eq_true hh.2] at q1
          cases q1)
        clear hb2 Hb1 HGO2
        go_wp2_with fail
        refine Hn2.out.mono ?_
        rintro e w7' ⟨rfl, n7', rfl⟩
        go_wp2_with fail
        refine (Ho.out _ _ (HR6.out.drewN _)).mono ?_
        rintro e w8 ⟨x3, st3, rfl, hr8, hg8, hgo8⟩
        have HC8 := Lib.hid (blk_grown (w := w6.drewN (n7 + n7')) HC6.out hg8 (by omega))
        have HB8 := Lib.hid (blk_grown (w := w6.drewN (n7 + n7')) HB6.out hg8 (by omega))
        have HG8 := Lib.hid (grown_trans (grown_trans HG6.out (grown_drewN w6 (n7 + n7') _)) hg8)
        have HR8 := Lib.hid hr8
        have HGO4 : Hid (∀ v st', Goes st3 (fun a3 => pTl2 s.data.toList x1 x2 x3 a3) v st' → Goes st _ v st') := Lib.hid fun v st' hh => HGO3.out v st' (hgo8.bind (q := fun r a3 => pTl2 s.data.toList x1 x2 r a3) hh)
        clear hr8 hg8 hgo8 HC6 HB6 HG6 HR6 HGO3
        obtain ⟨k0, k1, k2, k3, k4, k5, k6, k7⟩ := cells4 HC8.out
        have HC9 := Lib.hid (blk_set HC8.out 2 (.int .u8 x3))
        have HB9 := Lib.hid (blk_other HB8.out C 2 (.int .u8 x3) (by omega))
        have HG9 := Lib.hid (grown_setNew HG8.out C 2 (.int .u8 x3) (by omega))
        have HR9 := Lib.hid (HR8.out.set C 2 (.int .u8 x3) (by omega))
        go_wp2_with fail
        clear HC8 HB8 HG8 HR8 k0 k1 k2 k3 k4 k5 k6 k7
        generalize w8.setCell ⟨C, 2, none⟩ (.int .u8 x3) = w9 at *
        have Hn3 := Lib.hid (next9 R s st3 43 43 w9 HR9.out hs)
        have Hn4 := Lib.hid (fun n9 => next9 R s st3 45 45 (w9.drewN n9) (HR9.out.drewN n9) hs)
        refine Hn3.out.mono ?_
        rintro e w10 ⟨rfl, n9, rfl⟩
        go_wp2_with fail
        refine (Hn4.out n9).mono ?_
        rintro e w10 ⟨rfl, n10, rfl⟩
        clear Hn3 Hn4
        cases hb3 : nextB s.data.toList st3 43 43 with
        | true =>
          obtain ⟨a3, rfl⟩ := nextB_alive hb3
          have hib : pHas s.data.toList a3 43 = true := inB_has.symm.trans hb3
          have hp : pTl2 s.data.toList x1 x2 x3 a3 = (pNum s.data.toList (a3 + 1) 49).bind fun k a5 => .inr (⟨x1, x2, x3, k⟩, a5) := by
            unfold pTl2
            rw [if_pos hib]
          have Hp := Lib.hid hp; have Hib := Lib.hid hib
          clear hp hib hb3
          go_wp2_with fail
          refine (signed9_plus R s a3 _ (HR9.out.drewN _) hs Hib.out).mono ?_
          rintro e w11 ⟨k, st8, rfl, hr8, hg8, hgo8⟩
          have HC8 := Lib.hid (blk_grown (w := w9.drewN (n9 + n10)) HC9.out hg8 (by omega))
          have HB8 := Lib.hid (blk_grown (w := w9.drewN (n9 + n10)) HB9.out hg8 (by omega))
          have HG8 := Lib.hid (grown_trans (grown_trans HG9.out (grown_drewN w9 (n9 + n10) _)) hg8)
          have HR8 := Lib.hid hr8; have Hgo8 := Lib.hid hgo8
          clear hr8 hg8 hgo8 HC9 HB9 HG9 HR9
          obtain ⟨k0, k1, k2, k3, k4, k5, k6, k7⟩ := cells4 HC8.out
          obtain ⟨j0, j1, j2, j3, j4, j5, j6, j7⟩ := cells4 HB8.out
          go_wp2_with fail
          refine ret4_9 (HR8.out.set C 3 _ (by omega)) (grown_setNew HG8.out C 3 _ (by omega)) (blk_other HB8.out C 3 _ (by omega)) (by omega) (by omega) fun w9 hB9 hr9 hg9 => ?_
          obtain ⟨m0, m1, m2, m3, -, -, -, -⟩ := cells4 hB9
          refine bodyPost_ret (by simp [results, Try.results35, go_sem, m0, m1, m2, m3]; try rfl) rfl ?_
          refine ⟨⟨x1, x2, x3, k⟩, _, rfl, hr9, hg9, HGO4.out _ _ ?_⟩
          have hq := Hgo8.out.bind (q := fun k a3 => .inr (⟨x1, x2, x3, k⟩, a3)) (y := (⟨x1, x2, x3, k⟩ : Cnd)) (st2 := st8) (by
            rcases st8 with ⟨k', er', a'⟩ | a'
            · exact ⟨a', rfl⟩
            · exact ⟨rfl, rfl⟩)
          simp only [Goes] at hq ⊢
          rw [Hp.out]
          exact hq
        | false =>
          cases hb4 : nextB s.data.toList st3 45 45 with
          | true =>
            obtain ⟨a3, rfl⟩ := nextB_alive hb4
            have hib : pHas s.data.toList a3 45 = true := inB_has.symm.trans hb4
            have hib3 : pHas s.data.toList a3 43 = false := inB_has.symm.trans hb3
            have hp : pTl2 s.data.toList x1 x2 x3 a3 = (pNum s.data.toList (a3 + 1) 49).bind fun k a5 => .inr (⟨x1, x2, x3, -(k : Int)⟩, a5) := by
              unfold pTl2
              rw [hib3, hib]
              rfl
            have Hp := Lib.hid hp; have Hib := Lib.hid hib
            clear hp hib hib3 hb3 hb4
            go_wp2_with fail
            refine (signed9_minus R s a3 _ (HR9.out.drewN _) hs Hib.out).mono ?_
            rintro e w11 ⟨k, st8, rfl, hr8, hg8, hgo8⟩
            have HC8 := Lib.hid (blk_grown (w := w9.drewN (n9 + n10)) HC9.out hg8 (by omega))
            have HB8 := Lib.hid (blk_grown (w := w9.drewN (n9 + n10)) HB9.out hg8 (by omega))
            have HG8 := Lib.hid (grown_trans (grown_trans HG9.out (grown_drewN w9 (n9 + n10) _)) hg8)
            have HR8 := Lib.hid hr8; have Hgo8 := Lib.hid hgo8
            clear hr8 hg8 hgo8 HC9 HB9 HG9 HR9
            obtain ⟨k0, k1, k2, k3, k4, k5, k6, k7⟩ := cells4 HC8.out
            obtain ⟨j0, j1, j2, j3, j4, j5, j6, j7⟩ := cells4 HB8.out
            go_wp2_with fail
            refine ret4_9 (HR8.out.set C 3 _ (by omega)) (grown_setNew HG8.out C 3 _ (by omega)) (blk_other HB8.out C 3 _ (by omega)) (by omega) (by omega) fun w9 hB9 hr9 hg9 => ?_
            obtain ⟨m0, m1, m2, m3, -, -, -, -⟩ := cells4 hB9
            refine bodyPost_ret (by simp [results, Try.results35, go_sem, m0, m1, m2, m3]; try rfl) rfl ?_
            refine ⟨⟨x1, x2, x3, -(k : Int)⟩, _, rfl, hr9, hg9, HGO4.out _ _ ?_⟩
            have hq := Hgo8.out.bind (q := fun k a3 => .inr (⟨x1, x2, x3, -(k : Int)⟩, a3)) (y := (⟨x1, x2, x3, -(k : Int)⟩ : Cnd)) (st2 := st8) (by
              rcases st8 with ⟨k', er', a'⟩ | a'
              · exact ⟨a', rfl⟩
              · exact ⟨rfl, rfl⟩)
            simp only [Goes] at hq ⊢
            rw [Hp.out]
            exact hq
          | false =>
            have HGO5 : Hid (Goes st3 (fun a3 => pTl2 s.data.toList x1 x2 x3 a3) ⟨x1, x2, x3, 0⟩ st3) := Lib.hid (by
              rcases st3 with ⟨k', er', a'⟩ | a3
              · exact ⟨a', rfl⟩
              · have q3 : pHas s.data.toList a3 43 = false := inB_has.symm.trans hb3
                have q4 : pHas s.data.toList a3 45 = false := inB_has.symm.trans hb4
                simp only [Goes, pTl2]
                rw [q3, q4]
                exact ⟨rfl, rfl⟩)
            clear hb3 hb4
            have HC8 := Lib.hid (show (w9.drewN (n9 + n10)).heap[C]? = _ from HC9.out)
            have HB8 := Lib.hid (show (w9.drewN (n9 + n10)).heap[B]? = _ from HB9.out)
            have HG8 := Lib.hid (grown_trans HG9.out (grown_drewN w9 (n9 + n10) _))
            have HR8 := Lib.hid (HR9.out.drewN (n9 + n10))
            clear HC9 HB9 HG9 HR9
            obtain ⟨k0, k1, k2, k3, k4, k5, k6, k7⟩ := cells4 HC8.out
            obtain ⟨j0, j1, j2, j3, j4, j5, j6, j7⟩ := cells4 HB8.out
            go_wp2_with fail
            refine ret4_9 HR8.out HG8.out HB8.out (by omega) (by omega) fun w9 hB9 hr9 hg9 => ?_
            obtain ⟨m0, m1, m2, m3, -, -, -, -⟩ := cells4 hB9
            refine bodyPost_ret (by simp [results, Try.results35, go_sem, m0, m1, m2, m3]; try rfl) rfl ?_
            refine ⟨⟨x1, x2, x3, 0⟩, _, rfl, hr9, hg9, HGO4.out _ _ HGO5.out⟩
end Go.Proofs.Ytcfimponmioneaa.WP
