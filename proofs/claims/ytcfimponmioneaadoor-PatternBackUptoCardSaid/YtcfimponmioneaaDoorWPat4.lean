/- The walk of the pattern reader's step. -/
import Derived.Test.YtcfimponmioneaaDoorWPat3
namespace Go.Proofs.YtcfimponmioneaaDoor.WP
open Go.RowKit Go.Proofs.YtcfimponmioneaaDoor Go.Proofs.YtcfimponmioneaaDoor.PP

theorem cells5 {w : World} {g : Nat} {t : TypeId} {c0 c1 c2 c3 c4 : Value} (h : w.heap[g]? = some (.cells #[c0, c1, c2, c3, c4] t (0, 0))) :
    w.cell? ⟨g, 0, none⟩ = some c0 ∧ w.cell? ⟨g, 1, none⟩ = some c1 ∧ w.cell? ⟨g, 2, none⟩ = some c2 ∧ w.cell? ⟨g, 3, none⟩ = some c3 ∧ w.cell? ⟨g, 4, none⟩ = some c4 ∧ w.frozen? ⟨g, 0, none⟩ = false ∧ w.frozen? ⟨g, 1, none⟩ = false ∧ w.frozen? ⟨g, 2, none⟩ = false ∧ w.frozen? ⟨g, 3, none⟩ = false ∧ w.frozen? ⟨g, 4, none⟩ = false :=
  ⟨by rw [Lib.cell_of_heap h]; rfl, by rw [Lib.cell_of_heap h]; rfl, by rw [Lib.cell_of_heap h]; rfl, by rw [Lib.cell_of_heap h]; rfl, by rw [Lib.cell_of_heap h]; rfl, Lib.frozen_of_heap h 0, Lib.frozen_of_heap h 1, Lib.frozen_of_heap h 2, Lib.frozen_of_heap h 3, Lib.frozen_of_heap h 4⟩

/-- Five stores into a block of the call's own, at its end. -/
theorem ret5 {p : Program} {f : Func} {Q : Ending → World → Prop} {ex : Exit} {act : Act} {w w5 : World} {R B : Nat} {s : ByteArray} {a : Nat} {t : TypeId} {c0 c1 c2 c3 c4 v0 v1 v2 v3 v4 : Value}
    (hr : Rd w5 R s a) (hg : w.grownBy w5 (some R)) (hB : w5.heap[B]? = some (.cells #[c0, c1, c2, c3, c4] t (0, 0))) (hRB : R ≠ B) (hwB : w.heap.size ≤ B)
    (h : ∀ w9 : World, w9.heap[B]? = some (.cells #[v0, v1, v2, v3, v4] t (0, 0)) → Rd w9 R s a → w.grownBy w9 (some R) → bodyPost p f Q ex act w9) :
    bodyPost p f Q ex act (((((w5.setCell ⟨B, 0, none⟩ v0).setCell ⟨B, 1, none⟩ v1).setCell ⟨B, 2, none⟩ v2).setCell ⟨B, 3, none⟩ v3).setCell ⟨B, 4, none⟩ v4) :=
  h _ (blk_set (blk_set (blk_set (blk_set (blk_set hB 0 v0) 1 v1) 2 v2) 3 v3) 4 v4) (((((hr.set B 0 _ hRB).set B 1 _ hRB).set B 2 _ hRB).set B 3 _ hRB).set B 4 _ hRB) (grown_setNew (grown_setNew (grown_setNew (grown_setNew (grown_setNew hg B 0 _ hwB) B 1 _ hwB) B 2 _ hwB) B 3 _ hwB) B 4 _ hwB)

theorem bind_to {α β : Type} {x : PR α} {v : α} {a : Nat} (h : x = .inr (v, a)) (f : α → Nat → PR β) : x.bind f = f v a := by rw [h]; rfl
theorem bind_fail {α β : Type} {x : PR α} {p : Nat × Int} (h : x = .inl p) (f : α → Nat → PR β) : x.bind f = .inl p := by rw [h]; rfl
/-- A step as the program lays it. -/
def stpV (c : Stp) : Value := .agg #[.int .u8 c.k, .int .u8 c.nm, .bool c.neg, .int .i64 c.lo, .int .i64 c.hi]
theorem has_gen (R : Nat) (s : ByteArray) (a b : Nat) (w : World) (h : Rd w R s a) (ha : a ≤ s.size) (hs : s.size ≤ 4096) :
    Calls Tryd.prog 28 #[.pointer (some ⟨R, 0, none⟩), .int .u8 b] w fun e w' => e = .returned (.bool (pHas s.data.toList a b)) ∧ Rd w' R s (if pHas s.data.toList a b then a + 1 else a) ∧ w.grownBy w' (some R) ∧ (if pHas s.data.toList a b then a + 1 else a) ≤ s.size := by
  cases hb : pHas s.data.toList a b with
  | true => exact has_yes R s a b w h ha hs hb
  | false => exact has_no R s a b w h ha hs hb

set_option maxRecDepth 100000 in
set_option maxHeartbeats 1600000 in
theorem step_any (R : Nat) (s : ByteArray) (a n : Nat) (w : World) (h : Rd w R s a) (ha : a ≤ s.size) (hs : s.size ≤ 4096) (hn : n ≤ 8) :
    Calls Tryd.prog 27 #[.pointer (some ⟨R, 0, none⟩), .int .i64 n] w fun e w' => Post R s stpV w (pStep s.data.toList a n) e w' := by
  have Hrd := Lib.hid h
  clear h
  have hRlt := Hrd.out.lt
  have c1' : (w.alloc (.cells #[.int .u8 0, .int .u8 0, .bool false, .int .i64 0, .int .i64 0] 48)).cell? ⟨R, 1, none⟩ = some (.int .i64 a) := (Hrd.out.alloc _).cells.2.1
  have ho : ∀ (w' : World) (b lo hi : Nat), Rd w' R s b → b ≤ s.size → Calls Tryd.prog 38 #[.pointer (some ⟨R, 0, none⟩), .int .u8 lo, .int .u8 hi] w' fun e w'' => Post R s (fun b : Nat => .int .u8 b) w' (pOne s.data.toList b lo hi) e w'' := fun w' b lo hi h hb => one_any R s b lo hi w' h hb hs
  have Ho := Lib.hid ho
  have hn2 : ∀ (w' : World) (b least : Nat), 48 ≤ least → Rd w' R s b → b ≤ s.size → Calls Tryd.prog 30 #[.pointer (some ⟨R, 0, none⟩), .int .u8 least] w' fun e w'' => Post R s (fun b : Nat => .int .i64 b) w' (pNum s.data.toList b least) e w'' := fun w' b least hl h hb => number_any R s b least w' h hb hs hl
  have Hn := Lib.hid hn2
  have hw2 : ∀ (w' : World) (b : Nat) (wd : ByteArray), wd.size ≤ 4096 → Rd w' R s b → b ≤ s.size → Calls Tryd.prog 26 #[.pointer (some ⟨R, 0, none⟩), .string wd] w' fun e w'' => Post R s (fun _ : Unit => .tuple #[]) w' (pWord s.data.toList wd.data.toList b) e w'' := fun w' b wd hl h hb => word_any R s b wd w' h hb hs hl
  have Hw := Lib.hid hw2
  have hh : ∀ (w' : World) (b x : Nat), Rd w' R s b → b ≤ s.size → Calls Tryd.prog 28 #[.pointer (some ⟨R, 0, none⟩), .int .u8 x] w' fun e w'' => e = .returned (.bool (pHas s.data.toList b x)) ∧ Rd w'' R s (if pHas s.data.toList b x then b + 1 else b) ∧ w'.grownBy w'' (some R) ∧ (if pHas s.data.toList b x then b + 1 else b) ≤ s.size := fun w' b x h hb => has_gen R s b x w' h hb hs
  have Hh := Lib.hid hh
  have Hs := Lib.hid hs
  clear ho hn2 hw2 hh hs
  by_cases h8 : n = 8
  · subst h8
    go_enter Tryd.func27, Tryd.ntmps27
    go_wp2_with fail
    refine (Hh.out _ a 33 (Hrd.out.alloc _) ha).mono ?_
    rintro e w1 ⟨rfl, hr1, hg1, hb1⟩
    have hg2 := grown_trans (grown_alloc w _ _) hg1
    have Hr1 := Lib.hid hr1
    clear hr1 hg1 c1'
    cases hp : pHas s.data.toList a 33 with
    | true =>
      have Hp := Lib.hid hp
      clear hp
      go_wp2_with fail
      refine (fail_any _ _ _ _).mono ?_
      rintro e w2 ⟨rfl, rfl⟩
      go_wp2_with fail
      refine ⟨rfl, ?_⟩
      unfold pStep
      rw [if_pos rfl, if_pos Hp.out]
      exact ⟨rfl, hg2⟩
    | false =>
      rw [hp] at Hr1 hb1
      have Hp := Lib.hid hp
      clear hp
      go_wp2_with fail
      refine (Ho.out _ a 65 90 Hr1.out ha).mono ?_
      rintro e w2 hpost
      refine hpost.split (fun fk fe h1 he hg3 => ?_) (fun v a1 h1 he hr3 hg3 hb3 => ?_)
      · subst he
        go_wp2_with fail
        refine ⟨rfl, ?_⟩
        unfold pStep
        rw [if_pos rfl, if_neg (by rw [Hp.out]; simp), h1.out]
        exact ⟨rfl, grown_trans hg2 hg3⟩
      · subst he
        go_wp2_with fail
        refine (fail_any _ _ _ _).mono ?_
        rintro e w3 ⟨rfl, rfl⟩
        go_wp2_with fail
        refine ⟨rfl, ?_⟩
        unfold pStep
        rw [if_pos rfl, if_neg (by rw [Hp.out]; simp), h1.out]
        exact ⟨rfl, grown_trans hg2 hg3⟩
  · have h8' : ((n : Int) == 8) = false := by rw [beq_eq_false_iff_ne]; omega
    go_enter Tryd.func27, Tryd.ntmps27
    go_wp2_with fail
    refine (Hh.out _ a 33 (Hrd.out.alloc _) ha).mono ?_
    rintro e w1 ⟨rfl, hr1, hg1, hb1⟩
    obtain ⟨neg, hneg⟩ : ∃ b, b = pHas s.data.toList a 33 := ⟨_, rfl⟩
    rw [← hneg] at hr1 hb1 ⊢
    obtain ⟨a0, ha0⟩ : ∃ b, b = (if neg then a + 1 else a) := ⟨_, rfl⟩
    rw [← ha0] at hr1 hb1
    have hP : pStep s.data.toList a n = (pOne s.data.toList a0 65 90).bind fun k a1 => (pWord s.data.toList [32] a1).bind fun _ a2 => (pOne s.data.toList a2 97 122).bind fun nm a3 =>
        if pHas s.data.toList a3 123 then (if neg then .inl (a3, 22)
        else (pNum s.data.toList (a3 + 1) 48).bind fun lo a4 => (pWord s.data.toList [44] a4).bind fun _ a5 => (pNum s.data.toList a5 48).bind fun hi a6 => (pWord s.data.toList [125] a6).bind fun _ a7 =>
          if lo < 1 ∨ hi < lo ∨ 4 < hi ∨ hi = 1 then .inl (a3, 22) else .inr (⟨k, nm, false, lo, hi⟩, a7))
        else .inr (⟨k, nm, neg, 1, 1⟩, a3) := by
      unfold pStep
      rw [if_neg h8]
      unfold pHasR
      rw [← hneg, ha0]
      cases neg <;> rfl
    have HP := Lib.hid hP
    have hg2 := grown_trans (grown_alloc w _ _) hg1
    have hB := Lib.hid (blk_grown (blk_new w (.cells #[.int .u8 0, .int .u8 0, .bool false, .int .i64 0, .int .i64 0] 48 (0, 0))) hg1 (by omega))
    have Hr1 := Lib.hid hr1
    clear hr1 hg1 c1' hP hneg ha0
    go_wp2_with fail
    have hr3 := Lib.hid (Hr1.out.alloc (.cells #[.int .u8 0, .int .u8 0, .bool neg, .int .i64 1, .int .i64 1] 48))
    have hC := Lib.hid (blk_new w1 (.cells #[.int .u8 0, .int .u8 0, .bool neg, .int .i64 1, .int .i64 1] 48))
    have hg3 := grown_trans hg2 (grown_alloc w1 (.cells #[.int .u8 0, .int .u8 0, .bool neg, .int .i64 1, .int .i64 1] 48) _)
    have hRC : R < w1.heap.size := Hr1.out.lt
    have hBC : w.heap.size < w1.heap.size := blk_lt hB.out
    have hwC : w.heap.size ≤ w1.heap.size := by omega
    have hB3 := Lib.hid (blk_alloc hB.out (.cells #[.int .u8 0, .int .u8 0, .bool neg, .int .i64 1, .int .i64 1] 48))
    clear hg2 Hr1
    clear hB
    generalize w1.alloc (.cells #[.int .u8 0, .int .u8 0, .bool neg, .int .i64 1, .int .i64 1] 48) = w3 at *
    generalize w1.heap.size = C at *
    generalize hBe : w.heap.size = B at *
    obtain ⟨k0, k1, k2, k3, k4, k5, k6, k7, k8, k9⟩ := cells5 hC.out
    refine (Ho.out _ a0 65 90 hr3.out hb1).mono ?_
    rintro e w4 hpost
    refine hpost.split (fun fk fe h1 he hg4 => ?_) (fun x1 a1 h1 he hr4 hg4 hb4 => ?_)
    · subst he
      go_wp2_with fail
      refine ⟨rfl, ?_⟩
      rw [HP.out.trans (bind_fail h1.out _)]
      exact ⟨rfl, grown_trans hg3 hg4⟩
    subst he
    have HP := Lib.hid (HP.out.trans (bind_to h1.out _))
    have hC4 := Lib.hid (blk_grown hC.out hg4 (by omega))
    have hB4 := Lib.hid (blk_grown hB3.out hg4 (by omega))
    have hg5 := grown_trans hg3 hg4
    clear hpost k0 k1 k2 k3 k4 k5 k6 k7 k8 k9 hC hB3 hg4 hg3 hr3 hb1 h1
    obtain ⟨k0, k1, k2, k3, k4, k5, k6, k7, k8, k9⟩ := cells5 hC4.out
    have hr5 := Lib.hid (hr4.out.set C 0 (.int .u8 x1) (by omega))
    have hC5 := Lib.hid (blk_set hC4.out 0 (.int .u8 x1))
    have hB5 := Lib.hid (blk_other hB4.out C 0 (.int .u8 x1) (by omega))
    have hg6 := grown_setNew hg5 C 0 (.int .u8 x1) (by omega)
    clear hr4 hC4 hB4 hg5
    go_wp2_with fail
    refine (Hw.out _ a1 ⟨#[32]⟩ (by decide) hr5.out hb4).mono ?_
    rintro e w5 hpost
    refine hpost.split (fun fk fe h1 he hg7 => ?_) (fun x2 a2 h1 he hr6 hg7 hb6 => ?_)
    · subst he
      go_wp2_with fail
      refine ⟨rfl, ?_⟩
      rw [HP.out.trans (bind_fail h1.out _)]
      exact ⟨rfl, grown_trans hg6 hg7⟩
    subst he
    have HP := Lib.hid (HP.out.trans (bind_to h1.out _))
    have hC6 := Lib.hid (blk_grown hC5.out hg7 (by omega))
    have hB6 := Lib.hid (blk_grown hB5.out hg7 (by omega))
    have hg8 := grown_trans hg6 hg7
    clear hpost k0 k1 k2 k3 k4 k5 k6 k7 k8 k9 hC5 hB5 hg6 hg7 hr5 h1 hb4
    obtain ⟨k0, k1, k2, k3, k4, k5, k6, k7, k8, k9⟩ := cells5 hC6.out
    go_wp2_with fail
    refine (Ho.out _ a2 97 122 hr6.out hb6).mono ?_
    rintro e w6 hpost
    refine hpost.split (fun fk fe h1 he hg9 => ?_) (fun x3 a3 h1 he hr7 hg9 hb7 => ?_)
    · subst he
      go_wp2_with fail
      refine ⟨rfl, ?_⟩
      rw [HP.out.trans (bind_fail h1.out _)]
      exact ⟨rfl, grown_trans hg8 hg9⟩
    subst he
    have HP := Lib.hid (HP.out.trans (bind_to h1.out _))
    have hC7 := Lib.hid (blk_grown hC6.out hg9 (by omega))
    have hB7 := Lib.hid (blk_grown hB6.out hg9 (by omega))
    have hg10 := grown_trans hg8 hg9
    clear hpost k0 k1 k2 k3 k4 k5 k6 k7 k8 k9 hC6 hB6 hg8 hg9 hr6 hb6 h1
    obtain ⟨k0, k1, k2, k3, k4, k5, k6, k7, k8, k9⟩ := cells5 hC7.out
    have hr8 := Lib.hid (hr7.out.set C 1 (.int .u8 x3) (by omega))
    have hC8 := Lib.hid (blk_set hC7.out 1 (.int .u8 x3))
    have hB8 := Lib.hid (blk_other hB7.out C 1 (.int .u8 x3) (by omega))
    have hg11 := grown_setNew hg10 C 1 (.int .u8 x3) (by omega)
    obtain ⟨-, r1, -⟩ := hr8.out.cells
    clear hr7 hC7 hB7 hg10
    go_wp2_with fail
    refine (Hh.out _ a3 123 hr8.out hb7).mono ?_
    rintro e w7 ⟨rfl, hr9, hg12, hb9⟩
    have hC9 := Lib.hid (blk_grown hC8.out hg12 (by omega))
    have hB9 := Lib.hid (blk_grown hB8.out hg12 (by omega))
    have hg13 := grown_trans hg11 hg12
    have Hr9 := Lib.hid hr9
    clear k0 k1 k2 k3 k4 k5 k6 k7 k8 k9 hC8 hB8 hg11 hg12 hr8 hr9 r1
    obtain ⟨k0, k1, k2, k3, k4, k5, k6, k7, k8, k9⟩ := cells5 hC9.out
    cases hp : pHas s.data.toList a3 123 with
    | false =>
      have HP := Lib.hid (HP.out.trans (if_neg (by rw [hp]; simp)))
      rw [hp] at Hr9 hb9
      simp only [Bool.false_eq_true, if_false] at Hr9 hb9
      clear hp
      obtain ⟨j0, j1, j2, j3, j4, j5, j6, j7, j8, j9⟩ := cells5 hB9.out
      go_wp2_with fail
      refine ret5 Hr9.out hg13 hB9.out (by omega) (by omega) fun w9 hB9 hr9 hg9 => ?_
      obtain ⟨m0, m1, m2, m3, m4, -, -, -, -, -⟩ := cells5 hB9
      refine bodyPost_ret (by simp [results, Tryd.results27, go_sem, m0, m1, m2, m3, m4]; try rfl) rfl ?_
      rw [HP.out]
      exact ⟨rfl, hr9, hg9, hb9⟩
    | true =>
      have HP := Lib.hid (HP.out.trans (if_pos hp))
      rw [hp] at Hr9 hb9
      simp only [if_true] at Hr9 hb9
      clear hp
      cases neg with
      | true =>
        have HP := Lib.hid (HP.out.trans (if_pos rfl))
        go_wp2_with fail
        refine (fail_any _ _ _ _).mono ?_
        rintro e w8 ⟨rfl, rfl⟩
        go_wp2_with fail
        refine ⟨rfl, ?_⟩
        rw [HP.out]
        exact ⟨rfl, hg13⟩
      | false =>
        have HP := Lib.hid (HP.out.trans (if_neg (by simp)))
        go_wp2_with fail
        refine (Hn.out _ (a3 + 1) 48 (by omega) Hr9.out hb9).mono ?_
        rintro e w8 hpost
        refine hpost.split (fun fk fe h1 he hg14 => ?_) (fun x4 a4 h1 he hr10 hg14 hb10 => ?_)
        · subst he
          go_wp2_with fail
          refine ⟨rfl, ?_⟩
          rw [HP.out.trans (bind_fail h1.out _)]
          exact ⟨rfl, grown_trans hg13 hg14⟩
        subst he
        have hx4 := pNum_bound (by omega) h1.out
        have HP := Lib.hid (HP.out.trans (bind_to h1.out _))
        have hC10 := Lib.hid (blk_grown hC9.out hg14 (by omega))
        have hB10 := Lib.hid (blk_grown hB9.out hg14 (by omega))
        have hg15 := grown_trans hg13 hg14
        clear hpost k0 k1 k2 k3 k4 k5 k6 k7 k8 k9 hC9 hB9 hg13 hg14 Hr9 hb9 h1
        go_wp2_with fail
        refine (Hw.out _ a4 ⟨#[44]⟩ (by decide) hr10.out hb10).mono ?_
        rintro e w9 hpost
        refine hpost.split (fun fk fe h1 he hg16 => ?_) (fun x5 a5 h1 he hr11 hg16 hb11 => ?_)
        · subst he
          go_wp2_with fail
          refine ⟨rfl, ?_⟩
          rw [HP.out.trans (bind_fail h1.out _)]
          exact ⟨rfl, grown_trans hg15 hg16⟩
        subst he
        have HP := Lib.hid (HP.out.trans (bind_to h1.out _))
        have hC11 := Lib.hid (blk_grown hC10.out hg16 (by omega))
        have hB11 := Lib.hid (blk_grown hB10.out hg16 (by omega))
        have hg17 := grown_trans hg15 hg16
        clear hpost hC10 hB10 hg15 hg16 hr10 hb10 h1
        go_wp2_with fail
        refine (Hn.out _ a5 48 (by omega) hr11.out hb11).mono ?_
        rintro e w10 hpost
        refine hpost.split (fun fk fe h1 he hg18 => ?_) (fun x6 a6 h1 he hr12 hg18 hb12 => ?_)
        · subst he
          go_wp2_with fail
          refine ⟨rfl, ?_⟩
          rw [HP.out.trans (bind_fail h1.out _)]
          exact ⟨rfl, grown_trans hg17 hg18⟩
        subst he
        have hx6 := pNum_bound (by omega) h1.out
        have HP := Lib.hid (HP.out.trans (bind_to h1.out _))
        have hC12 := Lib.hid (blk_grown hC11.out hg18 (by omega))
        have hB12 := Lib.hid (blk_grown hB11.out hg18 (by omega))
        have hg19 := grown_trans hg17 hg18
        clear hpost hC11 hB11 hg17 hg18 hr11 hb11 h1
        go_wp2_with fail
        refine (Hw.out _ a6 ⟨#[125]⟩ (by decide) hr12.out hb12).mono ?_
        rintro e w11 hpost
        refine hpost.split (fun fk fe h1 he hg20 => ?_) (fun x7 a7 h1 he hr13 hg20 hb13 => ?_)
        · subst he
          go_wp2_with fail
          refine ⟨rfl, ?_⟩
          rw [HP.out.trans (bind_fail h1.out _)]
          exact ⟨rfl, grown_trans hg19 hg20⟩
        subst he
        have HP := Lib.hid (HP.out.trans (bind_to h1.out _))
        have hC13 := Lib.hid (blk_grown hC12.out hg20 (by omega))
        have hB13 := Lib.hid (blk_grown hB12.out hg20 (by omega))
        have hg21 := grown_trans hg19 hg20
        clear hpost hC12 hB12 hg19 hg20 hr12 hb12 h1
        by_cases hbad : x4 < 1 ∨ x6 < x4 ∨ 4 < x6 ∨ x6 = 1
        · have HP := Lib.hid (HP.out.trans (if_pos hbad))
          rcases Nat.lt_or_ge x4 1 with q1 | q1
          · have q1' : (x4 : Int) < 1 := by omega
            clear q1 hbad
            go_wp2_with fail
            refine (fail_any _ _ _ _).mono ?_
            rintro e w12 ⟨rfl, rfl⟩
            go_wp2_with fail
            exact ⟨rfl, by rw [HP.out]; exact ⟨rfl, hg21⟩⟩
          have q1' : ¬ (x4 : Int) < 1 := by omega
          rcases Nat.lt_or_ge x6 x4 with q2 | q2
          · have q2' : (x6 : Int) < x4 := by omega
            clear q1 q2 hbad
            go_wp2_with fail
            refine (fail_any _ _ _ _).mono ?_
            rintro e w12 ⟨rfl, rfl⟩
            go_wp2_with fail
            exact ⟨rfl, by rw [HP.out]; exact ⟨rfl, hg21⟩⟩
          have q2' : (x4 : Int) ≤ x6 := by omega
          rcases Nat.lt_or_ge 4 x6 with q3 | q3
          · have q3' : (4 : Int) < x6 := by omega
            clear q1 q2 q3 hbad
            go_wp2_with fail
            refine (fail_any _ _ _ _).mono ?_
            rintro e w12 ⟨rfl, rfl⟩
            go_wp2_with fail
            exact ⟨rfl, by rw [HP.out]; exact ⟨rfl, hg21⟩⟩
          have q3' : (x6 : Int) ≤ 4 := by omega
          have q4 : x6 = 1 := by omega
          have q5 : x4 = 1 := by omega
          subst q4 q5
          clear hbad q1 q2 q3 q1' q2' q3'
          go_wp2_with fail
          refine (fail_any _ _ _ _).mono ?_
          rintro e w12 ⟨rfl, rfl⟩
          go_wp2_with fail
          exact ⟨rfl, by rw [HP.out]; exact ⟨rfl, hg21⟩⟩
        · have HP := Lib.hid (HP.out.trans (if_neg hbad))
          have q1 : (1 : Int) ≤ x4 := by omega
          have q2 : (x4 : Int) ≤ x6 := by omega
          have q3 : (x6 : Int) ≤ 4 := by omega
          have q4 : ((x6 : Int) == 1) = false := by rw [beq_eq_false_iff_ne]; omega
          clear hbad
          obtain ⟨k0, k1, k2, k3, k4, k5, k6, k7, k8, k9⟩ := cells5 hC13.out
          obtain ⟨j0, j1, j2, j3, j4, j5, j6, j7, j8, j9⟩ := cells5 hB13.out
          go_wp2_with fail
          refine ret5 ((hr13.out.set C 3 _ (by omega)).set C 4 _ (by omega)) (grown_setNew (grown_setNew hg21 C 3 _ (by omega)) C 4 _ (by omega)) (blk_other (blk_other hB13.out C 3 _ (by omega)) C 4 _ (by omega)) (by omega) (by omega) fun w9 hB9 hr9 hg9 => ?_
          obtain ⟨m0, m1, m2, m3, m4, -, -, -, -, -⟩ := cells5 hB9
          refine bodyPost_ret (by simp [results, Tryd.results27, go_sem, m0, m1, m2, m3, m4]; try rfl) rfl ?_
          rw [HP.out]
          exact ⟨rfl, hr9, hg9, hb13⟩
end Go.Proofs.YtcfimponmioneaaDoor.WP
