/- The walk of the pattern reader's cond. -/
import Derived.Test.YtcfimponmioneaaDoorWPat2
import Derived.Handy
namespace Go.Proofs.YtcfimponmioneaaDoor.WP
open Go.RowKit Go.Proofs.YtcfimponmioneaaDoor Go.Proofs.YtcfimponmioneaaDoor.PP

/-- A step's two ends, apart; every equation behind a seal. -/
theorem Post.split {α : Type} {R : Nat} {s : ByteArray} {val : α → Value} {w : World} {r : PR α} {e : Ending} {w' : World} (h : Post R s val w r e w') {Q : Prop}
    (hf : ∀ fk fe, Hid (r = .inl (fk, fe)) → e = .panicked (faultV fk fe) → w.grownBy w' (some R) → Q)
    (hv : ∀ v a', Hid (r = .inr (v, a')) → e = .returned (val v) → Hid (Rd w' R s a') → w.grownBy w' (some R) → a' ≤ s.size → Q) : Q := by
  match r, h with
  | .inl (k, er), h => exact hf k er (Lib.hid rfl) h.1 h.2
  | .inr (x, a'), h => exact hv x a' (Lib.hid rfl) h.1 (Lib.hid h.2.1) h.2.2.1 h.2.2.2

theorem Rd.lt {w : World} {R : Nat} {s : ByteArray} {a : Nat} (h : Rd w R s a) : R < w.heap.size := by
  rcases Nat.lt_or_ge R w.heap.size with h' | h'
  · exact h'
  · unfold Rd at h; simp [Array.getElem?_eq_none h'] at h
theorem Rd.alloc {w : World} {R : Nat} {s : ByteArray} {a : Nat} (h : Rd w R s a) (o : Obj) : Rd (w.alloc o) R s a := (Below.heap_alloc w o R h.lt).trans h
theorem Rd.set {w : World} {R : Nat} {s : ByteArray} {a : Nat} (h : Rd w R s a) (g i : Nat) (v : Value) (hg : R ≠ g) : Rd (w.setCell ⟨g, i, none⟩ v) R s a := (Below.heap_setCell w ⟨g, i, none⟩ v R hg).trans h
theorem grown_alloc (w : World) (o : Obj) (row : Option Nat) : w.grownBy (w.alloc o) row :=
  ⟨rfl, rfl, rfl, by show _ ≤ (w.heap.push o).size; simp, fun i hi _ => Below.heap_alloc w o i hi⟩
theorem grown_setNew {w w' : World} {row : Option Nat} (h : w.grownBy w' row) (g i : Nat) (v : Value) (hg : w.heap.size ≤ g) : w.grownBy (w'.setCell ⟨g, i, none⟩ v) row :=
  ⟨h.os, h.tape, h.output, by have := h.size; simpa [World.setCell] using this, fun k hk hr => (Below.heap_setCell w' ⟨g, i, none⟩ v k (by show k ≠ g; omega)).trans (h.block k hk hr)⟩
theorem blk_lt {w : World} {g : Nat} {o : Obj} (h : w.heap[g]? = some o) : g < w.heap.size := by
  rcases Nat.lt_or_ge g w.heap.size with h' | h'
  · exact h'
  · simp [Array.getElem?_eq_none h'] at h
theorem blk_alloc {w : World} {g : Nat} {o : Obj} (h : w.heap[g]? = some o) (o' : Obj) : (w.alloc o').heap[g]? = some o := (Below.heap_alloc w o' g (blk_lt h)).trans h
theorem blk_new (w : World) (o : Obj) : (w.alloc o).heap[w.heap.size]? = some o := heap_alloc_new w o
theorem blk_grown {w w' : World} {g R : Nat} {o : Obj} (h : w.heap[g]? = some o) (hg : w.grownBy w' (some R)) (hne : R ≠ g) : w'.heap[g]? = some o := (hg.block g (blk_lt h) (by simpa using Ne.symm hne)).trans h
theorem blk_other {w : World} {g : Nat} {o : Obj} (h : w.heap[g]? = some o) (g' i : Nat) (v : Value) (hne : g ≠ g') : (w.setCell ⟨g', i, none⟩ v).heap[g]? = some o := (Below.heap_setCell w ⟨g', i, none⟩ v g hne).trans h
theorem blk_set {w : World} {g : Nat} {cs : Array Value} {t : TypeId} (h : w.heap[g]? = some (.cells cs t (0, 0))) (i : Nat) (v : Value) : (w.setCell ⟨g, i, none⟩ v).heap[g]? = some (.cells (cs.setIfInBounds i v) t (0, 0)) := by
  simp [World.setCell, Array.getElem?_modify, h]

theorem cells4 {w : World} {g : Nat} {t : TypeId} {c0 c1 c2 c3 : Value} (h : w.heap[g]? = some (.cells #[c0, c1, c2, c3] t (0, 0))) :
    w.cell? ⟨g, 0, none⟩ = some c0 ∧ w.cell? ⟨g, 1, none⟩ = some c1 ∧ w.cell? ⟨g, 2, none⟩ = some c2 ∧ w.cell? ⟨g, 3, none⟩ = some c3 ∧ w.frozen? ⟨g, 0, none⟩ = false ∧ w.frozen? ⟨g, 1, none⟩ = false ∧ w.frozen? ⟨g, 2, none⟩ = false ∧ w.frozen? ⟨g, 3, none⟩ = false :=
  ⟨by rw [Lib.cell_of_heap h]; rfl, by rw [Lib.cell_of_heap h]; rfl, by rw [Lib.cell_of_heap h]; rfl, by rw [Lib.cell_of_heap h]; rfl, Lib.frozen_of_heap h 0, Lib.frozen_of_heap h 1, Lib.frozen_of_heap h 2, Lib.frozen_of_heap h 3⟩

theorem pDig_bound (l : List UInt8) : ∀ f n a : Nat, (pDig l f n a).1 < 10 ^ f * (n + 1)
  | 0, n, a => by simp [pDig]
  | f + 1, n, a => by
    have h10 : 10 ^ f * (n + 1) ≤ 10 ^ (f + 1) * (n + 1) := Nat.mul_le_mul_right _ (Nat.pow_le_pow_right (by omega) (by omega))
    have hn : n < 10 ^ (f + 1) * (n + 1) := Nat.lt_of_lt_of_le (Nat.lt_succ_self n) (Nat.le_mul_of_pos_left _ (Nat.pow_pos (by omega)))
    rw [pDig]
    split
    · split
      · rename_i b _
        split
        · rename_i hb
          have := pDig_bound l f (10 * n + (b.toNat - 48)) (a + 1)
          refine Nat.lt_of_lt_of_le this ?_
          rw [Nat.pow_succ, Nat.mul_assoc]
          exact Nat.mul_le_mul_left _ (by omega)
        · exact hn
      · exact hn
    · exact hn
theorem pNum_bound {l : List UInt8} {a least k a' : Nat} (_hl : 48 ≤ least) (h : pNum l a least = .inr (k, a')) : k < 1000000000 := by
  unfold pNum pOne at h
  cases hx : l[a]? with
  | none => rw [hx] at h; simp at h
  | some y =>
    rw [hx] at h
    simp only at h
    split at h
    · simp at h
    · rename_i hq
      split at hq
      · simp only [Sum.inr.injEq, Prod.mk.injEq] at hq h
        have := pDig_bound l 8 (y.toNat - 48) (a + 1)
        rw [← hq.1, ← hq.2] at h
        rw [h] at this
        simp only at this
        omega
      · simp at hq

/-- A condition as the program lays it. -/
def cndV (c : Cnd) : Value := .agg #[.int .u8 c.l, .int .i64 c.op, .int .u8 c.r, .int .i64 c.k]

/-- Four stores into a block of the call's own, at its end. -/
theorem ret4 {p : Program} {f : Func} {Q : Ending → World → Prop} {ex : Exit} {act : Act} {w w5 : World} {R B : Nat} {s : ByteArray} {a : Nat} {t : TypeId} {c0 c1 c2 c3 v0 v1 v2 v3 : Value}
    (hr : Rd w5 R s a) (hg : w.grownBy w5 (some R)) (hB : w5.heap[B]? = some (.cells #[c0, c1, c2, c3] t (0, 0))) (hRB : R ≠ B) (hwB : w.heap.size ≤ B)
    (h : ∀ w9 : World, w9.heap[B]? = some (.cells #[v0, v1, v2, v3] t (0, 0)) → Rd w9 R s a → w.grownBy w9 (some R) → bodyPost p f Q ex act w9) :
    bodyPost p f Q ex act ((((w5.setCell ⟨B, 0, none⟩ v0).setCell ⟨B, 1, none⟩ v1).setCell ⟨B, 2, none⟩ v2).setCell ⟨B, 3, none⟩ v3) :=
  h _ (blk_set (blk_set (blk_set (blk_set hB 0 v0) 1 v1) 2 v2) 3 v3) ((((hr.set B 0 _ hRB).set B 1 _ hRB).set B 2 _ hRB).set B 3 _ hRB) (grown_setNew (grown_setNew (grown_setNew (grown_setNew hg B 0 _ hwB) B 1 _ hwB) B 2 _ hwB) B 3 _ hwB)
theorem peek_lt {s : ByteArray} {a c : Nat} (h : c = peekB s.data.toList a) (hc : 0 < c) : a < s.size := by
  by_cases hx : a < s.size
  · exact hx
  · unfold peekB at h
    rw [peek_end hx] at h
    simp at h
    omega
set_option maxRecDepth 100000 in
set_option maxHeartbeats 1600000 in
theorem cond_any (R : Nat) (s : ByteArray) (a n : Nat) (w : World) (h : Rd w R s a) (ha : a ≤ s.size) (hs : s.size ≤ 4096) (hn : n ≤ 16) :
    Calls Tryd.prog 29 #[.pointer (some ⟨R, 0, none⟩), .int .i64 n] w fun e w' => Post R s cndV w (pCond s.data.toList a n) e w' := by
  have Hrd := Lib.hid h
  obtain ⟨c0, c1, c2⟩ := h.cells
  clear h
  have hRlt := Hrd.out.lt
  by_cases h16 : n = 16
  · subst h16
    have c1' : (w.alloc (.cells #[.int .u8 0, .int .i64 0, .int .u8 0, .int .i64 0] 54)).cell? ⟨R, 1, none⟩ = some (.int .i64 a) := (Hrd.out.alloc _).cells.2.1
    go_enter Tryd.func29, Tryd.ntmps29
    have ho : ∀ w' : World, Rd w' R s a → Calls Tryd.prog 38 #[.pointer (some ⟨R, 0, none⟩), .int .u8 97, .int .u8 122] w' fun e w'' => Post R s (fun b : Nat => .int .u8 b) w' (pOne s.data.toList a 97 122) e w'' := fun w' h => one_any R s a 97 122 w' h ha hs
    have Ho := Lib.hid ho
    clear ho
    go_wp2_with fail
    refine (Ho.out _ (Hrd.out.alloc _)).mono ?_
    rintro e w1 hpost
    refine hpost.split (fun fk fe h1 he hg1 => ?_) (fun v a1 h1 he hr1 hg1 hb1 => ?_)
    · subst he
      go_wp2_with fail
      refine ⟨rfl, ?_⟩
      unfold pCond
      rw [if_pos rfl, h1.out]
      exact ⟨rfl, grown_trans (grown_alloc _ _ _) hg1⟩
    · subst he
      go_wp2_with fail
      refine (fail_any _ _ _ _).mono ?_
      rintro e w2 ⟨rfl, rfl⟩
      go_wp2_with fail
      refine ⟨rfl, ?_⟩
      unfold pCond
      rw [if_pos rfl, h1.out]
      exact ⟨rfl, grown_trans (grown_alloc _ _ _) hg1⟩
  · have c1' : (w.alloc (.cells #[.int .u8 0, .int .i64 0, .int .u8 0, .int .i64 0] 54)).cell? ⟨R, 1, none⟩ = some (.int .i64 a) := (Hrd.out.alloc _).cells.2.1
    have h16' : ((n : Int) == 16) = false := by rw [beq_eq_false_iff_ne]; omega
    have ho : ∀ w' : World, Rd w' R s a → Calls Tryd.prog 38 #[.pointer (some ⟨R, 0, none⟩), .int .u8 97, .int .u8 122] w' fun e w'' => Post R s (fun b : Nat => .int .u8 b) w' (pOne s.data.toList a 97 122) e w'' := fun w' h => one_any R s a 97 122 w' h ha hs
    have Ho := Lib.hid ho
    clear ho
    go_enter Tryd.func29, Tryd.ntmps29
    go_wp2_with fail
    refine (Ho.out _ (Hrd.out.alloc _)).mono ?_
    rintro e w1 hpost
    refine hpost.split (fun fk fe h1 he hg1 => ?_) (fun x1 a1 h1 he hr1 hg1 hb1 => ?_)
    · subst he
      go_wp2_with fail
      refine ⟨rfl, ?_⟩
      unfold pCond
      rw [if_neg h16, h1.out]
      exact ⟨rfl, grown_trans (grown_alloc _ _ _) hg1⟩
    subst he
    have hgw : w.grownBy w1 (some R) := grown_trans (grown_alloc _ _ _) hg1
    have hB : w1.heap[w.heap.size]? = some (.cells #[.int .u8 0, .int .i64 0, .int .u8 0, .int .i64 0] 54 (0, 0)) := blk_grown (blk_new w _) hg1 (by omega)
    have HB := Lib.hid hB
    clear hpost hB c0 c1 c2 c1' hg1
    go_wp2_with fail
    refine (op_any R s a1 _ hr1.out hb1 hs).mono ?_
    rintro e w2 hpost
    refine hpost.split (fun fk fe h2 he hg2 => ?_) (fun x2 a2 h2 he hr2 hg2 hb2 => ?_)
    · subst he
      go_wp2_with fail
      refine ⟨rfl, ?_⟩
      unfold pCond
      rw [if_neg h16, h1.out]
      simp only [PR.bind]
      rw [h2.out]
      exact ⟨rfl, grown_trans hgw hg2⟩
    subst he
    clear hpost
    go_wp2_with fail
    have hr3 := Lib.hid (hr2.out.alloc (.cells #[.int .u8 x1, .int .i64 x2, .int .u8 0, .int .i64 0] 54))
    have hC := blk_new w2 (.cells #[.int .u8 x1, .int .i64 x2, .int .u8 0, .int .i64 0] 54)
    have hgw3 : w.grownBy (w2.alloc (.cells #[.int .u8 x1, .int .i64 x2, .int .u8 0, .int .i64 0] 54)) (some R) := grown_trans (grown_trans hgw hg2) (grown_alloc _ _ _)
    have hRC : R < w2.heap.size := hr2.out.lt
    have hBC : w.heap.size < w2.heap.size := by have := hg2.size; have := blk_lt HB.out; omega
    have hwC : w.heap.size ≤ w2.heap.size := by omega
    have hB3 := blk_alloc (blk_grown HB.out hg2 (by omega)) (.cells #[.int .u8 x1, .int .i64 x2, .int .u8 0, .int .i64 0] 54)
    have HC := Lib.hid hC
    have HB3 := Lib.hid hB3
    clear hC hB3
    generalize w2.alloc (.cells #[.int .u8 x1, .int .i64 x2, .int .u8 0, .int .i64 0] 54) = w3 at *
    generalize w2.heap.size = C at *
    generalize hBe : w.heap.size = B at *
    obtain ⟨k0, k1, k2, k3, k4, k5, k6, k7⟩ := cells4 HC.out
    obtain ⟨r0, r1, r2⟩ := hr3.out.cells
    have Hpk := Lib.hid (peek_any R s a2 w3 hr3.out hb2 hs)
    obtain ⟨c, hc⟩ : ∃ c, c = peekB s.data.toList a2 := ⟨_, rfl⟩
    rw [← hc] at Hpk
    have Hc := Lib.hid hc
    clear hc
    have hP : pCond s.data.toList a n = (if c = 45 then (pNum s.data.toList (a2 + 1) 49).bind fun k a3 => .inr (⟨x1, x2, 0, -(k : Int)⟩, a3)
      else if 48 ≤ c ∧ c ≤ 57 then (pNum s.data.toList a2 48).bind fun k a3 => .inr (⟨x1, x2, 0, k⟩, a3)
      else (pOne s.data.toList a2 97 122).bind fun r a3 =>
        if pHas s.data.toList a3 43 then (pNum s.data.toList (a3 + 1) 49).bind fun k a5 => .inr (⟨x1, x2, r, k⟩, a5)
        else if pHas s.data.toList a3 45 then (pNum s.data.toList (a3 + 1) 49).bind fun k a5 => .inr (⟨x1, x2, r, -(k : Int)⟩, a5)
        else .inr (⟨x1, x2, r, 0⟩, a3)) := by
      unfold pCond
      rw [if_neg h16, h1.out]
      simp only [PR.bind]
      rw [h2.out]
      simp only
      rw [← Hc.out]
    have HP := Lib.hid hP
    clear hP h1 h2
    have hn : ∀ (w' : World) (b least : Nat), 48 ≤ least → Rd w' R s b → b ≤ s.size → Calls Tryd.prog 30 #[.pointer (some ⟨R, 0, none⟩), .int .u8 least] w' fun e w'' => Post R s (fun b : Nat => .int .i64 b) w' (pNum s.data.toList b least) e w'' := fun w' b least hl h hb => number_any R s b least w' h hb hs hl
    have Hn := Lib.hid hn
    clear hn
    refine Hpk.out.mono ?_
    rintro e w4 ⟨rfl, n4, rfl⟩
    by_cases hc45 : c = 45
    · subst hc45
      have HP := Lib.hid (HP.out.trans (if_pos rfl))
      have hlt : a2 + 1 ≤ s.size := peek_lt Hc.out (by omega)
      go_wp2_with fail
      refine (Hn.out _ (a2 + 1) 49 (by omega) (hr3.out.moved n4 (a2 + 1)) hlt).mono ?_
      rintro e w5 hpost
      refine hpost.split (fun fk fe h5 he hg5 => ?_) (fun x5 a5 h5 he hr5 hg5 hb5 => ?_)
      · subst he
        go_wp2_with fail
        refine ⟨rfl, ?_⟩
        rw [HP.out, h5.out]
        exact ⟨rfl, grown_trans (grown_trans hgw3 (grown_set _ _ _ _ _)) hg5⟩
      subst he
      have hx5 := pNum_bound (by omega) h5.out
      have hC5 := Lib.hid (blk_grown (blk_other (w := w3.drewN n4) HC.out R 1 (.int .i64 (a2 + 1 : Nat)) (by omega)) hg5 (by omega))
      have hB5 := Lib.hid (blk_grown (blk_other (w := w3.drewN n4) HB3.out R 1 (.int .i64 (a2 + 1 : Nat)) (by omega)) hg5 (by omega))
      have hg6 := grown_trans (grown_trans hgw3 (grown_set _ _ _ _ _)) hg5
      clear hpost k0 k1 k2 k3 k4 k5 k6 k7 r0 r1 r2 hg5
      obtain ⟨k0, k1, k2, k3, k4, k5, k6, k7⟩ := cells4 hC5.out
      obtain ⟨j0, j1, j2, j3, j4, j5, j6, j7⟩ := cells4 hB5.out
      go_wp2_with fail
      refine ret4 (hr5.out.set C 3 _ (by omega)) (grown_setNew hg6 C 3 _ (by omega)) (blk_other hB5.out C 3 _ (by omega)) (by omega) (by omega) fun w9 hB9 hr9 hg9 => ?_
      obtain ⟨m0, m1, m2, m3, -, -, -, -⟩ := cells4 hB9
      refine bodyPost_ret (by simp [results, Tryd.results29, go_sem, m0, m1, m2, m3]; try rfl) rfl ?_
      rw [HP.out, h5.out]
      exact ⟨rfl, hr9, hg9, hb5⟩
    have HP := Lib.hid (HP.out.trans (if_neg hc45))
    have d45 : ((c : Int) == 45) = false := by rw [beq_eq_false_iff_ne]; omega
    by_cases hd : 48 ≤ c ∧ c ≤ 57
    · have HP := Lib.hid (HP.out.trans (if_pos hd))
      obtain ⟨hd1, hd2⟩ := hd
      have hd1' : (48 : Int) ≤ c := by omega
      have hd2' : (c : Int) ≤ 57 := by omega
      clear hc45 hd1 hd2
      go_wp2_with fail
      refine (Hn.out _ a2 48 (by omega) (hr3.out.drewN n4) hb2).mono ?_
      rintro e w5 hpost
      refine hpost.split (fun fk fe h5 he hg5 => ?_) (fun x5 a5 h5 he hr5 hg5 hb5 => ?_)
      · subst he
        go_wp2_with fail
        refine ⟨rfl, ?_⟩
        rw [HP.out, h5.out]
        exact ⟨rfl, grown_trans (grown_trans hgw3 (grown_drewN _ _ _)) hg5⟩
      subst he
      have hx5 := pNum_bound (by omega) h5.out
      have hC5 := Lib.hid (blk_grown (w := w3.drewN n4) HC.out hg5 (by omega))
      have hB5 := Lib.hid (blk_grown (w := w3.drewN n4) HB3.out hg5 (by omega))
      have hg6 := grown_trans (grown_trans hgw3 (grown_drewN _ n4 _)) hg5
      clear hpost k0 k1 k2 k3 k4 k5 k6 k7 r0 r1 r2 hg5 hd1' hd2'
      obtain ⟨k0, k1, k2, k3, k4, k5, k6, k7⟩ := cells4 hC5.out
      obtain ⟨j0, j1, j2, j3, j4, j5, j6, j7⟩ := cells4 hB5.out
      go_wp2_with fail
      refine ret4 (hr5.out.set C 3 _ (by omega)) (grown_setNew hg6 C 3 _ (by omega)) (blk_other hB5.out C 3 _ (by omega)) (by omega) (by omega) fun w9 hB9 hr9 hg9 => ?_
      obtain ⟨m0, m1, m2, m3, -, -, -, -⟩ := cells4 hB9
      refine bodyPost_ret (by simp [results, Tryd.results29, go_sem, m0, m1, m2, m3]; try rfl) rfl ?_
      rw [HP.out, h5.out]
      exact ⟨rfl, hr9, hg9, hb5⟩
    have HP := Lib.hid (HP.out.trans (if_neg hd))
    have hd' : (c : Int) < 48 ∨ (57 : Int) < c := by omega
    have ho : ∀ w' : World, Rd w' R s a2 → Calls Tryd.prog 38 #[.pointer (some ⟨R, 0, none⟩), .int .u8 97, .int .u8 122] w' fun e w'' => Post R s (fun b : Nat => .int .u8 b) w' (pOne s.data.toList a2 97 122) e w'' := fun w' h => one_any R s a2 97 122 w' h hb2 hs
    have Ho := Lib.hid ho
    clear ho hc45 hd
    have hs4 := Lib.hid hs
    rcases hd' with hd' | hd'
    all_goals
      go_wp2_with fail
      refine (Ho.out _ (hr3.out.drewN n4)).mono ?_
      rintro e w5 hpost
      refine hpost.split (fun fk fe h5 he hg5 => ?_) (fun x5 a5 h5 he hr5 hg5 hb5 => ?_)
      · subst he
        go_wp2_with fail
        refine ⟨rfl, ?_⟩
        rw [HP.out, h5.out]
        exact ⟨rfl, grown_trans (grown_trans hgw3 (grown_drewN _ _ _)) hg5⟩
      subst he
      have HP := Lib.hid (HP.out.trans (congrArg (fun x => PR.bind x _) h5.out))
      simp only [PR.bind] at HP
      have hC5 := Lib.hid (blk_grown (w := w3.drewN n4) HC.out hg5 (by omega))
      have hB5 := Lib.hid (blk_grown (w := w3.drewN n4) HB3.out hg5 (by omega))
      have hg6 := grown_trans (grown_trans hgw3 (grown_drewN _ n4 _)) hg5
      clear hpost k0 k1 k2 k3 k4 k5 k6 k7 r0 r1 r2 hg5 hd'
      have hr6 := Lib.hid (hr5.out.set C 2 (.int .u8 x5) (by omega))
      have hC6 := Lib.hid (blk_set hC5.out 2 (.int .u8 x5))
      have hB6 := Lib.hid (blk_other hB5.out C 2 (.int .u8 x5) (by omega))
      have hg7 := grown_setNew hg6 C 2 (.int .u8 x5) (by omega)
      obtain ⟨k0, k1, k2, k3, k4, k5, k6, k7⟩ := cells4 hC5.out
      cases hp43 : pHas s.data.toList a5 43 with
      | true =>
        have HP := Lib.hid (HP.out.trans (if_pos hp43))
        have H43 := Lib.hid hp43
        clear hp43
        go_wp2_with fail
        refine (has_yes R s a5 43 _ hr6.out hb5 hs4.out H43.out).mono ?_
        rintro e w6 ⟨rfl, hr7, hg8, hb6⟩
        have hr7 := Lib.hid hr7
        have hC7 := Lib.hid (blk_grown hC6.out hg8 (by omega))
        have hB7 := Lib.hid (blk_grown hB6.out hg8 (by omega))
        have hg9 := grown_trans hg7 hg8
        clear hg7 hg8 hg6 k0 k1 k2 k3 k4 k5 k6 k7
        go_wp2_with fail
        refine (Hn.out _ (a5 + 1) 49 (by omega) hr7.out hb6).mono ?_
        rintro e w7 hpost
        refine hpost.split (fun fk fe h8 he hg10 => ?_) (fun x8 a8 h8 he hr8 hg10 hb8 => ?_)
        · subst he
          go_wp2_with fail
          refine ⟨rfl, ?_⟩
          rw [HP.out, h8.out]
          exact ⟨rfl, grown_trans hg9 hg10⟩
        subst he
        have hx8 := pNum_bound (by omega) h8.out
        have hC8 := Lib.hid (blk_grown hC7.out hg10 (by omega))
        have hB8 := Lib.hid (blk_grown hB7.out hg10 (by omega))
        have hg11 := grown_trans hg9 hg10
        clear hpost hg9 hg10
        obtain ⟨k0, k1, k2, k3, k4, k5, k6, k7⟩ := cells4 hC8.out
        obtain ⟨j0, j1, j2, j3, j4, j5, j6, j7⟩ := cells4 hB8.out
        go_wp2_with fail
        refine ret4 (hr8.out.set C 3 _ (by omega)) (grown_setNew hg11 C 3 _ (by omega)) (blk_other hB8.out C 3 _ (by omega)) (by omega) (by omega) fun w9 hB9 hr9 hg9 => ?_
        obtain ⟨m0, m1, m2, m3, -, -, -, -⟩ := cells4 hB9
        refine bodyPost_ret (by simp [results, Tryd.results29, go_sem, m0, m1, m2, m3]; try rfl) rfl ?_
        rw [HP.out, h8.out]
        exact ⟨rfl, hr9, hg9, hb8⟩
      | false =>
        have HP := Lib.hid (HP.out.trans (if_neg (by rw [hp43]; simp)))
        have H43 := Lib.hid hp43
        clear hp43
        go_wp2_with fail
        refine (has_no R s a5 43 _ hr6.out hb5 hs4.out H43.out).mono ?_
        rintro e w6 ⟨rfl, hr7, hg8, hb6⟩
        have hr7 := Lib.hid hr7
        have hC7 := Lib.hid (blk_grown hC6.out hg8 (by omega))
        have hB7 := Lib.hid (blk_grown hB6.out hg8 (by omega))
        have hg9 := grown_trans hg7 hg8
        clear hg7 hg8 hg6 k0 k1 k2 k3 k4 k5 k6 k7
        cases hp45 : pHas s.data.toList a5 45 with
        | true =>
          have HP := Lib.hid (HP.out.trans (if_pos hp45))
          have H45 := Lib.hid hp45
          clear hp45
          go_wp2_with fail
          refine (has_yes R s a5 45 _ hr7.out hb5 hs4.out H45.out).mono ?_
          rintro e w7 ⟨rfl, hr8, hg10, hb8⟩
          have hr8 := Lib.hid hr8
          have hC8 := Lib.hid (blk_grown hC7.out hg10 (by omega))
          have hB8 := Lib.hid (blk_grown hB7.out hg10 (by omega))
          have hg11 := grown_trans hg9 hg10
          clear hg9 hg10
          go_wp2_with fail
          refine (Hn.out _ (a5 + 1) 49 (by omega) hr8.out hb8).mono ?_
          rintro e w8 hpost
          refine hpost.split (fun fk fe h9 he hg12 => ?_) (fun x9 a9 h9 he hr9 hg12 hb9 => ?_)
          · subst he
            go_wp2_with fail
            refine ⟨rfl, ?_⟩
            rw [HP.out, h9.out]
            exact ⟨rfl, grown_trans hg11 hg12⟩
          subst he
          have hx8 := pNum_bound (by omega) h9.out
          have hC9 := Lib.hid (blk_grown hC8.out hg12 (by omega))
          have hB9 := Lib.hid (blk_grown hB8.out hg12 (by omega))
          have hg13 := grown_trans hg11 hg12
          clear hpost hg11 hg12
          obtain ⟨k0, k1, k2, k3, k4, k5, k6, k7⟩ := cells4 hC9.out
          obtain ⟨j0, j1, j2, j3, j4, j5, j6, j7⟩ := cells4 hB9.out
          go_wp2_with fail
          refine ret4 (hr9.out.set C 3 _ (by omega)) (grown_setNew hg13 C 3 _ (by omega)) (blk_other hB9.out C 3 _ (by omega)) (by omega) (by omega) fun w9 hB9 hr9 hg9 => ?_
          obtain ⟨m0, m1, m2, m3, -, -, -, -⟩ := cells4 hB9
          refine bodyPost_ret (by simp [results, Tryd.results29, go_sem, m0, m1, m2, m3]; try rfl) rfl ?_
          rw [HP.out, h9.out]
          exact ⟨rfl, hr9, hg9, hb9⟩
        | false =>
          have HP := Lib.hid (HP.out.trans (if_neg (by rw [hp45]; simp)))
          have H45 := Lib.hid hp45
          clear hp45
          go_wp2_with fail
          refine (has_no R s a5 45 _ hr7.out hb5 hs4.out H45.out).mono ?_
          rintro e w7 ⟨rfl, hr8, hg10, hb8⟩
          have hr8 := Lib.hid hr8
          have hC8 := Lib.hid (blk_grown hC7.out hg10 (by omega))
          have hB8 := Lib.hid (blk_grown hB7.out hg10 (by omega))
          have hg11 := grown_trans hg9 hg10
          clear hg9 hg10
          obtain ⟨k0, k1, k2, k3, k4, k5, k6, k7⟩ := cells4 hC8.out
          obtain ⟨j0, j1, j2, j3, j4, j5, j6, j7⟩ := cells4 hB8.out
          go_wp2_with fail
          refine ret4 hr8.out hg11 hB8.out (by omega) (by omega) fun w9 hB9 hr9 hg9 => ?_
          obtain ⟨m0, m1, m2, m3, -, -, -, -⟩ := cells4 hB9
          refine bodyPost_ret (by simp [results, Tryd.results29, go_sem, m0, m1, m2, m3]; try rfl) rfl ?_
          rw [HP.out]
          exact ⟨rfl, hr9, hg9, hb8⟩
end Go.Proofs.YtcfimponmioneaaDoor.WP
