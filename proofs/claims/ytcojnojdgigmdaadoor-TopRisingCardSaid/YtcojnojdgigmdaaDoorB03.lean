/- The walks of plan's find, step, cond, check. -/
import Derived.Test.YtcojnojdgigmdaaDoorChecked
import Derived.Test.YtcojnojdgigmdaaDoorB01
import Derived.WalkKit
import Derived.Outline
import Derived.Lib.Hide
import Derived.WalkSpells
import Derived.WalkLawsBesides
import Derived.BigQuiet
import Derived.Deep.QuietTactic
import Derived.Lib.Builder
import Derived.StillTailTactics
import Derived.Shelf.SlSortCmp.QuietGrown
/- The walk of plan.find (and slices.IndexFunc at its closure): the number of a name's first step. -/
namespace Go.Proofs.YtcojnojdgigmdaaDoor.WL
open Go Go.RowKit Go.Sort Go.Proofs.YtcojnojdgigmdaaDoor Go.Proofs.YtcojnojdgigmdaaDoor.PL Go.Proofs.YtcojnojdgigmdaaDoor.Mem

/-- A step's cells, a condition's cells. -/
def encG (c : GS) : List Value := [.int .u8 c.k, .int .u8 c.nm, .bool c.neg, .int .i64 c.lo, .int .i64 c.hi]
def encD (c : GC) : List Value := [.int .u8 c.l, .int .i64 c.op, .int .u8 c.r, .int .i64 c.k]
theorem encG_len (e : GS) : (encG e).length = 5 := rfl
theorem encD_len (e : GC) : (encD e).length = 4 := rfl
/-- The slices read as these steps, these conditions. -/
def Stps (w : World) (B : Nat) (v : Value) (l : List GS) : Prop := Sl w B 5 v l.length (cellsOf encG l)
def Cnds (w : World) (B : Nat) (v : Value) (l : List GC) : Prop := Sl w B 4 v l.length (cellsOf encD l)
theorem Stps.at_ {w : World} {B : Nat} {v : Value} {l : List GS} (h : Stps w B v l) {i : Nat} (hi : i < l.length) :
    ∃ (b o c : Nat), v = .slice (some ⟨b, o, none⟩) l.length c ∧ b < B ∧ w.cell? ⟨b, o + i * 5, none⟩ = some (.int .u8 l[i].k) ∧ w.cell? ⟨b, o + i * 5 + 1, none⟩ = some (.int .u8 l[i].nm) ∧
      w.cell? ⟨b, o + i * 5 + 2, none⟩ = some (.bool l[i].neg) ∧ w.cell? ⟨b, o + i * 5 + 3, none⟩ = some (.int .i64 l[i].lo) ∧ w.cell? ⟨b, o + i * 5 + 4, none⟩ = some (.int .i64 l[i].hi) := by
  obtain ⟨b, o, c, hv, hb, hx⟩ := Sl.elem h hi
  refine ⟨b, o, c, hv, hb, ?_, ?_, ?_, ?_, ?_⟩
  · exact hx 0 _ (by omega) (by rw [cellsOf_get encG_len l i 0 (by omega) hi]; rfl)
  · exact hx 1 _ (by omega) (by rw [cellsOf_get encG_len l i 1 (by omega) hi]; rfl)
  · exact hx 2 _ (by omega) (by rw [cellsOf_get encG_len l i 2 (by omega) hi]; rfl)
  · exact hx 3 _ (by omega) (by rw [cellsOf_get encG_len l i 3 (by omega) hi]; rfl)
  · exact hx 4 _ (by omega) (by rw [cellsOf_get encG_len l i 4 (by omega) hi]; rfl)
theorem Cnds.at_ {w : World} {B : Nat} {v : Value} {l : List GC} (h : Cnds w B v l) {i : Nat} (hi : i < l.length) :
    ∃ (b o c : Nat), v = .slice (some ⟨b, o, none⟩) l.length c ∧ b < B ∧ w.cell? ⟨b, o + i * 4, none⟩ = some (.int .u8 l[i].l) ∧ w.cell? ⟨b, o + i * 4 + 1, none⟩ = some (.int .i64 l[i].op) ∧
      w.cell? ⟨b, o + i * 4 + 2, none⟩ = some (.int .u8 l[i].r) ∧ w.cell? ⟨b, o + i * 4 + 3, none⟩ = some (.int .i64 l[i].k) := by
  obtain ⟨b, o, c, hv, hb, hx⟩ := Sl.elem h hi
  refine ⟨b, o, c, hv, hb, ?_, ?_, ?_, ?_⟩
  · exact hx 0 _ (by omega) (by rw [cellsOf_get encD_len l i 0 (by omega) hi]; rfl)
  · exact hx 1 _ (by omega) (by rw [cellsOf_get encD_len l i 1 (by omega) hi]; rfl)
  · exact hx 2 _ (by omega) (by rw [cellsOf_get encD_len l i 2 (by omega) hi]; rfl)
  · exact hx 3 _ (by omega) (by rw [cellsOf_get encD_len l i 3 (by omega) hi]; rfl)

/-- Blocks more, draws more. -/
def Grw (w w' : World) : Prop := ∃ q os, w' = grow (w.drewN q) os
theorem Grw.refl (w : World) : Grw w w := ⟨0, #[], by rw [grow_empty]; rfl⟩
theorem Grw.alloc {a w : World} (h : Grw a w) (o : Obj) : Grw a (w.alloc o) := by
  obtain ⟨q, os, rfl⟩ := h
  exact ⟨q, os ++ #[o], by rw [alloc_eq_grow, grow_grow]⟩
theorem Grw.drewN {a w : World} (h : Grw a w) (n : Nat) : Grw a (w.drewN n) := by
  obtain ⟨q, os, rfl⟩ := h
  refine ⟨q + n, os, ?_⟩
  rw [← World.drewN_drewN]; rfl
theorem Grw.trans {a b c : World} (h : Grw a b) (h' : Grw b c) : Grw a c := by
  obtain ⟨q, os, rfl⟩ := h
  obtain ⟨r, os', rfl⟩ := h'
  refine ⟨q + r, os ++ os', ?_⟩
  show grow (grow ((a.drewN q).drewN r) os) os' = _
  rw [grow_grow, World.drewN_drewN]
theorem Grw.below {a w : World} (h : Grw a w) : Below a.heap.size a w := by
  obtain ⟨q, os, rfl⟩ := h
  exact ⟨rfl, rfl, rfl, by rw [size_grow]; exact Nat.le_add_right _ _, fun k hk => heap_grow_old (a.drewN q) os hk⟩
theorem Grw.size {a w : World} (h : Grw a w) : a.heap.size ≤ w.heap.size := h.below.size
theorem Grw.cell {a w : World} (h : Grw a w) {b o : Nat} (hb : b < a.heap.size) {u : Value} (hc : a.cell? ⟨b, o, none⟩ = some u) : w.cell? ⟨b, o, none⟩ = some u :=
  (h.below.cell (p := ⟨b, o, none⟩) hb).trans hc
theorem Grw.grown {P : Program} {f : FuncId} {args : Array Value} {w : World} {n : Nat} {os : Array Obj} {v : Value}
    (h : Calls P f args (grow (w.drewN n) os) fun e w' => e = .returned v ∧ Grw (grow (w.drewN n) os) w') : Calls P f args (grow (w.drewN n) os) fun e w'' => e = .returned v ∧ ∃ p : GrownBy, w'' = grow (w.drewN p.n) p.os :=
  Calls.grown_of h

set_option maxRecDepth 100000 in
theorem clos_any (nm : Int) (b : Nat) (s : GS) (w : World) (hb : b < w.heap.size) (hc : w.cell? ⟨b, 0, none⟩ = some (.int .u8 nm)) :
    Calls Tryd.prog 97 #[.agg #[.int .u8 s.k, .int .u8 s.nm, .bool s.neg, .int .i64 s.lo, .int .i64 s.hi], .pointer (some ⟨b, 0, none⟩)] w fun e w' => e = .returned (.bool (s.nm == nm)) ∧ Grw w w' := by
  have hne : b ≠ w.heap.size := by omega
  go_enter Tryd.func97, Tryd.ntmps97
  go_wp2
  all_goals (go_ret; exact ⟨by simp_all, (Grw.refl w).alloc _⟩)

set_option maxRecDepth 100000 in
set_option maxHeartbeats 1600000 in
theorem index_any (nm : Int) (b : Nat) (sl : Value) (ss : List GS) (w : World) (hb : b < w.heap.size) (hc : w.cell? ⟨b, 0, none⟩ = some (.int .u8 nm)) (hs : Stps w w.heap.size sl ss) (hbig : ss.length ≤ maxLen) :
    Calls Tryd.prog 96 #[sl, .func (.func 97) #[] #[.pointer (some ⟨b, 0, none⟩)]] w fun e w' => e = .returned (.int .i64 (findP ss nm)) ∧ Grw w w' := by
  obtain ⟨a, c, rfl⟩ := Sl.shape hs
  have HS := Lib.hid hs
  have HC := Lib.hid hc
  have hbig' : ss.length ≤ 9223372036854775807 := hbig
  clear hs hc hbig
  go_enter Tryd.func96, Tryd.ntmps96
  go_wp2_with fail
  go_loopw [5, 8] (fun _ u wr => ∃ i : Nat, u = .int .i64 i ∧ i ≤ ss.length ∧ Grw w wr ∧ ∀ j (hj : j < ss.length), j < i → ss[j].nm ≠ nm) (fun _ u _ => ss.length - (intOf u).toNat)
  case atStart => exact ⟨0, rfl, by omega, Grw.refl _, fun j _ hj => absurd hj (by omega)⟩
  case round =>
    obtain ⟨i, rfl, hi, hg, hall⟩ := hrel
    have HG := Lib.hid hg
    have HA := Lib.hid hall
    have hsz := hg.size
    clear hg hall
    by_cases hlt : i < ss.length
    · have hlt' : (i : Int) < (ss.length : Int) := by omega
      have hi0 : (0 : Int) ≤ (i : Int) := by omega
      obtain ⟨g, o, c', e, hgb, d0, d1, d2, d3, d4⟩ := Stps.at_ HS.out hlt
      obtain ⟨rfl, rfl⟩ : a = some ⟨g, o, none⟩ ∧ c = c' := by simpa using e
      have x0 := HG.out.cell hgb d0
      have x1 := HG.out.cell hgb d1
      have x2 := HG.out.cell hgb d2
      have x3 := HG.out.cell hgb d3
      have x4 := HG.out.cell hgb d4
      have hcl := clos_any nm b ss[i] wr (by omega) (HG.out.cell hb HC.out)
      obtain ⟨x, hx⟩ : ∃ x, ss[i] = x := ⟨_, rfl⟩
      rw [hx] at x0 x1 x2 x3 x4 hcl
      have HCL := Lib.hid hcl
      have HX := Lib.hid hx
      clear e d0 d1 d2 d3 d4 hcl hx
      go_wp2_with fail
      refine HCL.out.mono ?_
      rintro e w' ⟨rfl, hg'⟩
      have HG' := Lib.hid (HG.out.trans hg')
      clear hg'
      cases hq : (x.nm == nm) with
      | true =>
        have HQ := Lib.hid hq
        clear hq
        go_wp2_with fail
        go_ret
        refine ⟨?_, HG'.out⟩
        rw [findP_hit hlt (by rw [HX.out]; simpa using HQ.out) (fun j hj => HA.out j (by omega) hj)]
        rfl
      | false =>
        have HQ := Lib.hid hq
        clear hq
        go_wp2_with fail
        go_roundw
        case rel =>
          refine ⟨i + 1, by go_num, by omega, HG'.out, fun j hj hji => ?_⟩
          by_cases e : j = i
          · subst e
            rw [HX.out]; simpa using HQ.out
          · exact HA.out j hj (by omega)
        case measure => simp [intOf]; omega
    · obtain rfl : i = ss.length := by omega
      go_wp2_with fail
      go_ret
      refine ⟨?_, HG.out⟩
      rw [findP_miss (fun j hj => HA.out j hj hj)]
      rfl

set_option maxRecDepth 100000 in
set_option maxHeartbeats 1600000 in
theorem find_any (sl cl : Value) (wi nm : Int) (ss : List GS) (w : World) (hs : Stps w w.heap.size sl ss) (hbig : ss.length ≤ maxLen) :
    Calls Tryd.prog 76 #[.agg #[sl, cl, .int .i64 wi], .int .u8 nm] w fun e w' => e = .returned (.int .i64 (findP ss nm)) ∧ Grw w w' := by
  obtain ⟨w2, hw2⟩ : ∃ w2, w2 = (w.alloc (.cells #[sl, cl, .int .i64 wi] 106)).alloc (.cells #[.int .u8 nm] 5) := ⟨_, rfl⟩
  have hz2 : w2.heap.size = w.heap.size + 2 := by rw [hw2]; simp
  have G2 : Grw w w2 := by rw [hw2]; exact ((Grw.refl w).alloc _).alloc _
  have hi := index_any nm (w.heap.size + 1) sl ss w2 (by omega) (by rw [hw2]; exact (Lib.cell_of_heap (heap_new (by simp)) 0).trans rfl) ((Sl.below hs G2.below).more (by omega)) hbig
  have HI := Lib.hid hi
  have HG := Lib.hid G2
  have HW := Lib.hid hw2
  obtain ⟨a, c, rfl⟩ := Sl.shape hs
  clear hi G2 hw2 hs
  go_enter Tryd.func76, Tryd.ntmps76
  go_wp2_with fail
  rw [← HW.out]
  refine HI.out.mono ?_
  rintro e w' ⟨rfl, hg'⟩
  have HG' := Lib.hid (HG.out.trans hg')
  clear hg'
  go_wp2_with fail
  go_ret
  exact ⟨rfl, HG'.out⟩
end Go.Proofs.YtcojnojdgigmdaaDoor.WL
/- The walk of plan.letter and plan.step: what is wrong with a step. -/
namespace Go.Proofs.YtcojnojdgigmdaaDoor.WL
open Go Go.RowKit Go.Sort Go.Proofs.YtcojnojdgigmdaaDoor Go.Proofs.YtcojnojdgigmdaaDoor.PL Go.Proofs.YtcojnojdgigmdaaDoor.Mem

set_option maxRecDepth 100000 in
theorem letter_any (b f t : Int) (w : World) :
    Calls Tryd.prog 108 #[.int .u8 b, .int .u8 f, .int .u8 t] w fun e w' => e = .returned (.bool (decide (f ≤ b) && decide (b ≤ t))) ∧ w' = w := by
  go_enter Tryd.func108, Tryd.ntmps108
  by_cases h1 : f ≤ b
  · by_cases h2 : b ≤ t
    · have e1 : decide (f ≤ b) = true := by simp [h1]
      have e2 : decide (b ≤ t) = true := by simp [h2]
      rw [e1, e2]
      go_wp2_with fail
      all_goals (go_ret; exact ⟨rfl, rfl⟩)
    · have e1 : decide (f ≤ b) = true := by simp [h1]
      have e2 : decide (b ≤ t) = false := by simp [h2]
      rw [e1, e2]
      go_wp2_with fail
      all_goals (go_ret; exact ⟨rfl, rfl⟩)
  · have e1 : decide (f ≤ b) = false := by simp [h1]
    rw [e1]
    go_wp2_with fail
    all_goals (go_ret; exact ⟨rfl, rfl⟩)

theorem stepE_of (ss : List GS) (i : Nat) (s : GS) (hi : i < ss.length) (h : ss[i] = s) : stepE ss i =
    if ¬ (65 ≤ s.k ∧ s.k ≤ 90) ∨ ¬ (97 ≤ s.nm ∧ s.nm ≤ 122) then 20
    else if findP ss s.nm < i then 21
    else if s.neg = true ∧ (i = 0 ∨ i + 1 = ss.length) then 23
    else if (s.neg = true ∧ (s.lo ≠ 1 ∨ s.hi ≠ 1)) ∨ s.lo < 1 ∨ s.hi < s.lo ∨ 4 < s.hi then 22
    else 0 := by
  subst h
  unfold stepE
  rw [getElem!_pos ss i hi]

set_option maxRecDepth 100000 in
set_option maxHeartbeats 3200000 in
theorem step_any (sl cl : Value) (wi : Int) (ss : List GS) (i : Nat) (w : World) (hs : Stps w w.heap.size sl ss) (hbig : ss.length ≤ maxLen) (hi : i < ss.length) :
    Calls Tryd.prog 94 #[.agg #[sl, cl, .int .i64 wi], .int .i64 i] w fun e w' => e = .returned (.int .i64 (stepE ss i)) ∧ Grw w w' := by
  have hbig' : ss.length ≤ 9223372036854775807 := hbig
  obtain ⟨g, o, c, rfl, hgb, d0, d1, d2, d3, d4⟩ := Stps.at_ hs hi
  obtain ⟨x, hx⟩ : ∃ x, ss[i] = x := ⟨_, rfl⟩
  have hr := stepE_of ss i x hi hx
  generalize stepE ss i = r at *
  rw [hx] at d0 d1 d2 d3 d4
  obtain ⟨w1, hw1⟩ : ∃ w1, w1 = w.alloc (.cells #[.slice (some ⟨g, o, none⟩) ss.length c, cl, .int .i64 wi] 106) := ⟨_, rfl⟩
  obtain ⟨w2, hw2⟩ : ∃ w2, w2 = w1.alloc (.cells #[.int .u8 x.k, .int .u8 x.nm, .bool x.neg, .int .i64 x.lo, .int .i64 x.hi] 171) := ⟨_, rfl⟩
  have hz1 : w1.heap.size = w.heap.size + 1 := by rw [hw1]; simp
  have hz2 : w2.heap.size = w.heap.size + 2 := by rw [hw2]; simp; omega
  have G1 : Grw w w1 := by rw [hw1]; exact (Grw.refl w).alloc _
  have G2 : Grw w w2 := by rw [hw2]; exact G1.alloc _
  have hf := fun (w' : World) (g' : Grw w w') => find_any (.slice (some ⟨g, o, none⟩) ss.length c) cl wi x.nm ss w' ((Sl.below hs g'.below).more g'.size) hbig
  have HF := Lib.hid hf
  have HW1 := Lib.hid hw1
  have HW2 := Lib.hid hw2
  have HG2 := Lib.hid G2
  have HR := Lib.hid hr
  have hne : g ≠ w.heap.size := by omega
  have P1 := Lib.hid (show w2.heap[w.heap.size]? = some (.cells #[.slice (some ⟨g, o, none⟩) ss.length c, cl, .int .i64 wi] 106 (0, 0)) by rw [hw2]; exact heap_alloc (by rw [hw1]; exact heap_new rfl))
  have P2 := Lib.hid (show w2.heap[w.heap.size + 1]? = some (.cells #[.int .u8 x.k, .int .u8 x.nm, .bool x.neg, .int .i64 x.lo, .int .i64 x.hi] 171 (0, 0)) by rw [hw2]; exact heap_new (by omega))
  clear hf hw1 hw2 G1 G2 hx hr hs hbig
  go_enter Tryd.func94, Tryd.ntmps94
  go_wp2_with fail
  rw [← HW1.out, ← HW2.out]
  have y0 : w2.cell? ⟨w.heap.size, 0, none⟩ = some (.slice (some ⟨g, o, none⟩) ss.length c) := (Lib.cell_of_heap P1.out 0).trans rfl
  have y1 : w2.cell? ⟨w.heap.size, 1, none⟩ = some cl := (Lib.cell_of_heap P1.out 1).trans rfl
  have y2 : w2.cell? ⟨w.heap.size, 2, none⟩ = some (.int .i64 wi) := (Lib.cell_of_heap P1.out 2).trans rfl
  have x1 : w2.cell? ⟨w.heap.size + 1, 1, none⟩ = some (.int .u8 x.nm) := (Lib.cell_of_heap P2.out 1).trans rfl
  by_cases A : 65 ≤ x.k ∧ x.k ≤ 90
  case neg =>
    refine (letter_any x.k 65 90 w2).mono ?_
    rintro e w' ⟨rfl, rfl⟩
    have e1 : (decide (65 ≤ x.k) && decide (x.k ≤ 90)) = false := by simp; omega
    rw [e1]
    go_wp2_with fail
    go_ret
    exact ⟨by rw [HR.out, if_pos (.inl A)]; rfl, HG2.out⟩
  refine (letter_any x.k 65 90 w2).mono ?_
  rintro e w' ⟨rfl, rfl⟩
  have e1 : (decide (65 ≤ x.k) && decide (x.k ≤ 90)) = true := by simp; omega
  rw [e1]
  clear e1
  go_wp2_with fail
  by_cases B : 97 ≤ x.nm ∧ x.nm ≤ 122
  case neg =>
    refine (letter_any x.nm 97 122 w').mono ?_
    rintro e w' ⟨rfl, rfl⟩
    have e1 : (decide (97 ≤ x.nm) && decide (x.nm ≤ 122)) = false := by simp; omega
    rw [e1]
    go_wp2_with fail
    go_ret
    exact ⟨by rw [HR.out, if_pos (.inr B)]; rfl, HG2.out⟩
  refine (letter_any x.nm 97 122 w').mono ?_
  rintro e w' ⟨rfl, rfl⟩
  have e1 : (decide (97 ≤ x.nm) && decide (x.nm ≤ 122)) = true := by simp; omega
  rw [e1]
  have HR2 := Lib.hid (HR.out.trans (if_neg (by simp; omega)))
  clear e1 A B HR
  go_wp2_with fail
  refine (HF.out w' HG2.out).mono ?_
  rintro e w3 ⟨rfl, g3⟩
  have HG3 := Lib.hid (HG2.out.trans g3)
  have y3 : w3.cell? ⟨w.heap.size, 0, none⟩ = some (.slice (some ⟨g, o, none⟩) ss.length c) := g3.cell (by omega) y0
  have z2 : w3.cell? ⟨w.heap.size + 1, 2, none⟩ = some (.bool x.neg) := g3.cell (by omega) ((Lib.cell_of_heap P2.out 2).trans rfl)
  have z3 : w3.cell? ⟨w.heap.size + 1, 3, none⟩ = some (.int .i64 x.lo) := g3.cell (by omega) ((Lib.cell_of_heap P2.out 3).trans rfl)
  have z4 : w3.cell? ⟨w.heap.size + 1, 4, none⟩ = some (.int .i64 x.hi) := g3.cell (by omega) ((Lib.cell_of_heap P2.out 4).trans rfl)
  clear y0 y1 y2 x1 d0 d1 d2 d3 d4 g3
  by_cases C : findP ss x.nm < (i : Int)
  · have HR3 := Lib.hid (HR2.out.trans (if_pos C))
    generalize findP ss x.nm = fp at *
    clear HR2
    go_wp2_with fail
    go_ret
    exact ⟨by rw [HR3.out]; rfl, HG3.out⟩
  have h3 := HR2.out.trans (if_neg C)
  generalize findP ss x.nm = fp at *
  clear HR2
  cases hn : x.neg with
  | false =>
    rw [hn] at h3 z2
    simp only [Bool.false_eq_true, false_and, if_false, false_or] at h3
    have HR3 := Lib.hid h3
    clear h3 hn
    go_wp2_with fail
    all_goals
      go_ret
      refine ⟨?_, HG3.out⟩
      have h := HR3.out
      clear HR3 HF P1 P2 z2 z3 z4 y3 HG3 HG2 HW1 HW2 C
      refine congrArg (fun z => Ending.returned (Value.int .i64 z)) (?_ : _ = r)
      rw [h]
      clear h
      split
      · first | rfl | (exfalso; omega)
      · first | rfl | (exfalso; omega)
  | true =>
    rw [hn] at h3 z2
    simp only [true_and] at h3
    have HR3 := Lib.hid h3
    clear h3 hn
    go_wp2_with fail
    all_goals
      go_ret
      refine ⟨?_, HG3.out⟩
      have h := HR3.out
      clear HR3 HF P1 P2 z2 z3 z4 y3 HG3 HG2 HW1 HW2 C
      refine congrArg (fun z => Ending.returned (Value.int .i64 z)) (?_ : _ = r)
      rw [h]
      clear h
      simp only [beq_eq_false_iff_ne, beq_iff_eq, ne_eq] at *
      split
      · first | rfl | (exfalso; omega)
      · split
        · first | rfl | (exfalso; omega)
        · first | rfl | (exfalso; omega)
end Go.Proofs.YtcojnojdgigmdaaDoor.WL
/- The walk of plan.cond: what is wrong with a condition. -/
namespace Go.Proofs.YtcojnojdgigmdaaDoor.WL
open Go Go.RowKit Go.Sort Go.Proofs.YtcojnojdgigmdaaDoor Go.Proofs.YtcojnojdgigmdaaDoor.PL Go.Proofs.YtcojnojdgigmdaaDoor.Mem

set_option maxRecDepth 100000 in
set_option maxHeartbeats 3200000 in
theorem cond_any (sl cl : Value) (wi : Int) (ss : List GS) (d : GC) (w : World) (hs : Stps w w.heap.size sl ss) (hbig : ss.length ≤ maxLen) :
    Calls Tryd.prog 95 #[.agg #[sl, cl, .int .i64 wi], .agg #[.int .u8 d.l, .int .i64 d.op, .int .u8 d.r, .int .i64 d.k]] w fun e w' => e = .returned (.int .i64 (condE ss d)) ∧ Grw w w' := by
  have hbig' : ss.length ≤ 9223372036854775807 := hbig
  obtain ⟨a, c, rfl⟩ := Sl.shape hs
  obtain ⟨w1, hw1⟩ : ∃ w1, w1 = w.alloc (.cells #[.slice a ss.length c, cl, .int .i64 wi] 106) := ⟨_, rfl⟩
  obtain ⟨w2, hw2⟩ : ∃ w2, w2 = w1.alloc (.cells #[.int .u8 d.l, .int .i64 d.op, .int .u8 d.r, .int .i64 d.k] 179) := ⟨_, rfl⟩
  have hz1 : w1.heap.size = w.heap.size + 1 := by rw [hw1]; simp
  have hz2 : w2.heap.size = w.heap.size + 2 := by rw [hw2]; simp; omega
  have G1 : Grw w w1 := by rw [hw1]; exact (Grw.refl w).alloc _
  have G2 : Grw w w2 := by rw [hw2]; exact G1.alloc _
  have hf := fun (nm : Int) (w' : World) (g' : Grw w w') => find_any (.slice a ss.length c) cl wi nm ss w' ((Sl.below hs g'.below).more g'.size) hbig
  have HF := Lib.hid hf
  have HS := Lib.hid hs
  have HW1 := Lib.hid hw1
  have HW2 := Lib.hid hw2
  have HG2 := Lib.hid G2
  have hr : condE ss d = if d.op < 0 ∨ 5 < d.op then 20 else if d.k < -9007199254740992 ∨ 9007199254740992 < d.k then 2 else if findP ss d.l < 0 ∨ (d.r ≠ 0 ∧ findP ss d.r < 0) then 21 else if d.r = 0 then 0 else if (ss[(min (findP ss d.l) (findP ss d.r)).toNat]!).neg = true then 23 else 0 := rfl
  generalize condE ss d = r at *
  have HR := Lib.hid hr
  have P1 := Lib.hid (show w2.heap[w.heap.size]? = some (.cells #[.slice a ss.length c, cl, .int .i64 wi] 106 (0, 0)) by rw [hw2]; exact heap_alloc (by rw [hw1]; exact heap_new rfl))
  have P2 := Lib.hid (show w2.heap[w.heap.size + 1]? = some (.cells #[.int .u8 d.l, .int .i64 d.op, .int .u8 d.r, .int .i64 d.k] 179 (0, 0)) by rw [hw2]; exact heap_new (by omega))
  clear hf hs hw1 hw2 G1 G2 hr hbig
  go_enter Tryd.func95, Tryd.ntmps95
  go_wp2_with fail
  rw [← HW1.out, ← HW2.out]
  have y0 : ∀ n os, (grow (w2.drewN n) os).cell? ⟨w.heap.size, 0, none⟩ = some (.slice a ss.length c) := cell_grown (by show w.heap.size < _; omega) ((Lib.cell_of_heap P1.out 0).trans rfl)
  have y1 : ∀ n os, (grow (w2.drewN n) os).cell? ⟨w.heap.size, 1, none⟩ = some cl := cell_grown (by show w.heap.size < _; omega) ((Lib.cell_of_heap P1.out 1).trans rfl)
  have y2 : ∀ n os, (grow (w2.drewN n) os).cell? ⟨w.heap.size, 2, none⟩ = some (.int .i64 wi) := cell_grown (by show w.heap.size < _; omega) ((Lib.cell_of_heap P1.out 2).trans rfl)
  have z0 : ∀ n os, (grow (w2.drewN n) os).cell? ⟨w.heap.size + 1, 0, none⟩ = some (.int .u8 d.l) := cell_grown (by show w.heap.size + 1 < _; omega) ((Lib.cell_of_heap P2.out 0).trans rfl)
  have z2 : ∀ n os, (grow (w2.drewN n) os).cell? ⟨w.heap.size + 1, 2, none⟩ = some (.int .u8 d.r) := cell_grown (by show w.heap.size + 1 < _; omega) ((Lib.cell_of_heap P2.out 2).trans rfl)
  have hq : ∀ nm n os, Calls Tryd.prog 76 #[.agg #[.slice a ss.length c, cl, .int .i64 wi], .int .u8 nm] (grow (w2.drewN n) os) fun e w' => e = .returned (.int .i64 (findP ss nm)) ∧ Grw (grow (w2.drewN n) os) w' := fun nm n os => HF.out nm _ (HG2.out.trans ⟨n, os, rfl⟩)
  have HQ := Lib.hid hq
  clear hq HF
  have mixed : Tryd.prog.follows .mixedOrders = true := by kernel_rfl
  go_quiet_grown (first | (go_at_call 76; exact Grw.grown (HQ.out _ _ _)) | exact Grw.grown (HQ.out _ _ _))
  have g3 : Grw w2 (grow (w2.drewN nq) osq) := ⟨nq, osq, rfl⟩
  have y3 := y0 nq osq
  have z3 := z0 nq osq
  have z5 := z2 nq osq
  have z4 : (grow (w2.drewN nq) osq).cell? ⟨w.heap.size + 1, 1, none⟩ = some (.int .i64 d.op) := g3.cell (by omega) ((Lib.cell_of_heap P2.out 1).trans rfl)
  have z6 : (grow (w2.drewN nq) osq).cell? ⟨w.heap.size + 1, 3, none⟩ = some (.int .i64 d.k) := g3.cell (by omega) ((Lib.cell_of_heap P2.out 3).trans rfl)
  have HG3 := Lib.hid (HG2.out.trans g3)
  clear y0 y1 y2 z0 z2 g3 HQ mixed
  change Exit.then _ _ Exit.normal _ (grow (w2.drewN nq) osq)
  generalize grow (w2.drewN nq) osq = w3 at *
  have hno : findP ss d.l = findP ss d.l := rfl
  rcases findP_cases ss d.l with hl | ⟨i, hl, hi, _⟩
  · have h := HR.out
    rw [hl] at h ⊢
    have HR2 := Lib.hid h
    generalize findP ss d.r = fr at *
    clear HR h hl hno
    go_wp2_with fail
    all_goals
      go_ret
      refine ⟨?_, HG3.out⟩
      have h := HR2.out
      clear HR2 P1 P2 z3 z4 z5 z6 y3 HG3 HG2 HW1 HW2
      refine congrArg (fun z => Ending.returned (Value.int .i64 z)) (?_ : _ = r)
      rw [h]
      clear h
      repeat' split
      all_goals first | rfl | (exfalso; omega)
  · obtain ⟨g, o, c', e, hgb, _, _, d2, _, _⟩ := Stps.at_ HS.out hi
    obtain ⟨rfl, rfl⟩ : a = some ⟨g, o, none⟩ ∧ c = c' := by simpa using e
    have d3 := HG3.out.cell hgb d2
    clear d2
    by_cases hd : d.r = 0
    · have h := HR.out
      rw [hl] at h ⊢
      have HR2 := Lib.hid h
      generalize findP ss d.r = fr at *
      clear HR h hl hno
      rw [hd] at z5
      go_wp2_with fail
      all_goals
        go_ret
        refine ⟨?_, HG3.out⟩
        have h := HR2.out
        clear HR2 P1 P2 z3 z4 z5 z6 y3 HG3 HG2 HW1 HW2
        refine congrArg (fun z => Ending.returned (Value.int .i64 z)) (?_ : _ = r)
        rw [h]
        clear h
        repeat' split
        all_goals first | rfl | (exfalso; omega)
    have hb1 : (d.r != 0) = true := by simp [hd]
    have hb2 : (d.r == 0) = false := by simp [hd]
    rcases findP_cases ss d.r with hl2 | ⟨j, hl2, hj, _⟩
    · have h := HR.out
      rw [hl2] at h ⊢
      rw [hl] at h ⊢
      have HR2 := Lib.hid h
      clear HR h hl hl2 hno
      go_wp2_with fail
      all_goals
        go_ret
        refine ⟨?_, HG3.out⟩
        have h := HR2.out
        clear HR2 P1 P2 z3 z4 z5 z6 y3 HG3 HG2 HW1 HW2
        refine congrArg (fun z => Ending.returned (Value.int .i64 z)) (?_ : _ = r)
        rw [h]
        clear h
        repeat' split
        all_goals first | rfl | (exfalso; omega)
    · obtain ⟨g', o', c', e', _, _, _, d2, _, _⟩ := Stps.at_ HS.out hj
      obtain ⟨⟨rfl, rfl⟩, rfl⟩ : (g' = g ∧ o' = o) ∧ c' = c := by simpa [eq_comm] using e'
      have d4 := HG3.out.cell hgb d2
      clear d2
      have h := HR.out
      rw [hl, hl2] at h ⊢
      rcases Nat.lt_trichotomy i j with hij | hij | hij
      · have hm : min (i : Int) (j : Int) = i := by omega
        have hM : max (i : Int) (j : Int) = j := by omega
        rw [hm, Int.toNat_natCast, getElem!_pos ss i hi] at h
        cases hn : ss[i].neg with
        | false =>
          rw [hn] at h d3
          have HR2 := Lib.hid h
          clear HR h hl hl2 hno hn
          go_wp2_with fail
          all_goals
            go_ret
            refine ⟨?_, HG3.out⟩
            have h := HR2.out
            clear HR2 P1 P2 z3 z4 z5 z6 y3 HG3 HG2 HW1 HW2
            refine congrArg (fun z => Ending.returned (Value.int .i64 z)) (?_ : _ = r)
            rw [h]
            clear h
            repeat' split
            all_goals first | rfl | (exfalso; omega) | (exfalso; simp_all; done)
        | true =>
          rw [hn] at h d3
          have HR2 := Lib.hid h
          clear HR h hl hl2 hno hn
          go_wp2_with fail
          all_goals
            go_ret
            refine ⟨?_, HG3.out⟩
            have h := HR2.out
            clear HR2 P1 P2 z3 z4 z5 z6 y3 HG3 HG2 HW1 HW2
            refine congrArg (fun z => Ending.returned (Value.int .i64 z)) (?_ : _ = r)
            rw [h]
            clear h
            repeat' split
            all_goals first | rfl | (exfalso; omega) | (exfalso; simp_all; done)
      · subst hij
        have hm : min (i : Int) (i : Int) = i := by omega
        have hM : max (i : Int) (i : Int) = i := by omega
        rw [hm, Int.toNat_natCast, getElem!_pos ss i hi] at h
        clear d4
        cases hn : ss[i].neg with
        | false =>
          rw [hn] at h d3
          have HR2 := Lib.hid h
          clear HR h hl hl2 hno hn
          go_wp2_with fail
          all_goals
            go_ret
            refine ⟨?_, HG3.out⟩
            have h := HR2.out
            clear HR2 P1 P2 z3 z4 z5 z6 y3 HG3 HG2 HW1 HW2
            refine congrArg (fun z => Ending.returned (Value.int .i64 z)) (?_ : _ = r)
            rw [h]
            clear h
            repeat' split
            all_goals first | rfl | (exfalso; omega) | (exfalso; simp_all; done)
        | true =>
          rw [hn] at h d3
          have HR2 := Lib.hid h
          clear HR h hl hl2 hno hn
          go_wp2_with fail
          all_goals
            go_ret
            refine ⟨?_, HG3.out⟩
            have h := HR2.out
            clear HR2 P1 P2 z3 z4 z5 z6 y3 HG3 HG2 HW1 HW2
            refine congrArg (fun z => Ending.returned (Value.int .i64 z)) (?_ : _ = r)
            rw [h]
            clear h
            repeat' split
            all_goals first | rfl | (exfalso; omega) | (exfalso; simp_all; done)
      · have hm : min (i : Int) (j : Int) = j := by omega
        have hM : max (i : Int) (j : Int) = i := by omega
        rw [hm, Int.toNat_natCast, getElem!_pos ss j hj] at h
        cases hn : ss[j].neg with
        | false =>
          rw [hn] at h d4
          have HR2 := Lib.hid h
          clear HR h hl hl2 hno hn
          go_wp2_with fail
          all_goals
            go_ret
            refine ⟨?_, HG3.out⟩
            have h := HR2.out
            clear HR2 P1 P2 z3 z4 z5 z6 y3 HG3 HG2 HW1 HW2
            refine congrArg (fun z => Ending.returned (Value.int .i64 z)) (?_ : _ = r)
            rw [h]
            clear h
            repeat' split
            all_goals first | rfl | (exfalso; omega) | (exfalso; simp_all; done)
        | true =>
          rw [hn] at h d4
          have HR2 := Lib.hid h
          clear HR h hl hl2 hno hn
          go_wp2_with fail
          all_goals
            go_ret
            refine ⟨?_, HG3.out⟩
            have h := HR2.out
            clear HR2 P1 P2 z3 z4 z5 z6 y3 HG3 HG2 HW1 HW2
            refine congrArg (fun z => Ending.returned (Value.int .i64 z)) (?_ : _ = r)
            rw [h]
            clear h
            repeat' split
            all_goals first | rfl | (exfalso; omega) | (exfalso; simp_all; done)
end Go.Proofs.YtcojnojdgigmdaaDoor.WL
/- The walk of plan.check: what is wrong with a pattern, and where. -/
namespace Go.Proofs.YtcojnojdgigmdaaDoor.WL
open Go Go.RowKit Go.Sort Go.Proofs.YtcojnojdgigmdaaDoor Go.Proofs.YtcojnojdgigmdaaDoor.PL Go.Proofs.YtcojnojdgigmdaaDoor.Mem

theorem stepE_ok {ss : List GS} {i : Nat} (h : stepE ss i = 0) : 65 ≤ (ss[i]!).k ∧ (ss[i]!).k ≤ 90 ∧ 97 ≤ (ss[i]!).nm ∧ (ss[i]!).nm ≤ 122 ∧ (i : Int) ≤ findP ss (ss[i]!).nm ∧ ((ss[i]!).neg = true → i ≠ 0 ∧ i + 1 ≠ ss.length ∧ (ss[i]!).lo = 1 ∧ (ss[i]!).hi = 1) ∧ 1 ≤ (ss[i]!).lo ∧ (ss[i]!).lo ≤ (ss[i]!).hi ∧ (ss[i]!).hi ≤ 4 := by
  unfold stepE at h
  simp only at h
  split at h
  · omega
  · split at h
    · omega
    · split at h
      · omega
      · split at h
        · omega
        · rename_i h1 h2 h3 h4
          cases hn : (ss[i]!).neg with
          | false =>
            simp only [hn, Bool.false_eq_true, false_and, false_or] at h4
            refine ⟨by omega, by omega, by omega, by omega, by omega, fun h => absurd h (by simp), by omega, by omega, by omega⟩
          | true =>
            simp only [hn, true_and] at h3 h4
            refine ⟨by omega, by omega, by omega, by omega, by omega, fun _ => ⟨by omega, by omega, by omega, by omega⟩, by omega, by omega, by omega⟩
theorem bindsTo_le {ss : List GS} {n : Nat} (h : ∀ j, j < n → stepE ss j = 0) : 0 ≤ bindsTo ss n ∧ bindsTo ss n ≤ 4 * n := by
  induction n with
  | zero => simp [bindsTo]
  | succ n ih =>
    obtain ⟨h1, h2⟩ := ih fun j hj => h j (by omega)
    obtain ⟨_, _, _, _, _, _, h3, h4, h5⟩ := stepE_ok (h n (by omega))
    unfold bindsTo
    split <;> omega
section
variable {ss : List GS} {cs : List GC} {wi : Int}
theorem checkP_many (h : ss.length < 1 ∨ 8 < ss.length ∨ 16 < cs.length) : checkP ss cs wi = (0, 24) := by unfold checkP; rw [if_pos h]
theorem checkP_arg (h : ¬ (ss.length < 1 ∨ 8 < ss.length ∨ 16 < cs.length)) (h2 : wi < 0 ∨ 9007199254740992 < wi) : checkP ss cs wi = (0, 2) := by unfold checkP; rw [if_neg h, if_pos h2]
theorem checkP_step (h : ¬ (ss.length < 1 ∨ 8 < ss.length ∨ 16 < cs.length)) (h2 : ¬ (wi < 0 ∨ 9007199254740992 < wi)) {i : Nat} (hi : i < ss.length) (he : stepE ss i ≠ 0) (hall : ∀ j, j < i → stepE ss j = 0) : checkP ss cs wi = ((i : Int), stepE ss i) := by
  unfold checkP; rw [if_neg h, if_neg h2, firstBad_some hi he hall]
theorem checkP_binds (h : ¬ (ss.length < 1 ∨ 8 < ss.length ∨ 16 < cs.length)) (h2 : ¬ (wi < 0 ∨ 9007199254740992 < wi)) (hall : ∀ j, j < ss.length → stepE ss j = 0) (h3 : 16 < bindsTo ss ss.length) : checkP ss cs wi = (0, 24) := by
  unfold checkP; rw [if_neg h, if_neg h2, firstBad_none hall]; simp only; rw [if_pos h3]
theorem checkP_cond (h : ¬ (ss.length < 1 ∨ 8 < ss.length ∨ 16 < cs.length)) (h2 : ¬ (wi < 0 ∨ 9007199254740992 < wi)) (hall : ∀ j, j < ss.length → stepE ss j = 0) (h3 : ¬ 16 < bindsTo ss ss.length)
    {i : Nat} (hi : i < cs.length) (he : condE ss cs[i]! ≠ 0) (hc : ∀ j, j < i → condE ss cs[j]! = 0) : checkP ss cs wi = ((ss.length : Int) + i, condE ss cs[i]!) := by
  unfold checkP; rw [if_neg h, if_neg h2, firstBad_none hall]; simp only; rw [if_neg h3, firstBad_some (f := fun i => condE ss cs[i]!) hi he hc]
theorem checkP_ok (h : ¬ (ss.length < 1 ∨ 8 < ss.length ∨ 16 < cs.length)) (h2 : ¬ (wi < 0 ∨ 9007199254740992 < wi)) (hall : ∀ j, j < ss.length → stepE ss j = 0) (h3 : ¬ 16 < bindsTo ss ss.length)
    (hc : ∀ j, j < cs.length → condE ss cs[j]! = 0) : checkP ss cs wi = (0, 0) := by
  unfold checkP; rw [if_neg h, if_neg h2, firstBad_none hall]; simp only; rw [if_neg h3, firstBad_none (f := fun i => condE ss cs[i]!) hc]
end

set_option maxRecDepth 100000 in
set_option maxHeartbeats 3200000 in
theorem check_any (sl cl : Value) (wi : Int) (ss : List GS) (cs : List GC) (w : World) (hs : Stps w w.heap.size sl ss) (hc : Cnds w w.heap.size cl cs) (hbig : ss.length ≤ maxLen) (hbig2 : cs.length ≤ maxLen) :
    Calls Tryd.prog 75 #[.agg #[sl, cl, .int .i64 wi]] w fun e w' => e = .returned (.tuple #[.int .i64 (checkP ss cs wi).1, .int .i64 (checkP ss cs wi).2]) ∧ Grw w w' := by
  have hbig' : ss.length ≤ 9223372036854775807 := hbig
  have hbig2' : cs.length ≤ 9223372036854775807 := hbig2
  obtain ⟨a, c, rfl⟩ := Sl.shape hs
  obtain ⟨a2, c2, rfl⟩ := Sl.shape hc
  obtain ⟨w1, hw1⟩ : ∃ w1, w1 = w.alloc (.cells #[.slice a ss.length c, .slice a2 cs.length c2, .int .i64 wi] 106) := ⟨_, rfl⟩
  have hz1 : w1.heap.size = w.heap.size + 1 := by rw [hw1]; simp
  have G1 : Grw w w1 := by rw [hw1]; exact (Grw.refl w).alloc _
  have HS := Lib.hid hs
  have HC := Lib.hid hc
  have HW1 := Lib.hid hw1
  have HG1 := Lib.hid G1
  have P1 := Lib.hid (show w1.heap[w.heap.size]? = some (.cells #[.slice a ss.length c, .slice a2 cs.length c2, .int .i64 wi] 106 (0, 0)) by rw [hw1]; exact heap_new rfl)
  have hst := fun (i : Nat) (hi : i < ss.length) (w' : World) (g' : Grw w w') => step_any (.slice a ss.length c) (.slice a2 cs.length c2) wi ss i w' ((Sl.below hs g'.below).more g'.size) hbig hi
  have hcd := fun (d : GC) (w' : World) (g' : Grw w w') => cond_any (.slice a ss.length c) (.slice a2 cs.length c2) wi ss d w' ((Sl.below hs g'.below).more g'.size) hbig
  have HST := Lib.hid hst
  have HCD := Lib.hid hcd
  clear hs hc hw1 G1 hst hcd hbig hbig2
  go_enter Tryd.func75, Tryd.ntmps75
  by_cases hm : ss.length < 1 ∨ 8 < ss.length ∨ 16 < cs.length
  case pos =>
    go_wp2_with fail
    all_goals
      go_ret2
      refine ⟨?_, by rw [← HW1.out]; exact HG1.out⟩
      rw [checkP_many hm]
      rfl
  have hm1 : ¬ ((ss.length : Int) < 1) := by omega
  have hm2 : ¬ (8 < (ss.length : Int)) := by omega
  have hm3 : ¬ (16 < (cs.length : Int)) := by omega
  by_cases ha : wi < 0 ∨ 9007199254740992 < wi
  case pos =>
    go_wp2_with fail
    all_goals
      go_ret2
      refine ⟨?_, by rw [← HW1.out]; exact HG1.out⟩
      rw [checkP_arg hm ha]
      rfl
  have HM := Lib.hid hm
  have HA := Lib.hid ha
  have ha1 : ¬ (wi < 0) := by omega
  have ha2 : ¬ (9007199254740992 < wi) := by omega
  clear hm ha
  go_wp2_with fail
  rw [← HW1.out]
  clear ha1 ha2
  go_loopw [4, 40] (fun b u wr => ∃ i : Nat, u = .int .i64 i ∧ i ≤ ss.length ∧ b = .int .i64 (bindsTo ss i) ∧ Grw w1 wr ∧ ∀ j, j < i → stepE ss j = 0) (fun _ u _ => ss.length - (intOf u).toNat)
  case atStart => exact ⟨0, rfl, by omega, rfl, Grw.refl _, fun j hj => absurd hj (by omega)⟩
  case round =>
    obtain ⟨i, rfl, hi, rfl, hg, hall⟩ := hrel
    have HG := Lib.hid hg
    have HALL := Lib.hid hall
    have hsz := hg.size
    have hbd := bindsTo_le hall
    have y0 : wr.cell? ⟨w.heap.size, 0, none⟩ = some (.slice a ss.length c) := hg.cell (by omega) ((Lib.cell_of_heap P1.out 0).trans rfl)
    have y1 : wr.cell? ⟨w.heap.size, 1, none⟩ = some (.slice a2 cs.length c2) := hg.cell (by omega) ((Lib.cell_of_heap P1.out 1).trans rfl)
    have y2 : wr.cell? ⟨w.heap.size, 2, none⟩ = some (.int .i64 wi) := hg.cell (by omega) ((Lib.cell_of_heap P1.out 2).trans rfl)
    clear hg hall
    by_cases hlt : i < ss.length
    · have hlt' : (i : Int) < (ss.length : Int) := by omega
      have hi0 : (0 : Int) ≤ (i : Int) := by omega
      obtain ⟨g, o, c', e, hgb, d0, d1, d2, d3, d4⟩ := Stps.at_ HS.out hlt
      obtain ⟨rfl, rfl⟩ : a = some ⟨g, o, none⟩ ∧ c = c' := by simpa using e
      have HGW := Lib.hid (HG1.out.trans HG.out)
      have x0 := HGW.out.cell hgb d0
      have x1 := HGW.out.cell hgb d1
      have x2 := HGW.out.cell hgb d2
      have x3 := HGW.out.cell hgb d3
      have x4 := HGW.out.cell hgb d4
      obtain ⟨x, hx⟩ : ∃ x, ss[i] = x := ⟨_, rfl⟩
      rw [hx] at x0 x1 x2 x3 x4
      have HX := Lib.hid hx
      obtain ⟨wa, hwa⟩ : ∃ wa, wa = wr.alloc (.cells #[.int .u8 x.k, .int .u8 x.nm, .bool x.neg, .int .i64 x.lo, .int .i64 x.hi] 171) := ⟨_, rfl⟩
      have ga : Grw wr wa := by rw [hwa]; exact (Grw.refl wr).alloc _
      have hza : wa.heap.size = wr.heap.size + 1 := by rw [hwa]; simp
      have ya0 : wa.cell? ⟨w.heap.size, 0, none⟩ = _ := ga.cell (by omega) y0
      have ya1 : wa.cell? ⟨w.heap.size, 1, none⟩ = _ := ga.cell (by omega) y1
      have ya2 : wa.cell? ⟨w.heap.size, 2, none⟩ = _ := ga.cell (by omega) y2
      have PA := Lib.hid (show wa.heap[wr.heap.size]? = some (.cells #[.int .u8 x.k, .int .u8 x.nm, .bool x.neg, .int .i64 x.lo, .int .i64 x.hi] 171 (0, 0)) by rw [hwa]; exact heap_new rfl)
      have HWA := Lib.hid hwa
      have HGA := Lib.hid ga
      clear e d0 d1 d2 d3 d4 hx hwa ga
      rw [HWA.out] at ya0 ya1 ya2
      go_wp2_with fail
      rw [← HWA.out]
      refine (HST.out i hlt wa (HGW.out.trans HGA.out)).mono ?_
      rintro e w' ⟨rfl, g'⟩
      have z2 : w'.cell? ⟨wr.heap.size, 2, none⟩ = some (.bool x.neg) := g'.cell (by omega) ((Lib.cell_of_heap PA.out 2).trans rfl)
      have z4 : w'.cell? ⟨wr.heap.size, 4, none⟩ = some (.int .i64 x.hi) := g'.cell (by omega) ((Lib.cell_of_heap PA.out 4).trans rfl)
      have HG' := Lib.hid (HG.out.trans (HGA.out.trans g'))
      clear g' x0 x1 x2 x3 x4 y0 y1 y2 ya0 ya1 ya2
      by_cases he : stepE ss i = 0
      · obtain ⟨_, _, _, _, _, _, hk1, hk2, hk3⟩ := stepE_ok he
        have hxi : ss[i]! = x := by rw [getElem!_pos ss i hlt]; exact HX.out
        rw [hxi] at hk1 hk2 hk3
        have HALL' := Lib.hid (show ∀ j, j < i + 1 → stepE ss j = 0 from fun j hj => by
          rcases Nat.lt_or_ge j i with hl | hl
          · exact HALL.out j hl
          · have : j = i := by omega
            rw [this]; exact he)
        have hbs : bindsTo ss (i + 1) = bindsTo ss i + if x.neg = true then 0 else x.hi := by
          show bindsTo ss i + (if (ss[i]!).neg = true then 0 else (ss[i]!).hi) = _
          rw [hxi]
        have HBS := Lib.hid hbs
        rw [he]
        clear he hxi hbs
        generalize bindsTo ss i = bi at *
        cases hn : x.neg with
        | true =>
          rw [hn] at z2
          have HN := Lib.hid hn
          clear hn
          go_wp2_with fail
          go_roundw
          case rel => exact ⟨i + 1, by go_num, by omega, by rw [HBS.out, if_pos HN.out]; simp, HG'.out, HALL'.out⟩
          case measure => simp [intOf]; omega
        | false =>
          rw [hn] at z2
          have HN := Lib.hid hn
          clear hn
          go_wp2_with fail
          go_roundw
          case rel => exact ⟨i + 1, by go_num, by omega, by rw [HBS.out, if_neg (by rw [HN.out]; simp)], HG'.out, HALL'.out⟩
          case measure => simp [intOf]; omega
      · have HE := Lib.hid he
        have he' : (stepE ss i != 0) = true := by simp [he]
        obtain ⟨ev, hev⟩ : ∃ ev, stepE ss i = ev := ⟨_, rfl⟩
        rw [hev] at he' ⊢
        have HEV := Lib.hid hev
        clear he hev
        go_wp2_with fail
        go_ret2
        refine ⟨?_, HG1.out.trans HG'.out⟩
        rw [checkP_step HM.out HA.out hlt HE.out HALL.out, HEV.out]
        rfl
    · obtain rfl : i = ss.length := by omega
      clear hlt hi
      by_cases hb : 16 < bindsTo ss ss.length
      · have HB := Lib.hid hb
        obtain ⟨bv, hbv⟩ : ∃ bv, bindsTo ss ss.length = bv := ⟨_, rfl⟩
        rw [hbv] at hb hbd ⊢
        clear hbv
        go_wp2_with fail
        go_ret2
        refine ⟨?_, HG1.out.trans HG.out⟩
        rw [checkP_binds HM.out HA.out HALL.out HB.out]
        rfl
      · have HB := Lib.hid hb
        obtain ⟨bv, hbv⟩ : ∃ bv, bindsTo ss ss.length = bv := ⟨_, rfl⟩
        rw [hbv] at hb hbd ⊢
        clear hbv
        go_wp2_with fail
        clear hb hbd y0 y1 y2 hm1 hm2 hm3
        go_loopw [65] (fun u wq => ∃ i : Nat, u = .int .i64 i ∧ i ≤ cs.length ∧ Grw w1 wq ∧ ∀ j, j < i → condE ss cs[j]! = 0) (fun u _ => cs.length - (intOf u).toNat)
        case atStart => exact ⟨0, rfl, by omega, HG.out, fun j hj => absurd hj (by omega)⟩
        case round =>
          clear HG hsz
          obtain ⟨i, rfl, hi, hg, hcall⟩ := hrel
          have HG := Lib.hid hg
          have HCALL := Lib.hid hcall
          have hsz := hg.size
          have y0 : wr.cell? ⟨w.heap.size, 0, none⟩ = some (.slice a ss.length c) := hg.cell (by omega) ((Lib.cell_of_heap P1.out 0).trans rfl)
          have y1 : wr.cell? ⟨w.heap.size, 1, none⟩ = some (.slice a2 cs.length c2) := hg.cell (by omega) ((Lib.cell_of_heap P1.out 1).trans rfl)
          have y2 : wr.cell? ⟨w.heap.size, 2, none⟩ = some (.int .i64 wi) := hg.cell (by omega) ((Lib.cell_of_heap P1.out 2).trans rfl)
          clear hg hcall
          by_cases hlt : i < cs.length
          · have hlt' : (i : Int) < (cs.length : Int) := by omega
            have hi0 : (0 : Int) ≤ (i : Int) := by omega
            have hM := HM.out
            have hs8 : (ss.length : Int) ≤ 8 := by omega
            have hc16 : (cs.length : Int) ≤ 16 := by omega
            clear hM
            obtain ⟨g, o, c', e, hgb, d0, d1, d2, d3⟩ := Cnds.at_ HC.out hlt
            obtain ⟨rfl, rfl⟩ : a2 = some ⟨g, o, none⟩ ∧ c2 = c' := by simpa using e
            have HGW := Lib.hid (HG1.out.trans HG.out)
            have x0 := HGW.out.cell hgb d0
            have x1 := HGW.out.cell hgb d1
            have x2 := HGW.out.cell hgb d2
            have x3 := HGW.out.cell hgb d3
            obtain ⟨x, hx⟩ : ∃ x, cs[i] = x := ⟨_, rfl⟩
            rw [hx] at x0 x1 x2 x3
            have HX := Lib.hid (show cs[i]! = x by rw [getElem!_pos cs i hlt]; exact hx)
            obtain ⟨wa, hwa⟩ : ∃ wa, wa = wr.alloc (.cells #[.int .u8 x.l, .int .i64 x.op, .int .u8 x.r, .int .i64 x.k] 179) := ⟨_, rfl⟩
            have ga : Grw wr wa := by rw [hwa]; exact (Grw.refl wr).alloc _
            have hza : wa.heap.size = wr.heap.size + 1 := by rw [hwa]; simp
            have ya0 : wa.cell? ⟨w.heap.size, 0, none⟩ = _ := ga.cell (by omega) y0
            have ya1 : wa.cell? ⟨w.heap.size, 1, none⟩ = _ := ga.cell (by omega) y1
            have ya2 : wa.cell? ⟨w.heap.size, 2, none⟩ = _ := ga.cell (by omega) y2
            have HWA := Lib.hid hwa
            have HGA := Lib.hid ga
            clear e d0 d1 d2 d3 hx hwa ga
            rw [HWA.out] at ya0 ya1 ya2
            go_wp2_with fail
            rw [← HWA.out]
            refine (HCD.out x wa (HGW.out.trans HGA.out)).mono ?_
            rintro e w' ⟨rfl, g'⟩
            have z0 : w'.cell? ⟨w.heap.size, 0, none⟩ = some (.slice a ss.length c) := g'.cell (by omega) (by rw [HWA.out]; exact ya0)
            have HG' := Lib.hid (HG.out.trans (HGA.out.trans g'))
            clear g' x0 x1 x2 x3 y0 y1 y2 ya0 ya1 ya2
            by_cases he : condE ss x = 0
            · have HC' := Lib.hid (show ∀ j, j < i + 1 → condE ss cs[j]! = 0 from fun j hj => by
                rcases Nat.lt_or_ge j i with hl | hl
                · exact HCALL.out j hl
                · have : j = i := by omega
                  rw [this, HX.out]; exact he)
              rw [he]
              clear he
              go_wp2_with fail
              go_roundw
              case rel => exact ⟨i + 1, by go_num, by omega, HG'.out, HC'.out⟩
              case measure => simp [intOf]; omega
            · have HE := Lib.hid he
              have he' : (condE ss x != 0) = true := by simp [he]
              obtain ⟨ev, hev⟩ : ∃ ev, condE ss x = ev := ⟨_, rfl⟩
              rw [hev] at he' ⊢
              have HEV := Lib.hid hev
              clear he hev
              go_wp2_with fail
              go_ret2
              refine ⟨?_, HG1.out.trans HG'.out⟩
              rw [checkP_cond HM.out HA.out HALL.out (Int.not_lt.2 HB.out) hlt (by rw [HX.out]; exact HE.out) HCALL.out, HX.out, HEV.out]
              rfl
          · obtain rfl : i = cs.length := by omega
            go_wp2_with fail
            go_ret2
            refine ⟨?_, HG1.out.trans HG.out⟩
            rw [checkP_ok HM.out HA.out HALL.out (Int.not_lt.2 HB.out) HCALL.out]
            rfl
end Go.Proofs.YtcojnojdgigmdaaDoor.WL
