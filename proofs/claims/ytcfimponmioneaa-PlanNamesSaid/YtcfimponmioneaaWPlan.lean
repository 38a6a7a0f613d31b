/- The walk of plan.find (and slices.IndexFunc at its closure): the number of a name's first step. -/
import Derived.Test.YtcfimponmioneaaChecked
import Derived.Test.YtcfimponmioneaaMem
import Derived.Test.YtcfimponmioneaaPPlan
import Derived.WalkKit
import Derived.Outline
import Derived.Lib.Hide
import Derived.WalkSpells
import Derived.WalkLawsBesides
import Derived.BigQuiet
import Derived.Deep.QuietTactic
import Derived.Lib.Builder
import Derived.StillTailTactics
import Derived.Shelf.SlSortCmp.QuietGrown
namespace Go.Proofs.Ytcfimponmioneaa.WL
open Go Go.RowKit Go.Sort Go.Proofs.Ytcfimponmioneaa Go.Proofs.Ytcfimponmioneaa.PL Go.Proofs.Ytcfimponmioneaa.Mem

/-- A step's cells, a condition's cells. -/
def encG (c : GS) : List Value := [.int .u8 c.k, .int .u8 c.nm, .bool c.neg, .int .i64 c.lo, .int .i64 c.hi]
def encD (c : GC) : List Value := [.int .u8 c.l, .int .i64 c.op, .int .u8 c.r, .int .i64 c.k]
theorem encG_len (e : GS) : (encG e).length = 5 := rfl
theorem encD_len (e : GC) : (encD e).length = 4 := rfl
/-- The slices read as these steps, these conditions. -/
def Stps (w : World) (B : Nat) (v : Value) (l : List GS) : Prop := Sl w B 5 v l.length (cellsOf encG l)
def Cnds (w : World) (B : Nat) (v : Value) (l : List GC) : Prop := Sl w B 4 v l.length (cellsOf encD l)
theorem Stps.at_ {w : World} {B : Nat} {v : Value} {l : List GS} (h : Stps w B v l) {i : Nat} (hi : i < l.length) :
    ∃ (b o c : Nat), v = .slice (some ⟨b, o, none⟩) l.length c ∧ b < B ∧ w.cell? ⟨b, o + i * 5, none⟩ = some (.int .u8 l[i].k) ∧ w.cell? ⟨b, o + i * 5 + 1, none⟩ = some (.int .u8 l[i].nm) ∧
      w.cell? ⟨b, o + i * 5 + 2, none⟩ = some (.bool l[i].neg) ∧ w.cell? ⟨b, o + i * 5 + 3, none⟩ = some (.int .i64 l[i].lo) ∧ w.cell? ⟨b, o + i * 5 + 4, none⟩ = some (.int .i64 l[i].hi) := by
  obtain ⟨b, o, c, hv, hb, hx⟩ := Sl.elem h hi
  refine ⟨b, o, c, hv, hb, ?_, ?_, ?_, ?_, ?_⟩
  · exact hx 0 _ (by omega) (by rw [cellsOf_get encG_len l i 0 (by omega) hi]; rfl)
  · exact hx 1 _ (by omega) (by rw [cellsOf_get encG_len l i 1 (by omega) hi]; rfl)
  · exact hx 2 _ (by omega) (by rw [cellsOf_get encG_len l i 2 (by omega) hi]; rfl)
  · exact hx 3 _ (by omega) (by rw [cellsOf_get encG_len l i 3 (by omega) hi]; rfl)
  · exact hx 4 _ (by omega) (by rw [cellsOf_get encG_len l i 4 (by omega) hi]; rfl)
theorem Cnds.at_ {w : World} {B : Nat} {v : Value} {l : List GC} (h : Cnds w B v l) {i : Nat} (hi : i < l.length) :
    ∃ (b o c : Nat), v = .slice (some ⟨b, o, none⟩) l.length c ∧ b < B ∧ w.cell? ⟨b, o + i * 4, none⟩ = some (.int .u8 l[i].l) ∧ w.cell? ⟨b, o + i * 4 + 1, none⟩ = some (.int .i64 l[i].op) ∧
      w.cell? ⟨b, o + i * 4 + 2, none⟩ = some (.int .u8 l[i].r) ∧ w.cell? ⟨b, o + i * 4 + 3, none⟩ = some (.int .i64 l[i].k) := by
  obtain ⟨b, o, c, hv, hb, hx⟩ := Sl.elem h hi
  refine ⟨b, o, c, hv, hb, ?_, ?_, ?_, ?_⟩
  · exact hx 0 _ (by omega) (by rw [cellsOf_get encD_len l i 0 (by omega) hi]; rfl)
  · exact hx 1 _ (by omega) (by rw [cellsOf_get encD_len l i 1 (by omega) hi]; rfl)
  · exact hx 2 _ (by omega) (by rw [cellsOf_get encD_len l i 2 (by omega) hi]; rfl)
  · exact hx 3 _ (by omega) (by rw [cellsOf_get encD_len l i 3 (by omega) hi]; rfl)

/-- Blocks more, draws more. -/
def Grw (w w' : World) : Prop := ∃ q os, w' = grow (w.drewN q) os
theorem Grw.refl (w : World) : Grw w w := ⟨0, #[], by rw [grow_empty]; rfl⟩
theorem Grw.alloc {a w : World} (h : Grw a w) (o : Obj) : Grw a (w.alloc o) := by
  obtain ⟨q, os, rfl⟩ := h
  exact ⟨q, os ++ #[o], by rw [alloc_eq_grow, grow_grow]⟩
theorem Grw.drewN {a w : World} (h : Grw a w) (n : Nat) : Grw a (w.drewN n) := by
  obtain ⟨q, os, rfl⟩ := h
  refine ⟨q + n, os, ?_⟩
  rw [← World.drewN_drewN]; rfl
theorem Grw.trans {a b c : World} (h : Grw a b) (h' : Grw b c) : Grw a c := by
  obtain ⟨q, os, rfl⟩ := h
  obtain ⟨r, os', rfl⟩ := h'
  refine ⟨q + r, os ++ os', ?_⟩
  show grow (grow ((a.drewN q).drewN r) os) os' = _
  rw [grow_grow, World.drewN_drewN]
theorem Grw.below {a w : World} (h : Grw a w) : Below a.heap.size a w := by
  obtain ⟨q, os, rfl⟩ := h
  exact ⟨rfl, rfl, rfl, by rw [size_grow]; exact Nat.le_add_right _ _, fun k hk => heap_grow_old (a.drewN q) os hk⟩
theorem Grw.size {a w : World} (h : Grw a w) : a.heap.size ≤ w.heap.size := h.below.size
theorem Grw.cell {a w : World} (h : Grw a w) {b o : Nat} (hb : b < a.heap.size) {u : Value} (hc : a.cell? ⟨b, o, none⟩ = some u) : w.cell? ⟨b, o, none⟩ = some u :=
  (h.below.cell (p := ⟨b, o, none⟩) hb).trans hc
theorem Grw.grown {P : Program} {f : FuncId} {args : Array Value} {w : World} {n : Nat} {os : Array Obj} {v : Value}
    (h : Calls P f args (grow (w.drewN n) os) fun e w' => e = .returned v ∧ Grw (grow (w.drewN n) os) w') : Calls P f args (grow (w.drewN n) os) fun e w'' => e = .returned v ∧ ∃ p : GrownBy, w'' = grow (w.drewN p.n) p.os :=
  Calls.grown_of h

set_option maxRecDepth 100000 in
theorem clos_any (nm : Int) (b : Nat) (s : GS) (w : World) (hb : b < w.heap.size) (hc : w.cell? ⟨b, 0, none⟩ = some (.int .u8 nm)) :
    Calls Try.prog 55 #[.agg #[.int .u8 s.k, .int .u8 s.nm, .bool s.neg, .int .i64 s.lo, .int .i64 s.hi], .pointer (some ⟨b, 0, none⟩)] w fun e w' => e = .returned (.bool (s.nm == nm)) ∧ Grw w w' := by
  have hne : b ≠ w.heap.size := by omega
  go_enter Try.func55, Try.ntmps55
  go_wp2
  all_goals (go_ret; exact ⟨by simp_all, (Grw.refl w).alloc _⟩)

set_option maxRecDepth 100000 in
set_option maxHeartbeats 1600000 in
theorem index_any (nm : Int) (b : Nat) (sl : Value) (ss : List GS) (w : World) (hb : b < w.heap.size) (hc : w.cell? ⟨b, 0, none⟩ = some (.int .u8 nm)) (hs : Stps w w.heap.size sl ss) (hbig : ss.length ≤ maxLen) :
    Calls Try.prog 54 #[sl, .func (.func 55) #[] #[.pointer (some ⟨b, 0, none⟩)]] w fun e w' => e = .returned (.int .i64 (findP ss nm)) ∧ Grw w w' := by
  obtain ⟨a, c, rfl⟩ := Sl.shape hs
  have HS := Lib.hid hs
  have HC := Lib.hid hc
  have hbig' : ss.length ≤ 9223372036854775807 := hbig
  clear hs hc hbig
  go_enter Try.func54, Try.ntmps54
  go_wp2_with fail
  go_loopw [5, 8] (fun _ u wr => ∃ i : Nat, u = .int .i64 i ∧ i ≤ ss.length ∧ Grw w wr ∧ ∀ j (hj : j < ss.length), j < i → ss[j].nm ≠ nm) (fun _ u _ => ss.length - (intOf u).toNat)
  case atStart => exact ⟨0, rfl, by omega, Grw.refl _, fun j _ hj => absurd hj (by omega)⟩
  case round =>
    obtain ⟨i, rfl, hi, hg, hall⟩ := hrel
    have HG := Lib.hid hg
    have HA := Lib.hid hall
    have hsz := hg.size
    clear hg hall
    by_cases hlt : i < ss.length
    · have hlt' : (i : Int) < (ss.length : Int) := by omega
      have hi0 : (0 : Int) ≤ (i : Int) := by omega
      obtain ⟨g, o, c', e, hgb, d0, d1, d2, d3, d4⟩ := Stps.at_ HS.out hlt
      obtain ⟨rfl, rfl⟩ : a = some ⟨g, o, none⟩ ∧ c = c' := by simpa using e
      have x0 := HG.out.cell hgb d0
      have x1 := HG.out.cell hgb d1
      have x2 := HG.out.cell hgb d2
      have x3 := HG.out.cell hgb d3
      have x4 := HG.out.cell hgb d4
      have hcl := clos_any nm b ss[i] wr (by omega) (HG.out.cell hb HC.out)
      obtain ⟨x, hx⟩ : ∃ x, ss[i] = x := ⟨_, rfl⟩
      rw [hx] at x0 x1 x2 x3 x4 hcl
      have HCL := Lib.hid hcl
      have HX := Lib.hid hx
      clear e d0 d1 d2 d3 d4 hcl hx
      go_wp2_with fail
      refine HCL.out.mono ?_
      rintro e w' ⟨rfl, hg'⟩
      have HG' := Lib.hid (HG.out.trans hg')
      clear hg'
      cases hq : (x.nm == nm) with
      | true =>
        have HQ := Lib.hid hq
        clear hq
        go_wp2_with fail
        go_ret
        refine ⟨?_, HG'.out⟩
        rw [findP_hit hlt (by rw [HX.out]; simpa using HQ.out) (fun j hj => HA.out j (by omega) hj)]
        rfl
      | false =>
        have HQ := Lib.hid hq
        clear hq
        go_wp2_with fail
        go_roundw
        case rel =>
          refine ⟨i + 1, by go_num, by omega, HG'.out, fun j hj hji => ?_⟩
          by_cases e : j = i
          · subst e
            rw [HX.out]; simpa using HQ.out
          · exact HA.out j hj (by omega)
        case measure => simp [intOf]; omega
    · obtain rfl : i = ss.length := by omega
      go_wp2_with fail
      go_ret
      refine ⟨?_, HG.out⟩
      rw [findP_miss (fun j hj => HA.out j hj hj)]
      rfl

set_option maxRecDepth 100000 in
set_option maxHeartbeats 1600000 in
theorem find_any (sl cl : Value) (wi nm : Int) (ss : List GS) (w : World) (hs : Stps w w.heap.size sl ss) (hbig : ss.length ≤ maxLen) :
    Calls Try.prog 39 #[.agg #[sl, cl, .int .i64 wi], .int .u8 nm] w fun e w' => e = .returned (.int .i64 (findP ss nm)) ∧ Grw w w' := by
  obtain ⟨w2, hw2⟩ : ∃ w2, w2 = (w.alloc (.cells #[sl, cl, .int .i64 wi] 25)).alloc (.cells #[.int .u8 nm] 5) := ⟨_, rfl⟩
  have hz2 : w2.heap.size = w.heap.size + 2 := by rw [hw2]; simp
  have G2 : Grw w w2 := by rw [hw2]; exact ((Grw.refl w).alloc _).alloc _
  have hi := index_any nm (w.heap.size + 1) sl ss w2 (by omega) (by rw [hw2]; exact (Lib.cell_of_heap (heap_new (by simp)) 0).trans rfl) ((Sl.below hs G2.below).more (by omega)) hbig
  have HI := Lib.hid hi
  have HG := Lib.hid G2
  have HW := Lib.hid hw2
  obtain ⟨a, c, rfl⟩ := Sl.shape hs
  clear hi G2 hw2 hs
  go_enter Try.func39, Try.ntmps39
  go_wp2_with fail
  rw [← HW.out]
  refine HI.out.mono ?_
  rintro e w' ⟨rfl, hg'⟩
  have HG' := Lib.hid (HG.out.trans hg')
  clear hg'
  go_wp2_with fail
  go_ret
  exact ⟨rfl, HG'.out⟩
end Go.Proofs.Ytcfimponmioneaa.WL
