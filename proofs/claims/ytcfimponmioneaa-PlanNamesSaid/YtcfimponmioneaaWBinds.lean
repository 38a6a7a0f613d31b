/- The walk of Plan.Binds: how many events a plan takes at most. -/
import Derived.Test.YtcfimponmioneaaDk
namespace Go.Proofs.Ytcfimponmioneaa.WL
open Go Go.RowKit Go.Sort Go.Proofs.Ytcfimponmioneaa Go.Proofs.Ytcfimponmioneaa.PL Go.Proofs.Ytcfimponmioneaa.Mem Go.Proofs.Ytcfimponmioneaa.WP

/-- How many events the first n groups take at most. -/
def bindsG (gs : List (Grp Unit)) : Nat → Int
  | 0 => 0
  | n + 1 => bindsG gs n + (gs[n]!).1.1.hi

set_option maxRecDepth 100000 in
set_option maxHeartbeats 3200000 in
theorem binds_any (vs : Value) (wi : Int) (gs : List (Grp Unit)) (ts : Nat → List PT) (w : World) (L : Nat) (h1 : PlanAt w L w.heap.size vs gs ts) (h8 : gs.length ≤ 8) (hh : ∀ q (h : q < gs.length), 0 ≤ gs[q].1.1.hi ∧ gs[q].1.1.hi ≤ 16) :
    Calls Try.prog 25 #[.agg #[vs, .int .i64 wi]] w fun e w' => e = .returned (.int .i64 (bindsG gs gs.length)) ∧ Grw w w' := by
  obtain ⟨a1, c1, rfl, hp⟩ := h1
  obtain ⟨w2, hw2⟩ : ∃ w2, w2 = w.alloc (.cells #[.slice a1 gs.length c1, .int .i64 wi] 51) := ⟨_, rfl⟩
  have HG2 := Lib.hid (show Grw w w2 by rw [hw2]; exact (Grw.refl w).alloc _)
  have HP := Lib.hid hp; have HH := Lib.hid hh
  have HW2 := Lib.hid hw2
  have hgl' : (gs.length : Int) ≤ 8 := by omega
  have hbd : ∀ q, q ≤ gs.length → 0 ≤ bindsG gs q ∧ bindsG gs q ≤ 16 * q := by
    intro q
    induction q with
    | zero => intro _; simp [bindsG]
    | succ q ih =>
      intro hq
      have h3 := ih (by omega)
      have h4 := hh q (by omega)
      have e : gs[q]! = gs[q] := getElem!_pos gs q (by omega)
      simp only [bindsG, e]
      omega
  have HBD := Lib.hid hbd
  clear hp hh hw2 hbd
  go_enter Try.func25, Try.ntmps25
  go_wp2_with fail
  rw [← HW2.out]
  go_loopw [3, 9] (fun t u wr => ∃ q : Nat, u = .int .i64 q ∧ q ≤ gs.length ∧ t = .int .i64 (bindsG gs q) ∧ Grw w2 wr) (fun _ u _ => gs.length - (intOf u).toNat)
  case atStart => exact ⟨0, rfl, by omega, rfl, Grw.refl _⟩
  case round =>
    obtain ⟨q, rfl, hq, rfl, hgr⟩ := hrel
    have HGR := Lib.hid hgr
    have HGW := Lib.hid (HG2.out.trans hgr)
    have hsz := hgr.size
    clear hgr
    by_cases hlt : q < gs.length
    · have hlt' : (q : Int) < (gs.length : Int) := by omega
      have hq0 : (0 : Int) ≤ (q : Int) := by omega
      obtain ⟨gv, e1, hgv, p0, p1, p2, ⟨vt, p3, ht1⟩, vb, p4, hbars⟩ := HP.out q hlt
      obtain ⟨bad, bcap, rfl, _⟩ := hbars
      obtain ⟨vtl, vtc, rfl⟩ := Sl.shape ht1.1
      subst e1
      have hb0 := HBD.out q hq
      have hh0 := HH.out q hlt
      have hnx : bindsG gs (q + 1) = bindsG gs q + gs[q].1.1.hi := by
        have e : gs[q]! = gs[q] := getElem!_pos gs q hlt
        simp only [bindsG, e]
      have HNX := Lib.hid hnx
      obtain ⟨x, hx⟩ : ∃ x, gs[q].1.1 = x := ⟨_, rfl⟩
      rw [hx] at p0 p1 p2 hh0 HNX
      have x0 := HGW.out.cell hgv.2 p0
      have x1 := HGW.out.cell hgv.2 p1
      have x2 := HGW.out.cell hgv.2 p2
      have x3 := HGW.out.cell hgv.2 p3
      have x4 := HGW.out.cell hgv.2 p4
      obtain ⟨B, hB⟩ : ∃ B, bindsG gs q = B := ⟨_, rfl⟩
      rw [hB] at hb0 HNX ⊢
      obtain ⟨hb0l, hb0u⟩ := hb0
      obtain ⟨hh0l, hh0u⟩ := hh0
      clear p0 p1 p2 p3 p4 hx ht1 hB hnx
      go_wp2_with fail
      go_roundw
      case rel => exact ⟨q + 1, by go_num, by omega, by rw [HNX.out], HGR.out.alloc _⟩
      case measure => simp [intOf]; omega
    · obtain rfl : q = gs.length := by omega
      go_wp2_with fail
      go_ret
      exact ⟨rfl, HGW.out⟩
end Go.Proofs.Ytcfimponmioneaa.WL
