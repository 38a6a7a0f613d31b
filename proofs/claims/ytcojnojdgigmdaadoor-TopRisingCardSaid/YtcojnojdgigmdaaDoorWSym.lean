/- The walks of slices.swapRangeCmpFunc, rotateCmpFunc at events. -/
import Derived.Test.YtcojnojdgigmdaaDoorWSrtE
import Derived.Sort.WalkB2
import Derived.Sort.WalkB12
import Derived.Deep.LoopGhost
namespace Go.Proofs.YtcojnojdgigmdaaDoor.ST
open Go Go.Shelf Go.Lib Go.RowKit Go.Sort Go.Proofs.YtcojnojdgigmdaaDoor Go.Proofs.YtcojnojdgigmdaaDoor.Mem

section
variable {W w : World} {g : Nat} {d0 d : Array Ev}
theorem SW.at_ (S : SW W g d w) (R : RW W g d0) (hs : d.size = d0.size) {i : Nat} (hi : i < d.size) :
    w.cell? ⟨g, i * 4, none⟩ = some (.int .i64 d[i]!.id) ∧ w.cell? ⟨g, i * 4 + 1, none⟩ = some (.int .i64 d[i]!.time) ∧ w.cell? ⟨g, i * 4 + 2, none⟩ = some (.int .u8 d[i]!.kind) ∧ w.cell? ⟨g, i * 4 + 3, none⟩ = some (.int .i64 d[i]!.val) := by
  have h := SWK.holds S R.hblk R.hH hs
  have e : ∀ j (_ : j < 4), w.cell? ⟨g, i * 4 + j, none⟩ = some ((encE d[i]!)[j]!) := fun j hj => by
    have h1 := (h (i * 4 + j) (by simp; omega)).1
    rw [Nat.zero_add] at h1
    rw [h1]
    show some ((flatK encE 4 d)[i * 4 + j]!) = _
    rw [get_flatK _ _ _ _ (by omega), show (i * 4 + j) / 4 = i by omega, show (i * 4 + j) % 4 = j by omega]
  exact ⟨e 0 (by omega), e 1 (by omega), e 2 (by omega), e 3 (by omega)⟩
theorem SW.fr (S : SW W g d w) (R : RW W g d0) (hs : d.size = d0.size) {i : Nat} (hi : i < d.size) :
    w.frozen? ⟨g, i * 4, none⟩ = false ∧ w.frozen? ⟨g, i * 4 + 1, none⟩ = false ∧ w.frozen? ⟨g, i * 4 + 2, none⟩ = false ∧ w.frozen? ⟨g, i * 4 + 3, none⟩ = false := by
  have h := SWK.holds S R.hblk R.hH hs
  have e : ∀ j (_ : j < 4), w.frozen? ⟨g, i * 4 + j, none⟩ = false := fun j hj => by
    have h1 := (h (i * 4 + j) (by simp; omega)).2
    rwa [Nat.zero_add] at h1
  exact ⟨e 0 (by omega), e 1 (by omega), e 2 (by omega), e 3 (by omega)⟩
theorem drew_setCell (w : World) (a : Addr) (v : Value) : (w.setCell a v).drew = w.drew.setCell a v := by
  obtain ⟨b, o, s⟩ := a
  cases s <;> rfl
/-- The world behind an exchange. -/
def exch (w : World) (g p q : Nat) (x y : Ev) : World :=
  ((((((((w.setCell ⟨g, p * 4, none⟩ (.int .i64 y.id)).setCell ⟨g, p * 4 + 1, none⟩ (.int .i64 y.time)).setCell ⟨g, p * 4 + 2, none⟩ (.int .u8 y.kind)).setCell ⟨g, p * 4 + 3, none⟩ (.int .i64 y.val)).setCell ⟨g, q * 4, none⟩ (.int .i64 x.id)).setCell ⟨g, q * 4 + 1, none⟩ (.int .i64 x.time)).setCell ⟨g, q * 4 + 2, none⟩ (.int .u8 x.kind)).setCell ⟨g, q * 4 + 3, none⟩ (.int .i64 x.val)).drew
theorem SW.swapped (S : SW W g d w) (R : RW W g d0) {i j : Nat} (hi : i < d.size) (hj : j < d.size) : SW W g (swp d i j) (exch w g i j d[i]! d[j]!) := by
  have h := SWK.swapped S R i j hi hj
  rw [Nat.zero_add, Nat.zero_add] at h
  unfold encE at h
  simp only [World.setCells, ← drew_setCell, Nat.add_assoc, Nat.reduceAdd] at h
  exact h
end
set_option maxRecDepth 100000 in
set_option maxHeartbeats 4000000 in
theorem swapr_any {W w : World} {g cap a b n : Nat} {d0 d : Array Ev} (R : RW W g d0) (hs : d.size = d0.size) (S : SW W g d w) (ha : a + n ≤ d.size) (hb : b + n ≤ d.size) (hab : a + n ≤ b) (hn : d.size ≤ 1000000) :
    Calls Tryd.prog 111 #[.slice (some ⟨g, 0, none⟩) d.size cap, .int .i64 a, .int .i64 b, .int .i64 n, cmpF] w fun e w' => e = .returned (.tuple #[]) ∧ SW W g (swapR a b n d) w' := by
  have mixed : Tryd.prog.follows .mixedOrders = true := by kernel_rfl
  have HS := Lib.hid S; have HR := Lib.hid R
  obtain ⟨N, hN⟩ : ∃ N, d.size = N := ⟨_, rfl⟩
  rw [hN] at hs ha hb hn ⊢
  have HN := Lib.hid hN; have HN0 := Lib.hid hs
  clear S R hN hs
  go_enter Tryd.func111, Tryd.ntmps111
  go_wp2_with fail
  go_loopw [10] (fun v wr => ∃ (i : Nat) (dk : Array Ev), v = .int .i64 i ∧ i ≤ n ∧ Hid (dk.size = N) ∧ Hid (SW W g dk wr) ∧ Hid (swapR (a + i) (b + i) (n - i) dk = swapR a b n d)) (fun v _ => n - (intOf v).toNat)
  case atStart => exact ⟨0, d, rfl, Nat.zero_le _, HN, HS, Lib.hid rfl⟩
  case round =>
    clear HS
    obtain ⟨i, dk, rfl, hi, HDN, HS, HQ⟩ := hrel
    by_cases hlt : i < n
    · have hlti : (i : Int) < (n : Int) := by omega
      obtain ⟨p, hp⟩ : ∃ p, a + i = p := ⟨_, rfl⟩
      obtain ⟨q, hq⟩ : ∃ q, b + i = q := ⟨_, rfl⟩
      have hpd : p < dk.size := by have := HDN.out; omega
      have hqd : q < dk.size := by have := HDN.out; omega
      have hdk : dk.size = d0.size := by have := HDN.out; have := HN0.out; omega
      obtain ⟨x0, x1, x2, x3⟩ := SW.at_ HS.out HR.out hdk hpd
      obtain ⟨y0, y1, y2, y3⟩ := SW.at_ HS.out HR.out hdk hqd
      obtain ⟨f0, f1, f2, f3⟩ := SW.fr HS.out HR.out hdk hpd
      obtain ⟨k0, k1, k2, k3⟩ := SW.fr HS.out HR.out hdk hqd
      have HSW := Lib.hid (SW.swapped HS.out HR.out hpd hqd)
      have HSQ := Lib.hid (show swapR (a + (i + 1)) (b + (i + 1)) (n - (i + 1)) (swp dk p q) = swapR a b n d by
        rw [← HQ.out, show n - i = (n - (i + 1)) + 1 by omega, swapR, ← hp, ← hq]; rfl)
      have HSZ := Lib.hid (show (swp dk p q).size = N by rw [size_swp]; exact HDN.out)
      have hp0 : (0 : Int) ≤ (p : Int) := by omega
      have hq0 : (0 : Int) ≤ (q : Int) := by omega
      have hpn : (p : Int) < (N : Int) := by have := HDN.out; omega
      have hqn : (q : Int) < (N : Int) := by have := HDN.out; omega
      generalize dk[p]! = x at *
      generalize dk[q]! = y at *
      have wa : IntKind.i64.wrap ((a : Int) + (i : Int)) = (p : Int) := by rw [← hp, IntKind.wrap_i64]; omega
      have wb : IntKind.i64.wrap ((b : Int) + (i : Int)) = (q : Int) := by rw [← hq, IntKind.wrap_i64]; omega
      have hpq : p < q := by omega
      have E := fun (u v : Nat) (hu : u < 4) (hv : v < 4) => (show q * 4 + u ≠ p * 4 + v by omega)
      have e00 : q * 4 ≠ p * 4 := by omega
      have e01 : q * 4 ≠ p * 4 + 1 := by omega
      have e02 : q * 4 ≠ p * 4 + 2 := by omega
      have e03 : q * 4 ≠ p * 4 + 3 := by omega
      have e10 : q * 4 + 1 ≠ p * 4 := by omega
      have e11 : q * 4 + 1 ≠ p * 4 + 1 := by omega
      have e12 : q * 4 + 1 ≠ p * 4 + 2 := by omega
      have e13 : q * 4 + 1 ≠ p * 4 + 3 := by omega
      have e20 : q * 4 + 2 ≠ p * 4 := by omega
      have e21 : q * 4 + 2 ≠ p * 4 + 1 := by omega
      have e22 : q * 4 + 2 ≠ p * 4 + 2 := by omega
      have e23 : q * 4 + 2 ≠ p * 4 + 3 := by omega
      have e30 : q * 4 + 3 ≠ p * 4 := by omega
      have e31 : q * 4 + 3 ≠ p * 4 + 1 := by omega
      have e32 : q * 4 + 3 ≠ p * 4 + 2 := by omega
      have e33 : q * 4 + 3 ≠ p * 4 + 3 := by omega
      clear E
      clear hp hq hpd hqd hdk hi hlt
      go_wp2_with fail
      go_big_region_o
      show Exit.inBlock _ _ _ _ (exch wr g p q x y)
      clear x0 x1 x2 x3 y0 y1 y2 y3 f0 f1 f2 f3 k0 k1 k2 k3 HS HQ HDN
      generalize exch wr g p q x y = w2 at HSW ⊢
      go_wp2_with fail
      go_roundw
      case rel => exact ⟨i + 1, _, by go_num, by omega, HSZ, HSW, HSQ⟩
      case measure => simp [intOf]; omega
    · obtain rfl : i = n := by omega
      have HP := Lib.hid (show SW W g (swapR a b i d) wr by
        have h := HQ.out
        rw [Nat.sub_self, swapR] at h
        rw [← h]; exact HS.out)
      go_wp2_with fail
      go_end0
      exact ⟨rfl, HP.out⟩
set_option maxRecDepth 100000 in
set_option maxHeartbeats 4000000 in
/-- slices.rotateCmpFunc: two blocks change places. -/
theorem rotate_any {W w : World} {g cap a m b : Nat} {d0 d : Array Ev} {F : List Ev} (R : RW W g d0) (hs : d.size = d0.size) (S : SW W g d w) (ha : a < m) (hb : m < b) (hF : Rot m F (m - a) (b - m) d) (hbn : b ≤ d.size) (hn : d.size ≤ 1000000) :
    Calls Tryd.prog 103 #[.slice (some ⟨g, 0, none⟩) d.size cap, .int .i64 a, .int .i64 m, .int .i64 b, cmpF] w fun e w' => e = .returned (.tuple #[]) ∧ ∃ d', d'.size = d.size ∧ d'.toList = F ∧ SW W g d' w' := by
  obtain ⟨N, hN⟩ : ∃ N, d.size = N := ⟨_, rfl⟩
  have HS := Lib.hid S; have HR := Lib.hid R; have HF := Lib.hid hF
  have HN := Lib.hid hN; have HN0 := Lib.hid (hN.symm.trans hs)
  rw [hN] at hbn hn ⊢
  clear S R hF hs hN
  have e1 : (m : Int) - (a : Int) = ((m - a : Nat) : Int) := by omega
  have e2 : (b : Int) - (m : Int) = ((b - m : Nat) : Int) := by omega
  obtain ⟨i0, hi0⟩ : ∃ i, m - a = i := ⟨_, rfl⟩
  obtain ⟨j0, hj0⟩ : ∃ j, b - m = j := ⟨_, rfl⟩
  rw [hi0] at e1 HF
  rw [hj0] at e2 HF
  have w1 : IntKind.i64.wrap ((m : Int) - (a : Int)) = (i0 : Int) := by rw [IntKind.wrap_i64]; omega
  have w2 : IntKind.i64.wrap ((b : Int) - (m : Int)) = (j0 : Int) := by rw [IntKind.wrap_i64]; omega
  have E1 := Lib.hid e1; have E2 := Lib.hid e2
  have W1 := Lib.hid w1; have W2 := Lib.hid w2
  have hm0 : m ≤ 1000000 := by omega
  have hb0 : b ≤ 1000000 := by omega
  clear e1 e2 w1 w2 hi0 hj0
  go_enter Tryd.func103, Tryd.ntmps103
  go_wp2_with fail
  go_loopw [10, 11] (fun u v wr => ∃ (i j : Nat) (dk : Array Ev), u = .int .i64 i ∧ v = .int .i64 j ∧ Hid (dk.size = N) ∧ Hid (SW W g dk wr) ∧ Hid (Rot m F i j dk)) (fun u v _ => (intOf u).toNat + (intOf v).toNat)
  case atStart => exact ⟨i0, j0, d, by rw [E1.out], by rw [E2.out], HN, HS, HF⟩
  case round =>
    clear HS HF HN W1 W2 E1 E2
    obtain ⟨i, j, dk, rfl, rfl, HDN, HS, HT⟩ := hrel
    obtain ⟨hi0, hj0, him, hjm⟩ := HT.out.bounds
    rw [HDN.out] at hjm
    obtain ⟨l, hl⟩ : ∃ l, m - i = l := ⟨_, rfl⟩
    have el : (m : Int) - (i : Int) = (l : Int) := by omega
    rcases Nat.lt_trichotomy i j with h | h | h
    · have hne : ((i : Int) != (j : Int)) = true := by simp; omega
      have hij : ¬ (j : Int) < (i : Int) := by omega
      obtain ⟨q, hq⟩ : ∃ q, m + j - i = q := ⟨_, rfl⟩
      have hw : (m : Int) + (j : Int) - (i : Int) = (q : Int) := by omega
      obtain ⟨j', hj'⟩ : ∃ j', j - i = j' := ⟨_, rfl⟩
      have HT2 := Lib.hid (HT.out.lt h)
      have HC := Lib.hid (swapr_any (cap := cap) (a := l) (b := q) (n := i) HR.out (HDN.out.trans HN0.out) HS.out (by have := HDN.out; omega) (by have := HDN.out; omega) (by omega) (by have := HDN.out; omega))
      rw [hl, hq, hj'] at HT2
      rw [HDN.out] at HC
      have HZ := Lib.hid (show (swapR l q i dk).size = N by rw [swapR_size]; exact HDN.out)
      have HJ := Lib.hid (show (j : Int) - (i : Int) = (j' : Int) by omega)
      have hjj : j' + i = j := by omega
      have W1 := Lib.hid hw; have W2 := Lib.hid el
      clear HT HS hl hq hj'
      go_wp2_with fail
      refine HC.out.mono ?_
      rintro e w' ⟨rfl, hsw⟩
      have HSW := Lib.hid hsw
      clear hsw hw el HC
      go_wp2_with fail
      go_roundw
      case rel => exact ⟨i, j', _, by trivial, by first | rfl | rw [HJ.out], HZ, HSW, HT2⟩
      case measure => simp [intOf]; omega
    · subst h
      have hne : ((i : Int) != (i : Int)) = false := by simp
      have HP := Lib.hid (HT.out.eq)
      have HC := Lib.hid (swapr_any (cap := cap) (a := l) (b := m) (n := i) HR.out (HDN.out.trans HN0.out) HS.out (by have := HDN.out; omega) (by have := HDN.out; omega) (by omega) (by have := HDN.out; omega))
      rw [hl] at HP
      rw [HDN.out] at HC
      have HZ := Lib.hid (show (swapR l m i dk).size = N by rw [swapR_size]; exact HDN.out)
      clear HT HS hl
      go_wp2_with fail
      refine HC.out.mono ?_
      rintro e w' ⟨rfl, hsw⟩
      have HSW := Lib.hid hsw
      clear hsw el HC
      go_wp2_with fail
      go_end0
      exact ⟨rfl, _, HZ.out, HP.out, HSW.out⟩
    · have hne : ((i : Int) != (j : Int)) = true := by simp; omega
      obtain ⟨i', hi'⟩ : ∃ i', i - j = i' := ⟨_, rfl⟩
      have HT2 := Lib.hid (HT.out.gt h)
      have HC := Lib.hid (swapr_any (cap := cap) (a := l) (b := m) (n := j) HR.out (HDN.out.trans HN0.out) HS.out (by have := HDN.out; omega) (by have := HDN.out; omega) (by omega) (by have := HDN.out; omega))
      rw [hl, hi'] at HT2
      rw [HDN.out] at HC
      have HZ := Lib.hid (show (swapR l m j dk).size = N by rw [swapR_size]; exact HDN.out)
      have HJ := Lib.hid (show (i : Int) - (j : Int) = (i' : Int) by omega)
      have hjj : i' + j = i := by omega
      have hij : (j : Int) < (i : Int) := by omega
      clear HT HS hl hi'
      go_wp2_with fail
      refine HC.out.mono ?_
      rintro e w' ⟨rfl, hsw⟩
      have HSW := Lib.hid hsw
      clear hsw el HC
      go_wp2_with fail
      go_roundw
      case rel => exact ⟨i', j, _, by first | rfl | rw [HJ.out], by trivial, HZ, HSW, HT2⟩
      case measure => simp [intOf]; omega
end Go.Proofs.YtcojnojdgigmdaaDoor.ST
