/- The walks of slices.stableCmpFunc, SortStableFunc and event.Sort at any length: the same events, in order, those of one key as they stood. -/
import Derived.Test.YtcojnojdgigmdaaDoorWSym2
namespace Go.Proofs.YtcojnojdgigmdaaDoor.ST
open Go Go.Shelf Go.Lib Go.RowKit Go.Sort Go.Proofs.YtcojnojdgigmdaaDoor Go.Proofs.YtcojnojdgigmdaaDoor.Mem

theorem sym_any {W : World} {g cap N : Nat} {d0 : Array Ev} (RR : RW W g d0) (h0 : d0.size = N) (hn : N ≤ 1000000) : ∀ K, SymIH W g cap N K := by
  intro K
  induction K with
  | zero => intro A L R C d w a m b h; omega
  | succ K ih =>
    intro A L R C d w a m b hk S hN hd hL0 hR0 hL hR ha hm hb
    have hl : 0 < L.length := List.length_pos_iff.2 hL0
    have hr : 0 < R.length := List.length_pos_iff.2 hR0
    by_cases h1 : L.length = 1
    · obtain ⟨x, rfl⟩ := List.length_eq_one_iff.1 h1
      exact sym_one RR (by omega) S hd hR ha (by simpa using hm) hb hN hn
    · by_cases h2 : R.length = 1
      · obtain ⟨y, rfl⟩ := List.length_eq_one_iff.1 h2
        exact sym_two RR (by omega) S hd hL h1 ha hm (by simpa using hb) hN hn
      · have ih' : SymIH W g cap N (b - a) := fun A L R C d w a' m' b' h => ih A L R C d w a' m' b' (by omega)
        by_cases h3 : (a + b) / 2 < m
        · exact sym_rec (s0 := (a + b) / 2 + m - b) (r0 := (a + b) / 2) RR (by omega) S hd hL hR (by omega) (by omega) ha hm hb hN hn ih' (.inl ⟨h3, by omega, rfl⟩)
        · exact sym_rec (s0 := a) (r0 := m) RR (by omega) S hd hL hR (by omega) (by omega) ha hm hb hN hn ih' (.inr ⟨by omega, rfl, rfl⟩)
theorem sym_at {W w : World} {g cap a m b : Nat} {d0 d : Array Ev} (R : RW W g d0) (hs : d.size = d0.size) (S : SW W g d w) (ham : a < m) (hmb : m < b) (hb : b ≤ d.size) (hn : d.size ≤ 1000000) (s1 : SortedIn ltS a m d) (s2 : SortedIn ltS m b d) :
    Calls Tryd.prog 85 #[.slice (some ⟨g, 0, none⟩) d.size cap, .int .i64 a, .int .i64 m, .int .i64 b, cmpF] w fun e w' => e = .returned (.tuple #[]) ∧ ∃ d', MergeA d a b d' ∧ SW W g d' w' := by
  obtain ⟨A, L, R', C, h1, h2, h3, h4⟩ := cut3 d a m b (by omega) (by omega) hb
  have hL : Srt L := srt_of h1 (by rw [h2, h3, show a + (m - a) = m by omega]; exact s1)
  have hR : Srt R' := srt_of (A := A ++ L) (C := C) (by rw [h1]; simp) (by rw [List.length_append, h2, h3, h4, show a + (m - a) = m by omega, show m + (b - m) = b by omega]; exact s2)
  have h0 := sym_any (cap := cap) R rfl (by omega) (b - a + 1) A L R' C d w a m b (by omega) S hs h1 (by intro e; rw [e, List.length_nil] at h3; omega) (by intro e; rw [e, List.length_nil] at h4; omega) hL hR h2 (by omega) (by omega)
  rw [← hs] at h0
  refine h0.mono ?_
  rintro e w' ⟨rfl, d', _, k2, k3⟩
  have := MergeL.arr h1 k2
  rw [h2, h3, h4, show a + (m - a) + (b - m) = b by omega] at this
  exact ⟨rfl, d', this, k3⟩
/-- What a sort of a row leaves. -/
def StPost (W : World) (g : Nat) (d : Array Ev) (e : Ending) (w' : World) : Prop := e = .returned (.tuple #[]) ∧ ∃ d' : Array Ev, d'.size = d.size ∧ Stab d.toList d'.toList ∧ Srt d'.toList ∧ SW W g d' w'
set_option maxRecDepth 100000 in
set_option maxHeartbeats 6400000 in
theorem stable_big {W : World} {g cap N : Nat} {d : Array Ev} (RR : RW W g d) (hN : d.size = N) (hn : N ≤ 1000000) :
    Calls Tryd.prog 63 #[.slice (some ⟨g, 0, none⟩) N cap, .int .i64 N, cmpF] W (StPost W g d) := by
  have HR := Lib.hid RR; have HN := Lib.hid hN
  have HS0 := Lib.hid (show SW W g d W from SWK.start RR.hH)
  clear RR hN
  generalize hPO : StPost W g d = PO
  have HPO := Lib.hid hPO
  clear hPO
  go_enter Tryd.func63, Tryd.ntmps63
  go_wp2_with fail
  go_loopw [7, 8] (fun u v wr => ∃ (a b q : Nat) (dk : Array Ev), u = .int .i64 a ∧ v = .int .i64 b ∧ b ≤ a + 20 ∧ a + 20 ≤ b ∧ a ≤ N ∧ Hid (a = q * 20) ∧ Hid (dk.size = N) ∧ Hid (SW W g dk wr) ∧ Hid (BlkTo 20 N q dk) ∧ Hid (Stab d.toList dk.toList)) (fun u _ _ => N - (intOf u).toNat)
  case atStart => exact ⟨0, 20, 0, d, rfl, rfl, Nat.le_refl _, Nat.le_refl _, Nat.zero_le _, Lib.hid rfl, HN, HS0, Lib.hid blk0, Lib.hid (Stab.refl _)⟩
  case round =>
    clear HS0
    obtain ⟨a, b, q, dk, rfl, rfl, hab1, hab2, haN, HQ, HZ, HS, HB, HT⟩ := hrel
    by_cases hle : b ≤ N
    · have hlei : (b : Int) ≤ (N : Int) := by omega
      have HC := Lib.hid (ins_at (cap := cap) (a := a) (b := b) HR.out (HZ.out.trans HN.out.symm) HS.out (by omega) (by have := HZ.out; omega) (by have := HZ.out; omega))
      rw [HZ.out] at HC
      have hm0 := ins_merge dk a b (by omega) (by have := HZ.out; omega)
      have HM := Lib.hid hm0
      have HZ2 := Lib.hid (hm0.size.trans HZ.out)
      have HB2 := Lib.hid (show BlkTo 20 N (q + 1) (Sort.insertionSort ltS dk a b) by
        have h := hm0
        rw [show b = a + 20 by omega, HQ.out] at h
        have := blk1_step HB.out h
        rwa [← HQ.out, show a + 20 = b by omega] at this)
      have HT2 := Lib.hid (HT.out.trans hm0.stab)
      have HQ2 := Lib.hid (show b = (q + 1) * 20 by have := HQ.out; omega)
      clear hm0 HS HB HT
      go_wp2_with fail
      refine HC.out.mono ?_
      rintro en w' ⟨rfl, hs⟩
      have HS := Lib.hid hs
      clear hs HC
      go_wp2_with fail
      go_roundw
      case rel => exact ⟨b, b + 20, q + 1, _, by trivial, by go_num, Nat.le_refl _, Nat.le_refl _, by omega, HQ2, HZ2, HS, HB2, HT2⟩
      case measure => simp [intOf]; omega
    · have hlei : ¬ (b : Int) ≤ (N : Int) := by omega
      have HC := Lib.hid (ins_at (cap := cap) (a := a) (b := N) HR.out (HZ.out.trans HN.out.symm) HS.out (by omega) (by have := HZ.out; omega) (by have := HZ.out; omega))
      rw [HZ.out] at HC
      have hm0 := ins_merge dk a N (by omega) (by have := HZ.out; omega)
      have HZ2 := Lib.hid (hm0.size.trans HZ.out)
      have HB2 := Lib.hid (show BlkFrom 20 N 0 (Sort.insertionSort ltS dk a N) by
        have h := hm0
        rw [HQ.out] at h
        have := blk1_end HB.out h (by have := HQ.out; omega)
        rwa [← HQ.out] at this)
      have HT2 := Lib.hid (HT.out.trans hm0.stab)
      clear hm0 HS HB HT HZ
      go_wp2_with fail
      refine HC.out.mono ?_
      rintro en w1 ⟨rfl, hs⟩
      have HS := Lib.hid hs
      clear hs HC
      obtain ⟨dq, hdq⟩ : ∃ dq, Sort.insertionSort ltS dk a N = dq := ⟨_, rfl⟩
      rw [hdq] at HZ2 HB2 HT2 HS
      clear hdq HQ
      go_wp2_with fail
      go_loopw [6] (fun u wr => ∃ (bs : Nat) (dk : Array Ev), u = .int .i64 bs ∧ 20 ≤ bs ∧ bs ≤ 2000000 ∧ Hid (dk.size = N) ∧ Hid (SW W g dk wr) ∧ Hid (BlkFrom bs N 0 dk) ∧ Hid (Stab d.toList dk.toList)) (fun u _ => N - (intOf u).toNat)
      case atStart => exact ⟨20, dq, rfl, Nat.le_refl _, by omega, HZ2, HS, HB2, HT2⟩
      case round =>
        clear HZ2 HS HB2 HT2
        obtain ⟨bs, dk, rfl, hb20, hbm, HZ, HS, HB, HT⟩ := hrel
        by_cases hlt : bs < N
        · have hlti : (bs : Int) < (N : Int) := by omega
          obtain ⟨b2, hb2⟩ : ∃ b2, 2 * bs = b2 := ⟨_, rfl⟩
          have hb2i : 2 * (bs : Int) = (b2 : Int) := by omega
          have HB2 := Lib.hid hb2
          have hb3 : b2 ≤ 2 * bs := by omega
          have hb4 : 2 * bs ≤ b2 := by omega
          clear hb2
          go_wp2_with fail
          go_loopw [7, 8] (fun u v wr => ∃ (a b p : Nat) (dk : Array Ev), u = .int .i64 a ∧ v = .int .i64 b ∧ b ≤ a + b2 ∧ a + b2 ≤ b ∧ a ≤ N ∧ Hid (a = p * (2 * bs)) ∧ Hid (dk.size = N) ∧ Hid (SW W g dk wr) ∧ Hid (BlkTo (2 * bs) N p dk) ∧ Hid (BlkFrom bs N (2 * p) dk) ∧ Hid (Stab d.toList dk.toList)) (fun u _ _ => N - (intOf u).toNat)
          case atStart => exact ⟨0, b2, 0, dk, rfl, by trivial, by omega, by omega, Nat.zero_le _, Lib.hid (by rw [Nat.zero_mul]), HZ, HS, Lib.hid blk0, HB, HT⟩
          case round =>
            clear HZ HS HB HT
            obtain ⟨a, b, p, dk, rfl, rfl, hab1, hab2, haN, HQ, HZ, HS, HBT, HBF, HT⟩ := hrel
            by_cases hle : b ≤ N
            · have hlei : (b : Int) ≤ (N : Int) := by omega
              obtain ⟨m, hm⟩ : ∃ m, a + bs = m := ⟨_, rfl⟩
              have hmi : (a : Int) + (bs : Int) = (m : Int) := by omega
              have HC := Lib.hid (sym_at (cap := cap) (a := a) (m := m) (b := b) HR.out (HZ.out.trans HN.out.symm) HS.out (by omega) (by omega) (by have := HZ.out; omega) (by have := HZ.out; omega)
                (by have h := blk2_in1 HBF.out (by rw [← HQ.out]; omega); rw [← HQ.out, hm] at h; exact h)
                (by have h := blk2_in2 HBF.out; rw [← HQ.out, hm, show min (a + 2 * bs) N = b by omega] at h; exact h))
              rw [HZ.out] at HC
              clear hm
              go_wp2_with fail
              refine HC.out.mono ?_
              rintro en w' ⟨rfl, d3, hm3, hs⟩
              have HS3 := Lib.hid hs
              have HZ3 := Lib.hid (hm3.size.trans HZ.out)
              have HT3 := Lib.hid (HT.out.trans hm3.stab)
              have HB3 := Lib.hid (show BlkTo (2 * bs) N (p + 1) d3 ∧ BlkFrom bs N (2 * (p + 1)) d3 by
                rw [show b = a + 2 * bs by omega, HQ.out] at hm3
                exact blk2_step HBT.out HBF.out hm3)
              have HQ3 := Lib.hid (show b = (p + 1) * (2 * bs) by rw [sm, ← HQ.out]; omega)
              clear hs hm3 HC HS HZ HT HBT HBF
              go_wp2_with fail
              go_roundw
              case rel => exact ⟨b, b + b2, p + 1, d3, by trivial, by go_num, Nat.le_refl _, Nat.le_refl _, by omega, HQ3, HZ3, HS3, Lib.hid HB3.out.1, Lib.hid HB3.out.2, HT3⟩
              case measure => simp [intOf]; omega
            · have hlei : ¬ (b : Int) ≤ (N : Int) := by omega
              obtain ⟨m, hm⟩ : ∃ m, a + bs = m := ⟨_, rfl⟩
              have hmi : (a : Int) + (bs : Int) = (m : Int) := by omega
              by_cases hmN : m < N
              · have hmNi : (m : Int) < (N : Int) := by omega
                have HC := Lib.hid (sym_at (cap := cap) (a := a) (m := m) (b := N) HR.out (HZ.out.trans HN.out.symm) HS.out (by omega) (by omega) (by have := HZ.out; omega) (by have := HZ.out; omega)
                  (by have h := blk2_in1 HBF.out (by rw [← HQ.out]; omega); rw [← HQ.out, hm] at h; exact h)
                  (by have h := blk2_in2 HBF.out; rw [← HQ.out, hm, show min (a + 2 * bs) N = N by omega] at h; exact h))
                rw [HZ.out] at HC
                clear hm
                go_wp2_with fail
                refine HC.out.mono ?_
                rintro en w' ⟨rfl, d3, hm3, hs⟩
                have HS3 := Lib.hid hs
                have HZ3 := Lib.hid (hm3.size.trans HZ.out)
                have HT3 := Lib.hid (HT.out.trans hm3.stab)
                have HB3 := Lib.hid (show BlkFrom b2 N 0 d3 by
                  rw [HQ.out] at hm3
                  rw [← HB2.out]
                  exact blk2_end HBT.out hm3 (by rw [← HQ.out]; omega))
                clear hs hm3 HC HS HZ HT HBT HBF
                have hbb : (bs : Int) * 2 = (b2 : Int) := by omega
                go_wp2_with fail
                go_roundw
                case rel => exact ⟨b2, d3, by trivial, by omega, by omega, HZ3, HS3, HB3, HT3⟩
                case measure => simp [intOf]; omega
              · have hmNi : ¬ (m : Int) < (N : Int) := by omega
                have HB3 := Lib.hid (show BlkFrom b2 N 0 dk by
                  rw [← HB2.out]
                  exact blk2_none HBT.out HBF.out (by rw [← HQ.out]; omega))
                have hbb : (bs : Int) * 2 = (b2 : Int) := by omega
                clear hm HBT HBF
                go_wp2_with fail
                go_roundw
                case rel => exact ⟨b2, dk, by trivial, by omega, by omega, HZ, HS, HB3, HT⟩
                case measure => simp [intOf]; omega
        · have hlti : ¬ (bs : Int) < (N : Int) := by omega
          have HPP := Lib.hid (show PO (.returned (.tuple #[])) wr by
            rw [← HPO.out]
            exact ⟨rfl, dk, HZ.out.trans HN.out.symm, HT.out, srt_all (by rw [HZ.out]; exact blk_all HB.out (by omega)), HS.out⟩)
          go_wp2_with fail
          go_end0
          exact HPP.out
set_option maxRecDepth 100000 in
set_option maxHeartbeats 1600000 in
theorem ins_none (W : World) : Calls Tryd.prog 84 #[.slice none 0 0, .int .i64 0, .int .i64 0, cmpF] W fun e w' => e = .returned (.tuple #[]) ∧ w' = W := by
  go_enter Tryd.func84, Tryd.ntmps84
  go_wp2
  refine wp_loop_rounds 1 ?_
  rw [rounds_succ]
  go_wp2_with fail
  go_end0
  exact ⟨rfl, rfl⟩
set_option maxRecDepth 100000 in
set_option maxHeartbeats 1600000 in
theorem stable_none (W : World) : Calls Tryd.prog 63 #[.slice none 0 0, .int .i64 0, cmpF] W fun e w' => e = .returned (.tuple #[]) ∧ w' = W := by
  have HI := Lib.hid (ins_none W)
  go_enter Tryd.func63, Tryd.ntmps63
  go_wp2
  refine wp_loop_rounds 1 ?_
  rw [rounds_succ]
  go_wp2_with fail
  refine HI.out.mono ?_
  rintro e w' ⟨rfl, rfl⟩
  go_wp2_with fail
  refine wp_loop_rounds 1 ?_
  rw [rounds_succ]
  go_wp2_with fail
  go_end0
  exact ⟨rfl, rfl⟩
set_option maxRecDepth 100000 in
set_option maxHeartbeats 1600000 in
/-- slices.SortStableFunc: a row of the call's own, in order. -/
theorem sstable_big (l : List Ev) (v : Value) (base : Nat) (W : World) (h : W.ownsRow base 37 4 v l.length (cellsOf encE l)) (hn : l.length ≤ 1000000) :
    Calls Tryd.prog 32 #[v, cmpF] W fun e w' => e = .returned (.tuple #[]) ∧ ∃ ls, Stab l ls ∧ Srt ls ∧ w'.ownsRow base 37 4 v l.length (cellsOf encE ls) ∧ Below base W w' := by
  rcases h.2 with ⟨rfl, h0⟩ | ⟨g, cap, cur, rfl, _⟩
  · have HS := Lib.hid (stable_none W)
    have hl : l = [] := List.eq_nil_of_length_eq_zero h0
    subst hl
    have HP := Lib.hid (show ∃ ls : List Ev, Stab [] ls ∧ Srt ls ∧ W.ownsRow base 37 4 (.slice none 0 0) ([] : List Ev).length (cellsOf encE ls) ∧ Below base W W from ⟨[], Stab.refl _, srt_nil, World.ownsRow_nil _ _ _ _, Below.refl _ _⟩)
    clear h h0 hn
    go_enter Tryd.func32, Tryd.ntmps32
    go_wp2_with fail
    refine HS.out.mono ?_
    rintro e w' ⟨rfl, rfl⟩
    go_wp2_with fail
    go_end0
    exact ⟨rfl, HP.out⟩
  · have hlt : g < W.heap.size := (h.lt g rfl).2
    obtain ⟨n, hnl⟩ : ∃ n, l.length = n := ⟨_, rfl⟩
    have HS := Lib.hid (stable_big (W := W) (g := g) (cap := cap) (N := n) (d := l.toArray) ⟨encE_len, encE_one, holds_own h, hlt⟩ (by simpa using hnl) (by omega))
    have HO := Lib.hid h
    clear h
    rw [hnl] at HO hn ⊢
    have HNL := Lib.hid hnl
    clear hnl
    go_enter Tryd.func32, Tryd.ntmps32
    go_wp2_with fail
    refine HS.out.mono ?_
    rintro e w' ⟨rfl, d, h1, h2, h3, m, os, rfl⟩
    have HP := Lib.hid (show ∃ ls : List Ev, Stab l ls ∧ Srt ls ∧ (sortWorldK encE 4 W g 0 m d os).ownsRow base 37 4 (.slice (some ⟨g, 0, none⟩) n cap) n (cellsOf encE ls) ∧ Below base W (sortWorldK encE 4 W g 0 m d os) by
      obtain ⟨k1, k2⟩ := own_sorted (m := m) (os := os) (d := d) HO.out (by rw [h1]; simpa using HNL.out)
      exact ⟨d.toList, h2, h3, k1, k2⟩)
    clear h1 h2 h3
    generalize sortWorldK encE 4 W g 0 m d os = w2 at HP ⊢
    go_wp2_with fail
    go_end0
    exact ⟨rfl, HP.out⟩
set_option maxRecDepth 100000 in
set_option maxHeartbeats 1600000 in
/-- event.Sort. -/
theorem sort_big (A : Option Addr) (c : Nat) (l : List Ev) (W : World) (B : Nat) (h : Evs W B (.slice A l.length c) l) (hl : A = none ∨ ∃ b o, A = some ⟨b, o, none⟩) (hn : l.length ≤ 1000000) :
    Calls Tryd.prog 16 #[.slice A l.length c] W fun e w' => ∃ v' ls, e = .returned v' ∧ Stab l ls ∧ Srt ls ∧ w'.ownsRow W.heap.size 37 4 v' l.length (cellsOf encE ls) ∧ Below W.heap.size W w' := by
  have HC := Lib.hid (clone_at A c l W B h hl hn)
  have HN := Lib.hid hn
  clear h hl hn
  go_enter Tryd.func16, Tryd.ntmps16
  go_wp2_with fail
  refine HC.out.mono ?_
  rintro e w1 ⟨v', rfl, ho, hb⟩
  obtain ⟨A', c', rfl⟩ := (Sl.of_own ho).shape
  have HS := Lib.hid (sstable_big l _ W.heap.size w1 ho HN.out)
  have HB := Lib.hid hb
  clear ho hb
  go_wp2_with fail
  refine HS.out.mono ?_
  rintro e w2 ⟨rfl, ls, h1, h2, h3, h4⟩
  have HP := Lib.hid (show ∃ v' ls, Ending.returned (.slice A' l.length c') = .returned v' ∧ Stab l ls ∧ Srt ls ∧ w2.ownsRow W.heap.size 37 4 v' l.length (cellsOf encE ls) ∧ Below W.heap.size W w2 from ⟨_, ls, rfl, h1, h2, h3, HB.out.trans h4⟩)
  clear h1 h2 h3 h4
  go_wp2_with fail
  go_ret
  exact HP.out
end Go.Proofs.YtcojnojdgigmdaaDoor.ST
