/- The walks of the pattern reader's has, number, op. -/
import Derived.Test.YtcfimponmioneaaDoorWPat
namespace Go.Proofs.YtcfimponmioneaaDoor.WP
open Go.RowKit Go.Proofs.YtcfimponmioneaaDoor Go.Proofs.YtcfimponmioneaaDoor.PP

theorem peek_q (R : Nat) (s : ByteArray) (a : Nat) (w : World) (h : Rd w R s a) (ha : a ≤ s.size) (hs : s.size ≤ 4096) (n : Nat) :
    Calls Tryd.prog 39 #[.pointer (some ⟨R, 0, none⟩)] (w.drewN n) fun e w'' => e = .returned (.int .u8 (peekB s.data.toList a)) ∧ ∃ m, w'' = w.drewN m :=
  Calls.quiet_of (peek_any R s a (w.drewN n) (h.drewN n) ha hs)

set_option maxRecDepth 100000 in
set_option maxHeartbeats 1600000 in
theorem has_any (R : Nat) (s : ByteArray) (a b : Nat) (w : World) (h : Rd w R s a) (ha : a ≤ s.size) (hs : s.size ≤ 4096) :
    Calls Tryd.prog 28 #[.pointer (some ⟨R, 0, none⟩), .int .u8 b] w fun e w' => Post R s (fun x : Bool => .bool x) w (pHasR s.data.toList a b) e w' := by
  obtain ⟨c0, c1, c2⟩ := h.cells
  have hpk := peek_q R s a w h ha hs
  have Hpk := Lib.hid hpk
  have Hrd := Lib.hid h
  clear hpk h
  by_cases hlt : a < s.size
  · have hend' : ((a : Int) == s.size) = false := by rw [beq_eq_false_iff_ne]; omega
    have hp1 : peekB s.data.toList a = s[a].toNat := by unfold peekB; rw [peek_some hlt]
    obtain ⟨c, hc⟩ : ∃ c, c = peekB s.data.toList a := ⟨_, rfl⟩
    have hone : pHasR s.data.toList a b = .inr (if c == b then (true, a + 1) else (false, a)) := by
      unfold pHasR pHas
      rw [peek_some hlt]
      simp only [hc, hp1]
    rw [hone]
    rw [← hc] at Hpk
    clear hc hp1 hone
    by_cases h1 : c = b
    · subst h1
      have d1 : ((c : Int) == (c : Int)) = true := by simp
      rw [if_pos (by simp)]
      go_enter Tryd.func28, Tryd.ntmps28
      go_wp2_with fail
      go_quiet (exact Hpk.out _)
      go_wp2_with fail
      go_ret
      exact ⟨rfl, Hrd.out.moved _ (a + 1), grown_set _ _ _ _ _, by omega⟩
    · have d1 : ((c : Int) == (b : Int)) = false := by rw [beq_eq_false_iff_ne]; omega
      rw [if_neg (by simpa using h1)]
      go_enter Tryd.func28, Tryd.ntmps28
      go_wp2_with fail
      go_quiet (exact Hpk.out _)
      go_wp2_with fail
      go_ret
      exact ⟨rfl, Hrd.out.drewN _, grown_drewN _ _ _, ha⟩
  · have hend : a = s.size := by omega
    have hend' : ((a : Int) == s.size) = true := by rw [beq_iff_eq]; omega
    have hone : pHasR s.data.toList a b = .inr (false, a) := by unfold pHasR pHas; rw [peek_end hlt]; rfl
    rw [hone]
    clear hone hend
    go_enter Tryd.func28, Tryd.ntmps28
    go_wp2_with fail
    go_quiet (exact Hpk.out _)
    go_wp2_with fail
    go_ret
    exact ⟨rfl, Hrd.out.drewN _, grown_drewN _ _ _, ha⟩

theorem has_yes (R : Nat) (s : ByteArray) (a b : Nat) (w : World) (h : Rd w R s a) (ha : a ≤ s.size) (hs : s.size ≤ 4096) (hb : pHas s.data.toList a b = true) :
    Calls Tryd.prog 28 #[.pointer (some ⟨R, 0, none⟩), .int .u8 b] w fun e w' => e = .returned (.bool true) ∧ Rd w' R s (a + 1) ∧ w.grownBy w' (some R) ∧ a + 1 ≤ s.size := by
  have := has_any R s a b w h ha hs
  have hp : pHasR s.data.toList a b = .inr (true, a + 1) := by unfold pHasR; rw [if_pos hb]
  rw [hp] at this
  exact this
theorem has_no (R : Nat) (s : ByteArray) (a b : Nat) (w : World) (h : Rd w R s a) (ha : a ≤ s.size) (hs : s.size ≤ 4096) (hb : pHas s.data.toList a b = false) :
    Calls Tryd.prog 28 #[.pointer (some ⟨R, 0, none⟩), .int .u8 b] w fun e w' => e = .returned (.bool false) ∧ Rd w' R s a ∧ w.grownBy w' (some R) ∧ a ≤ s.size := by
  have := has_any R s a b w h ha hs
  have hp : pHasR s.data.toList a b = .inr (false, a) := by unfold pHasR; rw [hb]; rfl
  rw [hp] at this
  exact this

set_option maxRecDepth 100000 in
set_option maxHeartbeats 1600000 in
theorem op_any (R : Nat) (s : ByteArray) (a : Nat) (w : World) (h : Rd w R s a) (ha : a ≤ s.size) (hs : s.size ≤ 4096) :
    Calls Tryd.prog 40 #[.pointer (some ⟨R, 0, none⟩)] w fun e w' => Post R s (fun x : Nat => .int .i64 x) w (pOp s.data.toList a) e w' := by
  have Hrd := Lib.hid h
  clear h
  cases h1 : pHas s.data.toList a 60 with
  | true =>
    cases h2 : pHas s.data.toList (a + 1) 61 with
    | true =>
      have hp : pOp s.data.toList a = .inr (1, a + 2) := by unfold pOp; rw [if_pos h1, if_pos h2]
      rw [hp]
      have H1 := Lib.hid h1; have H2 := Lib.hid h2
      clear hp h1 h2
      go_enter Tryd.func40, Tryd.ntmps40
      go_wp2_with fail
      refine (has_yes R s a 60 _ Hrd.out ha hs H1.out).mono ?_
      rintro e w1 ⟨rfl, hr1, hg1, hb1⟩
      have Hr1 := Lib.hid hr1
      clear hr1
      go_wp2_with fail
      refine (has_yes R s (a + 1) 61 _ Hr1.out hb1 hs H2.out).mono ?_
      rintro e w2 ⟨rfl, hr2, hg2, hb2⟩
      have Hr2 := Lib.hid hr2
      clear hr2
      go_wp2_with fail
      go_ret
      exact ⟨rfl, Hr2.out, grown_trans hg1 hg2, hb2⟩
    | false =>
      have hp : pOp s.data.toList a = .inr (0, a + 1) := by unfold pOp; rw [if_pos h1, h2]; rfl
      rw [hp]
      have H1 := Lib.hid h1; have H2 := Lib.hid h2
      clear hp h1 h2
      go_enter Tryd.func40, Tryd.ntmps40
      go_wp2_with fail
      refine (has_yes R s a 60 _ Hrd.out ha hs H1.out).mono ?_
      rintro e w1 ⟨rfl, hr1, hg1, hb1⟩
      have Hr1 := Lib.hid hr1
      clear hr1
      go_wp2_with fail
      refine (has_no R s (a + 1) 61 _ Hr1.out hb1 hs H2.out).mono ?_
      rintro e w2 ⟨rfl, hr2, hg2, hb2⟩
      have Hr2 := Lib.hid hr2
      clear hr2
      go_wp2_with fail
      go_ret
      exact ⟨rfl, Hr2.out, grown_trans hg1 hg2, hb2⟩
  | false =>
    cases h2 : pHas s.data.toList a 62 with
    | true =>
      cases h3 : pHas s.data.toList (a + 1) 61 with
      | true =>
        have hp : pOp s.data.toList a = .inr (4, a + 2) := by unfold pOp; rw [h1, h2, h3]; rfl
        rw [hp]
        have H1 := Lib.hid h1; have H2 := Lib.hid h2; have H3 := Lib.hid h3
        clear hp h1 h2 h3
        go_enter Tryd.func40, Tryd.ntmps40
        go_wp2_with fail
        refine (has_no R s a 60 _ Hrd.out ha hs H1.out).mono ?_
        rintro e w1 ⟨rfl, hr1, hg1, hb1⟩
        have Hr1 := Lib.hid hr1
        clear hr1
        go_wp2_with fail
        refine (has_yes R s a 62 _ Hr1.out hb1 hs H2.out).mono ?_
        rintro e w2 ⟨rfl, hr2, hg2, hb2⟩
        have Hr2 := Lib.hid hr2
        clear hr2
        go_wp2_with fail
        refine (has_yes R s (a + 1) 61 _ Hr2.out hb2 hs H3.out).mono ?_
        rintro e w3 ⟨rfl, hr3, hg3, hb3⟩
        have Hr3 := Lib.hid hr3
        clear hr3
        go_wp2_with fail
        go_ret
        exact ⟨rfl, Hr3.out, grown_trans (grown_trans hg1 hg2) hg3, hb3⟩
      | false =>
        have hp : pOp s.data.toList a = .inr (5, a + 1) := by unfold pOp; rw [h1, h2, h3]; rfl
        rw [hp]
        have H1 := Lib.hid h1; have H2 := Lib.hid h2; have H3 := Lib.hid h3
        clear hp h1 h2 h3
        go_enter Tryd.func40, Tryd.ntmps40
        go_wp2_with fail
        refine (has_no R s a 60 _ Hrd.out ha hs H1.out).mono ?_
        rintro e w1 ⟨rfl, hr1, hg1, hb1⟩
        have Hr1 := Lib.hid hr1
        clear hr1
        go_wp2_with fail
        refine (has_yes R s a 62 _ Hr1.out hb1 hs H2.out).mono ?_
        rintro e w2 ⟨rfl, hr2, hg2, hb2⟩
        have Hr2 := Lib.hid hr2
        clear hr2
        go_wp2_with fail
        refine (has_no R s (a + 1) 61 _ Hr2.out hb2 hs H3.out).mono ?_
        rintro e w3 ⟨rfl, hr3, hg3, hb3⟩
        have Hr3 := Lib.hid hr3
        clear hr3
        go_wp2_with fail
        go_ret
        exact ⟨rfl, Hr3.out, grown_trans (grown_trans hg1 hg2) hg3, hb3⟩
    | false =>
      cases h3 : pHas s.data.toList a 33 with
      | true =>
        have hp : pOp s.data.toList a = (match pWord s.data.toList [61] (a + 1) with
          | .inl f => .inl f
          | .inr (_, a') => .inr (3, a')) := by unfold pOp; rw [h1, h2, h3]; rfl
        have Hp := Lib.hid hp
        have H1 := Lib.hid h1; have H2 := Lib.hid h2; have H3 := Lib.hid h3
        clear hp h1 h2 h3
        go_enter Tryd.func40, Tryd.ntmps40
        go_wp2_with fail
        refine (has_no R s a 60 _ Hrd.out ha hs H1.out).mono ?_
        rintro e w1 ⟨rfl, hr1, hg1, hb1⟩
        have Hr1 := Lib.hid hr1
        clear hr1
        go_wp2_with fail
        refine (has_no R s a 62 _ Hr1.out hb1 hs H2.out).mono ?_
        rintro e w2 ⟨rfl, hr2, hg2, hb2⟩
        have Hr2 := Lib.hid hr2
        clear hr2
        go_wp2_with fail
        refine (has_yes R s a 33 _ Hr2.out hb2 hs H3.out).mono ?_
        rintro e w3 ⟨rfl, hr3, hg3, hb3⟩
        have Hr3 := Lib.hid hr3
        clear hr3
        go_wp2_with fail
        refine (word_any R s (a + 1) { data := #[61] } _ Hr3.out hb3 hs (by decide)).mono ?_
        rintro e w4 hpost
        have hp := Hp.out
        cases hone : pWord s.data.toList [61] (a + 1) with
        | inl f =>
          obtain ⟨fk, fe⟩ := f
          rw [show ({ data := #[61] } : ByteArray).data.toList = [61] from rfl, hone] at hpost
          rw [hone] at hp
          obtain ⟨rfl, hg4⟩ := hpost
          have Hp' := Lib.hid hp
          clear hp hone Hp
          go_wp2_with fail
          refine ⟨rfl, ?_⟩
          rw [Hp'.out]
          exact ⟨rfl, grown_trans (grown_trans (grown_trans hg1 hg2) hg3) hg4⟩
        | inr x =>
          obtain ⟨x, b'⟩ := x
          rw [show ({ data := #[61] } : ByteArray).data.toList = [61] from rfl, hone] at hpost
          rw [hone] at hp
          obtain ⟨rfl, hr4, hg4, hb4⟩ := hpost
          have Hp' := Lib.hid hp
          have Hr4 := Lib.hid hr4
          clear hp hone Hp hr4
          go_wp2_with fail
          go_ret
          rw [Hp'.out]
          exact ⟨rfl, Hr4.out, grown_trans (grown_trans (grown_trans hg1 hg2) hg3) hg4, hb4⟩
      | false =>
        have hp : pOp s.data.toList a = (match pWord s.data.toList [61] a with
          | .inl f => .inl f
          | .inr (_, a') => .inr (2, a')) := by unfold pOp; rw [h1, h2, h3]; rfl
        have Hp := Lib.hid hp
        have H1 := Lib.hid h1; have H2 := Lib.hid h2; have H3 := Lib.hid h3
        clear hp h1 h2 h3
        go_enter Tryd.func40, Tryd.ntmps40
        go_wp2_with fail
        refine (has_no R s a 60 _ Hrd.out ha hs H1.out).mono ?_
        rintro e w1 ⟨rfl, hr1, hg1, hb1⟩
        have Hr1 := Lib.hid hr1
        clear hr1
        go_wp2_with fail
        refine (has_no R s a 62 _ Hr1.out hb1 hs H2.out).mono ?_
        rintro e w2 ⟨rfl, hr2, hg2, hb2⟩
        have Hr2 := Lib.hid hr2
        clear hr2
        go_wp2_with fail
        refine (has_no R s a 33 _ Hr2.out hb2 hs H3.out).mono ?_
        rintro e w3 ⟨rfl, hr3, hg3, hb3⟩
        have Hr3 := Lib.hid hr3
        clear hr3
        go_wp2_with fail
        refine (word_any R s a { data := #[61] } _ Hr3.out hb3 hs (by decide)).mono ?_
        rintro e w4 hpost
        have hp := Hp.out
        cases hone : pWord s.data.toList [61] a with
        | inl f =>
          obtain ⟨fk, fe⟩ := f
          rw [show ({ data := #[61] } : ByteArray).data.toList = [61] from rfl, hone] at hpost
          rw [hone] at hp
          obtain ⟨rfl, hg4⟩ := hpost
          have Hp' := Lib.hid hp
          clear hp hone Hp
          go_wp2_with fail
          refine ⟨rfl, ?_⟩
          rw [Hp'.out]
          exact ⟨rfl, grown_trans (grown_trans (grown_trans hg1 hg2) hg3) hg4⟩
        | inr x =>
          obtain ⟨x, b'⟩ := x
          rw [show ({ data := #[61] } : ByteArray).data.toList = [61] from rfl, hone] at hpost
          rw [hone] at hp
          obtain ⟨rfl, hr4, hg4, hb4⟩ := hpost
          have Hp' := Lib.hid hp
          have Hr4 := Lib.hid hr4
          clear hp hone Hp hr4
          go_wp2_with fail
          go_ret
          rw [Hp'.out]
          exact ⟨rfl, Hr4.out, grown_trans (grown_trans (grown_trans hg1 hg2) hg3) hg4, hb4⟩

theorem pDig_step (l : List UInt8) (f n a c : Nat) (hn : 0 < n) (hc : l[a]?.map (·.toNat) = some c) (h : 48 ≤ c ∧ c ≤ 57) : pDig l (f + 1) n a = pDig l f (10 * n + (c - 48)) (a + 1) := by
  cases hx : l[a]? with
  | none => rw [hx] at hc; simp at hc
  | some b =>
    rw [hx] at hc
    simp only [Option.map_some, Option.some.injEq] at hc
    subst hc
    rw [pDig, if_pos hn, hx]
    simp only [h, and_self, if_true]
theorem pDig_stop (l : List UInt8) (f n a : Nat) (h : n = 0 ∨ (peekB l a < 48 ∨ 57 < peekB l a)) : pDig l f n a = (n, a) := by
  cases f with
  | zero => rfl
  | succ f =>
    rw [pDig]
    split
    · rename_i hn
      unfold peekB at h
      cases hx : l[a]? with
      | none => rfl
      | some b =>
        rw [hx] at h
        simp only at h ⊢
        rw [if_neg (by omega)]
    · rfl

set_option maxRecDepth 100000 in
set_option maxHeartbeats 1600000 in
theorem number_any (R : Nat) (s : ByteArray) (a least : Nat) (w : World) (h : Rd w R s a) (ha : a ≤ s.size) (hs : s.size ≤ 4096) (hl : 48 ≤ least) :
    Calls Tryd.prog 30 #[.pointer (some ⟨R, 0, none⟩), .int .u8 least] w fun e w' => Post R s (fun x : Nat => .int .i64 x) w (pNum s.data.toList a least) e w' := by
  have Hrd := Lib.hid h
  have ho := one_any R s a least 57 w h ha hs
  have Ho := Lib.hid ho
  clear h ho
  go_enter Tryd.func30, Tryd.ntmps30
  go_wp2_with fail
  refine Ho.out.mono ?_
  clear Ho
  rintro e w1 hpost
  cases hone : pOne s.data.toList a least 57 with
  | inl f =>
    obtain ⟨fk, fe⟩ := f
    rw [hone] at hpost
    obtain ⟨rfl, hg⟩ := hpost
    have hp : pNum s.data.toList a least = .inl (fk, fe) := by unfold pNum; rw [hone]
    have Hp := Lib.hid hp
    clear hp hone
    go_wp2_with fail
    refine ⟨rfl, ?_⟩
    rw [Hp.out]
    exact ⟨rfl, hg⟩
  | inr x =>
    obtain ⟨c, b0⟩ := x
    rw [hone] at hpost
    obtain ⟨rfl, hr1, hg1, hb1⟩ := hpost
    have hp : pNum s.data.toList a least = .inr (pDig s.data.toList 8 (c - 48) b0) := by unfold pNum; rw [hone]
    have hc : 48 ≤ c ∧ c ≤ 57 := by
      unfold pOne at hone
      cases hx : s.data.toList[a]? with
      | none => rw [hx] at hone; simp at hone
      | some y =>
        rw [hx] at hone
        simp only at hone
        split at hone
        · simp only [Sum.inr.injEq, Prod.mk.injEq] at hone; omega
        · simp at hone
    obtain ⟨n, hn⟩ : ∃ n, n = c - 48 := ⟨_, rfl⟩
    have hn9 : n ≤ 9 := by omega
    have hcn : c = n + 48 := by omega
    rw [← hn] at hp
    have Hr1 := Lib.hid hr1
    have Hp := Lib.hid hp
    clear hr1 hn hp hone hc
    subst hcn
    go_wp2_with fail
    go_loopw [5, 6] (fun nv i wr => ∃ m k b : Nat, nv = .int .i64 m ∧ i = .int .i64 k ∧ 1 ≤ k ∧ k ≤ 9 ∧ m < 10 ^ k ∧ b ≤ s.size ∧ Rd wr R s b ∧ w.grownBy wr (some R) ∧ pDig s.data.toList 8 n b0 = pDig s.data.toList (9 - k) m b) (fun _ i _ => 9 - (intOf i).toNat)
    case atStart => exact ⟨n, 1, b0, rfl, rfl, by omega, by omega, by omega, hb1, Hr1.out, hg1, rfl⟩
    case round =>
      obtain ⟨m, k, b, rfl, rfl, hk1, hk9, hm, hb, hr2, hg2, he⟩ := hrel
      have hpw : 10 ^ k ≤ 1000000000 := Nat.pow_le_pow_right (n := 10) (by omega) hk9
      have hm9 : m < 1000000000 := by omega
      have Hm := Lib.hid hm
      have Hr2 := Lib.hid hr2
      have hpk := peek_any R s b wr hr2 hb hs
      have Hpk := Lib.hid hpk
      have He := Lib.hid he
      clear hm hr2 hpk he hpw
      by_cases hm0 : m = 0
      · have hs := pDig_stop s.data.toList (9 - k) m b (Or.inl hm0)
        have Hs := Lib.hid hs
        have hmd : decide ((0 : Int) < (m : Int)) = false := by simp; omega
        clear hs
        go_wp2_with fail
        go_ret
        rw [Hp.out, He.out, Hs.out]
        exact ⟨rfl, Hr2.out, hg2, hb⟩
      have hm1 : (0 : Int) < (m : Int) := by omega
      by_cases hk8 : k = 9
      · subst hk8
        go_wp2_with fail
        go_ret
        rw [Hp.out, He.out]
        exact ⟨rfl, Hr2.out, hg2, hb⟩
      have hk8' : (k : Int) < 9 := by omega
      obtain ⟨c, hc⟩ : ∃ c, c = peekB s.data.toList b := ⟨_, rfl⟩
      have Hc := Lib.hid hc
      rw [← hc] at Hpk
      clear hc
      by_cases hlo : (c : Int) < 48
      · have hs := pDig_stop s.data.toList (9 - k) m b (Or.inr (Or.inl (by rw [← Hc.out]; omega)))
        have Hs := Lib.hid hs
        clear hs
        go_wp2_with fail
        refine Hpk.out.mono ?_
        rintro e w2 ⟨rfl, n2, rfl⟩
        go_wp2_with fail
        go_ret
        rw [Hp.out, He.out, Hs.out]
        exact ⟨rfl, Hr2.out.drewN _, grown_trans hg2 (grown_drewN _ _ _), hb⟩
      have hlo' : (48 : Int) ≤ (c : Int) := by omega
      have hpk2 := peek_q R s b wr Hr2.out hb hs
      rw [← Hc.out] at hpk2
      have Hpk2 := Lib.hid hpk2
      clear hpk2
      by_cases hhi : (57 : Int) < (c : Int)
      · have hs := pDig_stop s.data.toList (9 - k) m b (Or.inr (Or.inr (by rw [← Hc.out]; omega)))
        have Hs := Lib.hid hs
        have hhd : decide ((c : Int) ≤ 57) = false := by simp; omega
        clear hs
        go_wp2_with fail
        refine Hpk.out.mono ?_
        rintro e w2 ⟨rfl, n2, rfl⟩
        go_wp2_with fail
        refine (Hpk2.out n2).mono ?_
        rintro e w3 ⟨rfl, n3, rfl⟩
        go_wp2_with fail
        go_ret
        rw [Hp.out, He.out, Hs.out]
        exact ⟨rfl, Hr2.out.drewN _, grown_trans hg2 (grown_drewN _ _ _), hb⟩
      have hhi' : (c : Int) ≤ 57 := by omega
      have hbs : b < s.size := by
        by_cases hx : b < s.size
        · exact hx
        · have := Hc.out
          unfold peekB at this
          rw [peek_end hx] at this
          simp only at this
          omega
      have hx : s.data.toList[b]?.map (·.toNat) = some c := by
        rw [peek_some hbs]
        have := Hc.out
        unfold peekB at this
        rw [peek_some hbs] at this
        rw [this]; rfl
      have hst := pDig_step s.data.toList (8 - k) m b c (by omega) hx ⟨by omega, by omega⟩
      rw [show 8 - k + 1 = 9 - k from by omega] at hst
      have h1 : pOne s.data.toList b 48 57 = .inr (c, b + 1) := by
        unfold pOne
        rw [peek_some hbs] at hx ⊢
        simp only [Option.map_some, Option.some.injEq] at hx
        simp only [hx]
        rw [if_pos (by omega)]
      have h4 : ∀ w' : World, Rd w' R s b → Calls Tryd.prog 38 #[.pointer (some ⟨R, 0, none⟩), .int .u8 48, .int .u8 57] w' fun e w'' => Post R s (fun b : Nat => .int .u8 b) w' (pOne s.data.toList b 48 57) e w'' := fun w' h => one_any R s b 48 57 w' h hb hs
      have H4 := Lib.hid h4
      clear h4
      have Hst := Lib.hid hst
      have H1 := Lib.hid h1
      obtain ⟨d, hd⟩ : ∃ d, d = c - 48 := ⟨_, rfl⟩
      have hd9 : d ≤ 9 := by omega
      have hcd : c = d + 48 := by omega
      have Hcd := Lib.hid hcd
      rw [← hd] at Hst
      clear hst h1 hx hd
      clear hlo hhi hcd
      go_wp2_with fail
      refine Hpk.out.mono ?_
      rintro e w2 ⟨rfl, n2, rfl⟩
      go_wp2_with fail
      refine (Hpk2.out n2).mono ?_
      rintro e w3 ⟨rfl, n3, rfl⟩
      go_wp2_with fail
      refine (H4.out (wr.drewN n3) (Hr2.out.drewN _)).mono ?_
      rintro e w4 hpost
      rw [H1.out] at hpost
      obtain ⟨rfl, hr4, hg4, hb4⟩ := hpost
      have Hr4 := Lib.hid hr4
      clear hr4
      have hcd := Hcd.out
      clear Hcd
      subst hcd
      clear hlo' hhi'
      go_wp2_with fail
      go_roundw
      case rel => exact ⟨10 * m + d, k + 1, b + 1, by go_num, by go_num, by omega, by omega, by have := Hm.out; rw [Nat.pow_succ]; omega, hb4, Hr4.out, grown_trans (grown_trans hg2 (grown_drewN _ _ _)) hg4, by rw [He.out, Hst.out]; congr 1; omega⟩
      case measure => simp [intOf]; omega
end Go.Proofs.YtcfimponmioneaaDoor.WP
