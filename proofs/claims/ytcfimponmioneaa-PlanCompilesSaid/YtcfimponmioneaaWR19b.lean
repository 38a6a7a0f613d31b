/- The walks of the document's reader: op, signed. -/
import Derived.Test.YtcfimponmioneaaWR19a
namespace Go.Proofs.Ytcfimponmioneaa.WP
open Go.RowKit Go.Proofs.Ytcfimponmioneaa Go.Proofs.Ytcfimponmioneaa.PP

theorem pHas_at {l : List UInt8} {a b : Nat} (h : pHas l a b = true) : ∃ x : UInt8, l[a]? = some x ∧ x.toNat = b := by
  unfold pHas at h
  cases hx : l[a]? with
  | none => rw [hx] at h; cases h
  | some x => rw [hx] at h; exact ⟨x, rfl, by simpa using h⟩
theorem pHas_ne {l : List UInt8} {a b c : Nat} (h : pHas l a b = true) (hc : b ≠ c) : pHas l a c = false := by
  obtain ⟨x, hx, hb⟩ := pHas_at h
  unfold pHas
  rw [hx]
  simp only [beq_eq_false_iff_ne]
  omega
theorem pHas_one {l : List UInt8} {a b lo hi : Nat} (h : pHas l a b = true) (h1 : lo ≤ b) (h2 : b ≤ hi) : pOne l a lo hi = .inr (b, a + 1) := by
  obtain ⟨x, hx, rfl⟩ := pHas_at h
  unfold pOne
  rw [hx]
  simp only
  rw [if_pos ⟨h1, h2⟩]
theorem pHas_lt {s : ByteArray} {a b : Nat} (h : pHas s.data.toList a b = true) : a < s.size := by
  obtain ⟨x, hx, _⟩ := pHas_at h
  by_cases h' : a < s.size
  · exact h'
  · rw [peek_end h'] at hx; cases hx
theorem pWord_one (l : List UInt8) (a : Nat) (b : UInt8) : pWord l [b] a = (pOne l a b.toNat b.toNat).bind fun _ a' => .inr ((), a') := by rw [pWord_bind]; rfl
/-- 'next' of one byte. -/
theorem next9_has (R : Nat) (s : ByteArray) (a b : Nat) (w : World) (h : R9 w R s (.inr a)) (hs : s.size ≤ 4096) (x : Bool) (hx : pHas s.data.toList a b = x) :
    Calls Try.prog 33 #[.pointer (some ⟨R, 0, none⟩), .int .u8 b, .int .u8 b] w fun e w' => e = .returned (.bool x) ∧ ∃ n, w' = w.drewN n := by
  have := next9 R s (.inr a) b b w h hs
  rw [show nextB s.data.toList (.inr a) b b = x from inB_has.trans hx] at this
  exact this
theorem next9_dead (R : Nat) (s : ByteArray) (k : Nat) (er : Int) (a : Nat) (lo hi : Nat) (w : World) (h : R9 w R s (.inl (k, er, a))) (hs : s.size ≤ 4096) :
    Calls Try.prog 33 #[.pointer (some ⟨R, 0, none⟩), .int .u8 lo, .int .u8 hi] w fun e w' => e = .returned (.bool false) ∧ ∃ n, w' = w.drewN n :=
  next9 R s (.inl (k, er, a)) lo hi w h hs
/-- 'take' of a byte that is there. -/
theorem take9_has (R : Nat) (s : ByteArray) (a b lo hi : Nat) (w : World) (h : R9 w R s (.inr a)) (hs : s.size ≤ 4096) (hb : pHas s.data.toList a b = true) (h1 : lo ≤ b) (h2 : b ≤ hi) :
    Calls Try.prog 34 #[.pointer (some ⟨R, 0, none⟩), .int .u8 lo, .int .u8 hi] w fun e w' => e = .returned (.int .u8 b) ∧ R9 w' R s (.inr (a + 1)) ∧ w.grownBy w' (some R) := by
  refine (take9 R s (.inr a) lo hi w h hs).mono ?_
  rintro e w' ⟨v, st', rfl, hr, hg, hgo⟩
  simp only [Goes] at hgo
  rw [pHas_one hb h1 h2] at hgo
  obtain ⟨rfl, rfl⟩ := hgo
  exact ⟨rfl, hr, hg⟩

set_option maxRecDepth 100000 in
set_option maxHeartbeats 1600000 in
theorem op9 (R : Nat) (s : ByteArray) (st : S9) (w : World) (h : R9 w R s st) (hs : s.size ≤ 4096) :
    Calls Try.prog 50 #[.pointer (some ⟨R, 0, none⟩)] w (Post9 R s (fun x : Nat => .int .i64 x) w st (fun a => pOp s.data.toList a)) := by
  have H := Lib.hid h
  clear h
  rcases st with ⟨k, er, a⟩ | a
  · go_enter Try.func50, Try.ntmps50
    go_wp2_with fail
    refine (next9_dead R s k er a 60 60 _ H.out hs).mono ?_
    rintro e w1 ⟨rfl, n1, rfl⟩
    go_wp2_with fail
    refine (next9_dead R s k er a 62 62 _ (H.out.drewN _) hs).mono ?_
    rintro e w2 ⟨rfl, n2, rfl⟩
    go_wp2_with fail
    refine (next9_dead R s k er a 33 33 _ (H.out.drewN _) hs).mono ?_
    rintro e w3 ⟨rfl, n3, rfl⟩
    go_wp2_with fail
    refine (take9 R s _ 61 61 _ (H.out.drewN _) hs).mono ?_
    rintro e w4 ⟨v, st', rfl, hr, hg, hgo⟩
    go_wp2_with fail
    go_ret
    exact ⟨2, st', rfl, hr, grown_trans (grown_drewN _ _ _) hg, hgo⟩
  · cases h1 : pHas s.data.toList a 60 with
    | true =>
      have h2 := pHas_ne h1 (show 60 ≠ 62 by decide)
      have h3 := pHas_ne h1 (show 60 ≠ 33 by decide)
      have H1 := Lib.hid h1; have H2 := Lib.hid h2; have H3 := Lib.hid h3
      clear h1 h2 h3
      go_enter Try.func50, Try.ntmps50
      go_wp2_with fail
      refine (next9_has R s a 60 _ H.out hs true H1.out).mono ?_
      rintro e w1 ⟨rfl, n1, rfl⟩
      go_wp2_with fail
      refine (next9_has R s a 62 _ (H.out.drewN _) hs false H2.out).mono ?_
      rintro e w2 ⟨rfl, n2, rfl⟩
      go_wp2_with fail
      refine (next9_has R s a 33 _ (H.out.drewN _) hs false H3.out).mono ?_
      rintro e w3 ⟨rfl, n3, rfl⟩
      go_wp2_with fail
      refine (take9_has R s a 60 60 62 _ (H.out.drewN _) hs H1.out (by decide) (by decide)).mono ?_
      rintro e w4 ⟨rfl, hr4, hg4⟩
      have Hr4 := Lib.hid hr4
      have hg5 := grown_trans (grown_drewN w _ (some R)) hg4
      clear hr4 hg4
      cases h4 : pHas s.data.toList (a + 1) 61 with
      | true =>
        have hp : pOp s.data.toList a = .inr (1, a + 2) := by unfold pOp; rw [if_pos H1.out, if_pos h4]
        have Hp := Lib.hid hp; have H4 := Lib.hid h4
        clear hp h4
        go_wp2_with fail
        refine (next9_has R s (a + 1) 61 _ Hr4.out hs true H4.out).mono ?_
        rintro e w5 ⟨rfl, n5, rfl⟩
        go_wp2_with fail
        refine (take9_has R s (a + 1) 61 61 61 _ (Hr4.out.drewN _) hs H4.out (by decide) (by decide)).mono ?_
        rintro e w6 ⟨rfl, hr6, hg6⟩
        go_wp2_with fail
        go_ret
        refine ⟨1, _, rfl, hr6, grown_trans (grown_trans hg5 (grown_drewN _ _ _)) hg6, ?_⟩
        simp only [Goes]
        rw [Hp.out]
        exact ⟨rfl, rfl⟩
      | false =>
        have hp : pOp s.data.toList a = .inr (0, a + 1) := by unfold pOp; rw [if_pos H1.out, h4]; rfl
        have Hp := Lib.hid hp; have H4 := Lib.hid h4
        clear hp h4
        go_wp2_with fail
        refine (next9_has R s (a + 1) 61 _ Hr4.out hs false H4.out).mono ?_
        rintro e w5 ⟨rfl, n5, rfl⟩
        go_wp2_with fail
        go_ret
        refine ⟨0, _, rfl, Hr4.out.drewN _, grown_trans hg5 (grown_drewN _ _ _), ?_⟩
        simp only [Goes]
        rw [Hp.out]
        exact ⟨rfl, rfl⟩
    | false =>
      cases h2 : pHas s.data.toList a 62 with
      | true =>
        have h3 := pHas_ne h2 (show 62 ≠ 33 by decide)
        have H1 := Lib.hid h1; have H2 := Lib.hid h2; have H3 := Lib.hid h3
        clear h1 h2 h3
        go_enter Try.func50, Try.ntmps50
        go_wp2_with fail
        refine (next9_has R s a 60 _ H.out hs false H1.out).mono ?_
        rintro e w1 ⟨rfl, n1, rfl⟩
        go_wp2_with fail
        refine (next9_has R s a 62 _ (H.out.drewN _) hs true H2.out).mono ?_
        rintro e w2 ⟨rfl, n2, rfl⟩
        go_wp2_with fail
        refine (next9_has R s a 33 _ (H.out.drewN _) hs false H3.out).mono ?_
        rintro e w3 ⟨rfl, n3, rfl⟩
        go_wp2_with fail
        refine (take9_has R s a 62 60 62 _ (H.out.drewN _) hs H2.out (by decide) (by decide)).mono ?_
        rintro e w4 ⟨rfl, hr4, hg4⟩
        have Hr4 := Lib.hid hr4
        have hg5 := grown_trans (grown_drewN w _ (some R)) hg4
        clear hr4 hg4
        cases h4 : pHas s.data.toList (a + 1) 61 with
        | true =>
          have hp : pOp s.data.toList a = .inr (4, a + 2) := by unfold pOp; rw [H1.out, H2.out, h4]; rfl
          have Hp := Lib.hid hp; have H4 := Lib.hid h4
          clear hp h4
          go_wp2_with fail
          refine (next9_has R s (a + 1) 61 _ Hr4.out hs true H4.out).mono ?_
          rintro e w5 ⟨rfl, n5, rfl⟩
          go_wp2_with fail
          refine (take9_has R s (a + 1) 61 61 61 _ (Hr4.out.drewN _) hs H4.out (by decide) (by decide)).mono ?_
          rintro e w6 ⟨rfl, hr6, hg6⟩
          go_wp2_with fail
          go_ret
          refine ⟨4, _, rfl, hr6, grown_trans (grown_trans hg5 (grown_drewN _ _ _)) hg6, ?_⟩
          simp only [Goes]
          rw [Hp.out]
          exact ⟨rfl, rfl⟩
        | false =>
          have hp : pOp s.data.toList a = .inr (5, a + 1) := by unfold pOp; rw [H1.out, H2.out, h4]; rfl
          have Hp := Lib.hid hp; have H4 := Lib.hid h4
          clear hp h4
          go_wp2_with fail
          refine (next9_has R s (a + 1) 61 _ Hr4.out hs false H4.out).mono ?_
          rintro e w5 ⟨rfl, n5, rfl⟩
          go_wp2_with fail
          go_ret
          refine ⟨5, _, rfl, Hr4.out.drewN _, grown_trans hg5 (grown_drewN _ _ _), ?_⟩
          simp only [Goes]
          rw [Hp.out]
          exact ⟨rfl, rfl⟩
      | false =>
        cases h3 : pHas s.data.toList a 33 with
        | true =>
          have hp : pOp s.data.toList a = (pWord s.data.toList [33, 61] a).bind fun _ a' => .inr (3, a') := by
            have e : pWord s.data.toList [33, 61] a = pWord s.data.toList [61] (a + 1) := by
              rw [pWord_bind, show pOne s.data.toList a (33 : UInt8).toNat (33 : UInt8).toNat = .inr (33, a + 1) from pHas_one h3 (by decide) (by decide)]
              rfl
            rw [e]
            unfold pOp
            rw [h1, h2, h3]
            simp only [Bool.false_eq_true, if_false, if_true]
            cases pWord s.data.toList [61] (a + 1) <;> rfl
          have H1 := Lib.hid h1; have H2 := Lib.hid h2; have H3 := Lib.hid h3; have Hp := Lib.hid hp
          clear h1 h2 h3 hp
          go_enter Try.func50, Try.ntmps50
          go_wp2_with fail
          refine (next9_has R s a 60 _ H.out hs false H1.out).mono ?_
          rintro e w1 ⟨rfl, n1, rfl⟩
          go_wp2_with fail
          refine (next9_has R s a 62 _ (H.out.drewN _) hs false H2.out).mono ?_
          rintro e w2 ⟨rfl, n2, rfl⟩
          go_wp2_with fail
          refine (next9_has R s a 33 _ (H.out.drewN _) hs true H3.out).mono ?_
          rintro e w3 ⟨rfl, n3, rfl⟩
          go_wp2_with fail
          refine (word9 R s _ ⟨#[33, 61]⟩ _ (H.out.drewN _) hs (by decide)).mono ?_
          rintro e w4 ⟨v, st', rfl, hr, hg, hgo⟩
          go_wp2_with fail
          go_ret
          refine ⟨3, st', rfl, hr, grown_trans (grown_drewN _ _ _) hg, ?_⟩
          refine (hgo.bind (q := fun _ a' => .inr (3, a')) ?_).alive Hp.out.symm
          rcases st' with ⟨k, er, a⟩ | a
          · exact ⟨a, rfl⟩
          · exact ⟨rfl, rfl⟩
        | false =>
          have hp : pOp s.data.toList a = (pOne s.data.toList a 61 61).bind fun _ a' => .inr (2, a') := by
            unfold pOp
            rw [h1, h2, h3]
            simp only [Bool.false_eq_true, if_false]
            rw [show pWord s.data.toList [61] a = (pOne s.data.toList a 61 61).bind fun _ a' => .inr ((), a') from pWord_one _ _ _]
            cases pOne s.data.toList a 61 61 <;> rfl
          have H1 := Lib.hid h1; have H2 := Lib.hid h2; have H3 := Lib.hid h3; have Hp := Lib.hid hp
          clear h1 h2 h3 hp
          go_enter Try.func50, Try.ntmps50
          go_wp2_with fail
          refine (next9_has R s a 60 _ H.out hs false H1.out).mono ?_
          rintro e w1 ⟨rfl, n1, rfl⟩
          go_wp2_with fail
          refine (next9_has R s a 62 _ (H.out.drewN _) hs false H2.out).mono ?_
          rintro e w2 ⟨rfl, n2, rfl⟩
          go_wp2_with fail
          refine (next9_has R s a 33 _ (H.out.drewN _) hs false H3.out).mono ?_
          rintro e w3 ⟨rfl, n3, rfl⟩
          go_wp2_with fail
          refine (take9 R s _ 61 61 _ (H.out.drewN _) hs).mono ?_
          rintro e w4 ⟨v, st', rfl, hr, hg, hgo⟩
          go_wp2_with fail
          go_ret
          refine ⟨2, st', rfl, hr, grown_trans (grown_drewN _ _ _) hg, ?_⟩
          refine (hgo.bind (q := fun _ a' => .inr (2, a')) ?_).alive Hp.out.symm
          rcases st' with ⟨k, er, a⟩ | a
          · exact ⟨a, rfl⟩
          · exact ⟨rfl, rfl⟩

set_option maxRecDepth 100000 in
set_option maxHeartbeats 1600000 in
theorem signed9_minus (R : Nat) (s : ByteArray) (a : Nat) (w : World) (h : R9 w R s (.inr a)) (hs : s.size ≤ 4096) (hb : pHas s.data.toList a 45 = true) :
    Calls Try.prog 51 #[.pointer (some ⟨R, 0, none⟩)] w fun e w' => ∃ (k : Nat) (st' : S9), e = .returned (.int .i64 (-(k : Int))) ∧ R9 w' R s st' ∧ w.grownBy w' (some R) ∧ Goes (.inr (a + 1)) (fun a => pNum s.data.toList a 49) k st' := by
  have H := Lib.hid h; have Hb := Lib.hid hb
  clear h hb
  go_enter Try.func51, Try.ntmps51
  go_wp2_with fail
  refine (next9_has R s a 45 _ H.out hs true Hb.out).mono ?_
  rintro e w1 ⟨rfl, n1, rfl⟩
  go_wp2_with fail
  refine (take9_has R s a 45 45 45 _ (H.out.drewN _) hs Hb.out (by decide) (by decide)).mono ?_
  rintro e w2 ⟨rfl, hr2, hg2⟩
  go_wp2_with fail
  refine (number9 R s _ 49 _ hr2 hs (by decide)).mono ?_
  rintro e w3 ⟨k, st', hk, rfl, hr3, hg3, hgo⟩
  have Hgo := Lib.hid hgo
  clear hgo
  go_wp2_with fail
  go_ret
  exact ⟨k, st', rfl, hr3, grown_trans (grown_trans (grown_drewN _ _ _) hg2) hg3, Hgo.out⟩

set_option maxRecDepth 100000 in
set_option maxHeartbeats 1600000 in
theorem signed9_plus (R : Nat) (s : ByteArray) (a : Nat) (w : World) (h : R9 w R s (.inr a)) (hs : s.size ≤ 4096) (hb : pHas s.data.toList a 43 = true) :
    Calls Try.prog 51 #[.pointer (some ⟨R, 0, none⟩)] w fun e w' => ∃ (k : Nat) (st' : S9), e = .returned (.int .i64 k) ∧ R9 w' R s st' ∧ w.grownBy w' (some R) ∧ Goes (.inr (a + 1)) (fun a => pNum s.data.toList a 49) k st' := by
  have H := Lib.hid h; have Hb := Lib.hid hb
  have Hc := Lib.hid (pHas_ne hb (show 43 ≠ 45 by decide))
  clear h hb
  go_enter Try.func51, Try.ntmps51
  go_wp2_with fail
  refine (next9_has R s a 45 _ H.out hs false Hc.out).mono ?_
  rintro e w1 ⟨rfl, n1, rfl⟩
  go_wp2_with fail
  refine (take9_has R s a 43 43 43 _ (H.out.drewN _) hs Hb.out (by decide) (by decide)).mono ?_
  rintro e w2 ⟨rfl, hr2, hg2⟩
  go_wp2_with fail
  refine (number9 R s _ 49 _ hr2 hs (by decide)).mono ?_
  rintro e w3 ⟨k, st', hk, rfl, hr3, hg3, hgo⟩
  have Hgo := Lib.hid hgo
  clear hgo
  go_wp2_with fail
  go_ret
  exact ⟨k, st', rfl, hr3, grown_trans (grown_trans (grown_drewN _ _ _) hg2) hg3, Hgo.out⟩
end Go.Proofs.Ytcfimponmioneaa.WP
