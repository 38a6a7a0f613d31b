/- The walks of the document's reader: fail, next, take, word, number. -/
import Derived.Test.YtcfimponmioneaaWPat5
import Derived.Test.YtcfimponmioneaaPR19
namespace Go.Proofs.Ytcfimponmioneaa.WP
open Go.RowKit Go.Proofs.Ytcfimponmioneaa Go.Proofs.Ytcfimponmioneaa.PP

/-- The document's reader's block. -/
structure R9 (w : World) (R : Nat) (s : ByteArray) (st : S9) : Prop where
  blk : w.heap[R]? = some (.cells #[.string s, .int .i64 st.at, .int .i64 st.bad, .int .i64 st.pos] 90 (0, 0))
  le : st.at ≤ s.size
  ne : ∀ k er a, st = .inl (k, er, a) → er ≠ 0
theorem R9.drewN {w : World} {R : Nat} {s : ByteArray} {st : S9} (h : R9 w R s st) (n : Nat) : R9 (w.drewN n) R s st := ⟨h.blk, h.le, h.ne⟩
theorem R9.lt {w : World} {R : Nat} {s : ByteArray} {st : S9} (h : R9 w R s st) : R < w.heap.size := blk_lt h.blk
theorem R9.alloc {w : World} {R : Nat} {s : ByteArray} {st : S9} (h : R9 w R s st) (o : Obj) : R9 (w.alloc o) R s st := ⟨blk_alloc h.blk o, h.le, h.ne⟩
theorem R9.set {w : World} {R : Nat} {s : ByteArray} {st : S9} (h : R9 w R s st) (g i : Nat) (v : Value) (hg : R ≠ g) : R9 (w.setCell ⟨g, i, none⟩ v) R s st := ⟨blk_other h.blk g i v hg, h.le, h.ne⟩

theorem R9.moved {w : World} {R : Nat} {s : ByteArray} {a : Nat} (h : R9 w R s (.inr a)) (n a' : Nat) (ha : a' ≤ s.size) : R9 ((w.drewN n).setCell ⟨R, 1, none⟩ (.int .i64 a')) R s (.inr a') :=
  ⟨blk_set (w := w.drewN n) h.blk 1 (.int .i64 a'), ha, fun _ _ _ he => by cases he⟩
set_option maxRecDepth 100000 in
set_option maxHeartbeats 800000 in
theorem fail9_alive (R : Nat) (s : ByteArray) (a k : Nat) (er : Int) (w : World) (h : R9 w R s (.inr a)) (her : er ≠ 0) :
    Calls Try.prog 37 #[.pointer (some ⟨R, 0, none⟩), .int .i64 k, .int .i64 er] w fun e w' => e = .returned (.tuple #[]) ∧ R9 w' R s (.inl (k, er, a)) ∧ w.grownBy w' (some R) := by
  have H := Lib.hid h
  obtain ⟨c0, c1, c2, c3, c4, c5, c6, c7⟩ := cells4 h.blk
  simp only [S9.bad, S9.at, S9.pos] at c1 c2 c3
  clear h
  go_enter Try.func37, Try.ntmps37
  go_wp2
  go_end0
  refine ⟨rfl, ⟨blk_set (blk_set H.out.blk 2 (.int .i64 er)) 3 (.int .i64 k), H.out.le, fun k' er' a' he => by cases he; exact her⟩, grown_trans (grown_set0 _ _ _ _) (grown_set0 _ _ _ _)⟩

set_option maxRecDepth 100000 in
set_option maxHeartbeats 800000 in
theorem fail9_dead (R : Nat) (s : ByteArray) (k' : Nat) (er' : Int) (a : Nat) (p er : Value) (w : World) (h : R9 w R s (.inl (k', er', a))) :
    Calls Try.prog 37 #[.pointer (some ⟨R, 0, none⟩), p, er] w fun e w' => e = .returned (.tuple #[]) ∧ R9 w' R s (.inl (k', er', a)) ∧ w.grownBy w' (some R) := by
  have H := Lib.hid h
  obtain ⟨c0, c1, c2, c3, c4, c5, c6, c7⟩ := cells4 h.blk
  simp only [S9.bad, S9.at, S9.pos] at c1 c2 c3
  have hne : (er' == 0) = false := by rw [beq_eq_false_iff_ne]; exact h.ne _ _ _ rfl
  clear h
  go_enter Try.func37, Try.ntmps37
  go_wp2
  go_end0
  exact ⟨rfl, H.out, grown_drewN _ 0 _⟩

set_option maxRecDepth 100000 in
set_option maxHeartbeats 800000 in
theorem next9 (R : Nat) (s : ByteArray) (st : S9) (lo hi : Nat) (w : World) (h : R9 w R s st) (_hs : s.size ≤ 4096) :
    Calls Try.prog 33 #[.pointer (some ⟨R, 0, none⟩), .int .u8 lo, .int .u8 hi] w fun e w' => e = .returned (.bool (nextB s.data.toList st lo hi)) ∧ ∃ n, w' = w.drewN n := by
  rcases st with ⟨k, er, a⟩ | a
  · obtain ⟨c0, c1, c2, c3, c4, c5, c6, c7⟩ := cells4 h.blk
    have hne : (er == 0) = false := by rw [beq_eq_false_iff_ne]; exact h.ne _ _ _ rfl
    simp only [S9.bad, S9.at, S9.pos] at c1 c2 c3
    have hP : nextB s.data.toList (.inl (k, er, a)) lo hi = false := rfl
    have HP := Lib.hid hP
    clear hP h
    go_enter Try.func33, Try.ntmps33
    go_wp2
    go_quiet (fail)
    go_wp2
    go_ret
    exact ⟨by rw [HP.out]; rfl, _, rfl⟩
  · obtain ⟨c0, c1, c2, c3, c4, c5, c6, c7⟩ := cells4 h.blk
    have hle := h.le
    simp only [S9.bad, S9.at, S9.pos] at c1 c2 c3 hle
    clear h
    by_cases hlt : a < s.size
    · have hlt' : (a : Int) < (s.size : Int) := by omega
      have hai : (0 : Int) ≤ (a : Int) := by omega
      have hP : nextB s.data.toList (.inr a) lo hi = (decide (lo ≤ s[a].toNat) && decide (s[a].toNat ≤ hi)) := by show inB _ _ _ _ = _; unfold inB; rw [peek_some hlt]
      have HP := Lib.hid hP
      clear hP
      by_cases h1 : lo ≤ s[a].toNat
      · have h1' : (lo : Int) ≤ s[a].toNat := by omega
        by_cases h2 : s[a].toNat ≤ hi
        · have h2' : (s[a].toNat : Int) ≤ hi := by omega
          have HQ := Lib.hid h2
          rw [decide_eq_true h1, decide_eq_true h2] at HP
          clear h2 h1
          go_enter Try.func33, Try.ntmps33
          go_wp2
          go_quiet (fail)
          go_wp2
          go_ret
          exact ⟨by rw [HP.out]; rfl, _, rfl⟩
        · have h2' : (hi : Int) < s[a].toNat := by omega
          have h3' : decide (s[a].toNat ≤ hi) = false := by simpa using h2
          rw [decide_eq_true h1, h3'] at HP
          clear h1
          go_enter Try.func33, Try.ntmps33
          go_wp2
          go_quiet (fail)
          go_wp2
          go_ret
          exact ⟨by rw [HP.out]; rfl, _, rfl⟩
      · have h1' : (s[a].toNat : Int) < lo := by omega
        have h3' : decide (lo ≤ s[a].toNat) = false := by simpa using h1
        rw [h3'] at HP
        go_enter Try.func33, Try.ntmps33
        go_wp2
        go_quiet (fail)
        go_wp2
        go_ret
        exact ⟨by rw [HP.out]; rfl, _, rfl⟩
    · have hlt' : (s.size : Int) ≤ (a : Int) := by omega
      have hP : nextB s.data.toList (.inr a) lo hi = false := by show inB _ _ _ _ = _; unfold inB; rw [peek_end hlt]
      have HP := Lib.hid hP
      clear hP
      go_enter Try.func33, Try.ntmps33
      go_wp2
      go_quiet (fail)
      go_wp2
      go_ret
      exact ⟨by rw [HP.out]; rfl, _, rfl⟩

/-- What a step of the document's reader leaves. -/
def Post9 {α : Type} (R : Nat) (s : ByteArray) (val : α → Value) (w : World) (st : S9) (p : Nat → PR α) (e : Ending) (w' : World) : Prop :=
  ∃ (v : α) (st' : S9), e = .returned (val v) ∧ R9 w' R s st' ∧ w.grownBy w' (some R) ∧ Goes st p v st'

set_option maxRecDepth 100000 in
set_option maxHeartbeats 1600000 in
theorem take9 (R : Nat) (s : ByteArray) (st : S9) (lo hi : Nat) (w : World) (h : R9 w R s st) (hs : s.size ≤ 4096) :
    Calls Try.prog 34 #[.pointer (some ⟨R, 0, none⟩), .int .u8 lo, .int .u8 hi] w (Post9 R s (fun b : Nat => .int .u8 b) w st (fun a => pOne s.data.toList a lo hi)) := by
  have Hn := Lib.hid (next9 R s st lo hi w h hs)
  cases hb : nextB s.data.toList st lo hi with
  | true =>
    obtain ⟨a, rfl⟩ := nextB_alive hb
    obtain ⟨b, hb1, _, _, hb2⟩ := pOne_next hb
    rw [hb] at Hn
    have hlt : a < s.size := by
      by_cases hx : a < s.size
      · exact hx
      · rw [peek_end hx] at hb1; cases hb1
    have hbe : s[a].toNat = b.toNat := by rw [peek_some hlt] at hb1; cases hb1; rfl
    obtain ⟨c0, c1, c2, c3, c4, c5, c6, c7⟩ := cells4 h.blk
    simp only [S9.bad, S9.at, S9.pos] at c1 c2 c3
    have H := Lib.hid h
    have Hb2 := Lib.hid hb2
    have Hbe := Lib.hid hbe
    have hlt' : (a : Int) < (s.size : Int) := by omega
    have hai : (0 : Int) ≤ (a : Int) := by omega
    clear h hb2 hb hb1 hbe
    go_enter Try.func34, Try.ntmps34
    go_wp2_with fail
    refine Hn.out.mono ?_
    rintro e w1 ⟨rfl, n1, rfl⟩
    go_wp2_with fail
    go_quiet (fail)
    go_wp2
    go_ret
    refine ⟨b.toNat, .inr (a + 1), by rw [← Hbe.out]; rfl, (H.out.moved n1 (a + 1) (by omega)).drewN _, grown_trans (grown_set _ _ _ _ _) (grown_drewN _ _ _), ?_⟩
    simp only [Goes]
    rw [Hb2.out]
    exact ⟨rfl, rfl⟩
  | false =>
    rw [hb] at Hn
    have H := Lib.hid h
    obtain ⟨c0, c1, c2, c3, c4, c5, c6, c7⟩ := cells4 h.blk
    rcases st with ⟨k, er, a⟩ | a
    · simp only [S9.bad, S9.at, S9.pos] at c1 c2 c3
      clear h
      go_enter Try.func34, Try.ntmps34
      go_wp2_with fail
      refine Hn.out.mono ?_
      rintro e w1 ⟨rfl, n1, rfl⟩
      go_wp2_with fail
      refine (fail9_dead R s k er a _ _ _ (H.out.drewN n1)).mono ?_
      rintro e w2 ⟨rfl, hr2, hg2⟩
      go_wp2_with fail
      go_ret
      exact ⟨0, _, rfl, hr2, grown_trans (grown_drewN _ _ _) hg2, a, rfl⟩
    · simp only [S9.bad, S9.at, S9.pos] at c1 c2 c3
      have hb2 := Lib.hid (pOne_not hb)
      clear h
      go_enter Try.func34, Try.ntmps34
      go_wp2_with fail
      refine Hn.out.mono ?_
      rintro e w1 ⟨rfl, n1, rfl⟩
      go_wp2_with fail
      refine (fail9_alive R s a a 20 _ (H.out.drewN n1) (by decide)).mono ?_
      rintro e w2 ⟨rfl, hr2, hg2⟩
      go_wp2_with fail
      go_ret
      refine ⟨0, _, rfl, hr2, grown_trans (grown_drewN _ _ _) hg2, ?_⟩
      simp only [Goes]
      rw [hb2.out]
      exact ⟨a, rfl⟩

set_option maxRecDepth 100000 in
set_option maxHeartbeats 1600000 in
theorem word9 (R : Nat) (s : ByteArray) (st : S9) (wd : ByteArray) (w : World) (h : R9 w R s st) (hs : s.size ≤ 4096) (hwd : wd.size ≤ 4096) :
    Calls Try.prog 31 #[.pointer (some ⟨R, 0, none⟩), .string wd] w (Post9 R s (fun _ : Unit => .tuple #[]) w st (fun a => pWord s.data.toList wd.data.toList a)) := by
  have hwl : wd.data.toList.length = wd.size := Array.length_toList
  have Hwl := Lib.hid hwl
  have H := Lib.hid h
  clear hwl h
  go_enter Try.func31, Try.ntmps31
  go_wp2_with fail
  go_loopw [4] (fun i wr => ∃ (k : Nat) (sti : S9), k ≤ wd.size ∧ i = .int .i64 k ∧ R9 wr R s sti ∧ w.grownBy wr (some R) ∧ ∀ st' : S9, Goes sti (fun a => pWord s.data.toList (wd.data.toList.drop k) a) () st' → Goes st (fun a => pWord s.data.toList wd.data.toList a) () st') (fun i _ => wd.size - (intOf i).toNat)
  case atStart => exact ⟨0, st, by omega, rfl, H.out, grown_drewN w 0 _, fun _ h => h⟩
  case round =>
    obtain ⟨k, sti, hk, rfl, hrd, hg, he⟩ := hrel
    have Hr := Lib.hid hrd; have He := Lib.hid he
    clear hrd he
    by_cases hlt : k < wd.size
    · have hki : (k : Int) < (wd.size : Int) := by omega
      have hki0 : (0 : Int) ≤ (k : Int) := by omega
      have hwl' := Hwl.out
      have hdrop : wd.data.toList.drop k = wd[k] :: wd.data.toList.drop (k + 1) := by
        rw [List.drop_eq_getElem_cons (by rw [hwl']; exact hlt)]; rfl
      have ho := take9 R s sti wd[k].toNat wd[k].toNat wr.drew (Hr.out.drewN 1) hs
      have Ho := Lib.hid ho
      have Hd := Lib.hid hdrop
      clear ho hdrop hwl'
      go_wp2_with fail
      go_still_tail 7, (by kernel_rfl)
      go_wp2_with fail
      refine Ho.out.mono ?_
      clear Ho
      rintro e w1 ⟨v, st1, rfl, hr1, hg1, hgo⟩
      have Hr1 := Lib.hid hr1
      have hgo2 : ∀ st' : S9, Goes st1 (fun a => pWord s.data.toList (wd.data.toList.drop (k + 1)) a) () st' → Goes st (fun a => pWord s.data.toList wd.data.toList a) () st' := fun st' h' => He.out st' (by
        have h2 := hgo.bind (q := fun _ a' => pWord s.data.toList (wd.data.toList.drop (k + 1)) a') h'
        refine h2.eq fun a _ => ?_
        rw [Hd.out, pWord_bind])
      have He1 := Lib.hid hgo2
      clear hr1 hgo He Hd hgo2
      go_wp2_with fail
      go_roundw
      case rel => exact ⟨k + 1, st1, by omega, by go_num, Hr1.out, grown_trans (grown_trans hg (grown_drew wr _)) hg1, He1.out⟩
      case measure => simp [intOf]; omega
    · have hkk : k = wd.size := by omega
      subst hkk
      go_wp2_with fail
      go_end0
      refine ⟨(), sti, rfl, Hr.out, hg, He.out sti ?_⟩
      rw [List.drop_of_length_le (by rw [Hwl.out]; omega)]
      rcases sti with ⟨k, er, a⟩ | a
      · exact ⟨a, rfl⟩
      · exact ⟨rfl, rfl⟩

set_option maxRecDepth 100000 in
set_option maxHeartbeats 1600000 in
theorem number9 (R : Nat) (s : ByteArray) (st : S9) (least : Nat) (w : World) (h : R9 w R s st) (hs : s.size ≤ 4096) (hl : 48 ≤ least) :
    Calls Try.prog 36 #[.pointer (some ⟨R, 0, none⟩), .int .u8 least] w fun e w' => ∃ (v : Nat) (st' : S9), v < 1000000000 ∧ e = .returned (.int .i64 v) ∧ R9 w' R s st' ∧ w.grownBy w' (some R) ∧ Goes st (fun a => pNum s.data.toList a least) v st' := by
  have ho := take9 R s st least 57 w h hs
  have Ho := Lib.hid ho
  clear h ho
  go_enter Try.func36, Try.ntmps36
  go_wp2_with fail
  refine Ho.out.mono ?_
  clear Ho
  rintro e w1 ⟨v, st1, rfl, hr1, hg1, hgo⟩
  obtain ⟨c0, c1, c2, c3, c4, c5, c6, c7⟩ := cells4 hr1.blk
  rcases st1 with ⟨k, er, a⟩ | a1
  · simp only [S9.bad, S9.at, S9.pos] at c1 c2 c3
    have hne : (er == 0) = false := by rw [beq_eq_false_iff_ne]; exact hr1.ne _ _ _ rfl
    have hne' : (er != 0) = true := by rw [bne_iff_ne]; exact hr1.ne _ _ _ rfl
    have Hr1 := Lib.hid hr1; have Hgo := Lib.hid hgo
    clear hr1 hgo
    go_wp2_with fail
    go_ret
    exact ⟨0, _, by omega, rfl, Hr1.out, hg1, (Hgo.out.inl _).eq fun a _ => (pNum_bind _ _ _).symm⟩
  · simp only [S9.bad, S9.at, S9.pos] at c1 c2 c3
    obtain ⟨a, rfl, hone⟩ := hgo.inr
    have hc : 48 ≤ v ∧ v ≤ 57 := by
      unfold pOne at hone
      cases hx : s.data.toList[a]? with
      | none => rw [hx] at hone; simp at hone
      | some y =>
        rw [hx] at hone
        simp only at hone
        split at hone
        · simp only [Sum.inr.injEq, Prod.mk.injEq] at hone; omega
        · simp at hone
    have hnum : pNum s.data.toList a least = .inr (pDig s.data.toList 8 (v - 48) a1) := by rw [pNum_bind, hone]; rfl
    have Hr1 := Lib.hid hr1; have Hnum := Lib.hid hnum
    clear hr1 hgo hnum hone
    by_cases h48 : v = 48
    · subst h48
      go_wp2_with fail
      go_ret
      refine ⟨0, _, by omega, rfl, Hr1.out, hg1, ?_⟩
      simp only [Goes]
      rw [Hnum.out, pDig_stop _ _ _ _ (.inl rfl)]
      exact ⟨rfl, rfl⟩
    · have h48' : ((v : Int) == 48) = false := by rw [beq_eq_false_iff_ne]; omega
      obtain ⟨n, hn⟩ : ∃ n, n = v - 48 := ⟨_, rfl⟩
      have hn9 : n ≤ 9 := by omega
      have hn1 : 1 ≤ n := by omega
      have hcn : v = n + 48 := by omega
      rw [← hn] at Hnum
      clear hn hc h48
      have h48'' : ((n : Int) + 48 == 48) = false := by rw [beq_eq_false_iff_ne]; omega
      go_wp2_with fail
      go_loopw [6, 7] (fun nv i wr => ∃ m k b : Nat, nv = .int .i64 m ∧ i = .int .i64 k ∧ k ≤ 8 ∧ 1 ≤ m ∧ m < 10 ^ (k + 1) ∧ R9 wr R s (.inr b) ∧ w.grownBy wr (some R) ∧ pDig s.data.toList 8 n a1 = pDig s.data.toList (8 - k) m b) (fun _ i _ => 8 - (intOf i).toNat)
      case atStart => exact ⟨n, 0, a1, rfl, rfl, by omega, hn1, by omega, Hr1.out, hg1, rfl⟩
      case round =>
        obtain ⟨m, k, b, rfl, rfl, hk8, hm1, hm, hr2, hg2, he⟩ := hrel
        have Hr2 := Lib.hid hr2; have Hm := Lib.hid hm; have He := Lib.hid he
        clear hr2 hm he c0 c1 c2 c3 c4 c5 c6 c7
        have hmb : m < 1000000000 := Nat.lt_of_lt_of_le Hm.out (by
          have : 10 ^ (k + 1) ≤ 10 ^ 9 := Nat.pow_le_pow_right (by omega) (by omega)
          omega)
        by_cases hk : k < 8
        · have hk' : (k : Int) < 8 := by omega
          have Hn := Lib.hid (next9 R s (.inr b) 48 57 wr Hr2.out hs)
          have hib : nextB s.data.toList (.inr b) 48 57 = (decide (48 ≤ peekB s.data.toList b) && decide (peekB s.data.toList b ≤ 57)) := inB_peek (by omega)
          cases hnb : nextB s.data.toList (.inr b) 48 57 with
          | true =>
            rw [hnb] at Hn hib
            simp only [Bool.true_eq, Bool.and_eq_true, decide_eq_true_eq] at hib
            obtain ⟨c, hc1, hc2, hc3, hc4⟩ := pOne_next hnb
            have Ht := Lib.hid (fun n1 => take9 R s (.inr b) 48 57 (wr.drewN n1) (Hr2.out.drewN n1) hs)
            have hst := pDig_step s.data.toList (7 - k) m b c.toNat (by omega) (by rw [hc1]; rfl) ⟨hc2, hc3⟩
            rw [show 7 - k + 1 = 8 - k from by omega] at hst
            have Hst := Lib.hid hst; have Hc4 := Lib.hid hc4
            obtain ⟨d, hd⟩ : ∃ d, d = c.toNat - 48 := ⟨_, rfl⟩
            have hd9 : d ≤ 9 := by omega
            have hcd : c.toNat = d + 48 := by omega
            rw [← hd] at Hst
            rw [hcd] at Hc4
            clear hnb hc1 hc2 hc3 hc4 hst hib hd hcd
            go_wp2_with fail
            refine Hn.out.mono ?_
            rintro e w2 ⟨rfl, n2, rfl⟩
            go_wp2_with fail
            refine (Ht.out n2).mono ?_
            rintro e w3 ⟨v3, st3, rfl, hr3, hg3, hgo3⟩
            simp only [Goes] at hgo3
            rw [Hc4.out] at hgo3
            obtain ⟨rfl, rfl⟩ := hgo3
            have Hr3 := Lib.hid hr3
            clear hr3
            go_wp2_with fail
            go_roundw
            case rel => exact ⟨10 * m + d, k + 1, b + 1, by go_num, by go_num, by omega, by omega, by have := Hm.out; rw [Nat.pow_succ]; omega, Hr3.out, grown_trans (grown_trans hg2 (grown_drewN _ _ _)) hg3, by rw [He.out, Hst.out]; congr 1; omega⟩
            case measure => simp [intOf]; omega
          | false =>
            rw [hnb] at Hn hib
            have Hst := Lib.hid (pDig_stop s.data.toList (8 - k) m b (.inr (by
              rcases Nat.lt_or_ge (peekB s.data.toList b) 48 with h' | h'
              · exact .inl h'
              · refine .inr ?_
                rw [decide_eq_true h'] at hib
                simp at hib
                omega)))
            clear hnb hib
            go_wp2_with fail
            refine Hn.out.mono ?_
            rintro e w2 ⟨rfl, n2, rfl⟩
            go_wp2_with fail
            go_ret
            refine ⟨m, .inr b, hmb, rfl, Hr2.out.drewN _, grown_trans hg2 (grown_drewN _ _ _), ?_⟩
            simp only [Goes]
            rw [Hnum.out, He.out, Hst.out]
            exact ⟨rfl, rfl⟩
        · have hk' : k = 8 := by omega
          subst hk'
          go_wp2_with fail
          go_ret
          refine ⟨m, .inr b, hmb, rfl, Hr2.out, hg2, ?_⟩
          simp only [Goes]
          rw [Hnum.out, He.out]
          exact ⟨rfl, rfl⟩
end Go.Proofs.Ytcfimponmioneaa.WP
