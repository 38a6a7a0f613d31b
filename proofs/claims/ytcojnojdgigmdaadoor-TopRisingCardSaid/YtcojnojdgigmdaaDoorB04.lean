/- The walks of the pattern's reader, first part. -/
import Derived.Test.YtcojnojdgigmdaaDoorChecked
import Derived.Test.YtcojnojdgigmdaaDoorB01
import Derived.WalkKit
import Derived.Outline
import Derived.Lib.Hide
import Derived.WalkSpells
import Derived.WalkLawsBesides
import Derived.BigQuiet
import Derived.Deep.QuietTactic
import Derived.Lib.Builder
import Derived.StillTailTactics
import Derived.Handy
/- The walks of the pattern reader's small methods. -/
namespace Go.Proofs.YtcojnojdgigmdaaDoor.WP
open Go.RowKit Go.Proofs.YtcojnojdgigmdaaDoor Go.Proofs.YtcojnojdgigmdaaDoor.PP

/-- The panic of a fault. -/
def faultV (k er : Int) : List PanicEntry := [{ v := .iface 162 (.agg #[.int .i64 k, .int .i64 er]), recovered := false }]

set_option maxRecDepth 100000 in
theorem fail_any (p : Value) (k er : Int) (w : World) : Calls Tryd.prog 74 #[p, .int .i64 k, .int .i64 er] w fun e w' => e = .panicked (faultV k er) ∧ w = w' := by
  go_enter Tryd.func74, Tryd.ntmps74
  go_wp2
  exact ⟨rfl, rfl, rfl⟩

/-- The reader's block. -/
def Rd (w : World) (R : Nat) (s : ByteArray) (a : Nat) : Prop := w.heap[R]? = some (.cells #[.string s, .int .i64 a] 166 (0, 0))
theorem Rd.cells {w : World} {R : Nat} {s : ByteArray} {a : Nat} (h : Rd w R s a) : w.cell? ⟨R, 0, none⟩ = some (.string s) ∧ w.cell? ⟨R, 1, none⟩ = some (.int .i64 a) ∧ w.frozen? ⟨R, 1, none⟩ = false :=
  ⟨by rw [Lib.cell_of_heap h]; rfl, by rw [Lib.cell_of_heap h]; rfl, Lib.frozen_of_heap h 1⟩

theorem drewN_two (w : World) (a b : Nat) : (w.drewN a).drewN b = w.drewN (a + b) := by
  simp

set_option maxRecDepth 100000 in
set_option maxHeartbeats 800000 in
theorem peek_any (R : Nat) (s : ByteArray) (a : Nat) (w : World) (h : Rd w R s a) (ha : a ≤ s.size) (_hs : s.size ≤ 4096) :
    Calls Tryd.prog 106 #[.pointer (some ⟨R, 0, none⟩)] w fun e w' => e = .returned (.int .u8 (peekB s.data.toList a)) ∧ ∃ n, w' = w.drewN n := by
  obtain ⟨c0, c1, c2⟩ := h.cells
  by_cases hend : a = s.size
  · have hend' : ((a : Int) == s.size) = true := by rw [beq_iff_eq]; omega
    have hpk : peekB s.data.toList a = 0 := by unfold peekB; rw [List.getElem?_eq_none (by rw [Array.length_toList]; show s.size ≤ a; omega)]
    have Hpk := Lib.hid hpk
    clear hpk hend
    go_enter Tryd.func106, Tryd.ntmps106
    go_wp2
    go_quiet (fail)
    go_wp2
    go_ret
    exact ⟨by rw [Hpk.out]; rfl, _, rfl⟩
  · have hend' : ((a : Int) == s.size) = false := by rw [beq_eq_false_iff_ne]; omega
    have hlt : a < s.size := by omega
    have hpk : peekB s.data.toList a = s[a].toNat := by unfold peekB; rw [List.getElem?_eq_getElem (by rw [Array.length_toList]; exact hlt)]; rfl
    have Hpk := Lib.hid hpk
    clear hpk hend
    have hai : (a : Int) < (s.size : Int) := by omega
    go_enter Tryd.func106, Tryd.ntmps106
    go_wp2
    go_quiet (fail)
    go_wp2
    go_quiet (fail)
    go_wp2
    go_ret
    exact ⟨by rw [Hpk.out]; rfl, _, drewN_two w _ _⟩

/-- What a step of the reader leaves: the place moved, or a fault's panic; but for the reader's block all that was there is as it was. -/
def Post {α : Type} (R : Nat) (s : ByteArray) (val : α → Value) (w : World) (r : PR α) (e : Ending) (w' : World) : Prop :=
  match r with
  | .inl (k, er) => e = .panicked (faultV k er) ∧ w.grownBy w' (some R)
  | .inr (x, a') => e = .returned (val x) ∧ Rd w' R s a' ∧ w.grownBy w' (some R) ∧ a' ≤ s.size

theorem Rd.drewN {w : World} {R : Nat} {s : ByteArray} {a : Nat} (h : Rd w R s a) (n : Nat) : Rd (w.drewN n) R s a := h
theorem grown_drewN (w : World) (n : Nat) (row : Option Nat) : w.grownBy (w.drewN n) row := ⟨rfl, rfl, rfl, Nat.le_refl _, fun _ _ _ => rfl⟩
theorem grown_set (w : World) (n R i : Nat) (v : Value) : w.grownBy ((w.drewN n).setCell ⟨R, i, none⟩ v) (some R) :=
  ⟨rfl, rfl, rfl, by simp [World.setCell, World.drewN], fun k _ hk => Below.heap_setCell (w.drewN n) ⟨R, i, none⟩ v k (fun e => hk (by rw [e]))⟩
theorem Rd.moved {w : World} {R : Nat} {s : ByteArray} {a : Nat} (h : Rd w R s a) (n a' : Nat) : Rd ((w.drewN n).setCell ⟨R, 1, none⟩ (.int .i64 a')) R s a' := by
  have h' : w.heap[R]? = some (.cells #[.string s, .int .i64 a] 166 (0, 0)) := h
  unfold Rd
  simp [World.setCell, Array.getElem?_modify, h']

theorem peek_some {s : ByteArray} {a : Nat} (h : a < s.size) : s.data.toList[a]? = some s[a] := by rw [List.getElem?_eq_getElem (by rw [Array.length_toList]; exact h)]; rfl
theorem peek_end {s : ByteArray} {a : Nat} (h : ¬ a < s.size) : s.data.toList[a]? = none := by rw [List.getElem?_eq_none (by rw [Array.length_toList]; show s.size ≤ a; omega)]

set_option maxRecDepth 100000 in
set_option maxHeartbeats 1600000 in
theorem one_any (R : Nat) (s : ByteArray) (a : Nat) (lo hi : Nat) (w : World) (h : Rd w R s a) (ha : a ≤ s.size) (hs : s.size ≤ 4096) :
    Calls Tryd.prog 105 #[.pointer (some ⟨R, 0, none⟩), .int .u8 lo, .int .u8 hi] w fun e w' => Post R s (fun b : Nat => .int .u8 b) w (pOne s.data.toList a lo hi) e w' := by
  obtain ⟨c0, c1, c2⟩ := h.cells
  have hpk := peek_any R s a w h ha hs
  have Hpk := Lib.hid hpk
  have Hrd := Lib.hid h
  clear hpk h
  by_cases hlt : a < s.size
  · have hend' : ((a : Int) == s.size) = false := by rw [beq_eq_false_iff_ne]; omega
    have hp1 : peekB s.data.toList a = s[a].toNat := by unfold peekB; rw [peek_some hlt]
    obtain ⟨b, hb⟩ : ∃ b, b = peekB s.data.toList a := ⟨_, rfl⟩
    have hb8 : b ≤ 255 := by rw [hb, hp1]; have := s[a].toNat_lt; omega
    have hone : pOne s.data.toList a lo hi = if lo ≤ b ∧ b ≤ hi then .inr (b, a + 1) else .inl (a, 20) := by
      unfold pOne
      rw [peek_some hlt]
      simp only [hb, hp1]
    rw [hone]
    have Hb := Lib.hid hb
    rw [← hb] at Hpk
    clear hb hp1 hone Hb
    by_cases h1 : (b : Int) < lo
    · rw [if_neg (by omega)]
      go_enter Tryd.func105, Tryd.ntmps105
      go_wp2_with fail
      refine Hpk.out.mono ?_
      rintro e w1 ⟨rfl, n1, rfl⟩
      go_wp2_with fail
      go_quiet (fail)
      go_wp2_with fail
      refine (fail_any _ _ _ _).mono ?_
      rintro e w2 ⟨rfl, rfl⟩
      go_wp2_with fail
      exact ⟨rfl, rfl, grown_drewN _ _ _⟩
    by_cases h2 : (hi : Int) < b
    · rw [if_neg (by omega)]
      have d1 : decide (b < lo) = false := by simp; omega
      go_enter Tryd.func105, Tryd.ntmps105
      go_wp2_with fail
      refine Hpk.out.mono ?_
      rintro e w1 ⟨rfl, n1, rfl⟩
      go_wp2_with fail
      go_quiet (fail)
      go_wp2_with fail
      refine (fail_any _ _ _ _).mono ?_
      rintro e w2 ⟨rfl, rfl⟩
      go_wp2_with fail
      exact ⟨rfl, rfl, grown_drewN _ _ _⟩
    · rw [if_pos (by omega)]
      have d1 : decide (b < lo) = false := by simp; omega
      have d2 : decide (hi < b) = false := by simp; omega
      go_enter Tryd.func105, Tryd.ntmps105
      go_wp2_with fail
      refine Hpk.out.mono ?_
      rintro e w1 ⟨rfl, n1, rfl⟩
      go_wp2_with fail
      go_quiet (fail)
      go_wp2_with fail
      go_ret
      exact ⟨rfl, Hrd.out.moved _ (a + 1), grown_set _ _ _ _ _, by omega⟩
  · have hend : a = s.size := by omega
    have hend' : ((a : Int) == s.size) = true := by rw [beq_iff_eq]; omega
    have hone : pOne s.data.toList a lo hi = .inl (a, 20) := by unfold pOne; rw [peek_end hlt]
    rw [hone]
    clear hone hend
    go_enter Tryd.func105, Tryd.ntmps105
    go_wp2_with fail
    refine Hpk.out.mono ?_
    rintro e w1 ⟨rfl, n1, rfl⟩
    go_wp2_with fail
    go_quiet (fail)
    go_wp2_with fail
    refine (fail_any _ _ _ _).mono ?_
    rintro e w2 ⟨rfl, rfl⟩
    go_wp2_with fail
    exact ⟨rfl, rfl, grown_drewN _ _ _⟩

theorem Rd.grown {w w' : World} {R : Nat} {s : ByteArray} {a : Nat} (h : Rd w R s a) (hg : w.grownBy w' none) : Rd w' R s a := by
  have hlt : R < w.heap.size := by
    rcases Nat.lt_or_ge R w.heap.size with h' | h'
    · exact h'
    · unfold Rd at h; simp [Array.getElem?_eq_none h'] at h
  exact (hg.block R hlt (by simp)).trans h
theorem grown_trans {a b c : World} {row : Option Nat} (h : a.grownBy b row) (k : b.grownBy c row) : a.grownBy c row :=
  ⟨k.os.trans h.os, k.tape.trans h.tape, k.output.trans h.output, Nat.le_trans h.size k.size, fun i hi hr => (k.block i (by have := h.size; omega) hr).trans (h.block i hi hr)⟩

theorem grown_drew (w : World) (row : Option Nat) : w.grownBy w.drew row := ⟨rfl, rfl, rfl, Nat.le_refl _, fun _ _ _ => rfl⟩
theorem pWord_cons (l : List UInt8) (b : UInt8) (r : List UInt8) (a : Nat) : pWord l (b :: r) a = (match pOne l a b.toNat b.toNat with
    | .inl f => .inl f
    | .inr (_, a') => pWord l r a') := rfl

set_option maxRecDepth 100000 in
set_option maxHeartbeats 1600000 in
theorem word_any (R : Nat) (s : ByteArray) (a : Nat) (wd : ByteArray) (w : World) (h : Rd w R s a) (ha : a ≤ s.size) (hs : s.size ≤ 4096) (hwd : wd.size ≤ 4096) :
    Calls Tryd.prog 89 #[.pointer (some ⟨R, 0, none⟩), .string wd] w fun e w' => Post R s (fun _ : Unit => .tuple #[]) w (pWord s.data.toList wd.data.toList a) e w' := by
  have hwl : wd.data.toList.length = wd.size := Array.length_toList
  have Hwl := Lib.hid hwl
  have Hrd := Lib.hid h
  clear hwl h
  have hwl' := Hwl.out
  go_enter Tryd.func89, Tryd.ntmps89
  go_wp2_with fail
  go_loopw [7] (fun i wr => ∃ k b : Nat, k ≤ wd.size ∧ i = .int .i64 k ∧ b ≤ s.size ∧ Rd wr R s b ∧ w.grownBy wr (some R) ∧ pWord s.data.toList wd.data.toList a = pWord s.data.toList (wd.data.toList.drop k) b) (fun i _ => wd.size - (intOf i).toNat)
  case atStart => exact ⟨0, a, by omega, rfl, ha, Hrd.out, ⟨rfl, rfl, rfl, Nat.le_refl _, fun _ _ _ => rfl⟩, rfl⟩
  case round =>
    obtain ⟨k, b, hk, rfl, hbs, hrd, hg, he⟩ := hrel
    have Hr := Lib.hid hrd; have He := Lib.hid he
    clear hrd he
    by_cases hlt : k < wd.size
    · have hki : (k : Int) < (wd.size : Int) := by omega
      have hki0 : (0 : Int) ≤ (k : Int) := by omega
      have hdrop : wd.data.toList.drop k = wd[k] :: wd.data.toList.drop (k + 1) := by
        rw [List.drop_eq_getElem_cons (by rw [hwl']; exact hlt)]; rfl
      have ho := one_any R s b wd[k].toNat wd[k].toNat wr.drew Hr.out hbs hs
      have he' := He.out
      rw [hdrop, pWord_cons] at he'
      have Ho := Lib.hid ho
      have He' := Lib.hid he'
      clear ho he' hdrop
      go_wp2_with fail
      go_still_tail 7, (by kernel_rfl)
      go_wp2_with fail
      refine Ho.out.mono ?_
      clear Ho
      rintro e w1 hpost
      have he' := He'.out
      cases hone : pOne s.data.toList b wd[k].toNat wd[k].toNat with
      | inl f =>
        obtain ⟨fk, fe⟩ := f
        rw [hone] at hpost he'
        obtain ⟨rfl, hg1⟩ := hpost
        go_wp2_with fail
        refine ⟨rfl, ?_⟩
        rw [he']
        exact ⟨rfl, grown_trans (grown_trans hg (grown_drew wr _)) hg1⟩
      | inr x =>
        obtain ⟨x, b'⟩ := x
        rw [hone] at hpost he'
        obtain ⟨rfl, hr1, hg1, hb1⟩ := hpost
        have Hr1 := Lib.hid hr1
        have He1 := Lib.hid he'
        clear hr1 he' hone He' He
        go_wp2_with fail
        go_roundw
        case rel => exact ⟨k + 1, b', by omega, by go_num, hb1, Hr1.out, grown_trans (grown_trans hg (grown_drew wr _)) hg1, He1.out⟩
        case measure => simp [intOf]; omega
    · have hkk : k = wd.size := by omega
      subst hkk
      go_wp2_with fail
      go_end0
      have he' := He.out
      rw [List.drop_of_length_le (by rw [hwl']; omega)] at he'
      rw [he']
      exact ⟨rfl, Hr.out, hg, hbs⟩
end Go.Proofs.YtcojnojdgigmdaaDoor.WP
/- The walks of the pattern reader's has, number, op. -/
namespace Go.Proofs.YtcojnojdgigmdaaDoor.WP
open Go.RowKit Go.Proofs.YtcojnojdgigmdaaDoor Go.Proofs.YtcojnojdgigmdaaDoor.PP

theorem peek_q (R : Nat) (s : ByteArray) (a : Nat) (w : World) (h : Rd w R s a) (ha : a ≤ s.size) (hs : s.size ≤ 4096) (n : Nat) :
    Calls Tryd.prog 106 #[.pointer (some ⟨R, 0, none⟩)] (w.drewN n) fun e w'' => e = .returned (.int .u8 (peekB s.data.toList a)) ∧ ∃ m, w'' = w.drewN m :=
  Calls.quiet_of (peek_any R s a (w.drewN n) (h.drewN n) ha hs)

set_option maxRecDepth 100000 in
set_option maxHeartbeats 1600000 in
theorem has_any (R : Nat) (s : ByteArray) (a b : Nat) (w : World) (h : Rd w R s a) (ha : a ≤ s.size) (hs : s.size ≤ 4096) :
    Calls Tryd.prog 91 #[.pointer (some ⟨R, 0, none⟩), .int .u8 b] w fun e w' => Post R s (fun x : Bool => .bool x) w (pHasR s.data.toList a b) e w' := by
  obtain ⟨c0, c1, c2⟩ := h.cells
  have hpk := peek_q R s a w h ha hs
  have Hpk := Lib.hid hpk
  have Hrd := Lib.hid h
  clear hpk h
  by_cases hlt : a < s.size
  · have hend' : ((a : Int) == s.size) = false := by rw [beq_eq_false_iff_ne]; omega
    have hp1 : peekB s.data.toList a = s[a].toNat := by unfold peekB; rw [peek_some hlt]
    obtain ⟨c, hc⟩ : ∃ c, c = peekB s.data.toList a := ⟨_, rfl⟩
    have hone : pHasR s.data.toList a b = .inr (if c == b then (true, a + 1) else (false, a)) := by
      unfold pHasR pHas
      rw [peek_some hlt]
      simp only [hc, hp1]
    rw [hone]
    rw [← hc] at Hpk
    clear hc hp1 hone
    by_cases h1 : c = b
    · subst h1
      have d1 : ((c : Int) == (c : Int)) = true := by simp
      rw [if_pos (by simp)]
      go_enter Tryd.func91, Tryd.ntmps91
      go_wp2_with fail
      go_quiet (exact Hpk.out _)
      go_wp2_with fail
      go_ret
      exact ⟨rfl, Hrd.out.moved _ (a + 1), grown_set _ _ _ _ _, by omega⟩
    · have d1 : ((c : Int) == (b : Int)) = false := by rw [beq_eq_false_iff_ne]; omega
      rw [if_neg (by simpa using h1)]
      go_enter Tryd.func91, Tryd.ntmps91
      go_wp2_with fail
      go_quiet (exact Hpk.out _)
      go_wp2_with fail
      go_ret
      exact ⟨rfl, Hrd.out.drewN _, grown_drewN _ _ _, ha⟩
  · have hend : a = s.size := by omega
    have hend' : ((a : Int) == s.size) = true := by rw [beq_iff_eq]; omega
    have hone : pHasR s.data.toList a b = .inr (false, a) := by unfold pHasR pHas; rw [peek_end hlt]; rfl
    rw [hone]
    clear hone hend
    go_enter Tryd.func91, Tryd.ntmps91
    go_wp2_with fail
    go_quiet (exact Hpk.out _)
    go_wp2_with fail
    go_ret
    exact ⟨rfl, Hrd.out.drewN _, grown_drewN _ _ _, ha⟩

theorem has_yes (R : Nat) (s : ByteArray) (a b : Nat) (w : World) (h : Rd w R s a) (ha : a ≤ s.size) (hs : s.size ≤ 4096) (hb : pHas s.data.toList a b = true) :
    Calls Tryd.prog 91 #[.pointer (some ⟨R, 0, none⟩), .int .u8 b] w fun e w' => e = .returned (.bool true) ∧ Rd w' R s (a + 1) ∧ w.grownBy w' (some R) ∧ a + 1 ≤ s.size := by
  have := has_any R s a b w h ha hs
  have hp : pHasR s.data.toList a b = .inr (true, a + 1) := by unfold pHasR; rw [if_pos hb]
  rw [hp] at this
  exact this
theorem has_no (R : Nat) (s : ByteArray) (a b : Nat) (w : World) (h : Rd w R s a) (ha : a ≤ s.size) (hs : s.size ≤ 4096) (hb : pHas s.data.toList a b = false) :
    Calls Tryd.prog 91 #[.pointer (some ⟨R, 0, none⟩), .int .u8 b] w fun e w' => e = .returned (.bool false) ∧ Rd w' R s a ∧ w.grownBy w' (some R) ∧ a ≤ s.size := by
  have := has_any R s a b w h ha hs
  have hp : pHasR s.data.toList a b = .inr (false, a) := by unfold pHasR; rw [hb]; rfl
  rw [hp] at this
  exact this

set_option maxRecDepth 100000 in
set_option maxHeartbeats 1600000 in
theorem op_any (R : Nat) (s : ByteArray) (a : Nat) (w : World) (h : Rd w R s a) (ha : a ≤ s.size) (hs : s.size ≤ 4096) :
    Calls Tryd.prog 107 #[.pointer (some ⟨R, 0, none⟩)] w fun e w' => Post R s (fun x : Nat => .int .i64 x) w (pOp s.data.toList a) e w' := by
  have Hrd := Lib.hid h
  clear h
  cases h1 : pHas s.data.toList a 60 with
  | true =>
    cases h2 : pHas s.data.toList (a + 1) 61 with
    | true =>
      have hp : pOp s.data.toList a = .inr (1, a + 2) := by unfold pOp; rw [if_pos h1, if_pos h2]
      rw [hp]
      have H1 := Lib.hid h1; have H2 := Lib.hid h2
      clear hp h1 h2
      go_enter Tryd.func107, Tryd.ntmps107
      go_wp2_with fail
      refine (has_yes R s a 60 _ Hrd.out ha hs H1.out).mono ?_
      rintro e w1 ⟨rfl, hr1, hg1, hb1⟩
      have Hr1 := Lib.hid hr1
      clear hr1
      go_wp2_with fail
      refine (has_yes R s (a + 1) 61 _ Hr1.out hb1 hs H2.out).mono ?_
      rintro e w2 ⟨rfl, hr2, hg2, hb2⟩
      have Hr2 := Lib.hid hr2
      clear hr2
      go_wp2_with fail
      go_ret
      exact ⟨rfl, Hr2.out, grown_trans hg1 hg2, hb2⟩
    | false =>
      have hp : pOp s.data.toList a = .inr (0, a + 1) := by unfold pOp; rw [if_pos h1, h2]; rfl
      rw [hp]
      have H1 := Lib.hid h1; have H2 := Lib.hid h2
      clear hp h1 h2
      go_enter Tryd.func107, Tryd.ntmps107
      go_wp2_with fail
      refine (has_yes R s a 60 _ Hrd.out ha hs H1.out).mono ?_
      rintro e w1 ⟨rfl, hr1, hg1, hb1⟩
      have Hr1 := Lib.hid hr1
      clear hr1
      go_wp2_with fail
      refine (has_no R s (a + 1) 61 _ Hr1.out hb1 hs H2.out).mono ?_
      rintro e w2 ⟨rfl, hr2, hg2, hb2⟩
      have Hr2 := Lib.hid hr2
      clear hr2
      go_wp2_with fail
      go_ret
      exact ⟨rfl, Hr2.out, grown_trans hg1 hg2, hb2⟩
  | false =>
    cases h2 : pHas s.data.toList a 62 with
    | true =>
      cases h3 : pHas s.data.toList (a + 1) 61 with
      | true =>
        have hp : pOp s.data.toList a = .inr (4, a + 2) := by unfold pOp; rw [h1, h2, h3]; rfl
        rw [hp]
        have H1 := Lib.hid h1; have H2 := Lib.hid h2; have H3 := Lib.hid h3
        clear hp h1 h2 h3
        go_enter Tryd.func107, Tryd.ntmps107
        go_wp2_with fail
        refine (has_no R s a 60 _ Hrd.out ha hs H1.out).mono ?_
        rintro e w1 ⟨rfl, hr1, hg1, hb1⟩
        have Hr1 := Lib.hid hr1
        clear hr1
        go_wp2_with fail
        refine (has_yes R s a 62 _ Hr1.out hb1 hs H2.out).mono ?_
        rintro e w2 ⟨rfl, hr2, hg2, hb2⟩
        have Hr2 := Lib.hid hr2
        clear hr2
        go_wp2_with fail
        refine (has_yes R s (a + 1) 61 _ Hr2.out hb2 hs H3.out).mono ?_
        rintro e w3 ⟨rfl, hr3, hg3, hb3⟩
        have Hr3 := Lib.hid hr3
        clear hr3
        go_wp2_with fail
        go_ret
        exact ⟨rfl, Hr3.out, grown_trans (grown_trans hg1 hg2) hg3, hb3⟩
      | false =>
        have hp : pOp s.data.toList a = .inr (5, a + 1) := by unfold pOp; rw [h1, h2, h3]; rfl
        rw [hp]
        have H1 := Lib.hid h1; have H2 := Lib.hid h2; have H3 := Lib.hid h3
        clear hp h1 h2 h3
        go_enter Tryd.func107, Tryd.ntmps107
        go_wp2_with fail
        refine (has_no R s a 60 _ Hrd.out ha hs H1.out).mono ?_
        rintro e w1 ⟨rfl, hr1, hg1, hb1⟩
        have Hr1 := Lib.hid hr1
        clear hr1
        go_wp2_with fail
        refine (has_yes R s a 62 _ Hr1.out hb1 hs H2.out).mono ?_
        rintro e w2 ⟨rfl, hr2, hg2, hb2⟩
        have Hr2 := Lib.hid hr2
        clear hr2
        go_wp2_with fail
        refine (has_no R s (a + 1) 61 _ Hr2.out hb2 hs H3.out).mono ?_
        rintro e w3 ⟨rfl, hr3, hg3, hb3⟩
        have Hr3 := Lib.hid hr3
        clear hr3
        go_wp2_with fail
        go_ret
        exact ⟨rfl, Hr3.out, grown_trans (grown_trans hg1 hg2) hg3, hb3⟩
    | false =>
      cases h3 : pHas s.data.toList a 33 with
      | true =>
        have hp : pOp s.data.toList a = (match pWord s.data.toList [61] (a + 1) with
          | .inl f => .inl f
          | .inr (_, a') => .inr (3, a')) := by unfold pOp; rw [h1, h2, h3]; rfl
        have Hp := Lib.hid hp
        have H1 := Lib.hid h1; have H2 := Lib.hid h2; have H3 := Lib.hid h3
        clear hp h1 h2 h3
        go_enter Tryd.func107, Tryd.ntmps107
        go_wp2_with fail
        refine (has_no R s a 60 _ Hrd.out ha hs H1.out).mono ?_
        rintro e w1 ⟨rfl, hr1, hg1, hb1⟩
        have Hr1 := Lib.hid hr1
        clear hr1
        go_wp2_with fail
        refine (has_no R s a 62 _ Hr1.out hb1 hs H2.out).mono ?_
        rintro e w2 ⟨rfl, hr2, hg2, hb2⟩
        have Hr2 := Lib.hid hr2
        clear hr2
        go_wp2_with fail
        refine (has_yes R s a 33 _ Hr2.out hb2 hs H3.out).mono ?_
        rintro e w3 ⟨rfl, hr3, hg3, hb3⟩
        have Hr3 := Lib.hid hr3
        clear hr3
        go_wp2_with fail
        refine (word_any R s (a + 1) { data := #[61] } _ Hr3.out hb3 hs (by decide)).mono ?_
        rintro e w4 hpost
        have hp := Hp.out
        cases hone : pWord s.data.toList [61] (a + 1) with
        | inl f =>
          obtain ⟨fk, fe⟩ := f
          rw [show ({ data := #[61] } : ByteArray).data.toList = [61] from rfl, hone] at hpost
          rw [hone] at hp
          obtain ⟨rfl, hg4⟩ := hpost
          have Hp' := Lib.hid hp
          clear hp hone Hp
          go_wp2_with fail
          refine ⟨rfl, ?_⟩
          rw [Hp'.out]
          exact ⟨rfl, grown_trans (grown_trans (grown_trans hg1 hg2) hg3) hg4⟩
        | inr x =>
          obtain ⟨x, b'⟩ := x
          rw [show ({ data := #[61] } : ByteArray).data.toList = [61] from rfl, hone] at hpost
          rw [hone] at hp
          obtain ⟨rfl, hr4, hg4, hb4⟩ := hpost
          have Hp' := Lib.hid hp
          have Hr4 := Lib.hid hr4
          clear hp hone Hp hr4
          go_wp2_with fail
          go_ret
          rw [Hp'.out]
          exact ⟨rfl, Hr4.out, grown_trans (grown_trans (grown_trans hg1 hg2) hg3) hg4, hb4⟩
      | false =>
        have hp : pOp s.data.toList a = (match pWord s.data.toList [61] a with
          | .inl f => .inl f
          | .inr (_, a') => .inr (2, a')) := by unfold pOp; rw [h1, h2, h3]; rfl
        have Hp := Lib.hid hp
        have H1 := Lib.hid h1; have H2 := Lib.hid h2; have H3 := Lib.hid h3
        clear hp h1 h2 h3
        go_enter Tryd.func107, Tryd.ntmps107
        go_wp2_with fail
        refine (has_no R s a 60 _ Hrd.out ha hs H1.out).mono ?_
        rintro e w1 ⟨rfl, hr1, hg1, hb1⟩
        have Hr1 := Lib.hid hr1
        clear hr1
        go_wp2_with fail
        refine (has_no R s a 62 _ Hr1.out hb1 hs H2.out).mono ?_
        rintro e w2 ⟨rfl, hr2, hg2, hb2⟩
        have Hr2 := Lib.hid hr2
        clear hr2
        go_wp2_with fail
        refine (has_no R s a 33 _ Hr2.out hb2 hs H3.out).mono ?_
        rintro e w3 ⟨rfl, hr3, hg3, hb3⟩
        have Hr3 := Lib.hid hr3
        clear hr3
        go_wp2_with fail
        refine (word_any R s a { data := #[61] } _ Hr3.out hb3 hs (by decide)).mono ?_
        rintro e w4 hpost
        have hp := Hp.out
        cases hone : pWord s.data.toList [61] a with
        | inl f =>
          obtain ⟨fk, fe⟩ := f
          rw [show ({ data := #[61] } : ByteArray).data.toList = [61] from rfl, hone] at hpost
          rw [hone] at hp
          obtain ⟨rfl, hg4⟩ := hpost
          have Hp' := Lib.hid hp
          clear hp hone Hp
          go_wp2_with fail
          refine ⟨rfl, ?_⟩
          rw [Hp'.out]
          exact ⟨rfl, grown_trans (grown_trans (grown_trans hg1 hg2) hg3) hg4⟩
        | inr x =>
          obtain ⟨x, b'⟩ := x
          rw [show ({ data := #[61] } : ByteArray).data.toList = [61] from rfl, hone] at hpost
          rw [hone] at hp
          obtain ⟨rfl, hr4, hg4, hb4⟩ := hpost
          have Hp' := Lib.hid hp
          have Hr4 := Lib.hid hr4
          clear hp hone Hp hr4
          go_wp2_with fail
          go_ret
          rw [Hp'.out]
          exact ⟨rfl, Hr4.out, grown_trans (grown_trans (grown_trans hg1 hg2) hg3) hg4, hb4⟩

theorem pDig_step (l : List UInt8) (f n a c : Nat) (hn : 0 < n) (hc : l[a]?.map (·.toNat) = some c) (h : 48 ≤ c ∧ c ≤ 57) : pDig l (f + 1) n a = pDig l f (10 * n + (c - 48)) (a + 1) := by
  cases hx : l[a]? with
  | none => rw [hx] at hc; simp at hc
  | some b =>
    rw [hx] at hc
    simp only [Option.map_some, Option.some.injEq] at hc
    subst hc
    rw [pDig, if_pos hn, hx]
    simp only [h, and_self, if_true]
theorem pDig_stop (l : List UInt8) (f n a : Nat) (h : n = 0 ∨ (peekB l a < 48 ∨ 57 < peekB l a)) : pDig l f n a = (n, a) := by
  cases f with
  | zero => rfl
  | succ f =>
    rw [pDig]
    split
    · rename_i hn
      unfold peekB at h
      cases hx : l[a]? with
      | none => rfl
      | some b =>
        rw [hx] at h
        simp only at h ⊢
        rw [if_neg (by omega)]
    · rfl

set_option maxRecDepth 100000 in
set_option maxHeartbeats 1600000 in
theorem number_any (R : Nat) (s : ByteArray) (a least : Nat) (w : World) (h : Rd w R s a) (ha : a ≤ s.size) (hs : s.size ≤ 4096) (hl : 48 ≤ least) :
    Calls Tryd.prog 93 #[.pointer (some ⟨R, 0, none⟩), .int .u8 least] w fun e w' => Post R s (fun x : Nat => .int .i64 x) w (pNum s.data.toList a least) e w' := by
  have Hrd := Lib.hid h
  have ho := one_any R s a least 57 w h ha hs
  have Ho := Lib.hid ho
  clear h ho
  go_enter Tryd.func93, Tryd.ntmps93
  go_wp2_with fail
  refine Ho.out.mono ?_
  clear Ho
  rintro e w1 hpost
  cases hone : pOne s.data.toList a least 57 with
  | inl f =>
    obtain ⟨fk, fe⟩ := f
    rw [hone] at hpost
    obtain ⟨rfl, hg⟩ := hpost
    have hp : pNum s.data.toList a least = .inl (fk, fe) := by unfold pNum; rw [hone]
    have Hp := Lib.hid hp
    clear hp hone
    go_wp2_with fail
    refine ⟨rfl, ?_⟩
    rw [Hp.out]
    exact ⟨rfl, hg⟩
  | inr x =>
    obtain ⟨c, b0⟩ := x
    rw [hone] at hpost
    obtain ⟨rfl, hr1, hg1, hb1⟩ := hpost
    have hp : pNum s.data.toList a least = .inr (pDig s.data.toList 8 (c - 48) b0) := by unfold pNum; rw [hone]
    have hc : 48 ≤ c ∧ c ≤ 57 := by
      unfold pOne at hone
      cases hx : s.data.toList[a]? with
      | none => rw [hx] at hone; simp at hone
      | some y =>
        rw [hx] at hone
        simp only at hone
        split at hone
        · simp only [Sum.inr.injEq, Prod.mk.injEq] at hone; omega
        · simp at hone
    obtain ⟨n, hn⟩ : ∃ n, n = c - 48 := ⟨_, rfl⟩
    have hn9 : n ≤ 9 := by omega
    have hcn : c = n + 48 := by omega
    rw [← hn] at hp
    have Hr1 := Lib.hid hr1
    have Hp := Lib.hid hp
    clear hr1 hn hp hone hc
    subst hcn
    go_wp2_with fail
    go_loopw [5, 6] (fun nv i wr => ∃ m k b : Nat, nv = .int .i64 m ∧ i = .int .i64 k ∧ 1 ≤ k ∧ k ≤ 9 ∧ m < 10 ^ k ∧ b ≤ s.size ∧ Rd wr R s b ∧ w.grownBy wr (some R) ∧ pDig s.data.toList 8 n b0 = pDig s.data.toList (9 - k) m b) (fun _ i _ => 9 - (intOf i).toNat)
    case atStart => exact ⟨n, 1, b0, rfl, rfl, by omega, by omega, by omega, hb1, Hr1.out, hg1, rfl⟩
    case round =>
      obtain ⟨m, k, b, rfl, rfl, hk1, hk9, hm, hb, hr2, hg2, he⟩ := hrel
      have hpw : 10 ^ k ≤ 1000000000 := Nat.pow_le_pow_right (n := 10) (by omega) hk9
      have hm9 : m < 1000000000 := by omega
      have Hm := Lib.hid hm
      have Hr2 := Lib.hid hr2
      have hpk := peek_any R s b wr hr2 hb hs
      have Hpk := Lib.hid hpk
      have He := Lib.hid he
      clear hm hr2 hpk he hpw
      by_cases hm0 : m = 0
      · have hs := pDig_stop s.data.toList (9 - k) m b (Or.inl hm0)
        have Hs := Lib.hid hs
        have hmd : decide ((0 : Int) < (m : Int)) = false := by simp; omega
        clear hs
        go_wp2_with fail
        go_ret
        rw [Hp.out, He.out, Hs.out]
        exact ⟨rfl, Hr2.out, hg2, hb⟩
      have hm1 : (0 : Int) < (m : Int) := by omega
      by_cases hk8 : k = 9
      · subst hk8
        go_wp2_with fail
        go_ret
        rw [Hp.out, He.out]
        exact ⟨rfl, Hr2.out, hg2, hb⟩
      have hk8' : (k : Int) < 9 := by omega
      obtain ⟨c, hc⟩ : ∃ c, c = peekB s.data.toList b := ⟨_, rfl⟩
      have Hc := Lib.hid hc
      rw [← hc] at Hpk
      clear hc
      by_cases hlo : (c : Int) < 48
      · have hs := pDig_stop s.data.toList (9 - k) m b (Or.inr (Or.inl (by rw [← Hc.out]; omega)))
        have Hs := Lib.hid hs
        clear hs
        go_wp2_with fail
        refine Hpk.out.mono ?_
        rintro e w2 ⟨rfl, n2, rfl⟩
        go_wp2_with fail
        go_ret
        rw [Hp.out, He.out, Hs.out]
        exact ⟨rfl, Hr2.out.drewN _, grown_trans hg2 (grown_drewN _ _ _), hb⟩
      have hlo' : (48 : Int) ≤ (c : Int) := by omega
      have hpk2 := peek_q R s b wr Hr2.out hb hs
      rw [← Hc.out] at hpk2
      have Hpk2 := Lib.hid hpk2
      clear hpk2
      by_cases hhi : (57 : Int) < (c : Int)
      · have hs := pDig_stop s.data.toList (9 - k) m b (Or.inr (Or.inr (by rw [← Hc.out]; omega)))
        have Hs := Lib.hid hs
        have hhd : decide ((c : Int) ≤ 57) = false := by simp; omega
        clear hs
        go_wp2_with fail
        refine Hpk.out.mono ?_
        rintro e w2 ⟨rfl, n2, rfl⟩
        go_wp2_with fail
        refine (Hpk2.out n2).mono ?_
        rintro e w3 ⟨rfl, n3, rfl⟩
        go_wp2_with fail
        go_ret
        rw [Hp.out, He.out, Hs.out]
        exact ⟨rfl, Hr2.out.drewN _, grown_trans hg2 (grown_drewN _ _ _), hb⟩
      have hhi' : (c : Int) ≤ 57 := by omega
      have hbs : b < s.size := by
        by_cases hx : b < s.size
        · exact hx
        · have := Hc.out
          unfold peekB at this
          rw [peek_end hx] at this
          simp only at this
          omega
      have hx : s.data.toList[b]?.map (·.toNat) = some c := by
        rw [peek_some hbs]
        have := Hc.out
        unfold peekB at this
        rw [peek_some hbs] at this
        rw [this]; rfl
      have hst := pDig_step s.data.toList (8 - k) m b c (by omega) hx ⟨by omega, by omega⟩
      rw [show 8 - k + 1 = 9 - k from by omega] at hst
      have h1 : pOne s.data.toList b 48 57 = .inr (c, b + 1) := by
        unfold pOne
        rw [peek_some hbs] at hx ⊢
        simp only [Option.map_some, Option.some.injEq] at hx
        simp only [hx]
        rw [if_pos (by omega)]
      have h4 : ∀ w' : World, Rd w' R s b → Calls Tryd.prog 105 #[.pointer (some ⟨R, 0, none⟩), .int .u8 48, .int .u8 57] w' fun e w'' => Post R s (fun b : Nat => .int .u8 b) w' (pOne s.data.toList b 48 57) e w'' := fun w' h => one_any R s b 48 57 w' h hb hs
      have H4 := Lib.hid h4
      clear h4
      have Hst := Lib.hid hst
      have H1 := Lib.hid h1
      obtain ⟨d, hd⟩ : ∃ d, d = c - 48 := ⟨_, rfl⟩
      have hd9 : d ≤ 9 := by omega
      have hcd : c = d + 48 := by omega
      have Hcd := Lib.hid hcd
      rw [← hd] at Hst
      clear hst h1 hx hd
      clear hlo hhi hcd
      go_wp2_with fail
      refine Hpk.out.mono ?_
      rintro e w2 ⟨rfl, n2, rfl⟩
      go_wp2_with fail
      refine (Hpk2.out n2).mono ?_
      rintro e w3 ⟨rfl, n3, rfl⟩
      go_wp2_with fail
      refine (H4.out (wr.drewN n3) (Hr2.out.drewN _)).mono ?_
      rintro e w4 hpost
      rw [H1.out] at hpost
      obtain ⟨rfl, hr4, hg4, hb4⟩ := hpost
      have Hr4 := Lib.hid hr4
      clear hr4
      have hcd := Hcd.out
      clear Hcd
      subst hcd
      clear hlo' hhi'
      go_wp2_with fail
      go_roundw
      case rel => exact ⟨10 * m + d, k + 1, b + 1, by go_num, by go_num, by omega, by omega, by have := Hm.out; rw [Nat.pow_succ]; omega, hb4, Hr4.out, grown_trans (grown_trans hg2 (grown_drewN _ _ _)) hg4, by rw [He.out, Hst.out]; congr 1; omega⟩
      case measure => simp [intOf]; omega
end Go.Proofs.YtcojnojdgigmdaaDoor.WP
/- The walk of the pattern reader's cond. -/
namespace Go.Proofs.YtcojnojdgigmdaaDoor.WP
open Go.RowKit Go.Proofs.YtcojnojdgigmdaaDoor Go.Proofs.YtcojnojdgigmdaaDoor.PP

/-- A step's two ends, apart; every equation behind a seal. -/
theorem Post.split {α : Type} {R : Nat} {s : ByteArray} {val : α → Value} {w : World} {r : PR α} {e : Ending} {w' : World} (h : Post R s val w r e w') {Q : Prop}
    (hf : ∀ fk fe, Hid (r = .inl (fk, fe)) → e = .panicked (faultV fk fe) → w.grownBy w' (some R) → Q)
    (hv : ∀ v a', Hid (r = .inr (v, a')) → e = .returned (val v) → Hid (Rd w' R s a') → w.grownBy w' (some R) → a' ≤ s.size → Q) : Q := by
  match r, h with
  | .inl (k, er), h => exact hf k er (Lib.hid rfl) h.1 h.2
  | .inr (x, a'), h => exact hv x a' (Lib.hid rfl) h.1 (Lib.hid h.2.1) h.2.2.1 h.2.2.2

theorem Rd.lt {w : World} {R : Nat} {s : ByteArray} {a : Nat} (h : Rd w R s a) : R < w.heap.size := by
  rcases Nat.lt_or_ge R w.heap.size with h' | h'
  · exact h'
  · unfold Rd at h; simp [Array.getElem?_eq_none h'] at h
theorem Rd.alloc {w : World} {R : Nat} {s : ByteArray} {a : Nat} (h : Rd w R s a) (o : Obj) : Rd (w.alloc o) R s a := (Below.heap_alloc w o R h.lt).trans h
theorem Rd.set {w : World} {R : Nat} {s : ByteArray} {a : Nat} (h : Rd w R s a) (g i : Nat) (v : Value) (hg : R ≠ g) : Rd (w.setCell ⟨g, i, none⟩ v) R s a := (Below.heap_setCell w ⟨g, i, none⟩ v R hg).trans h
theorem grown_alloc (w : World) (o : Obj) (row : Option Nat) : w.grownBy (w.alloc o) row :=
  ⟨rfl, rfl, rfl, by show _ ≤ (w.heap.push o).size; simp, fun i hi _ => Below.heap_alloc w o i hi⟩
theorem grown_setNew {w w' : World} {row : Option Nat} (h : w.grownBy w' row) (g i : Nat) (v : Value) (hg : w.heap.size ≤ g) : w.grownBy (w'.setCell ⟨g, i, none⟩ v) row :=
  ⟨h.os, h.tape, h.output, by have := h.size; simpa [World.setCell] using this, fun k hk hr => (Below.heap_setCell w' ⟨g, i, none⟩ v k (by show k ≠ g; omega)).trans (h.block k hk hr)⟩
theorem blk_lt {w : World} {g : Nat} {o : Obj} (h : w.heap[g]? = some o) : g < w.heap.size := by
  rcases Nat.lt_or_ge g w.heap.size with h' | h'
  · exact h'
  · simp [Array.getElem?_eq_none h'] at h
theorem blk_alloc {w : World} {g : Nat} {o : Obj} (h : w.heap[g]? = some o) (o' : Obj) : (w.alloc o').heap[g]? = some o := (Below.heap_alloc w o' g (blk_lt h)).trans h
theorem blk_new (w : World) (o : Obj) : (w.alloc o).heap[w.heap.size]? = some o := heap_alloc_new w o
theorem blk_grown {w w' : World} {g R : Nat} {o : Obj} (h : w.heap[g]? = some o) (hg : w.grownBy w' (some R)) (hne : R ≠ g) : w'.heap[g]? = some o := (hg.block g (blk_lt h) (by simpa using Ne.symm hne)).trans h
theorem blk_other {w : World} {g : Nat} {o : Obj} (h : w.heap[g]? = some o) (g' i : Nat) (v : Value) (hne : g ≠ g') : (w.setCell ⟨g', i, none⟩ v).heap[g]? = some o := (Below.heap_setCell w ⟨g', i, none⟩ v g hne).trans h
theorem blk_set {w : World} {g : Nat} {cs : Array Value} {t : TypeId} (h : w.heap[g]? = some (.cells cs t (0, 0))) (i : Nat) (v : Value) : (w.setCell ⟨g, i, none⟩ v).heap[g]? = some (.cells (cs.setIfInBounds i v) t (0, 0)) := by
  simp [World.setCell, Array.getElem?_modify, h]

theorem cells4 {w : World} {g : Nat} {t : TypeId} {c0 c1 c2 c3 : Value} (h : w.heap[g]? = some (.cells #[c0, c1, c2, c3] t (0, 0))) :
    w.cell? ⟨g, 0, none⟩ = some c0 ∧ w.cell? ⟨g, 1, none⟩ = some c1 ∧ w.cell? ⟨g, 2, none⟩ = some c2 ∧ w.cell? ⟨g, 3, none⟩ = some c3 ∧ w.frozen? ⟨g, 0, none⟩ = false ∧ w.frozen? ⟨g, 1, none⟩ = false ∧ w.frozen? ⟨g, 2, none⟩ = false ∧ w.frozen? ⟨g, 3, none⟩ = false :=
  ⟨by rw [Lib.cell_of_heap h]; rfl, by rw [Lib.cell_of_heap h]; rfl, by rw [Lib.cell_of_heap h]; rfl, by rw [Lib.cell_of_heap h]; rfl, Lib.frozen_of_heap h 0, Lib.frozen_of_heap h 1, Lib.frozen_of_heap h 2, Lib.frozen_of_heap h 3⟩

theorem pDig_bound (l : List UInt8) : ∀ f n a : Nat, (pDig l f n a).1 < 10 ^ f * (n + 1)
  | 0, n, a => by simp [pDig]
  | f + 1, n, a => by
    have h10 : 10 ^ f * (n + 1) ≤ 10 ^ (f + 1) * (n + 1) := Nat.mul_le_mul_right _ (Nat.pow_le_pow_right (by omega) (by omega))
    have hn : n < 10 ^ (f + 1) * (n + 1) := Nat.lt_of_lt_of_le (Nat.lt_succ_self n) (Nat.le_mul_of_pos_left _ (Nat.pow_pos (by omega)))
    rw [pDig]
    split
    · split
      · rename_i b _
        split
        · rename_i hb
          have := pDig_bound l f (10 * n + (b.toNat - 48)) (a + 1)
          refine Nat.lt_of_lt_of_le this ?_
          rw [Nat.pow_succ, Nat.mul_assoc]
          exact Nat.mul_le_mul_left _ (by omega)
        · exact hn
      · exact hn
    · exact hn
theorem pNum_bound {l : List UInt8} {a least k a' : Nat} (_hl : 48 ≤ least) (h : pNum l a least = .inr (k, a')) : k < 1000000000 := by
  unfold pNum pOne at h
  cases hx : l[a]? with
  | none => rw [hx] at h; simp at h
  | some y =>
    rw [hx] at h
    simp only at h
    split at h
    · simp at h
    · rename_i hq
      split at hq
      · simp only [Sum.inr.injEq, Prod.mk.injEq] at hq h
        have := pDig_bound l 8 (y.toNat - 48) (a + 1)
        rw [← hq.1, ← hq.2] at h
        rw [h] at this
        simp only at this
        omega
      · simp at hq

/-- A condition as the program lays it. -/
def cndV (c : Cnd) : Value := .agg #[.int .u8 c.l, .int .i64 c.op, .int .u8 c.r, .int .i64 c.k]

/-- Four stores into a block of the call's own, at its end. -/
theorem ret4 {p : Program} {f : Func} {Q : Ending → World → Prop} {ex : Exit} {act : Act} {w w5 : World} {R B : Nat} {s : ByteArray} {a : Nat} {t : TypeId} {c0 c1 c2 c3 v0 v1 v2 v3 : Value}
    (hr : Rd w5 R s a) (hg : w.grownBy w5 (some R)) (hB : w5.heap[B]? = some (.cells #[c0, c1, c2, c3] t (0, 0))) (hRB : R ≠ B) (hwB : w.heap.size ≤ B)
    (h : ∀ w9 : World, w9.heap[B]? = some (.cells #[v0, v1, v2, v3] t (0, 0)) → Rd w9 R s a → w.grownBy w9 (some R) → bodyPost p f Q ex act w9) :
    bodyPost p f Q ex act ((((w5.setCell ⟨B, 0, none⟩ v0).setCell ⟨B, 1, none⟩ v1).setCell ⟨B, 2, none⟩ v2).setCell ⟨B, 3, none⟩ v3) :=
  h _ (blk_set (blk_set (blk_set (blk_set hB 0 v0) 1 v1) 2 v2) 3 v3) ((((hr.set B 0 _ hRB).set B 1 _ hRB).set B 2 _ hRB).set B 3 _ hRB) (grown_setNew (grown_setNew (grown_setNew (grown_setNew hg B 0 _ hwB) B 1 _ hwB) B 2 _ hwB) B 3 _ hwB)
theorem peek_lt {s : ByteArray} {a c : Nat} (h : c = peekB s.data.toList a) (hc : 0 < c) : a < s.size := by
  by_cases hx : a < s.size
  · exact hx
  · unfold peekB at h
    rw [peek_end hx] at h
    simp at h
    omega
set_option maxRecDepth 100000 in
set_option maxHeartbeats 1600000 in
theorem cond_any (R : Nat) (s : ByteArray) (a n : Nat) (w : World) (h : Rd w R s a) (ha : a ≤ s.size) (hs : s.size ≤ 4096) (hn : n ≤ 16) :
    Calls Tryd.prog 92 #[.pointer (some ⟨R, 0, none⟩), .int .i64 n] w fun e w' => Post R s cndV w (pCond s.data.toList a n) e w' := by
  have Hrd := Lib.hid h
  obtain ⟨c0, c1, c2⟩ := h.cells
  clear h
  have hRlt := Hrd.out.lt
  by_cases h16 : n = 16
  · subst h16
    have c1' : (w.alloc (.cells #[.int .u8 0, .int .i64 0, .int .u8 0, .int .i64 0] 179)).cell? ⟨R, 1, none⟩ = some (.int .i64 a) := (Hrd.out.alloc _).cells.2.1
    go_enter Tryd.func92, Tryd.ntmps92
    have ho : ∀ w' : World, Rd w' R s a → Calls Tryd.prog 105 #[.pointer (some ⟨R, 0, none⟩), .int .u8 97, .int .u8 122] w' fun e w'' => Post R s (fun b : Nat => .int .u8 b) w' (pOne s.data.toList a 97 122) e w'' := fun w' h => one_any R s a 97 122 w' h ha hs
    have Ho := Lib.hid ho
    clear ho
    go_wp2_with fail
    refine (Ho.out _ (Hrd.out.alloc _)).mono ?_
    rintro e w1 hpost
    refine hpost.split (fun fk fe h1 he hg1 => ?_) (fun v a1 h1 he hr1 hg1 hb1 => ?_)
    · subst he
      go_wp2_with fail
      refine ⟨rfl, ?_⟩
      unfold pCond
      rw [if_pos rfl, h1.out]
      exact ⟨rfl, grown_trans (grown_alloc _ _ _) hg1⟩
    · subst he
      go_wp2_with fail
      refine (fail_any _ _ _ _).mono ?_
      rintro e w2 ⟨rfl, rfl⟩
      go_wp2_with fail
      refine ⟨rfl, ?_⟩
      unfold pCond
      rw [if_pos rfl, h1.out]
      exact ⟨rfl, grown_trans (grown_alloc _ _ _) hg1⟩
  · have c1' : (w.alloc (.cells #[.int .u8 0, .int .i64 0, .int .u8 0, .int .i64 0] 179)).cell? ⟨R, 1, none⟩ = some (.int .i64 a) := (Hrd.out.alloc _).cells.2.1
    have h16' : ((n : Int) == 16) = false := by rw [beq_eq_false_iff_ne]; omega
    have ho : ∀ w' : World, Rd w' R s a → Calls Tryd.prog 105 #[.pointer (some ⟨R, 0, none⟩), .int .u8 97, .int .u8 122] w' fun e w'' => Post R s (fun b : Nat => .int .u8 b) w' (pOne s.data.toList a 97 122) e w'' := fun w' h => one_any R s a 97 122 w' h ha hs
    have Ho := Lib.hid ho
    clear ho
    go_enter Tryd.func92, Tryd.ntmps92
    go_wp2_with fail
    refine (Ho.out _ (Hrd.out.alloc _)).mono ?_
    rintro e w1 hpost
    refine hpost.split (fun fk fe h1 he hg1 => ?_) (fun x1 a1 h1 he hr1 hg1 hb1 => ?_)
    · subst he
      go_wp2_with fail
      refine ⟨rfl, ?_⟩
      unfold pCond
      rw [if_neg h16, h1.out]
      exact ⟨rfl, grown_trans (grown_alloc _ _ _) hg1⟩
    subst he
    have hgw : w.grownBy w1 (some R) := grown_trans (grown_alloc _ _ _) hg1
    have hB : w1.heap[w.heap.size]? = some (.cells #[.int .u8 0, .int .i64 0, .int .u8 0, .int .i64 0] 179 (0, 0)) := blk_grown (blk_new w _) hg1 (by omega)
    have HB := Lib.hid hB
    clear hpost hB c0 c1 c2 c1' hg1
    go_wp2_with fail
    refine (op_any R s a1 _ hr1.out hb1 hs).mono ?_
    rintro e w2 hpost
    refine hpost.split (fun fk fe h2 he hg2 => ?_) (fun x2 a2 h2 he hr2 hg2 hb2 => ?_)
    · subst he
      go_wp2_with fail
      refine ⟨rfl, ?_⟩
      unfold pCond
      rw [if_neg h16, h1.out]
      simp only [PR.bind]
      rw [h2.out]
      exact ⟨rfl, grown_trans hgw hg2⟩
    subst he
    clear hpost
    go_wp2_with fail
    have hr3 := Lib.hid (hr2.out.alloc (.cells #[.int .u8 x1, .int .i64 x2, .int .u8 0, .int .i64 0] 179))
    have hC := blk_new w2 (.cells #[.int .u8 x1, .int .i64 x2, .int .u8 0, .int .i64 0] 179)
    have hgw3 : w.grownBy (w2.alloc (.cells #[.int .u8 x1, .int .i64 x2, .int .u8 0, .int .i64 0] 179)) (some R) := grown_trans (grown_trans hgw hg2) (grown_alloc _ _ _)
    have hRC : R < w2.heap.size := hr2.out.lt
    have hBC : w.heap.size < w2.heap.size := by have := hg2.size; have := blk_lt HB.out; omega
    have hwC : w.heap.size ≤ w2.heap.size := by omega
    have hB3 := blk_alloc (blk_grown HB.out hg2 (by omega)) (.cells #[.int .u8 x1, .int .i64 x2, .int .u8 0, .int .i64 0] 179)
    have HC := Lib.hid hC
    have HB3 := Lib.hid hB3
    clear hC hB3
    generalize w2.alloc (.cells #[.int .u8 x1, .int .i64 x2, .int .u8 0, .int .i64 0] 179) = w3 at *
    generalize w2.heap.size = C at *
    generalize hBe : w.heap.size = B at *
    obtain ⟨k0, k1, k2, k3, k4, k5, k6, k7⟩ := cells4 HC.out
    obtain ⟨r0, r1, r2⟩ := hr3.out.cells
    have Hpk := Lib.hid (peek_any R s a2 w3 hr3.out hb2 hs)
    obtain ⟨c, hc⟩ : ∃ c, c = peekB s.data.toList a2 := ⟨_, rfl⟩
    rw [← hc] at Hpk
    have Hc := Lib.hid hc
    clear hc
    have hP : pCond s.data.toList a n = (if c = 45 then (pNum s.data.toList (a2 + 1) 49).bind fun k a3 => .inr (⟨x1, x2, 0, -(k : Int)⟩, a3)
      else if 48 ≤ c ∧ c ≤ 57 then (pNum s.data.toList a2 48).bind fun k a3 => .inr (⟨x1, x2, 0, k⟩, a3)
      else (pOne s.data.toList a2 97 122).bind fun r a3 =>
        if pHas s.data.toList a3 43 then (pNum s.data.toList (a3 + 1) 49).bind fun k a5 => .inr (⟨x1, x2, r, k⟩, a5)
        else if pHas s.data.toList a3 45 then (pNum s.data.toList (a3 + 1) 49).bind fun k a5 => .inr (⟨x1, x2, r, -(k : Int)⟩, a5)
        else .inr (⟨x1, x2, r, 0⟩, a3)) := by
      unfold pCond
      rw [if_neg h16, h1.out]
      simp only [PR.bind]
      rw [h2.out]
      simp only
      rw [← Hc.out]
    have HP := Lib.hid hP
    clear hP h1 h2
    have hn : ∀ (w' : World) (b least : Nat), 48 ≤ least → Rd w' R s b → b ≤ s.size → Calls Tryd.prog 93 #[.pointer (some ⟨R, 0, none⟩), .int .u8 least] w' fun e w'' => Post R s (fun b : Nat => .int .i64 b) w' (pNum s.data.toList b least) e w'' := fun w' b least hl h hb => number_any R s b least w' h hb hs hl
    have Hn := Lib.hid hn
    clear hn
    refine Hpk.out.mono ?_
    rintro e w4 ⟨rfl, n4, rfl⟩
    by_cases hc45 : c = 45
    · subst hc45
      have HP := Lib.hid (HP.out.trans (if_pos rfl))
      have hlt : a2 + 1 ≤ s.size := peek_lt Hc.out (by omega)
      go_wp2_with fail
      refine (Hn.out _ (a2 + 1) 49 (by omega) (hr3.out.moved n4 (a2 + 1)) hlt).mono ?_
      rintro e w5 hpost
      refine hpost.split (fun fk fe h5 he hg5 => ?_) (fun x5 a5 h5 he hr5 hg5 hb5 => ?_)
      · subst he
        go_wp2_with fail
        refine ⟨rfl, ?_⟩
        rw [HP.out, h5.out]
        exact ⟨rfl, grown_trans (grown_trans hgw3 (grown_set _ _ _ _ _)) hg5⟩
      subst he
      have hx5 := pNum_bound (by omega) h5.out
      have hC5 := Lib.hid (blk_grown (blk_other (w := w3.drewN n4) HC.out R 1 (.int .i64 (a2 + 1 : Nat)) (by omega)) hg5 (by omega))
      have hB5 := Lib.hid (blk_grown (blk_other (w := w3.drewN n4) HB3.out R 1 (.int .i64 (a2 + 1 : Nat)) (by omega)) hg5 (by omega))
      have hg6 := grown_trans (grown_trans hgw3 (grown_set _ _ _ _ _)) hg5
      clear hpost k0 k1 k2 k3 k4 k5 k6 k7 r0 r1 r2 hg5
      obtain ⟨k0, k1, k2, k3, k4, k5, k6, k7⟩ := cells4 hC5.out
      obtain ⟨j0, j1, j2, j3, j4, j5, j6, j7⟩ := cells4 hB5.out
      go_wp2_with fail
      refine ret4 (hr5.out.set C 3 _ (by omega)) (grown_setNew hg6 C 3 _ (by omega)) (blk_other hB5.out C 3 _ (by omega)) (by omega) (by omega) fun w9 hB9 hr9 hg9 => ?_
      obtain ⟨m0, m1, m2, m3, -, -, -, -⟩ := cells4 hB9
      refine bodyPost_ret (by simp [results, Tryd.results92, go_sem, m0, m1, m2, m3]; try rfl) rfl ?_
      rw [HP.out, h5.out]
      exact ⟨rfl, hr9, hg9, hb5⟩
    have HP := Lib.hid (HP.out.trans (if_neg hc45))
    have d45 : ((c : Int) == 45) = false := by rw [beq_eq_false_iff_ne]; omega
    by_cases hd : 48 ≤ c ∧ c ≤ 57
    · have HP := Lib.hid (HP.out.trans (if_pos hd))
      obtain ⟨hd1, hd2⟩ := hd
      have hd1' : (48 : Int) ≤ c := by omega
      have hd2' : (c : Int) ≤ 57 := by omega
      clear hc45 hd1 hd2
      go_wp2_with fail
      refine (Hn.out _ a2 48 (by omega) (hr3.out.drewN n4) hb2).mono ?_
      rintro e w5 hpost
      refine hpost.split (fun fk fe h5 he hg5 => ?_) (fun x5 a5 h5 he hr5 hg5 hb5 => ?_)
      · subst he
        go_wp2_with fail
        refine ⟨rfl, ?_⟩
        rw [HP.out, h5.out]
        exact ⟨rfl, grown_trans (grown_trans hgw3 (grown_drewN _ _ _)) hg5⟩
      subst he
      have hx5 := pNum_bound (by omega) h5.out
      have hC5 := Lib.hid (blk_grown (w := w3.drewN n4) HC.out hg5 (by omega))
      have hB5 := Lib.hid (blk_grown (w := w3.drewN n4) HB3.out hg5 (by omega))
      have hg6 := grown_trans (grown_trans hgw3 (grown_drewN _ n4 _)) hg5
      clear hpost k0 k1 k2 k3 k4 k5 k6 k7 r0 r1 r2 hg5 hd1' hd2'
      obtain ⟨k0, k1, k2, k3, k4, k5, k6, k7⟩ := cells4 hC5.out
      obtain ⟨j0, j1, j2, j3, j4, j5, j6, j7⟩ := cells4 hB5.out
      go_wp2_with fail
      refine ret4 (hr5.out.set C 3 _ (by omega)) (grown_setNew hg6 C 3 _ (by omega)) (blk_other hB5.out C 3 _ (by omega)) (by omega) (by omega) fun w9 hB9 hr9 hg9 => ?_
      obtain ⟨m0, m1, m2, m3, -, -, -, -⟩ := cells4 hB9
      refine bodyPost_ret (by simp [results, Tryd.results92, go_sem, m0, m1, m2, m3]; try rfl) rfl ?_
      rw [HP.out, h5.out]
      exact ⟨rfl, hr9, hg9, hb5⟩
    have HP := Lib.hid (HP.out.trans (if_neg hd))
    have hd' : (c : Int) < 48 ∨ (57 : Int) < c := by omega
    have ho : ∀ w' : World, Rd w' R s a2 → Calls Tryd.prog 105 #[.pointer (some ⟨R, 0, none⟩), .int .u8 97, .int .u8 122] w' fun e w'' => Post R s (fun b : Nat => .int .u8 b) w' (pOne s.data.toList a2 97 122) e w'' := fun w' h => one_any R s a2 97 122 w' h hb2 hs
    have Ho := Lib.hid ho
    clear ho hc45 hd
    have hs4 := Lib.hid hs
    rcases hd' with hd' | hd'
    all_goals
      go_wp2_with fail
      refine (Ho.out _ (hr3.out.drewN n4)).mono ?_
      rintro e w5 hpost
      refine hpost.split (fun fk fe h5 he hg5 => ?_) (fun x5 a5 h5 he hr5 hg5 hb5 => ?_)
      · subst he
        go_wp2_with fail
        refine ⟨rfl, ?_⟩
        rw [HP.out, h5.out]
        exact ⟨rfl, grown_trans (grown_trans hgw3 (grown_drewN _ _ _)) hg5⟩
      subst he
      have HP := Lib.hid (HP.out.trans (congrArg (fun x => PR.bind x _) h5.out))
      simp only [PR.bind] at HP
      have hC5 := Lib.hid (blk_grown (w := w3.drewN n4) HC.out hg5 (by omega))
      have hB5 := Lib.hid (blk_grown (w := w3.drewN n4) HB3.out hg5 (by omega))
      have hg6 := grown_trans (grown_trans hgw3 (grown_drewN _ n4 _)) hg5
      clear hpost k0 k1 k2 k3 k4 k5 k6 k7 r0 r1 r2 hg5 hd'
      have hr6 := Lib.hid (hr5.out.set C 2 (.int .u8 x5) (by omega))
      have hC6 := Lib.hid (blk_set hC5.out 2 (.int .u8 x5))
      have hB6 := Lib.hid (blk_other hB5.out C 2 (.int .u8 x5) (by omega))
      have hg7 := grown_setNew hg6 C 2 (.int .u8 x5) (by omega)
      obtain ⟨k0, k1, k2, k3, k4, k5, k6, k7⟩ := cells4 hC5.out
      cases hp43 : pHas s.data.toList a5 43 with
      | true =>
        have HP := Lib.hid (HP.out.trans (if_pos hp43))
        have H43 := Lib.hid hp43
        clear hp43
        go_wp2_with fail
        refine (has_yes R s a5 43 _ hr6.out hb5 hs4.out H43.out).mono ?_
        rintro e w6 ⟨rfl, hr7, hg8, hb6⟩
        have hr7 := Lib.hid hr7
        have hC7 := Lib.hid (blk_grown hC6.out hg8 (by omega))
        have hB7 := Lib.hid (blk_grown hB6.out hg8 (by omega))
        have hg9 := grown_trans hg7 hg8
        clear hg7 hg8 hg6 k0 k1 k2 k3 k4 k5 k6 k7
        go_wp2_with fail
        refine (Hn.out _ (a5 + 1) 49 (by omega) hr7.out hb6).mono ?_
        rintro e w7 hpost
        refine hpost.split (fun fk fe h8 he hg10 => ?_) (fun x8 a8 h8 he hr8 hg10 hb8 => ?_)
        · subst he
          go_wp2_with fail
          refine ⟨rfl, ?_⟩
          rw [HP.out, h8.out]
          exact ⟨rfl, grown_trans hg9 hg10⟩
        subst he
        have hx8 := pNum_bound (by omega) h8.out
        have hC8 := Lib.hid (blk_grown hC7.out hg10 (by omega))
        have hB8 := Lib.hid (blk_grown hB7.out hg10 (by omega))
        have hg11 := grown_trans hg9 hg10
        clear hpost hg9 hg10
        obtain ⟨k0, k1, k2, k3, k4, k5, k6, k7⟩ := cells4 hC8.out
        obtain ⟨j0, j1, j2, j3, j4, j5, j6, j7⟩ := cells4 hB8.out
        go_wp2_with fail
        refine ret4 (hr8.out.set C 3 _ (by omega)) (grown_setNew hg11 C 3 _ (by omega)) (blk_other hB8.out C 3 _ (by omega)) (by omega) (by omega) fun w9 hB9 hr9 hg9 => ?_
        obtain ⟨m0, m1, m2, m3, -, -, -, -⟩ := cells4 hB9
        refine bodyPost_ret (by simp [results, Tryd.results92, go_sem, m0, m1, m2, m3]; try rfl) rfl ?_
        rw [HP.out, h8.out]
        exact ⟨rfl, hr9, hg9, hb8⟩
      | false =>
        have HP := Lib.hid (HP.out.trans (if_neg (by rw [hp43]; simp)))
        have H43 := Lib.hid hp43
        clear hp43
        go_wp2_with fail
        refine (has_no R s a5 43 _ hr6.out hb5 hs4.out H43.out).mono ?_
        rintro e w6 ⟨rfl, hr7, hg8, hb6⟩
        have hr7 := Lib.hid hr7
        have hC7 := Lib.hid (blk_grown hC6.out hg8 (by omega))
        have hB7 := Lib.hid (blk_grown hB6.out hg8 (by omega))
        have hg9 := grown_trans hg7 hg8
        clear hg7 hg8 hg6 k0 k1 k2 k3 k4 k5 k6 k7
        cases hp45 : pHas s.data.toList a5 45 with
        | true =>
          have HP := Lib.hid (HP.out.trans (if_pos hp45))
          have H45 := Lib.hid hp45
          clear hp45
          go_wp2_with fail
          refine (has_yes R s a5 45 _ hr7.out hb5 hs4.out H45.out).mono ?_
          rintro e w7 ⟨rfl, hr8, hg10, hb8⟩
          have hr8 := Lib.hid hr8
          have hC8 := Lib.hid (blk_grown hC7.out hg10 (by omega))
          have hB8 := Lib.hid (blk_grown hB7.out hg10 (by omega))
          have hg11 := grown_trans hg9 hg10
          clear hg9 hg10
          go_wp2_with fail
          refine (Hn.out _ (a5 + 1) 49 (by omega) hr8.out hb8).mono ?_
          rintro e w8 hpost
          refine hpost.split (fun fk fe h9 he hg12 => ?_) (fun x9 a9 h9 he hr9 hg12 hb9 => ?_)
          · subst he
            go_wp2_with fail
            refine ⟨rfl, ?_⟩
            rw [HP.out, h9.out]
            exact ⟨rfl, grown_trans hg11 hg12⟩
          subst he
          have hx8 := pNum_bound (by omega) h9.out
          have hC9 := Lib.hid (blk_grown hC8.out hg12 (by omega))
          have hB9 := Lib.hid (blk_grown hB8.out hg12 (by omega))
          have hg13 := grown_trans hg11 hg12
          clear hpost hg11 hg12
          obtain ⟨k0, k1, k2, k3, k4, k5, k6, k7⟩ := cells4 hC9.out
          obtain ⟨j0, j1, j2, j3, j4, j5, j6, j7⟩ := cells4 hB9.out
          go_wp2_with fail
          refine ret4 (hr9.out.set C 3 _ (by omega)) (grown_setNew hg13 C 3 _ (by omega)) (blk_other hB9.out C 3 _ (by omega)) (by omega) (by omega) fun w9 hB9 hr9 hg9 => ?_
          obtain ⟨m0, m1, m2, m3, -, -, -, -⟩ := cells4 hB9
          refine bodyPost_ret (by simp [results, Tryd.results92, go_sem, m0, m1, m2, m3]; try rfl) rfl ?_
          rw [HP.out, h9.out]
          exact ⟨rfl, hr9, hg9, hb9⟩
        | false =>
          have HP := Lib.hid (HP.out.trans (if_neg (by rw [hp45]; simp)))
          have H45 := Lib.hid hp45
          clear hp45
          go_wp2_with fail
          refine (has_no R s a5 45 _ hr7.out hb5 hs4.out H45.out).mono ?_
          rintro e w7 ⟨rfl, hr8, hg10, hb8⟩
          have hr8 := Lib.hid hr8
          have hC8 := Lib.hid (blk_grown hC7.out hg10 (by omega))
          have hB8 := Lib.hid (blk_grown hB7.out hg10 (by omega))
          have hg11 := grown_trans hg9 hg10
          clear hg9 hg10
          obtain ⟨k0, k1, k2, k3, k4, k5, k6, k7⟩ := cells4 hC8.out
          obtain ⟨j0, j1, j2, j3, j4, j5, j6, j7⟩ := cells4 hB8.out
          go_wp2_with fail
          refine ret4 hr8.out hg11 hB8.out (by omega) (by omega) fun w9 hB9 hr9 hg9 => ?_
          obtain ⟨m0, m1, m2, m3, -, -, -, -⟩ := cells4 hB9
          refine bodyPost_ret (by simp [results, Tryd.results92, go_sem, m0, m1, m2, m3]; try rfl) rfl ?_
          rw [HP.out]
          exact ⟨rfl, hr9, hg9, hb8⟩
end Go.Proofs.YtcojnojdgigmdaaDoor.WP
/- The walk of the pattern reader's step. -/
namespace Go.Proofs.YtcojnojdgigmdaaDoor.WP
open Go.RowKit Go.Proofs.YtcojnojdgigmdaaDoor Go.Proofs.YtcojnojdgigmdaaDoor.PP

theorem cells5 {w : World} {g : Nat} {t : TypeId} {c0 c1 c2 c3 c4 : Value} (h : w.heap[g]? = some (.cells #[c0, c1, c2, c3, c4] t (0, 0))) :
    w.cell? ⟨g, 0, none⟩ = some c0 ∧ w.cell? ⟨g, 1, none⟩ = some c1 ∧ w.cell? ⟨g, 2, none⟩ = some c2 ∧ w.cell? ⟨g, 3, none⟩ = some c3 ∧ w.cell? ⟨g, 4, none⟩ = some c4 ∧ w.frozen? ⟨g, 0, none⟩ = false ∧ w.frozen? ⟨g, 1, none⟩ = false ∧ w.frozen? ⟨g, 2, none⟩ = false ∧ w.frozen? ⟨g, 3, none⟩ = false ∧ w.frozen? ⟨g, 4, none⟩ = false :=
  ⟨by rw [Lib.cell_of_heap h]; rfl, by rw [Lib.cell_of_heap h]; rfl, by rw [Lib.cell_of_heap h]; rfl, by rw [Lib.cell_of_heap h]; rfl, by rw [Lib.cell_of_heap h]; rfl, Lib.frozen_of_heap h 0, Lib.frozen_of_heap h 1, Lib.frozen_of_heap h 2, Lib.frozen_of_heap h 3, Lib.frozen_of_heap h 4⟩

/-- Five stores into a block of the call's own, at its end. -/
theorem ret5 {p : Program} {f : Func} {Q : Ending → World → Prop} {ex : Exit} {act : Act} {w w5 : World} {R B : Nat} {s : ByteArray} {a : Nat} {t : TypeId} {c0 c1 c2 c3 c4 v0 v1 v2 v3 v4 : Value}
    (hr : Rd w5 R s a) (hg : w.grownBy w5 (some R)) (hB : w5.heap[B]? = some (.cells #[c0, c1, c2, c3, c4] t (0, 0))) (hRB : R ≠ B) (hwB : w.heap.size ≤ B)
    (h : ∀ w9 : World, w9.heap[B]? = some (.cells #[v0, v1, v2, v3, v4] t (0, 0)) → Rd w9 R s a → w.grownBy w9 (some R) → bodyPost p f Q ex act w9) :
    bodyPost p f Q ex act (((((w5.setCell ⟨B, 0, none⟩ v0).setCell ⟨B, 1, none⟩ v1).setCell ⟨B, 2, none⟩ v2).setCell ⟨B, 3, none⟩ v3).setCell ⟨B, 4, none⟩ v4) :=
  h _ (blk_set (blk_set (blk_set (blk_set (blk_set hB 0 v0) 1 v1) 2 v2) 3 v3) 4 v4) (((((hr.set B 0 _ hRB).set B 1 _ hRB).set B 2 _ hRB).set B 3 _ hRB).set B 4 _ hRB) (grown_setNew (grown_setNew (grown_setNew (grown_setNew (grown_setNew hg B 0 _ hwB) B 1 _ hwB) B 2 _ hwB) B 3 _ hwB) B 4 _ hwB)

theorem bind_to {α β : Type} {x : PR α} {v : α} {a : Nat} (h : x = .inr (v, a)) (f : α → Nat → PR β) : x.bind f = f v a := by rw [h]; rfl
theorem bind_fail {α β : Type} {x : PR α} {p : Nat × Int} (h : x = .inl p) (f : α → Nat → PR β) : x.bind f = .inl p := by rw [h]; rfl
/-- A step as the program lays it. -/
def stpV (c : Stp) : Value := .agg #[.int .u8 c.k, .int .u8 c.nm, .bool c.neg, .int .i64 c.lo, .int .i64 c.hi]
theorem has_gen (R : Nat) (s : ByteArray) (a b : Nat) (w : World) (h : Rd w R s a) (ha : a ≤ s.size) (hs : s.size ≤ 4096) :
    Calls Tryd.prog 91 #[.pointer (some ⟨R, 0, none⟩), .int .u8 b] w fun e w' => e = .returned (.bool (pHas s.data.toList a b)) ∧ Rd w' R s (if pHas s.data.toList a b then a + 1 else a) ∧ w.grownBy w' (some R) ∧ (if pHas s.data.toList a b then a + 1 else a) ≤ s.size := by
  cases hb : pHas s.data.toList a b with
  | true => exact has_yes R s a b w h ha hs hb
  | false => exact has_no R s a b w h ha hs hb

set_option maxRecDepth 100000 in
set_option maxHeartbeats 1600000 in
theorem step_any (R : Nat) (s : ByteArray) (a n : Nat) (w : World) (h : Rd w R s a) (ha : a ≤ s.size) (hs : s.size ≤ 4096) (hn : n ≤ 8) :
    Calls Tryd.prog 90 #[.pointer (some ⟨R, 0, none⟩), .int .i64 n] w fun e w' => Post R s stpV w (pStep s.data.toList a n) e w' := by
  have Hrd := Lib.hid h
  clear h
  have hRlt := Hrd.out.lt
  have c1' : (w.alloc (.cells #[.int .u8 0, .int .u8 0, .bool false, .int .i64 0, .int .i64 0] 171)).cell? ⟨R, 1, none⟩ = some (.int .i64 a) := (Hrd.out.alloc _).cells.2.1
  have ho : ∀ (w' : World) (b lo hi : Nat), Rd w' R s b → b ≤ s.size → Calls Tryd.prog 105 #[.pointer (some ⟨R, 0, none⟩), .int .u8 lo, .int .u8 hi] w' fun e w'' => Post R s (fun b : Nat => .int .u8 b) w' (pOne s.data.toList b lo hi) e w'' := fun w' b lo hi h hb => one_any R s b lo hi w' h hb hs
  have Ho := Lib.hid ho
  have hn2 : ∀ (w' : World) (b least : Nat), 48 ≤ least → Rd w' R s b → b ≤ s.size → Calls Tryd.prog 93 #[.pointer (some ⟨R, 0, none⟩), .int .u8 least] w' fun e w'' => Post R s (fun b : Nat => .int .i64 b) w' (pNum s.data.toList b least) e w'' := fun w' b least hl h hb => number_any R s b least w' h hb hs hl
  have Hn := Lib.hid hn2
  have hw2 : ∀ (w' : World) (b : Nat) (wd : ByteArray), wd.size ≤ 4096 → Rd w' R s b → b ≤ s.size → Calls Tryd.prog 89 #[.pointer (some ⟨R, 0, none⟩), .string wd] w' fun e w'' => Post R s (fun _ : Unit => .tuple #[]) w' (pWord s.data.toList wd.data.toList b) e w'' := fun w' b wd hl h hb => word_any R s b wd w' h hb hs hl
  have Hw := Lib.hid hw2
  have hh : ∀ (w' : World) (b x : Nat), Rd w' R s b → b ≤ s.size → Calls Tryd.prog 91 #[.pointer (some ⟨R, 0, none⟩), .int .u8 x] w' fun e w'' => e = .returned (.bool (pHas s.data.toList b x)) ∧ Rd w'' R s (if pHas s.data.toList b x then b + 1 else b) ∧ w'.grownBy w'' (some R) ∧ (if pHas s.data.toList b x then b + 1 else b) ≤ s.size := fun w' b x h hb => has_gen R s b x w' h hb hs
  have Hh := Lib.hid hh
  have Hs := Lib.hid hs
  clear ho hn2 hw2 hh hs
  by_cases h8 : n = 8
  · subst h8
    go_enter Tryd.func90, Tryd.ntmps90
    go_wp2_with fail
    refine (Hh.out _ a 33 (Hrd.out.alloc _) ha).mono ?_
    rintro e w1 ⟨rfl, hr1, hg1, hb1⟩
    have hg2 := grown_trans (grown_alloc w _ _) hg1
    have Hr1 := Lib.hid hr1
    clear hr1 hg1 c1'
    cases hp : pHas s.data.toList a 33 with
    | true =>
      have Hp := Lib.hid hp
      clear hp
      go_wp2_with fail
      refine (fail_any _ _ _ _).mono ?_
      rintro e w2 ⟨rfl, rfl⟩
      go_wp2_with fail
      refine ⟨rfl, ?_⟩
      unfold pStep
      rw [if_pos rfl, if_pos Hp.out]
      exact ⟨rfl, hg2⟩
    | false =>
      rw [hp] at Hr1 hb1
      have Hp := Lib.hid hp
      clear hp
      go_wp2_with fail
      refine (Ho.out _ a 65 90 Hr1.out ha).mono ?_
      rintro e w2 hpost
      refine hpost.split (fun fk fe h1 he hg3 => ?_) (fun v a1 h1 he hr3 hg3 hb3 => ?_)
      · subst he
        go_wp2_with fail
        refine ⟨rfl, ?_⟩
        unfold pStep
        rw [if_pos rfl, if_neg (by rw [Hp.out]; simp), h1.out]
        exact ⟨rfl, grown_trans hg2 hg3⟩
      · subst he
        go_wp2_with fail
        refine (fail_any _ _ _ _).mono ?_
        rintro e w3 ⟨rfl, rfl⟩
        go_wp2_with fail
        refine ⟨rfl, ?_⟩
        unfold pStep
        rw [if_pos rfl, if_neg (by rw [Hp.out]; simp), h1.out]
        exact ⟨rfl, grown_trans hg2 hg3⟩
  · have h8' : ((n : Int) == 8) = false := by rw [beq_eq_false_iff_ne]; omega
    go_enter Tryd.func90, Tryd.ntmps90
    go_wp2_with fail
    refine (Hh.out _ a 33 (Hrd.out.alloc _) ha).mono ?_
    rintro e w1 ⟨rfl, hr1, hg1, hb1⟩
    obtain ⟨neg, hneg⟩ : ∃ b, b = pHas s.data.toList a 33 := ⟨_, rfl⟩
    rw [← hneg] at hr1 hb1 ⊢
    obtain ⟨a0, ha0⟩ : ∃ b, b = (if neg then a + 1 else a) := ⟨_, rfl⟩
    rw [← ha0] at hr1 hb1
    have hP : pStep s.data.toList a n = (pOne s.data.toList a0 65 90).bind fun k a1 => (pWord s.data.toList [32] a1).bind fun _ a2 => (pOne s.data.toList a2 97 122).bind fun nm a3 =>
        if pHas s.data.toList a3 123 then (if neg then .inl (a3, 22)
        else (pNum s.data.toList (a3 + 1) 48).bind fun lo a4 => (pWord s.data.toList [44] a4).bind fun _ a5 => (pNum s.data.toList a5 48).bind fun hi a6 => (pWord s.data.toList [125] a6).bind fun _ a7 =>
          if lo < 1 ∨ hi < lo ∨ 4 < hi ∨ hi = 1 then .inl (a3, 22) else .inr (⟨k, nm, false, lo, hi⟩, a7))
        else .inr (⟨k, nm, neg, 1, 1⟩, a3) := by
      unfold pStep
      rw [if_neg h8]
      unfold pHasR
      rw [← hneg, ha0]
      cases neg <;> rfl
    have HP := Lib.hid hP
    have hg2 := grown_trans (grown_alloc w _ _) hg1
    have hB := Lib.hid (blk_grown (blk_new w (.cells #[.int .u8 0, .int .u8 0, .bool false, .int .i64 0, .int .i64 0] 171 (0, 0))) hg1 (by omega))
    have Hr1 := Lib.hid hr1
    clear hr1 hg1 c1' hP hneg ha0
    go_wp2_with fail
    have hr3 := Lib.hid (Hr1.out.alloc (.cells #[.int .u8 0, .int .u8 0, .bool neg, .int .i64 1, .int .i64 1] 171))
    have hC := Lib.hid (blk_new w1 (.cells #[.int .u8 0, .int .u8 0, .bool neg, .int .i64 1, .int .i64 1] 171))
    have hg3 := grown_trans hg2 (grown_alloc w1 (.cells #[.int .u8 0, .int .u8 0, .bool neg, .int .i64 1, .int .i64 1] 171) _)
    have hRC : R < w1.heap.size := Hr1.out.lt
    have hBC : w.heap.size < w1.heap.size := blk_lt hB.out
    have hwC : w.heap.size ≤ w1.heap.size := by omega
    have hB3 := Lib.hid (blk_alloc hB.out (.cells #[.int .u8 0, .int .u8 0, .bool neg, .int .i64 1, .int .i64 1] 171))
    clear hg2 Hr1
    clear hB
    generalize w1.alloc (.cells #[.int .u8 0, .int .u8 0, .bool neg, .int .i64 1, .int .i64 1] 171) = w3 at *
    generalize w1.heap.size = C at *
    generalize hBe : w.heap.size = B at *
    obtain ⟨k0, k1, k2, k3, k4, k5, k6, k7, k8, k9⟩ := cells5 hC.out
    refine (Ho.out _ a0 65 90 hr3.out hb1).mono ?_
    rintro e w4 hpost
    refine hpost.split (fun fk fe h1 he hg4 => ?_) (fun x1 a1 h1 he hr4 hg4 hb4 => ?_)
    · subst he
      go_wp2_with fail
      refine ⟨rfl, ?_⟩
      rw [HP.out.trans (bind_fail h1.out _)]
      exact ⟨rfl, grown_trans hg3 hg4⟩
    subst he
    have HP := Lib.hid (HP.out.trans (bind_to h1.out _))
    have hC4 := Lib.hid (blk_grown hC.out hg4 (by omega))
    have hB4 := Lib.hid (blk_grown hB3.out hg4 (by omega))
    have hg5 := grown_trans hg3 hg4
    clear hpost k0 k1 k2 k3 k4 k5 k6 k7 k8 k9 hC hB3 hg4 hg3 hr3 hb1 h1
    obtain ⟨k0, k1, k2, k3, k4, k5, k6, k7, k8, k9⟩ := cells5 hC4.out
    have hr5 := Lib.hid (hr4.out.set C 0 (.int .u8 x1) (by omega))
    have hC5 := Lib.hid (blk_set hC4.out 0 (.int .u8 x1))
    have hB5 := Lib.hid (blk_other hB4.out C 0 (.int .u8 x1) (by omega))
    have hg6 := grown_setNew hg5 C 0 (.int .u8 x1) (by omega)
    clear hr4 hC4 hB4 hg5
    go_wp2_with fail
    refine (Hw.out _ a1 ⟨#[32]⟩ (by decide) hr5.out hb4).mono ?_
    rintro e w5 hpost
    refine hpost.split (fun fk fe h1 he hg7 => ?_) (fun x2 a2 h1 he hr6 hg7 hb6 => ?_)
    · subst he
      go_wp2_with fail
      refine ⟨rfl, ?_⟩
      rw [HP.out.trans (bind_fail h1.out _)]
      exact ⟨rfl, grown_trans hg6 hg7⟩
    subst he
    have HP := Lib.hid (HP.out.trans (bind_to h1.out _))
    have hC6 := Lib.hid (blk_grown hC5.out hg7 (by omega))
    have hB6 := Lib.hid (blk_grown hB5.out hg7 (by omega))
    have hg8 := grown_trans hg6 hg7
    clear hpost k0 k1 k2 k3 k4 k5 k6 k7 k8 k9 hC5 hB5 hg6 hg7 hr5 h1 hb4
    obtain ⟨k0, k1, k2, k3, k4, k5, k6, k7, k8, k9⟩ := cells5 hC6.out
    go_wp2_with fail
    refine (Ho.out _ a2 97 122 hr6.out hb6).mono ?_
    rintro e w6 hpost
    refine hpost.split (fun fk fe h1 he hg9 => ?_) (fun x3 a3 h1 he hr7 hg9 hb7 => ?_)
    · subst he
      go_wp2_with fail
      refine ⟨rfl, ?_⟩
      rw [HP.out.trans (bind_fail h1.out _)]
      exact ⟨rfl, grown_trans hg8 hg9⟩
    subst he
    have HP := Lib.hid (HP.out.trans (bind_to h1.out _))
    have hC7 := Lib.hid (blk_grown hC6.out hg9 (by omega))
    have hB7 := Lib.hid (blk_grown hB6.out hg9 (by omega))
    have hg10 := grown_trans hg8 hg9
    clear hpost k0 k1 k2 k3 k4 k5 k6 k7 k8 k9 hC6 hB6 hg8 hg9 hr6 hb6 h1
    obtain ⟨k0, k1, k2, k3, k4, k5, k6, k7, k8, k9⟩ := cells5 hC7.out
    have hr8 := Lib.hid (hr7.out.set C 1 (.int .u8 x3) (by omega))
    have hC8 := Lib.hid (blk_set hC7.out 1 (.int .u8 x3))
    have hB8 := Lib.hid (blk_other hB7.out C 1 (.int .u8 x3) (by omega))
    have hg11 := grown_setNew hg10 C 1 (.int .u8 x3) (by omega)
    obtain ⟨-, r1, -⟩ := hr8.out.cells
    clear hr7 hC7 hB7 hg10
    go_wp2_with fail
    refine (Hh.out _ a3 123 hr8.out hb7).mono ?_
    rintro e w7 ⟨rfl, hr9, hg12, hb9⟩
    have hC9 := Lib.hid (blk_grown hC8.out hg12 (by omega))
    have hB9 := Lib.hid (blk_grown hB8.out hg12 (by omega))
    have hg13 := grown_trans hg11 hg12
    have Hr9 := Lib.hid hr9
    clear k0 k1 k2 k3 k4 k5 k6 k7 k8 k9 hC8 hB8 hg11 hg12 hr8 hr9 r1
    obtain ⟨k0, k1, k2, k3, k4, k5, k6, k7, k8, k9⟩ := cells5 hC9.out
    cases hp : pHas s.data.toList a3 123 with
    | false =>
      have HP := Lib.hid (HP.out.trans (if_neg (by rw [hp]; simp)))
      rw [hp] at Hr9 hb9
      simp only [Bool.false_eq_true, if_false] at Hr9 hb9
      clear hp
      obtain ⟨j0, j1, j2, j3, j4, j5, j6, j7, j8, j9⟩ := cells5 hB9.out
      go_wp2_with fail
      refine ret5 Hr9.out hg13 hB9.out (by omega) (by omega) fun w9 hB9 hr9 hg9 => ?_
      obtain ⟨m0, m1, m2, m3, m4, -, -, -, -, -⟩ := cells5 hB9
      refine bodyPost_ret (by simp [results, Tryd.results90, go_sem, m0, m1, m2, m3, m4]; try rfl) rfl ?_
      rw [HP.out]
      exact ⟨rfl, hr9, hg9, hb9⟩
    | true =>
      have HP := Lib.hid (HP.out.trans (if_pos hp))
      rw [hp] at Hr9 hb9
      simp only [if_true] at Hr9 hb9
      clear hp
      cases neg with
      | true =>
        have HP := Lib.hid (HP.out.trans (if_pos rfl))
        go_wp2_with fail
        refine (fail_any _ _ _ _).mono ?_
        rintro e w8 ⟨rfl, rfl⟩
        go_wp2_with fail
        refine ⟨rfl, ?_⟩
        rw [HP.out]
        exact ⟨rfl, hg13⟩
      | false =>
        have HP := Lib.hid (HP.out.trans (if_neg (by simp)))
        go_wp2_with fail
        refine (Hn.out _ (a3 + 1) 48 (by omega) Hr9.out hb9).mono ?_
        rintro e w8 hpost
        refine hpost.split (fun fk fe h1 he hg14 => ?_) (fun x4 a4 h1 he hr10 hg14 hb10 => ?_)
        · subst he
          go_wp2_with fail
          refine ⟨rfl, ?_⟩
          rw [HP.out.trans (bind_fail h1.out _)]
          exact ⟨rfl, grown_trans hg13 hg14⟩
        subst he
        have hx4 := pNum_bound (by omega) h1.out
        have HP := Lib.hid (HP.out.trans (bind_to h1.out _))
        have hC10 := Lib.hid (blk_grown hC9.out hg14 (by omega))
        have hB10 := Lib.hid (blk_grown hB9.out hg14 (by omega))
        have hg15 := grown_trans hg13 hg14
        clear hpost k0 k1 k2 k3 k4 k5 k6 k7 k8 k9 hC9 hB9 hg13 hg14 Hr9 hb9 h1
        go_wp2_with fail
        refine (Hw.out _ a4 ⟨#[44]⟩ (by decide) hr10.out hb10).mono ?_
        rintro e w9 hpost
        refine hpost.split (fun fk fe h1 he hg16 => ?_) (fun x5 a5 h1 he hr11 hg16 hb11 => ?_)
        · subst he
          go_wp2_with fail
          refine ⟨rfl, ?_⟩
          rw [HP.out.trans (bind_fail h1.out _)]
          exact ⟨rfl, grown_trans hg15 hg16⟩
        subst he
        have HP := Lib.hid (HP.out.trans (bind_to h1.out _))
        have hC11 := Lib.hid (blk_grown hC10.out hg16 (by omega))
        have hB11 := Lib.hid (blk_grown hB10.out hg16 (by omega))
        have hg17 := grown_trans hg15 hg16
        clear hpost hC10 hB10 hg15 hg16 hr10 hb10 h1
        go_wp2_with fail
        refine (Hn.out _ a5 48 (by omega) hr11.out hb11).mono ?_
        rintro e w10 hpost
        refine hpost.split (fun fk fe h1 he hg18 => ?_) (fun x6 a6 h1 he hr12 hg18 hb12 => ?_)
        · subst he
          go_wp2_with fail
          refine ⟨rfl, ?_⟩
          rw [HP.out.trans (bind_fail h1.out _)]
          exact ⟨rfl, grown_trans hg17 hg18⟩
        subst he
        have hx6 := pNum_bound (by omega) h1.out
        have HP := Lib.hid (HP.out.trans (bind_to h1.out _))
        have hC12 := Lib.hid (blk_grown hC11.out hg18 (by omega))
        have hB12 := Lib.hid (blk_grown hB11.out hg18 (by omega))
        have hg19 := grown_trans hg17 hg18
        clear hpost hC11 hB11 hg17 hg18 hr11 hb11 h1
        go_wp2_with fail
        refine (Hw.out _ a6 ⟨#[125]⟩ (by decide) hr12.out hb12).mono ?_
        rintro e w11 hpost
        refine hpost.split (fun fk fe h1 he hg20 => ?_) (fun x7 a7 h1 he hr13 hg20 hb13 => ?_)
        · subst he
          go_wp2_with fail
          refine ⟨rfl, ?_⟩
          rw [HP.out.trans (bind_fail h1.out _)]
          exact ⟨rfl, grown_trans hg19 hg20⟩
        subst he
        have HP := Lib.hid (HP.out.trans (bind_to h1.out _))
        have hC13 := Lib.hid (blk_grown hC12.out hg20 (by omega))
        have hB13 := Lib.hid (blk_grown hB12.out hg20 (by omega))
        have hg21 := grown_trans hg19 hg20
        clear hpost hC12 hB12 hg19 hg20 hr12 hb12 h1
        by_cases hbad : x4 < 1 ∨ x6 < x4 ∨ 4 < x6 ∨ x6 = 1
        · have HP := Lib.hid (HP.out.trans (if_pos hbad))
          rcases Nat.lt_or_ge x4 1 with q1 | q1
          · have q1' : (x4 : Int) < 1 := by omega
            clear q1 hbad
            go_wp2_with fail
            refine (fail_any _ _ _ _).mono ?_
            rintro e w12 ⟨rfl, rfl⟩
            go_wp2_with fail
            exact ⟨rfl, by rw [HP.out]; exact ⟨rfl, hg21⟩⟩
          have q1' : ¬ (x4 : Int) < 1 := by omega
          rcases Nat.lt_or_ge x6 x4 with q2 | q2
          · have q2' : (x6 : Int) < x4 := by omega
            clear q1 q2 hbad
            go_wp2_with fail
            refine (fail_any _ _ _ _).mono ?_
            rintro e w12 ⟨rfl, rfl⟩
            go_wp2_with fail
            exact ⟨rfl, by rw [HP.out]; exact ⟨rfl, hg21⟩⟩
          have q2' : (x4 : Int) ≤ x6 := by omega
          rcases Nat.lt_or_ge 4 x6 with q3 | q3
          · have q3' : (4 : Int) < x6 := by omega
            clear q1 q2 q3 hbad
            go_wp2_with fail
            refine (fail_any _ _ _ _).mono ?_
            rintro e w12 ⟨rfl, rfl⟩
            go_wp2_with fail
            exact ⟨rfl, by rw [HP.out]; exact ⟨rfl, hg21⟩⟩
          have q3' : (x6 : Int) ≤ 4 := by omega
          have q4 : x6 = 1 := by omega
          have q5 : x4 = 1 := by omega
          subst q4 q5
          clear hbad q1 q2 q3 q1' q2' q3'
          go_wp2_with fail
          refine (fail_any _ _ _ _).mono ?_
          rintro e w12 ⟨rfl, rfl⟩
          go_wp2_with fail
          exact ⟨rfl, by rw [HP.out]; exact ⟨rfl, hg21⟩⟩
        · have HP := Lib.hid (HP.out.trans (if_neg hbad))
          have q1 : (1 : Int) ≤ x4 := by omega
          have q2 : (x4 : Int) ≤ x6 := by omega
          have q3 : (x6 : Int) ≤ 4 := by omega
          have q4 : ((x6 : Int) == 1) = false := by rw [beq_eq_false_iff_ne]; omega
          clear hbad
          obtain ⟨k0, k1, k2, k3, k4, k5, k6, k7, k8, k9⟩ := cells5 hC13.out
          obtain ⟨j0, j1, j2, j3, j4, j5, j6, j7, j8, j9⟩ := cells5 hB13.out
          go_wp2_with fail
          refine ret5 ((hr13.out.set C 3 _ (by omega)).set C 4 _ (by omega)) (grown_setNew (grown_setNew hg21 C 3 _ (by omega)) C 4 _ (by omega)) (blk_other (blk_other hB13.out C 3 _ (by omega)) C 4 _ (by omega)) (by omega) (by omega) fun w9 hB9 hr9 hg9 => ?_
          obtain ⟨m0, m1, m2, m3, m4, -, -, -, -, -⟩ := cells5 hB9
          refine bodyPost_ret (by simp [results, Tryd.results90, go_sem, m0, m1, m2, m3, m4]; try rfl) rfl ?_
          rw [HP.out]
          exact ⟨rfl, hr9, hg9, hb13⟩
end Go.Proofs.YtcojnojdgigmdaaDoor.WP
