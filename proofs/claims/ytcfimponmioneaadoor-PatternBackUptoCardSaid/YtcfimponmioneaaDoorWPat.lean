/- The walks of the pattern reader's small methods. -/
import Derived.Test.YtcfimponmioneaaDoorChecked
import Derived.Test.YtcfimponmioneaaDoorPPat
import Derived.WalkKit
import Derived.Outline
import Derived.Lib.Hide
import Derived.WalkSpells
import Derived.WalkLawsBesides
import Derived.BigQuiet
import Derived.Deep.QuietTactic
import Derived.Lib.Builder
import Derived.StillTailTactics
namespace Go.Proofs.YtcfimponmioneaaDoor.WP
open Go.RowKit Go.Proofs.YtcfimponmioneaaDoor Go.Proofs.YtcfimponmioneaaDoor.PP

/-- The panic of a fault. -/
def faultV (k er : Int) : List PanicEntry := [{ v := .iface 64 (.agg #[.int .i64 k, .int .i64 er]), recovered := false }]

set_option maxRecDepth 100000 in
theorem fail_any (p : Value) (k er : Int) (w : World) : Calls Tryd.prog 20 #[p, .int .i64 k, .int .i64 er] w fun e w' => e = .panicked (faultV k er) ∧ w = w' := by
  go_enter Tryd.func20, Tryd.ntmps20
  go_wp2
  exact ⟨rfl, rfl, rfl⟩

/-- The reader's block. -/
def Rd (w : World) (R : Nat) (s : ByteArray) (a : Nat) : Prop := w.heap[R]? = some (.cells #[.string s, .int .i64 a] 68 (0, 0))
theorem Rd.cells {w : World} {R : Nat} {s : ByteArray} {a : Nat} (h : Rd w R s a) : w.cell? ⟨R, 0, none⟩ = some (.string s) ∧ w.cell? ⟨R, 1, none⟩ = some (.int .i64 a) ∧ w.frozen? ⟨R, 1, none⟩ = false :=
  ⟨by rw [Lib.cell_of_heap h]; rfl, by rw [Lib.cell_of_heap h]; rfl, Lib.frozen_of_heap h 1⟩

theorem drewN_two (w : World) (a b : Nat) : (w.drewN a).drewN b = w.drewN (a + b) := by
  simp

set_option maxRecDepth 100000 in
set_option maxHeartbeats 800000 in
theorem peek_any (R : Nat) (s : ByteArray) (a : Nat) (w : World) (h : Rd w R s a) (ha : a ≤ s.size) (_hs : s.size ≤ 4096) :
    Calls Tryd.prog 39 #[.pointer (some ⟨R, 0, none⟩)] w fun e w' => e = .returned (.int .u8 (peekB s.data.toList a)) ∧ ∃ n, w' = w.drewN n := by
  obtain ⟨c0, c1, c2⟩ := h.cells
  by_cases hend : a = s.size
  · have hend' : ((a : Int) == s.size) = true := by rw [beq_iff_eq]; omega
    have hpk : peekB s.data.toList a = 0 := by unfold peekB; rw [List.getElem?_eq_none (by rw [Array.length_toList]; show s.size ≤ a; omega)]
    have Hpk := Lib.hid hpk
    clear hpk hend
    go_enter Tryd.func39, Tryd.ntmps39
    go_wp2
    go_quiet (fail)
    go_wp2
    go_ret
    exact ⟨by rw [Hpk.out]; rfl, _, rfl⟩
  · have hend' : ((a : Int) == s.size) = false := by rw [beq_eq_false_iff_ne]; omega
    have hlt : a < s.size := by omega
    have hpk : peekB s.data.toList a = s[a].toNat := by unfold peekB; rw [List.getElem?_eq_getElem (by rw [Array.length_toList]; exact hlt)]; rfl
    have Hpk := Lib.hid hpk
    clear hpk hend
    have hai : (a : Int) < (s.size : Int) := by omega
    go_enter Tryd.func39, Tryd.ntmps39
    go_wp2
    go_quiet (fail)
    go_wp2
    go_quiet (fail)
    go_wp2
    go_ret
    exact ⟨by rw [Hpk.out]; rfl, _, drewN_two w _ _⟩

/-- What a step of the reader leaves: the place moved, or a fault's panic; but for the reader's block all that was there is as it was. -/
def Post {α : Type} (R : Nat) (s : ByteArray) (val : α → Value) (w : World) (r : PR α) (e : Ending) (w' : World) : Prop :=
  match r with
  | .inl (k, er) => e = .panicked (faultV k er) ∧ w.grownBy w' (some R)
  | .inr (x, a') => e = .returned (val x) ∧ Rd w' R s a' ∧ w.grownBy w' (some R) ∧ a' ≤ s.size

theorem Rd.drewN {w : World} {R : Nat} {s : ByteArray} {a : Nat} (h : Rd w R s a) (n : Nat) : Rd (w.drewN n) R s a := h
theorem grown_drewN (w : World) (n : Nat) (row : Option Nat) : w.grownBy (w.drewN n) row := ⟨rfl, rfl, rfl, Nat.le_refl _, fun _ _ _ => rfl⟩
theorem grown_set (w : World) (n R i : Nat) (v : Value) : w.grownBy ((w.drewN n).setCell ⟨R, i, none⟩ v) (some R) :=
  ⟨rfl, rfl, rfl, by simp [World.setCell, World.drewN], fun k _ hk => Below.heap_setCell (w.drewN n) ⟨R, i, none⟩ v k (fun e => hk (by rw [e]))⟩
theorem Rd.moved {w : World} {R : Nat} {s : ByteArray} {a : Nat} (h : Rd w R s a) (n a' : Nat) : Rd ((w.drewN n).setCell ⟨R, 1, none⟩ (.int .i64 a')) R s a' := by
  have h' : w.heap[R]? = some (.cells #[.string s, .int .i64 a] 68 (0, 0)) := h
  unfold Rd
  simp [World.setCell, Array.getElem?_modify, h']

theorem peek_some {s : ByteArray} {a : Nat} (h : a < s.size) : s.data.toList[a]? = some s[a] := by rw [List.getElem?_eq_getElem (by rw [Array.length_toList]; exact h)]; rfl
theorem peek_end {s : ByteArray} {a : Nat} (h : ¬ a < s.size) : s.data.toList[a]? = none := by rw [List.getElem?_eq_none (by rw [Array.length_toList]; show s.size ≤ a; omega)]

set_option maxRecDepth 100000 in
set_option maxHeartbeats 1600000 in
theorem one_any (R : Nat) (s : ByteArray) (a : Nat) (lo hi : Nat) (w : World) (h : Rd w R s a) (ha : a ≤ s.size) (hs : s.size ≤ 4096) :
    Calls Tryd.prog 38 #[.pointer (some ⟨R, 0, none⟩), .int .u8 lo, .int .u8 hi] w fun e w' => Post R s (fun b : Nat => .int .u8 b) w (pOne s.data.toList a lo hi) e w' := by
  obtain ⟨c0, c1, c2⟩ := h.cells
  have hpk := peek_any R s a w h ha hs
  have Hpk := Lib.hid hpk
  have Hrd := Lib.hid h
  clear hpk h
  by_cases hlt : a < s.size
  · have hend' : ((a : Int) == s.size) = false := by rw [beq_eq_false_iff_ne]; omega
    have hp1 : peekB s.data.toList a = s[a].toNat := by unfold peekB; rw [peek_some hlt]
    obtain ⟨b, hb⟩ : ∃ b, b = peekB s.data.toList a := ⟨_, rfl⟩
    have hb8 : b ≤ 255 := by rw [hb, hp1]; have := s[a].toNat_lt; omega
    have hone : pOne s.data.toList a lo hi = if lo ≤ b ∧ b ≤ hi then .inr (b, a + 1) else .inl (a, 20) := by
      unfold pOne
      rw [peek_some hlt]
      simp only [hb, hp1]
    rw [hone]
    have Hb := Lib.hid hb
    rw [← hb] at Hpk
    clear hb hp1 hone Hb
    by_cases h1 : (b : Int) < lo
    · rw [if_neg (by omega)]
      go_enter Tryd.func38, Tryd.ntmps38
      go_wp2_with fail
      refine Hpk.out.mono ?_
      rintro e w1 ⟨rfl, n1, rfl⟩
      go_wp2_with fail
      go_quiet (fail)
      go_wp2_with fail
      refine (fail_any _ _ _ _).mono ?_
      rintro e w2 ⟨rfl, rfl⟩
      go_wp2_with fail
      exact ⟨rfl, rfl, grown_drewN _ _ _⟩
    by_cases h2 : (hi : Int) < b
    · rw [if_neg (by omega)]
      have d1 : decide (b < lo) = false := by simp; omega
      go_enter Tryd.func38, Tryd.ntmps38
      go_wp2_with fail
      refine Hpk.out.mono ?_
      rintro e w1 ⟨rfl, n1, rfl⟩
      go_wp2_with fail
      go_quiet (fail)
      go_wp2_with fail
      refine (fail_any _ _ _ _).mono ?_
      rintro e w2 ⟨rfl, rfl⟩
      go_wp2_with fail
      exact ⟨rfl, rfl, grown_drewN _ _ _⟩
    · rw [if_pos (by omega)]
      have d1 : decide (b < lo) = false := by simp; omega
      have d2 : decide (hi < b) = false := by simp; omega
      go_enter Tryd.func38, Tryd.ntmps38
      go_wp2_with fail
      refine Hpk.out.mono ?_
      rintro e w1 ⟨rfl, n1, rfl⟩
      go_wp2_with fail
      go_quiet (fail)
      go_wp2_with fail
      go_ret
      exact ⟨rfl, Hrd.out.moved _ (a + 1), grown_set _ _ _ _ _, by omega⟩
  · have hend : a = s.size := by omega
    have hend' : ((a : Int) == s.size) = true := by rw [beq_iff_eq]; omega
    have hone : pOne s.data.toList a lo hi = .inl (a, 20) := by unfold pOne; rw [peek_end hlt]
    rw [hone]
    clear hone hend
    go_enter Tryd.func38, Tryd.ntmps38
    go_wp2_with fail
    refine Hpk.out.mono ?_
    rintro e w1 ⟨rfl, n1, rfl⟩
    go_wp2_with fail
    go_quiet (fail)
    go_wp2_with fail
    refine (fail_any _ _ _ _).mono ?_
    rintro e w2 ⟨rfl, rfl⟩
    go_wp2_with fail
    exact ⟨rfl, rfl, grown_drewN _ _ _⟩

theorem Rd.grown {w w' : World} {R : Nat} {s : ByteArray} {a : Nat} (h : Rd w R s a) (hg : w.grownBy w' none) : Rd w' R s a := by
  have hlt : R < w.heap.size := by
    rcases Nat.lt_or_ge R w.heap.size with h' | h'
    · exact h'
    · unfold Rd at h; simp [Array.getElem?_eq_none h'] at h
  exact (hg.block R hlt (by simp)).trans h
theorem grown_trans {a b c : World} {row : Option Nat} (h : a.grownBy b row) (k : b.grownBy c row) : a.grownBy c row :=
  ⟨k.os.trans h.os, k.tape.trans h.tape, k.output.trans h.output, Nat.le_trans h.size k.size, fun i hi hr => (k.block i (by have := h.size; omega) hr).trans (h.block i hi hr)⟩

theorem grown_drew (w : World) (row : Option Nat) : w.grownBy w.drew row := ⟨rfl, rfl, rfl, Nat.le_refl _, fun _ _ _ => rfl⟩
theorem pWord_cons (l : List UInt8) (b : UInt8) (r : List UInt8) (a : Nat) : pWord l (b :: r) a = (match pOne l a b.toNat b.toNat with
    | .inl f => .inl f
    | .inr (_, a') => pWord l r a') := rfl

set_option maxRecDepth 100000 in
set_option maxHeartbeats 1600000 in
theorem word_any (R : Nat) (s : ByteArray) (a : Nat) (wd : ByteArray) (w : World) (h : Rd w R s a) (ha : a ≤ s.size) (hs : s.size ≤ 4096) (hwd : wd.size ≤ 4096) :
    Calls Tryd.prog 26 #[.pointer (some ⟨R, 0, none⟩), .string wd] w fun e w' => Post R s (fun _ : Unit => .tuple #[]) w (pWord s.data.toList wd.data.toList a) e w' := by
  have hwl : wd.data.toList.length = wd.size := Array.length_toList
  have Hwl := Lib.hid hwl
  have Hrd := Lib.hid h
  clear hwl h
  have hwl' := Hwl.out
  go_enter Tryd.func26, Tryd.ntmps26
  go_wp2_with fail
  go_loopw [7] (fun i wr => ∃ k b : Nat, k ≤ wd.size ∧ i = .int .i64 k ∧ b ≤ s.size ∧ Rd wr R s b ∧ w.grownBy wr (some R) ∧ pWord s.data.toList wd.data.toList a = pWord s.data.toList (wd.data.toList.drop k) b) (fun i _ => wd.size - (intOf i).toNat)
  case atStart => exact ⟨0, a, by omega, rfl, ha, Hrd.out, ⟨rfl, rfl, rfl, Nat.le_refl _, fun _ _ _ => rfl⟩, rfl⟩
  case round =>
    obtain ⟨k, b, hk, rfl, hbs, hrd, hg, he⟩ := hrel
    have Hr := Lib.hid hrd; have He := Lib.hid he
    clear hrd he
    by_cases hlt : k < wd.size
    · have hki : (k : Int) < (wd.size : Int) := by omega
      have hki0 : (0 : Int) ≤ (k : Int) := by omega
      have hdrop : wd.data.toList.drop k = wd[k] :: wd.data.toList.drop (k + 1) := by
        rw [List.drop_eq_getElem_cons (by rw [hwl']; exact hlt)]; rfl
      have ho := one_any R s b wd[k].toNat wd[k].toNat wr.drew Hr.out hbs hs
      have he' := He.out
      rw [hdrop, pWord_cons] at he'
      have Ho := Lib.hid ho
      have He' := Lib.hid he'
      clear ho he' hdrop
      go_wp2_with fail
      go_still_tail 7, (by kernel_rfl)
      go_wp2_with fail
      refine Ho.out.mono ?_
      clear Ho
      rintro e w1 hpost
      have he' := He'.out
      cases hone : pOne s.data.toList b wd[k].toNat wd[k].toNat with
      | inl f =>
        obtain ⟨fk, fe⟩ := f
        rw [hone] at hpost he'
        obtain ⟨rfl, hg1⟩ := hpost
        go_wp2_with fail
        refine ⟨rfl, ?_⟩
        rw [he']
        exact ⟨rfl, grown_trans (grown_trans hg (grown_drew wr _)) hg1⟩
      | inr x =>
        obtain ⟨x, b'⟩ := x
        rw [hone] at hpost he'
        obtain ⟨rfl, hr1, hg1, hb1⟩ := hpost
        have Hr1 := Lib.hid hr1
        have He1 := Lib.hid he'
        clear hr1 he' hone He' He
        go_wp2_with fail
        go_roundw
        case rel => exact ⟨k + 1, b', by omega, by go_num, hb1, Hr1.out, grown_trans (grown_trans hg (grown_drew wr _)) hg1, He1.out⟩
        case measure => simp [intOf]; omega
    · have hkk : k = wd.size := by omega
      subst hkk
      go_wp2_with fail
      go_end0
      have he' := He.out
      rw [List.drop_of_length_le (by rw [hwl']; omega)] at he'
      rw [he']
      exact ⟨rfl, Hr.out, hg, hbs⟩
end Go.Proofs.YtcfimponmioneaaDoor.WP
