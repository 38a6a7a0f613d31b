/- The walks of oxbowtop.near and decimal. -/
import Derived.Test.YtcojnojdgigmdaaDoorB11
import Derived.Test.YtcojnojdgigmdaaDoorWSym3
import Derived.Lib.ItoaNum
import Derived.Lib.ItoaLen
import Derived.WalkSpells
import Derived.WalkLawsBesides
import Derived.Lib.Builder
import Derived.Laws.IdiomStrings
namespace Go.Proofs.YtcojnojdgigmdaaDoor.WR
open Go Go.RowKit Go.Sort Go.Proofs.YtcojnojdgigmdaaDoor Go.Proofs.YtcojnojdgigmdaaDoor.PL Go.Proofs.YtcojnojdgigmdaaDoor.PR Go.Proofs.YtcojnojdgigmdaaDoor.Mem Go.Proofs.YtcojnojdgigmdaaDoor.WS

set_option maxRecDepth 100000 in
theorem near_top (n most : Int) (w : World) (hn : -9223372036854775808 ≤ n ∧ n ≤ 9223372036854775807) (hm : 0 < most ∧ most ≤ 1000000) :
    Calls Tryd.prog 21 #[.int .i64 n, .int .i64 most] w fun e w' => e = .returned (.int .i64 (nearI n most)) ∧ w = w' := by
  obtain ⟨h1, h2⟩ := hn
  obtain ⟨m1, m2⟩ := hm
  by_cases h0 : n < 0
  · have HE := Lib.hid (show nearI n most = -((n + 1).tmod most) by
      unfold nearI
      rw [if_pos h0, ← Int.neg_tmod, Int.tmod_eq_emod_of_nonneg (by omega)])
    have p0 : 0 ≤ -(n + 1) := by omega
    have p1 : -(n + 1) ≤ 9223372036854775807 := by omega
    go_enter Tryd.func21, Tryd.ntmps21
    go_wp2
    go_ret
    refine ⟨?_, rfl⟩
    rw [HE.out]; rfl
  · have HE := Lib.hid (show nearI n most = n % most by unfold nearI; rw [if_neg h0])
    have p0 : 0 ≤ n := by omega
    go_enter Tryd.func21, Tryd.ntmps21
    go_wp2
    go_ret
    refine ⟨?_, rfl⟩
    rw [HE.out]; rfl
theorem mkappT (a b : List UInt8) : (⟨a.toArray⟩ ++ ⟨b.toArray⟩ : ByteArray) = ⟨(a ++ b).toArray⟩ := by simp [ByteArray.mk_append_mk]
/-- A text of one byte. -/
theorem one_strT (w : World) (x : Int) (h0 : 0 ≤ x) (h1 : x < 256) : (convert 111 9 (.slice (some ⟨w.heap.size, 0, none⟩) 1 1)).run Tryd.prog (w.alloc (.cells #[.int .u8 x] 5)) =
    .ok (.string ⟨[UInt8.ofNat x.toNat].toArray⟩) (w.alloc (.cells #[.int .u8 x] 5)) := by
  have := run_convert_bytes_back (P := Tryd.prog) (w.alloc (.cells #[.int .u8 x] 5)) 111 9 5 ⟨w.heap.size, 0, none⟩ 1 [UInt8.ofNat x.toNat] Tryd.underlying111 Tryd.underlying5 Tryd.underlying9 (fun j hj => by
    have hj0 : j = 0 := by simpa using hj
    subst hj0
    rw [add_lit, World.cell?_alloc_at _ _ _ _ rfl]
    simp [UInt8.toNat_ofNat']; omega)
  simpa using this
/-- The digits that are still to come. -/
def decR (n m : Int) (acc : List UInt8) : Prop := 0 ≤ m ∧ Lib.itoa n = (if m = 0 ∧ acc ≠ [] then [] else Lib.itoa m) ++ acc
theorem decR_step {n m : Int} {acc : List UInt8} (h : decR n m acc) (hm : ¬ (m = 0 ∧ acc ≠ [])) : decR n (m.tdiv 10) (UInt8.ofNat (48 + m.tmod 10).toNat :: acc) := by
  obtain ⟨h0, h⟩ := h
  rw [if_neg hm] at h
  have e1 : m.tdiv 10 = m / 10 := Int.tdiv_eq_ediv_of_nonneg h0
  have e2 : m.tmod 10 = m % 10 := Int.tmod_eq_emod_of_nonneg h0
  rw [e1, e2]
  refine ⟨by omega, ?_⟩
  rw [h]
  have e3 : (48 + m % 10).toNat = 48 + m.toNat % 10 := by omega
  rw [e3]
  unfold Lib.itoa
  rw [if_neg (by omega), if_neg (show ¬ m / 10 < 0 by omega)]
  have e4 : (m / 10).toNat = m.toNat / 10 := by omega
  rw [e4]
  by_cases hz : m / 10 = 0
  · rw [if_pos ⟨hz, by simp⟩, Lib.decDigits, dif_pos (by omega)]
    have e5 : m.toNat % 10 = m.toNat := by omega
    rw [e5]; rfl
  · rw [if_neg (fun x => hz x.1), Lib.decDigits, dif_neg (by omega)]
    simp
def emptyS : Value → Nat
  | .string s => if s.size = 0 then 1 else 0
  | _ => 0
theorem emptyS_app (x : UInt8) (l : List UInt8) : emptyS (.string (⟨[x].toArray⟩ ++ ⟨l.toArray⟩)) = 0 := by rw [mkappT]; simp [emptyS, ByteArray.size]
set_option maxRecDepth 100000 in
set_option maxHeartbeats 1600000 in
theorem dec_top (n : Int) (h0 : 0 ≤ n) (h1 : n ≤ 9223372036854775807) (W : World) :
    Calls Tryd.prog 23 #[.int .i64 n] W fun e w' => e = .returned (.string ⟨(Lib.itoa n).toArray⟩) ∧ Grw W w' := by
  have HL := Lib.hid (Lib.itoa_length_le n (by omega) h1)
  go_enter Tryd.func23, Tryd.ntmps23
  go_wp2_with fail
  go_loopw [3, 0] (fun s t wr => ∃ (m : Int) (acc : List UInt8), m ≤ 9223372036854775807 ∧ t = .int .i64 m ∧ s = .string ⟨acc.toArray⟩ ∧ decR n m acc ∧ Grw W wr) (fun s t _ => (intOf t).natAbs + emptyS s)
  case atStart => exact ⟨n, [], h1, rfl, rfl, ⟨h0, by simp⟩, Grw.refl _⟩
  case round =>
    obtain ⟨m, acc, hm1, rfl, rfl, hd, hg⟩ := hrel
    have HD := Lib.hid hd; have HG := Lib.hid hg
    have hm0 : 0 ≤ m := hd.1
    have hal : acc.length ≤ 21 := by
      have h := HL.out; have h2 := hd.2; rw [h2, List.length_append] at h; omega
    have hd0 : 0 ≤ m.tmod 10 := by rw [Int.tmod_eq_emod_of_nonneg hm0]; omega
    have hd9 : m.tmod 10 ≤ 9 := by rw [Int.tmod_eq_emod_of_nonneg hm0]; omega
    have hb0 : 0 ≤ m.tdiv 10 := by rw [Int.tdiv_eq_ediv_of_nonneg hm0]; omega
    have hb1 : m.tdiv 10 ≤ 9223372036854775807 := by rw [Int.tdiv_eq_ediv_of_nonneg hm0]; omega
    clear hd hg
    by_cases hm : 0 < m
    · have HS := Lib.hid (decR_step HD.out (by omega))
      have HM := Lib.hid (show (m.tdiv 10).natAbs < m.natAbs by rw [Int.tdiv_eq_ediv_of_nonneg hm0]; omega)
      obtain ⟨d, hdd⟩ : ∃ d, m.tmod 10 = d := ⟨_, rfl⟩
      rw [hdd] at HS hd0 hd9
      have hone := one_strT wr (48 + d) (by omega) (by omega)
      go_wp2_with fail
      go_roundw
      case rel => exact ⟨m.tdiv 10, UInt8.ofNat (48 + d).toNat :: acc, hb1, rfl, congrArg Value.string (mkappT [UInt8.ofNat (48 + d).toNat] acc), HS.out, HG.out.alloc _⟩
      case measure =>
        have h2 := HM.out
        have h3 : ∀ q, (m.tdiv 10).natAbs + emptyS (.string (⟨[UInt8.ofNat (48 + d).toNat].toArray⟩ ++ ⟨acc.toArray⟩)) < m.natAbs + q := by intro q; rw [emptyS_app]; omega
        exact h3 _
    · obtain rfl : m = 0 := by omega
      cases acc with
      | nil =>
        have HS := Lib.hid (decR_step HD.out (by simp))
        have hone := one_strT wr 48 (by omega) (by omega)
        clear hm
        go_wp2_with fail
        go_roundw
        case rel => exact ⟨0, [48], by omega, rfl, rfl, HS.out, HG.out.alloc _⟩
        case measure => simp [intOf, emptyS, ByteArray.size]
      | cons x acc =>
        have HJ := Lib.hid (show Lib.itoa n = x :: acc by have := HD.out.2; rw [if_pos ⟨rfl, by simp⟩] at this; simpa using this)
        clear hm
        go_wp2_with fail
        go_ret
        exact ⟨by rw [HJ.out]; rfl, HG.out⟩
end Go.Proofs.YtcojnojdgigmdaaDoor.WR
