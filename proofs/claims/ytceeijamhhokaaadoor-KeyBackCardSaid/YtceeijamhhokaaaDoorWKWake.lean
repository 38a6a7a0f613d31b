/- The walks of key.Num, key.Text, oxbowlaw02.wakes and key.Above. -/
import Derived.Test.YtceeijamhhokaaaDoorWKMake
import Derived.Deep.RegionHeld3
namespace Go.Proofs.YtceeijamhhokaaaDoor.WK
open Go Go.RowKit Go.Proofs.YtceeijamhhokaaaDoor Go.Proofs.YtceeijamhhokaaaDoor.PK Go.Proofs.YtceeijamhhokaaaDoor.Mem

theorem res_num {w : World} {B : Nat} {c0 c1 c2 : Value} {tmps : Array Value} (h2 : tmps[2]? = some (.pointer (some ⟨B, 0, none⟩)))
    (e0 : w.cell? ⟨B, 0, none⟩ = some c0) (e1 : w.cell? ⟨B, 1, none⟩ = some c1) (e2 : w.cell? ⟨B, 2, none⟩ = some c2) :
    (results Tryd.f14 tmps).run Tryd.prog w = .ok (.agg #[c0, c1, c2]) w := by
  simp [results, Tryd.results14, go_sem, h2, e0, e1, e2]
theorem res_text {w : World} {B : Nat} {c0 c1 c2 : Value} {tmps : Array Value} (h2 : tmps[2]? = some (.pointer (some ⟨B, 0, none⟩)))
    (e0 : w.cell? ⟨B, 0, none⟩ = some c0) (e1 : w.cell? ⟨B, 1, none⟩ = some c1) (e2 : w.cell? ⟨B, 2, none⟩ = some c2) :
    (results Tryd.f15 tmps).run Tryd.prog w = .ok (.agg #[c0, c1, c2]) w := by
  simp [results, Tryd.results15, go_sem, h2, e0, e1, e2]
set_option maxRecDepth 100000 in
theorem num_any (n : Int) (W : World) : Calls Tryd.prog 14 #[.int .i64 n] W fun e w' => e = .returned (.agg #[.bool false, .int .i64 n, .string .empty]) ∧ Below W.heap.size W w' := by
  go_enter Tryd.func14, Tryd.ntmps14
  go_wp2_with fail
  have X := Mem.heap_new (w := W) (o := .cells #[.bool false, .int .i64 n, .string ⟨#[]⟩] 34) (g := W.heap.size) rfl
  refine bodyPost_ret (res_num rfl ((Lib.cell_of_heap X 0).trans rfl) ((Lib.cell_of_heap X 1).trans rfl) ((Lib.cell_of_heap X 2).trans rfl)) rfl ?_
  exact ⟨rfl, (Below.refl _ _).alloc (Nat.le_refl _) _⟩
set_option maxRecDepth 100000 in
theorem text_any (s : ByteArray) (W : World) : Calls Tryd.prog 15 #[.string s] W fun e w' => e = .returned (.agg #[.bool true, .int .i64 0, .string s]) ∧ Below W.heap.size W w' := by
  go_enter Tryd.func15, Tryd.ntmps15
  go_wp2_with fail
  have X := Mem.heap_new (w := W) (o := .cells #[.bool true, .int .i64 0, .string s] 34) (g := W.heap.size) rfl
  refine bodyPost_ret (res_text rfl ((Lib.cell_of_heap X 0).trans rfl) ((Lib.cell_of_heap X 1).trans rfl) ((Lib.cell_of_heap X 2).trans rfl)) rfl ?_
  exact ⟨rfl, (Below.refl _ _).alloc (Nat.le_refl _) _⟩

/-- What wakes makes. -/
def partsW : List KP := [⟨false, 1, .empty⟩, ⟨true, 0, ⟨#[97]⟩⟩]
theorem makeW : makeE partsW = 0 ∧ makeS partsW = [1, 128, 0, 0, 0, 0, 0, 0, 1, 2, 97, 0, 1] := by
  have h : makeE partsW = 0 := makeE_ok (by decide) (by intro p hp; simp only [partsW, List.mem_cons, List.not_mem_nil, or_false] at hp; rcases hp with rfl | rfl <;> decide)
  refine ⟨h, ?_⟩
  unfold makeS
  rw [if_pos h]
  decide
theorem new_parts (w : World) (l : List KP) : Prts (w.alloc (.cells (cellsOf encK l).toArray 34)) (w.heap.size + 1) (.slice (some ⟨w.heap.size, 0, none⟩) l.length l.length) l :=
  ⟨cellsOf_length encK_len l, _, _, rfl, Nat.le_refl _, fun _ => ⟨w.heap.size, 0, rfl, by omega, fun j u hu => by
    have := new_cell w (cellsOf encK l).toArray 34 j u (by simpa using hu)
    rwa [lit_add] at this⟩⟩

set_option maxRecDepth 100000 in
set_option maxHeartbeats 3200000 in
theorem wakes02 (W : World) (hm : MaxLen W) (hg : 0 < W.heap.size) : Calls Tryd.prog 16 #[] W fun e w' => e = .returned (.bool true) ∧ Below W.heap.size W w' := by
  have HN := Lib.hid (num_any 1 W)
  go_enter Tryd.func16, Tryd.ntmps16
  go_wp2_with fail
  refine HN.out.mono ?_
  rintro e w1 ⟨rfl, hb1⟩
  have HB1 := Lib.hid hb1
  have HT := Lib.hid (text_any ⟨#[97]⟩ w1)
  clear hb1
  go_wp2_with fail
  refine HT.out.mono ?_
  rintro e w2 ⟨rfl, hb2⟩
  have HB2 := Lib.hid (HB1.out.trans (hb2.mono HB1.out.size))
  have hnp := new_parts w2 partsW
  have hb3 := HB2.out.alloc HB2.out.size (.cells (cellsOf encK partsW).toArray 34)
  have HB3 := Lib.hid hb3
  have HMK := make_any partsW _ _ (hm.below hb3 hg) (by have := HB3.out.size; omega) (by simpa using hnp) (by intro p hp; simp only [partsW, List.mem_cons, List.not_mem_nil, or_false] at hp; unfold fitK; rcases hp with rfl | rfl <;> decide) (by decide)
  rw [makeW.1, makeW.2] at HMK
  have HM := Lib.hid HMK
  clear hb2 hb3 hnp HMK
  go_wp2_with fail
  refine HM.out.mono ?_
  rintro e w4 ⟨rfl, hb4⟩
  go_wp2_with fail
  go_ret
  exact ⟨rfl, HB3.out.trans (hb4.mono HB3.out.size)⟩

/-! ### above -/
/-- A text of one byte. -/
theorem one_str (w : World) (x : Int) (h0 : 0 ≤ x) (h1 : x < 256) : (convert 63 9 (.slice (some ⟨w.heap.size, 0, none⟩) 1 1)).run Tryd.prog (w.alloc (.cells #[.int .u8 x] 5)) =
    .ok (.string ⟨[UInt8.ofNat x.toNat].toArray⟩) (w.alloc (.cells #[.int .u8 x] 5)) := by
  have := run_convert_bytes_back (P := Tryd.prog) (w.alloc (.cells #[.int .u8 x] 5)) 63 9 5 ⟨w.heap.size, 0, none⟩ 1 [UInt8.ofNat x.toNat] Tryd.underlying63 Tryd.underlying5 Tryd.underlying9 (fun j hj => by
    have hj0 : j = 0 := by simpa using hj
    subst hj0
    rw [add_lit, World.cell?_alloc_at _ _ _ _ rfl]
    simp [UInt8.toNat_ofNat']; omega)
  simpa using this
theorem one_strD (w : World) (x : Int) (h0 : 0 ≤ x) (h1 : x < 256) : (convert 63 9 (.slice (some ⟨w.heap.size, 0, none⟩) 1 1)).run Tryd.prog (w.alloc (.cells #[.int .u8 x] 5)).drew =
    .ok (.string ⟨[UInt8.ofNat x.toNat].toArray⟩) (w.alloc (.cells #[.int .u8 x] 5)).drew := by
  have := run_convert_bytes_back (P := Tryd.prog) (w.alloc (.cells #[.int .u8 x] 5)).drew 63 9 5 ⟨w.heap.size, 0, none⟩ 1 [UInt8.ofNat x.toNat] Tryd.underlying63 Tryd.underlying5 Tryd.underlying9 (fun j hj => by
    have hj0 : j = 0 := by simpa using hj
    subst hj0
    show (w.alloc (.cells #[.int .u8 x] 5)).cell? _ = _
    rw [add_lit, World.cell?_alloc_at _ _ _ _ rfl]
    simp [UInt8.toNat_ofNat']; omega)
  simpa using this
/-- How many bytes are left where those at the end that are 255 are gone. -/
def cutN : List UInt8 → Nat
  | [] => 0
  | b :: l => if cutN l = 0 then (if b = 255 then 0 else 1) else cutN l + 1
theorem cutN_le (l : List UInt8) : cutN l ≤ l.length := by
  induction l with
  | nil => exact Nat.le_refl _
  | cons b l ih => unfold cutN; repeat' split
                   all_goals simp only [List.length_cons]; omega
theorem cutN_zero {l : List UInt8} (h : ∀ (j : Nat) (b : UInt8), l[j]? = some b → b = 255) : cutN l = 0 := by
  induction l with
  | nil => rfl
  | cons b l ih =>
    have h1 := ih fun j c hj => h (j + 1) c hj
    unfold cutN
    rw [if_pos h1, if_pos (h 0 b rfl)]
theorem cutN_at {l : List UInt8} {m : Nat} {c : UInt8} (hm : l[m]? = some c) (hc : c ≠ 255) (h : ∀ (j : Nat) (b : UInt8), m < j → l[j]? = some b → b = 255) : cutN l = m + 1 := by
  induction l generalizing m with
  | nil => simp at hm
  | cons b l ih =>
    cases m with
    | zero =>
      have h1 : cutN l = 0 := cutN_zero fun j d hj => h (j + 1) d (by omega) hj
      obtain rfl : b = c := by simpa using hm
      unfold cutN
      rw [if_pos h1, if_neg hc]
    | succ m =>
      have h1 := ih (m := m) hm (fun j d hj hd => h (j + 1) d (by omega) hd)
      unfold cutN
      rw [if_neg (by omega), h1]
theorem above_eq {s : ByteArray} {m : Nat} (hm : m < s.size) (h : s.data.toList[m]? = some s[m]) : s.extract 0 m ++ ⟨#[UInt8.ofNat (((s[m].toNat : Int) + 1) % 256).toNat]⟩ = ⟨(s.data.toList.take m ++ [s.data.toList[m]! + 1]).toArray⟩ := by
  have e1 : s.data.toList[m]! = s[m] := by rw [List.getElem!_eq_getElem?_getD, h]; rfl
  have e2 : UInt8.ofNat (((s[m].toNat : Int) + 1) % 256).toNat = s[m] + 1 := by
    apply UInt8.toNat_inj.1
    rw [UInt8.toNat_ofNat', UInt8.toNat_add]
    have := s[m].toNat_lt
    have h1 : (1 : UInt8).toNat = 1 := rfl
    rw [h1]
    omega
  rw [e1, e2]
  apply ByteArray.ext
  rw [ByteArray.data_append, ByteArray.data_extract]
  apply Array.ext'
  simp
set_option maxRecDepth 100000 in
set_option maxHeartbeats 3200000 in
theorem above_any (s : ByteArray) (W : World) (hs : s.size ≤ 140737488355328) : Calls Tryd.prog 17 #[.string s] W fun e w' =>
    e = .returned (.tuple #[.string (if cutN s.data.toList = 0 then .empty else ⟨(s.data.toList.take (cutN s.data.toList - 1) ++ [(s.data.toList[cutN s.data.toList - 1]!) + 1]).toArray⟩), .bool (cutN s.data.toList != 0)]) ∧ Below W.heap.size W w' := by
  obtain ⟨r1, HR1⟩ : ∃ r : ByteArray, Hid (r = if cutN s.data.toList = 0 then .empty else ⟨(s.data.toList.take (cutN s.data.toList - 1) ++ [(s.data.toList[cutN s.data.toList - 1]!) + 1]).toArray⟩) := ⟨_, Lib.hid rfl⟩
  obtain ⟨r2, HR2⟩ : ∃ r : Bool, Hid (r = (cutN s.data.toList != 0)) := ⟨_, Lib.hid rfl⟩
  rw [← HR1.out, ← HR2.out]
  have hs' : (s.size : Int) ≤ 140737488355328 := by omega
  have hw : wrap64 ((s.size : Int) - 1) = (s.size : Int) - 1 := by unfold wrap64; omega
  go_enter Tryd.func17, Tryd.ntmps17
  go_wp2_with fail
  go_loopw [4] (fun t wr => ∃ k : Nat, t = .int .i64 ((k : Int) - 1) ∧ k ≤ s.size ∧ wr = W ∧ ∀ (j : Nat) (b : UInt8), k ≤ j → s.data.toList[j]? = some b → b = 255) (fun t _ => (intOf t + 1).toNat)
  case atStart => exact ⟨s.size, rfl, Nat.le_refl _, rfl, fun j b hj hb => by rw [List.getElem?_eq_none (by rw [Array.length_toList]; exact hj)] at hb; cases hb⟩
  case round =>
    obtain ⟨k, rfl, hk, rfl, hall⟩ := hrel
    have HALL := Lib.hid hall
    clear hall
    cases k with
    | zero =>
      have HZ := Lib.hid (cutN_zero fun j b hj => HALL.out j b (Nat.zero_le _) hj)
      go_wp2_with fail
      go_ret2
      refine ⟨?_, Below.refl _ _⟩
      rw [HR1.out, HR2.out, HZ.out]; rfl
    | succ m =>
      have hm : m < s.size := by omega
      have hm' : (m : Int) < (s.size : Int) := by omega
      have hm0 : (0 : Int) ≤ (m : Int) := by omega
      have hget : s.data.toList[m]? = some s[m] := by rw [List.getElem?_eq_getElem (by rw [Array.length_toList]; exact hm)]; rfl
      have HG := Lib.hid hget
      clear hget
      have e1 : ((m + 1 : Nat) : Int) - 1 = (m : Int) := by omega
      rw [e1]
      clear e1
      by_cases hc : s[m] = 255
      · have hc' : ((s[m].toNat : Int) == 255) = true := by rw [hc]; rfl
        go_wp2_with fail
        go_roundw
        case rel => exact ⟨m, rfl, by omega, trivial, fun j b hj hb => by
          rcases Nat.eq_or_lt_of_le hj with rfl | h
          · rw [HG.out] at hb; cases hb; exact hc
          · exact HALL.out j b h hb⟩
        case measure => simp [intOf]
      · have hc' : ((s[m].toNat : Int) == 255) = false := by
          rw [beq_eq_false_iff_ne]
          intro e
          exact hc (UInt8.toNat_inj.1 (by have : s[m].toNat = 255 := by omega
                                          rw [this]; rfl))
        have HC := Lib.hid (cutN_at HG.out hc fun j b hj hb => HALL.out j b hj hb)
        have hmle : (m : Int) ≤ (s.size : Int) := by omega
        have hwb : IntKind.u8.wrap ((s[m].toNat : Int) + 1) = ((s[m].toNat : Int) + 1) % 256 := by rw [IntKind.wrap_u8]
        have HON := one_strD wr (((s[m].toNat : Int) + 1) % 256) (by omega) (by omega)
        have hbs : ∀ b : UInt8, ByteArray.size ⟨#[b]⟩ = 1 := fun _ => rfl
        have hxs : (s.extract 0 m).size = m := by rw [ByteArray.size_extract]; omega
        go_wp2_with fail
        go_region
        go_wp2_with fail
        go_ret2
        refine ⟨?_, ((Below.refl _ _).alloc (Nat.le_refl _) _).drew⟩
        rw [HR1.out, HR2.out, HC.out, if_neg (by omega)]
        have e1 : ((m + 1 != 0) : Bool) = true := by simp
        rw [e1, Nat.add_sub_cancel, ← above_eq hm HG.out]
        rfl
end Go.Proofs.YtceeijamhhokaaaDoor.WK
