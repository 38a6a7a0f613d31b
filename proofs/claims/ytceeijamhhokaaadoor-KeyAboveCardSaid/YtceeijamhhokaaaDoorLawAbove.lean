/- KeyAbove: the law's walk. -/
import Derived.Test.YtceeijamhhokaaaDoorPAbove
namespace Go.Proofs.YtceeijamhhokaaaDoor.WK
open Go Go.RowKit Go.Proofs.YtceeijamhhokaaaDoor Go.Proofs.YtceeijamhhokaaaDoor.PK Go.Proofs.YtceeijamhhokaaaDoor.Mem

set_option maxRecDepth 100000 in
set_option maxHeartbeats 3200000 in
theorem above_law (s t u : ByteArray) (W : World) (hs : s.size ≤ 140737488355328) (ht : t.size ≤ 140737488355328) (hu : u.size ≤ 140737488355328) (hm : MaxLen W) (hg : 0 < W.heap.size) :
    Calls Tryd.prog 4 #[.string s, .string t, .string u] W fun e w' => e = .returned (.bool true) ∧ Below W.heap.size W w' := by
  obtain ⟨cn, hcn⟩ : ∃ n, cutN s.data.toList = n := ⟨_, rfl⟩
  have hab := above_any s W hs
  rw [hcn] at hab
  obtain ⟨av, hav⟩ : ∃ a : ByteArray, (if cn = 0 then ByteArray.empty else ⟨(s.data.toList.take (cn - 1) ++ [(s.data.toList[cn - 1]!) + 1]).toArray⟩) = a := ⟨_, rfl⟩
  rw [hav] at hab
  have HAB := Lib.hid hab
  have HAV := Lib.hid hav
  have HCN := Lib.hid hcn
  have hs' : (s.size : Int) ≤ 140737488355328 := by omega
  have ht' : (t.size : Int) ≤ 140737488355328 := by omega
  have hu' : (u.size : Int) ≤ 140737488355328 := by omega
  clear hab hav hcn
  go_enter Tryd.func4, Tryd.ntmps4
  go_wp2_with fail
  refine HAB.out.mono ?_
  rintro e w1 ⟨rfl, hb1⟩
  have HB1 := Lib.hid hb1
  clear hb1
  go_wp2_with fail
  go_loopw [9, 18] (fun o x wr => ∃ (i : Nat) (b : Bool), i ≤ s.size ∧ x = .int .i64 i ∧ o = .bool b ∧ (b = true ↔ ∀ j, j < i → s.data.toList[j]? = some 255) ∧ Below W.heap.size W wr) (fun _ x _ => s.size - (intOf x).toNat)
  case atStart => exact ⟨0, true, by omega, rfl, rfl, by simp, HB1.out⟩
  case round =>
    obtain ⟨i, b, hi, rfl, rfl, hbi, hbel⟩ := hrel
    have HBI := Lib.hid hbi
    have HBE := Lib.hid hbel
    clear hbi hbel
    by_cases hlt : i < s.size
    · have hlt' : (i : Int) < (s.size : Int) := by omega
      have hi0 : (0 : Int) ≤ (i : Int) := by omega
      have HG := Lib.hid (show s.data.toList[i]? = some s[i] by rw [List.getElem?_eq_getElem (by rw [Array.length_toList]; exact hlt)]; rfl)
      cases b with
      | false =>
        have HB2 := Lib.hid (show (false = true ↔ ∀ j, j < i + 1 → s.data.toList[j]? = some 255) from ⟨fun h => (by cases h), fun h => HBI.out.2 fun j hj => h j (by omega)⟩)
        go_wp2_with fail
        go_roundw
        case rel => exact ⟨i + 1, false, by omega, by go_num, rfl, HB2.out, HBE.out⟩
        case measure => simp [intOf]; omega
      | true =>
        by_cases hc : s[i] = 255
        · have hc' : ((s[i].toNat : Int) == 255) = true := by rw [hc]; rfl
          have HB2 := Lib.hid (show (true = true ↔ ∀ j, j < i + 1 → s.data.toList[j]? = some 255) from ⟨fun _ j hj => by
            rcases Nat.lt_succ_iff_lt_or_eq.1 hj with h | rfl
            · exact HBI.out.1 rfl j h
            · rw [HG.out, hc], fun _ => rfl⟩)
          go_wp2_with fail
          go_roundw
          case rel => exact ⟨i + 1, true, by omega, by go_num, rfl, HB2.out, HBE.out⟩
          case measure => simp [intOf]; omega
        · have hc' : ((s[i].toNat : Int) == 255) = false := by
            rw [beq_eq_false_iff_ne]
            intro e
            exact hc (UInt8.toNat_inj.1 (by have : s[i].toNat = 255 := by omega
                                            rw [this]; rfl))
          have HB2 := Lib.hid (show (false = true ↔ ∀ j, j < i + 1 → s.data.toList[j]? = some 255) from ⟨fun h => (by cases h), fun h => by
            have h1 := h i (by omega)
            rw [HG.out] at h1
            exact absurd (Option.some.inj h1) hc⟩)
          go_wp2_with fail
          go_roundw
          case rel => exact ⟨i + 1, false, by omega, by go_num, rfl, HB2.out, HBE.out⟩
          case measure => simp [intOf]; omega
    · obtain rfl : i = s.size := by omega
      have HWK := Lib.hid (wakes02 wr (hm.below HBE.out hg) (Nat.lt_of_lt_of_le hg HBE.out.size))
      go_wp2_with fail
      refine HWK.out.mono ?_
      rintro e w2 ⟨rfl, hb2⟩
      have BW := Lib.hid (HBE.out.trans (hb2.mono HBE.out.size))
      clear hb2 HWK HBE
      have el : s.data.toList.length = s.size := Array.length_toList
      by_cases hz : cn = 0
      · have hbt : b = true := HBI.out.2 fun j hj => cut_zero _ (HCN.out.trans hz) j (by omega)
        subst hbt
        have hav0 : av = ByteArray.empty := by rw [← HAV.out, if_pos hz]
        subst hav0 hz
        clear el
        go_wp2_with fail
        go_ret
        exact ⟨rfl, BW.out⟩
      · obtain ⟨k, rfl⟩ : ∃ k, cn = k + 1 := ⟨cn - 1, by omega⟩
        have hbf : b = false := by
          cases b with
          | false => rfl
          | true =>
            exfalso
            have h1 : cutN s.data.toList = 0 := cutN_zero fun j c hj => by
              have h2 := HBI.out.1 rfl j (by have := (List.getElem?_eq_some_iff.1 hj).1; omega)
              rw [h2] at hj
              exact (Option.some.inj hj).symm
            have := HCN.out
            omega
        subst hbf
        have hall := above_all (a := av) HCN.out (by have := HAV.out; rw [if_neg hz, Nat.add_sub_cancel] at this; exact this) t u
        obtain ⟨h1, h2, h3⟩ := hall
        have h2' : ¬ s.size < av.size := by omega
        clear el hz
        by_cases hu1 : Op.bytesLess u.toList s.toList = true
        · go_wp2_with fail
          go_ret
          exact ⟨rfl, BW.out⟩
        · by_cases hu2 : Op.bytesLess u.toList av.toList = true
          · obtain ⟨h4, h5⟩ := h3 (by simpa using hu1) hu2
            have h4' : (s.size : Int) ≤ (u.size : Int) := by omega
            clear h3
            go_wp2_with fail
            go_ret
            exact ⟨rfl, BW.out⟩
          · clear h3
            go_wp2_with fail
            go_ret
            exact ⟨rfl, BW.out⟩
end Go.Proofs.YtceeijamhhokaaaDoor.WK
