/- The document's keys of events (oxbowref18): num, head, Key, Span. -/
import Derived.Test.YtceeijamhhokaaaDoorPEvKey
namespace Go.Proofs.YtceeijamhhokaaaDoor.WK
open Go Go.RowKit Go.Proofs.YtceeijamhhokaaaDoor Go.Proofs.YtceeijamhhokaaaDoor.PK Go.Proofs.YtceeijamhhokaaaDoor.Mem

theorem numK_len (n : Int) : (oneB (numK n)).length = 9 := by simp [oneB, numK, numB_len]
theorem eK_len : (oneB eK).length = 4 := by decide
theorem evKey_none : evKey [] = oneB eK := by simp [evKey, evParts, keyB]
theorem evKey_one (n : Int) : evKey [n] = oneB eK ++ oneB (numK n) := by simp [evKey, evParts, keyB]
theorem evKey_two (n m : Int) : evKey [n, m] = oneB eK ++ oneB (numK n) ++ oneB (numK m) := by simp [evKey, evParts, keyB]

set_option maxRecDepth 100000 in
theorem rnum_any (n : Int) (W : World) (hn : WE.fit64 n) : Calls Tryd.prog 34 #[.int .i64 n] W fun e w' => e = .returned (.string ⟨(oneB (numK n)).toArray⟩) ∧ Below W.heap.size W w' := by
  have HO := Lib.hid (one_any (numK n) W hn (by intro h; cases h))
  go_enter Tryd.func34, Tryd.ntmps34
  go_wp2_with fail
  refine HO.out.mono ?_
  rintro e w1 ⟨rfl, hb1⟩
  go_wp2_with fail
  go_ret
  exact ⟨rfl, hb1⟩

set_option maxRecDepth 100000 in
theorem rhead_any (W : World) : Calls Tryd.prog 33 #[] W fun e w' => e = .returned (.string ⟨(oneB eK).toArray⟩) ∧ Below W.heap.size W w' := by
  have HO := Lib.hid (one_any eK W (by unfold fitK; decide) (by intro _; decide))
  go_enter Tryd.func33, Tryd.ntmps33
  go_wp2_with fail
  refine HO.out.mono ?_
  rintro e w1 ⟨rfl, hb1⟩
  go_wp2_with fail
  go_ret
  exact ⟨rfl, hb1⟩

set_option maxRecDepth 100000 in
set_option maxHeartbeats 800000 in
theorem rkey_any (x : Ev) (W : World) (hx : x.fits) : Calls Tryd.prog 29 #[WE.evV x] W fun e w' => e = .returned (.string ⟨(evKey [x.time, x.id]).toArray⟩) ∧ Below W.heap.size W w' := by
  have h1 : WE.fit64 x.time := by unfold Ev.fits at hx; unfold WE.fit64; omega
  have h2 : WE.fit64 x.id := by unfold Ev.fits at hx; unfold WE.fit64; omega
  unfold WE.evV
  have HK := Lib.hid (evKey_two x.time x.id)
  have HH := Lib.hid (fun w => rhead_any w)
  have HA := Lib.hid (fun w => rnum_any x.time w h1)
  have HB := Lib.hid (fun w => rnum_any x.id w h2)
  have la := numK_len x.time
  have lb := numK_len x.id
  have lh := eK_len
  clear h1 h2
  obtain ⟨sa, hsa⟩ : ∃ s, oneB (numK x.time) = s := ⟨_, rfl⟩
  obtain ⟨sb, hsb⟩ : ∃ s, oneB (numK x.id) = s := ⟨_, rfl⟩
  obtain ⟨sh, hsh⟩ : ∃ s, oneB eK = s := ⟨_, rfl⟩
  rw [hsh] at HK HH lh
  rw [hsa] at HK HA la
  rw [hsb] at HK HB lb
  clear hsa hsb hsh
  have z1 : ¬ 9223372036854775807 < sh.length + sa.length := by omega
  have z2 : ¬ 9223372036854775807 < sh.length + sa.length + sb.length := by omega
  have HX := Lib.hid (show (W.alloc (.cells #[.int .i64 x.id, .int .i64 x.time, .int .u8 x.kind, .int .i64 x.val] 56)).heap[W.heap.size]? = some (.cells #[.int .i64 x.id, .int .i64 x.time, .int .u8 x.kind, .int .i64 x.val] 56 (0, 0)) from heap_new rfl)
  go_enter Tryd.func29, Tryd.ntmps29
  go_wp2_with fail
  refine (HH.out _).mono ?_
  rintro e w1 ⟨rfl, hb1⟩
  have HB1 := Lib.hid (show Below W.heap.size W w1 from (Below.alloc (Below.refl _ _) (Nat.le_refl _) _).trans (hb1.mono (by simp)))
  have HX1 := Lib.hid ((hb1.block _ (heap_lt HX.out)).trans HX.out)
  have y1 := (Lib.cell_of_heap HX1.out 1).trans rfl
  clear hb1
  go_wp2_with fail
  refine (HA.out _).mono ?_
  rintro e w2 ⟨rfl, hb2⟩
  have HB2 := Lib.hid (HB1.out.trans (hb2.mono HB1.out.size))
  have HX2 := Lib.hid ((hb2.block _ (heap_lt HX1.out)).trans HX1.out)
  clear y1
  have y0 := (Lib.cell_of_heap HX2.out 0).trans rfl
  clear hb2
  go_wp2_with fail
  refine (HB.out _).mono ?_
  rintro e w3 ⟨rfl, hb3⟩
  have HB3 := Lib.hid (HB2.out.trans (hb3.mono HB2.out.size))
  clear hb3
  go_wp2_with fail
  go_ret
  refine ⟨?_, HB3.out⟩
  rw [HK.out]
  rw [ByteArray.mk_append_mk, ByteArray.mk_append_mk]
  simp

/-- The number of a span, by cases, as the document has it. -/
theorem spanN_neg {t : Int} (h : t < 0) : spanN t = 0 := by unfold spanN; omega
theorem spanN_mid {t : Int} (h : 0 ≤ t) (h2 : t ≤ 9007199254740992) : spanN t = t + 1 := by unfold spanN; omega
theorem spanN_top {t : Int} (h : 9007199254740992 < t) : spanN t = 9007199254740993 := by unfold spanN; omega

set_option maxRecDepth 100000 in
set_option maxHeartbeats 1600000 in
theorem rspan_any (t : Int) (W : World) (ht : WE.fit64 t) :
    Calls Tryd.prog 19 #[.int .i64 t] W fun e w' => e = .returned (.tuple #[.string ⟨(evKey []).toArray⟩, .string ⟨(evKey [spanN t]).toArray⟩]) ∧ Below W.heap.size W w' := by
  rw [evKey_none, evKey_one]
  have HH := Lib.hid (rhead_any W)
  have HA := Lib.hid (fun w => rnum_any (spanN t) w (spanN_fit t))
  have la := numK_len (spanN t)
  have lh := eK_len
  obtain ⟨sa, hsa⟩ : ∃ s, oneB (numK (spanN t)) = s := ⟨_, rfl⟩
  obtain ⟨sh, hsh⟩ : ∃ s, oneB eK = s := ⟨_, rfl⟩
  rw [hsh] at HH lh ⊢
  rw [hsa] at HA la ⊢
  clear hsa hsh
  have z1 : ¬ 9223372036854775807 < sh.length + sa.length := by omega
  unfold WE.fit64 at ht
  go_enter Tryd.func19, Tryd.ntmps19
  go_wp2_with fail
  refine HH.out.mono ?_
  rintro e w1 ⟨rfl, hb1⟩
  have HB1 := Lib.hid hb1
  clear hb1 HH
  by_cases c0 : t < 0
  · have c0' : ¬ 0 ≤ t := by omega
    rw [spanN_neg c0] at HA
    go_wp2_with fail
    refine (HA.out _).mono ?_
    rintro e w2 ⟨rfl, hb2⟩
    have HB2 := Lib.hid (HB1.out.trans (hb2.mono HB1.out.size))
    clear hb2
    go_wp2_with fail
    go_ret2
    exact ⟨by rw [ByteArray.mk_append_mk]; simp, HB2.out⟩
  · have c0' : 0 ≤ t := by omega
    by_cases c1 : t ≤ 9007199254740992
    · rw [spanN_mid c0' c1] at HA
      go_wp2_with fail
      refine (HA.out _).mono ?_
      rintro e w2 ⟨rfl, hb2⟩
      have HB2 := Lib.hid (HB1.out.trans (hb2.mono HB1.out.size))
      clear hb2
      go_wp2_with fail
      go_ret2
      exact ⟨by rw [ByteArray.mk_append_mk]; simp, HB2.out⟩
    · rw [spanN_top (by omega)] at HA
      go_wp2_with fail
      refine (HA.out _).mono ?_
      rintro e w2 ⟨rfl, hb2⟩
      have HB2 := Lib.hid (HB1.out.trans (hb2.mono HB1.out.size))
      clear hb2
      go_wp2_with fail
      go_ret2
      exact ⟨by rw [ByteArray.mk_append_mk]; simp, HB2.out⟩
end Go.Proofs.YtceeijamhhokaaaDoor.WK
