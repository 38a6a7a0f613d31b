/- EventSpans: the law's walk. -/
import Derived.Test.YtceeijamhhokaaaDoorRef18
import Derived.Test.YtceeijamhhokaaaDoorWake18
import Derived.Test.YtceeijamhhokaaaDoorOpenEv
namespace Go.Proofs.YtceeijamhhokaaaDoor.WK
open Go Go.RowKit Go.Proofs.YtceeijamhhokaaaDoor Go.Proofs.YtceeijamhhokaaaDoor.PK Go.Proofs.YtceeijamhhokaaaDoor.Mem

theorem toL (l : List UInt8) : (⟨l.toArray⟩ : ByteArray).toList = l := by rw [Lib.toList_data]
theorem fit_time {x : Ev} (hx : x.fits) : WE.fit64 x.time := by unfold Ev.fits at hx; unfold WE.fit64; omega
theorem fit_id {x : Ev} (hx : x.fits) : WE.fit64 x.id := by unfold Ev.fits at hx; unfold WE.fit64; omega
theorem good_time {x : Ev} (h : PE.good x) : 0 ≤ x.time ∧ x.time ≤ 9007199254740992 := by unfold PE.good at h; omega
theorem goodN_two (x : Ev) : WE.goodN x = 0 ∨ WE.goodN x = 2 := by unfold WE.goodN; split <;> simp

set_option maxRecDepth 100000 in
set_option maxHeartbeats 3200000 in
theorem spans_law (n : Int) (x : Ev) (W : World) (hn : -9223372036854775808 ≤ n ∧ n ≤ 9223372036854775807) (hx : x.fits) (hm : MaxLen W) (hg : 0 < W.heap.size) :
    Calls Tryd.prog 5 #[.int .i64 n, WE.evV x] W fun e w' => e = .returned (.bool true) ∧ Below W.heap.size W w' := by
  have hn' : WE.fit64 n := hn
  have HX := Lib.hid (show (W.alloc (.cells #[.int .i64 x.id, .int .i64 x.time, .int .u8 x.kind, .int .i64 x.val] 43)).heap[W.heap.size]? = some (.cells #[.int .i64 x.id, .int .i64 x.time, .int .u8 x.kind, .int .i64 x.val] 43 (0, 0)) from heap_new rfl)
  have HB0 := Lib.hid (show Below W.heap.size W (W.alloc (.cells #[.int .i64 x.id, .int .i64 x.time, .int .u8 x.kind, .int .i64 x.val] 43)) from (Below.refl _ _).alloc (Nat.le_refl _) _)
  have HS1 := Lib.hid (span_any n _ (hm.below HB0.out hg) (Nat.lt_of_lt_of_le hg HB0.out.size) hn')
  have HS2 := Lib.hid (fun w => rspan_any n w hn')
  have HK := Lib.hid (fun w hm hg => ekey_any x w hm hg hx)
  have HG := Lib.hid (fun w => WE.good_any x w)
  have HF := Lib.hid (key_from (fit_time hx) (fit_id hx))
  have HT := Lib.hid (fun (h : PE.good x) => key_to (n := n) (fit_time hx) (fit_id hx) (good_time h).1 (good_time h).2)
  have HGC := Lib.hid (show (PE.good x ∧ WE.goodN x = 0) ∨ (¬ PE.good x ∧ WE.goodN x = 2) by by_cases h : PE.good x; exact .inl ⟨h, WE.goodN_ok h⟩; exact .inr ⟨h, WE.goodN_no h⟩)
  obtain ⟨lf, hlf⟩ : ∃ l, evKey [] = l := ⟨_, rfl⟩
  obtain ⟨lt, hlt⟩ : ∃ l, evKey [spanN n] = l := ⟨_, rfl⟩
  obtain ⟨lk, hlk⟩ : ∃ l, evKey [x.time, x.id] = l := ⟨_, rfl⟩
  rw [hlf] at HS1 HS2 HF
  rw [hlt] at HS1 HS2 HT
  rw [hlk] at HK HF HT
  clear hlf hlt hlk hn' hn hx
  have f1 : Op.bytesLess (⟨lk.toArray⟩ : ByteArray).toList (⟨lf.toArray⟩ : ByteArray).toList = false := by rw [toL, toL]; exact HF.out
  have HT2 := Lib.hid (fun h => show Op.bytesLess (⟨lk.toArray⟩ : ByteArray).toList (⟨lt.toArray⟩ : ByteArray).toList = decide (x.time ≤ n) by rw [toL, toL]; exact HT.out h)
  clear HF HT
  obtain ⟨sf, hsf⟩ : ∃ s, (⟨lf.toArray⟩ : ByteArray) = s := ⟨_, rfl⟩
  obtain ⟨st, hst⟩ : ∃ s, (⟨lt.toArray⟩ : ByteArray) = s := ⟨_, rfl⟩
  obtain ⟨sk, hsk⟩ : ∃ s, (⟨lk.toArray⟩ : ByteArray) = s := ⟨_, rfl⟩
  rw [hsf] at HS1 HS2 f1
  rw [hst] at HS1 HS2 HT2
  rw [hsk] at HK f1 HT2
  clear hsf hst hsk
  unfold WE.evV at HK HG ⊢
  go_enter Tryd.func5, Tryd.ntmps5
  go_wp2_with fail
  refine HS1.out.mono ?_
  rintro e w1 ⟨rfl, hb1⟩
  have HX1 := Lib.hid ((hb1.block _ (heap_lt HX.out)).trans HX.out)
  have HB1 := Lib.hid (HB0.out.trans (hb1.mono HB0.out.size))
  clear hb1 HS1
  go_wp2_with fail
  refine (HS2.out _).mono ?_
  rintro e w2 ⟨rfl, hb2⟩
  have HX2 := Lib.hid ((hb2.block _ (heap_lt HX1.out)).trans HX1.out)
  have HB2 := Lib.hid (HB1.out.trans (hb2.mono HB1.out.size))
  clear hb2 HS2
  go_wp2_with fail
  refine (L18.wakes_any _).mono ?_
  rintro e w3 ⟨rfl, hb3⟩
  have HX3 := Lib.hid ((hb3.block _ (heap_lt HX2.out)).trans HX2.out)
  have HB3 := Lib.hid (HB2.out.trans (hb3.mono HB2.out.size))
  have y0 := (Lib.cell_of_heap HX3.out 0).trans rfl
  have y1 := (Lib.cell_of_heap HX3.out 1).trans rfl
  have y2 := (Lib.cell_of_heap HX3.out 2).trans rfl
  have y3 := (Lib.cell_of_heap HX3.out 3).trans rfl
  clear hb3
  go_wp2_with fail
  refine (HK.out _ (hm.below HB3.out hg) (Nat.lt_of_lt_of_le hg HB3.out.size)).mono ?_
  rintro e w4 ⟨rfl, hb4⟩
  have HX4 := Lib.hid ((hb4.block _ (heap_lt HX3.out)).trans HX3.out)
  have HB4 := Lib.hid (HB3.out.trans (hb4.mono HB3.out.size))
  clear hb4 y0 y1 y2 y3
  have y0 := (Lib.cell_of_heap HX4.out 0).trans rfl
  have y1 := (Lib.cell_of_heap HX4.out 1).trans rfl
  have y2 := (Lib.cell_of_heap HX4.out 2).trans rfl
  have y3 := (Lib.cell_of_heap HX4.out 3).trans rfl
  go_wp2_with fail
  refine (HG.out _).mono ?_
  rintro e w5 ⟨rfl, hb5⟩
  have HX5 := Lib.hid ((hb5.block _ (heap_lt HX4.out)).trans HX4.out)
  have HB5 := Lib.hid (HB4.out.trans (hb5.mono HB4.out.size))
  clear hb5 y0 y1 y2 y3
  have y1 := (Lib.cell_of_heap HX5.out 1).trans rfl
  rcases HGC.out with ⟨hgd, hg0⟩ | ⟨hgd, hg0⟩
  · have HL := HT2.out hgd
    rw [hg0]
    by_cases hc : x.time ≤ n
    · have hl : Op.bytesLess sk.toList st.toList = true := by rw [HL]; exact decide_eq_true hc
      have hd : decide (x.time ≤ n) = true := decide_eq_true hc
      clear HL hg0 HT2 HGC hc
      go_wp2_with fail
      go_ret
      exact ⟨rfl, HB5.out⟩
    · have hl : Op.bytesLess sk.toList st.toList = false := by rw [HL]; exact decide_eq_false hc
      have hd : decide (x.time ≤ n) = false := decide_eq_false hc
      clear HL hg0 HT2 HGC hc
      go_wp2_with fail
      go_ret
      exact ⟨rfl, HB5.out⟩
  · rw [hg0]
    clear HGC HT2
    go_wp2_with fail
    go_ret
    exact ⟨rfl, HB5.out⟩
end Go.Proofs.YtceeijamhhokaaaDoor.WK
