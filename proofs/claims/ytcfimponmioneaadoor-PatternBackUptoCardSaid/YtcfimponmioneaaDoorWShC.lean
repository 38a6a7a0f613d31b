/- The walk of (pattern.Cond).show. -/
import Derived.Test.YtcfimponmioneaaDoorWShS
namespace Go.Proofs.YtcfimponmioneaaDoor.WS
open Go Go.RowKit Go.Sort Go.Proofs.YtcfimponmioneaaDoor Go.Proofs.YtcfimponmioneaaDoor.PL Go.Proofs.YtcfimponmioneaaDoor.PS Go.Proofs.YtcfimponmioneaaDoor.Mem

/-- The program's table of signs. -/
def Signs (w : World) : Prop := ∀ i : Nat, i < 6 → w.cell? ⟨0, i, none⟩ = some (.string ⟨(signB i).toArray⟩)
theorem Signs.below {w w' : World} {B : Nat} (h : Signs w) (hb : Below B w w') (hB : 0 < B) : Signs w' := fun i hi => (hb.cell (p := ⟨0, i, none⟩) hB).trans (h i hi)
theorem Signs.lt {w : World} (h : Signs w) : 0 < w.heap.size := by
  have h0 := h 0 (by omega)
  rcases Nat.lt_or_ge 0 w.heap.size with h' | h'
  · exact h'
  · simp [World.cell?, Array.getElem?_eq_none h'] at h0
set_option maxRecDepth 100000 in
set_option maxHeartbeats 3200000 in
theorem showC_any (c : GC) (hf : fitC c) (W : World) (ht : Tab W) (hs : Signs W) :
    Calls Tryd.prog 13 #[.agg #[.int .u8 c.l, .int .i64 c.op, .int .u8 c.r, .int .i64 c.k]] W fun e w' => e = .returned (.string ⟨(showC c).toArray⟩) ∧ Grw W w' := by
  obtain ⟨⟨l0, l1⟩, ⟨r0, r1⟩, ⟨o0, o1⟩, ⟨k0, k1⟩⟩ := hf
  have hi1 := Lib.itoa_length_le c.k k0 k1
  have HSH := Lib.hid (show showC c = byB c.l :: (signB c.op ++ (if c.r = 0 then Lib.itoa c.k else byB c.r :: (if 0 < c.k then 43 :: Lib.itoa c.k else if c.k = 0 then [] else Lib.itoa c.k))) from rfl)
  obtain ⟨R, hR⟩ : ∃ R, showC c = R := ⟨_, rfl⟩
  rw [hR] at HSH ⊢
  clear hR
  obtain ⟨l, op, r, k⟩ := c
  simp only at *
  have hone := one_str (W.alloc (.cells #[.int .u8 l, .int .i64 op, .int .u8 r, .int .i64 k] 54)) l (by omega) (by omega)
  rw [show (W.alloc (.cells #[.int .u8 l, .int .i64 op, .int .u8 r, .int .i64 k] 54)).heap.size = W.heap.size + 1 by simp] at hone
  obtain ⟨w2, hw2⟩ : ∃ w2, w2 = (W.alloc (.cells #[.int .u8 l, .int .i64 op, .int .u8 r, .int .i64 k] 54)).alloc (.cells #[.int .u8 l] 5) := ⟨_, rfl⟩
  have X0 := Lib.hid (show w2.heap[W.heap.size]? = some (.cells #[.int .u8 l, .int .i64 op, .int .u8 r, .int .i64 k] 54 (0, 0)) by rw [hw2]; exact heap_alloc (heap_new rfl))
  have HG := Lib.hid (show Grw W w2 by rw [hw2]; exact ((Grw.refl _).alloc _).alloc _)
  have hz2 : W.heap.size < w2.heap.size := by rw [hw2]; simp; omega
  have HF := Lib.hid (format_any k k0 k1 w2 (ht.grw HG.out))
  have HW := Lib.hid hw2
  have hgl := hs.lt
  have hs2 : Signs w2 := hs.below HG.out.below hgl
  have HS := Lib.hid hs2
  clear hw2 hs2 hs
  obtain ⟨a, ha⟩ : ∃ a, Lib.itoa k = a := ⟨_, rfl⟩
  rw [ha] at HF HSH hi1
  clear ha
  go_enter Tryd.func13, Tryd.ntmps13
  by_cases ho : 0 ≤ op ∧ op ≤ 5
  · obtain ⟨p0, p5⟩ := ho
    have hsl := signB_len op
    have hc := HS.out op.toNat (by omega)
    rw [show ((op.toNat : Nat) : Int) = op by omega] at hc
    obtain ⟨sg, hsg⟩ : ∃ sg, signB op = sg := ⟨_, rfl⟩
    rw [hsg] at hc hsl
    have HSG := Lib.hid hsg
    rw [HW.out] at hc
    clear hsg HS
    by_cases hr : r = 0
    · subst hr
      have HJ := Lib.hid (show R = ([UInt8.ofNat l.toNat] ++ sg) ++ a by rw [HSH.out, if_pos rfl, HSG.out]; simp [byB])
      clear HSH
      go_wp2_with fail
      rw [← HW.out]
      refine HF.out.mono ?_
      rintro e w3 ⟨rfl, hg3⟩
      have HG3 := Lib.hid (HG.out.trans hg3)
      have y2 := (hg3.cell (b := W.heap.size) (o := 2) hz2 ((Lib.cell_of_heap X0.out 2).trans rfl))
      have y3 := (hg3.cell (b := W.heap.size) (o := 3) hz2 ((Lib.cell_of_heap X0.out 3).trans rfl))
      clear hg3
      go_wp2_with fail
      go_ret
      exact ⟨by rw [HJ.out]; simp only [← mkapp]; rfl, HG3.out⟩
    · have hr' : (r == 0) = false := by rw [beq_eq_false_iff_ne]; exact hr
      by_cases hk : 0 < k
      · have HJ := Lib.hid (show R = (([UInt8.ofNat l.toNat] ++ sg) ++ [UInt8.ofNat r.toNat]) ++ ([43] ++ a) by rw [HSH.out, if_neg hr, if_pos hk, HSG.out]; simp [byB])
        clear HSH hr
        go_wp2_with fail
        rw [← HW.out]
        refine HF.out.mono ?_
        rintro e w3 ⟨rfl, hg3⟩
        have HG3 := Lib.hid (HG.out.trans hg3)
        have y2 := (hg3.cell (b := W.heap.size) (o := 2) hz2 ((Lib.cell_of_heap X0.out 2).trans rfl))
        have y3 := (hg3.cell (b := W.heap.size) (o := 3) hz2 ((Lib.cell_of_heap X0.out 3).trans rfl))
        clear hg3
        have htwo := one_str w3 r (by omega) (by omega)
        go_wp2_with fail
        go_ret
        exact ⟨by rw [HJ.out]; simp only [← mkapp]; rfl, HG3.out.alloc _⟩
      · by_cases hk2 : k = 0
        · have HJ := Lib.hid (show R = (([UInt8.ofNat l.toNat] ++ sg) ++ [UInt8.ofNat r.toNat]) ++ [] by rw [HSH.out, if_neg hr, if_neg hk, if_pos hk2, HSG.out]; simp [byB])
          subst hk2
          clear HSH hr hk
          go_wp2_with fail
          rw [← HW.out]
          refine HF.out.mono ?_
          rintro e w3 ⟨rfl, hg3⟩
          have HG3 := Lib.hid (HG.out.trans hg3)
          have y2 := (hg3.cell (b := W.heap.size) (o := 2) hz2 ((Lib.cell_of_heap X0.out 2).trans rfl))
          have y3 := (hg3.cell (b := W.heap.size) (o := 3) hz2 ((Lib.cell_of_heap X0.out 3).trans rfl))
          clear hg3
          have htwo := one_str w3 r (by omega) (by omega)
          go_wp2_with fail
          go_ret
          exact ⟨by rw [HJ.out]; simp only [← mkapp]; rfl, HG3.out.alloc _⟩
        · have hk' : (k == 0) = false := by rw [beq_eq_false_iff_ne]; exact hk2
          have HJ := Lib.hid (show R = (([UInt8.ofNat l.toNat] ++ sg) ++ [UInt8.ofNat r.toNat]) ++ a by rw [HSH.out, if_neg hr, if_neg hk, if_neg hk2, HSG.out]; simp [byB])
          clear HSH hr hk2
          go_wp2_with fail
          rw [← HW.out]
          refine HF.out.mono ?_
          rintro e w3 ⟨rfl, hg3⟩
          have HG3 := Lib.hid (HG.out.trans hg3)
          have y2 := (hg3.cell (b := W.heap.size) (o := 2) hz2 ((Lib.cell_of_heap X0.out 2).trans rfl))
          have y3 := (hg3.cell (b := W.heap.size) (o := 3) hz2 ((Lib.cell_of_heap X0.out 3).trans rfl))
          clear hg3
          have htwo := one_str w3 r (by omega) (by omega)
          go_wp2_with fail
          go_ret
          exact ⟨by rw [HJ.out]; simp only [← mkapp]; rfl, HG3.out.alloc _⟩
  · have hoor : signB op = [63] := by
      unfold signB
      rw [if_neg (by omega), if_neg (by omega), if_neg (by omega), if_neg (by omega), if_neg (by omega), if_neg (by omega)]
    have HSG := Lib.hid hoor
    clear hoor HS
    by_cases hlo : 0 ≤ op
    · have hhi : ¬ op ≤ 5 := fun h => ho ⟨hlo, h⟩
      clear ho
      by_cases hr : r = 0
      · subst hr
        have HJ := Lib.hid (show R = ([UInt8.ofNat l.toNat] ++ [63]) ++ a by rw [HSH.out, if_pos rfl, HSG.out]; simp [byB])
        clear HSH
        go_wp2_with fail
        rw [← HW.out]
        refine HF.out.mono ?_
        rintro e w3 ⟨rfl, hg3⟩
        have HG3 := Lib.hid (HG.out.trans hg3)
        have y2 := (hg3.cell (b := W.heap.size) (o := 2) hz2 ((Lib.cell_of_heap X0.out 2).trans rfl))
        have y3 := (hg3.cell (b := W.heap.size) (o := 3) hz2 ((Lib.cell_of_heap X0.out 3).trans rfl))
        clear hg3
        go_wp2_with fail
        go_ret
        exact ⟨by rw [HJ.out]; simp only [← mkapp]; rfl, HG3.out⟩
      · have hr' : (r == 0) = false := by rw [beq_eq_false_iff_ne]; exact hr
        by_cases hk : 0 < k
        · have HJ := Lib.hid (show R = (([UInt8.ofNat l.toNat] ++ [63]) ++ [UInt8.ofNat r.toNat]) ++ ([43] ++ a) by rw [HSH.out, if_neg hr, if_pos hk, HSG.out]; simp [byB])
          clear HSH hr
          go_wp2_with fail
          rw [← HW.out]
          refine HF.out.mono ?_
          rintro e w3 ⟨rfl, hg3⟩
          have HG3 := Lib.hid (HG.out.trans hg3)
          have y2 := (hg3.cell (b := W.heap.size) (o := 2) hz2 ((Lib.cell_of_heap X0.out 2).trans rfl))
          have y3 := (hg3.cell (b := W.heap.size) (o := 3) hz2 ((Lib.cell_of_heap X0.out 3).trans rfl))
          clear hg3
          have htwo := one_str w3 r (by omega) (by omega)
          go_wp2_with fail
          go_ret
          exact ⟨by rw [HJ.out]; simp only [← mkapp]; rfl, HG3.out.alloc _⟩
        · by_cases hk2 : k = 0
          · have HJ := Lib.hid (show R = (([UInt8.ofNat l.toNat] ++ [63]) ++ [UInt8.ofNat r.toNat]) ++ [] by rw [HSH.out, if_neg hr, if_neg hk, if_pos hk2, HSG.out]; simp [byB])
            subst hk2
            clear HSH hr hk
            go_wp2_with fail
            rw [← HW.out]
            refine HF.out.mono ?_
            rintro e w3 ⟨rfl, hg3⟩
            have HG3 := Lib.hid (HG.out.trans hg3)
            have y2 := (hg3.cell (b := W.heap.size) (o := 2) hz2 ((Lib.cell_of_heap X0.out 2).trans rfl))
            have y3 := (hg3.cell (b := W.heap.size) (o := 3) hz2 ((Lib.cell_of_heap X0.out 3).trans rfl))
            clear hg3
            have htwo := one_str w3 r (by omega) (by omega)
            go_wp2_with fail
            go_ret
            exact ⟨by rw [HJ.out]; simp only [← mkapp]; rfl, HG3.out.alloc _⟩
          · have hk' : (k == 0) = false := by rw [beq_eq_false_iff_ne]; exact hk2
            have HJ := Lib.hid (show R = (([UInt8.ofNat l.toNat] ++ [63]) ++ [UInt8.ofNat r.toNat]) ++ a by rw [HSH.out, if_neg hr, if_neg hk, if_neg hk2, HSG.out]; simp [byB])
            clear HSH hr hk2
            go_wp2_with fail
            rw [← HW.out]
            refine HF.out.mono ?_
            rintro e w3 ⟨rfl, hg3⟩
            have HG3 := Lib.hid (HG.out.trans hg3)
            have y2 := (hg3.cell (b := W.heap.size) (o := 2) hz2 ((Lib.cell_of_heap X0.out 2).trans rfl))
            have y3 := (hg3.cell (b := W.heap.size) (o := 3) hz2 ((Lib.cell_of_heap X0.out 3).trans rfl))
            clear hg3
            have htwo := one_str w3 r (by omega) (by omega)
            go_wp2_with fail
            go_ret
            exact ⟨by rw [HJ.out]; simp only [← mkapp]; rfl, HG3.out.alloc _⟩
    · clear ho
      by_cases hr : r = 0
      · subst hr
        have HJ := Lib.hid (show R = ([UInt8.ofNat l.toNat] ++ [63]) ++ a by rw [HSH.out, if_pos rfl, HSG.out]; simp [byB])
        clear HSH
        go_wp2_with fail
        rw [← HW.out]
        refine HF.out.mono ?_
        rintro e w3 ⟨rfl, hg3⟩
        have HG3 := Lib.hid (HG.out.trans hg3)
        have y2 := (hg3.cell (b := W.heap.size) (o := 2) hz2 ((Lib.cell_of_heap X0.out 2).trans rfl))
        have y3 := (hg3.cell (b := W.heap.size) (o := 3) hz2 ((Lib.cell_of_heap X0.out 3).trans rfl))
        clear hg3
        go_wp2_with fail
        go_ret
        exact ⟨by rw [HJ.out]; simp only [← mkapp]; rfl, HG3.out⟩
      · have hr' : (r == 0) = false := by rw [beq_eq_false_iff_ne]; exact hr
        by_cases hk : 0 < k
        · have HJ := Lib.hid (show R = (([UInt8.ofNat l.toNat] ++ [63]) ++ [UInt8.ofNat r.toNat]) ++ ([43] ++ a) by rw [HSH.out, if_neg hr, if_pos hk, HSG.out]; simp [byB])
          clear HSH hr
          go_wp2_with fail
          rw [← HW.out]
          refine HF.out.mono ?_
          rintro e w3 ⟨rfl, hg3⟩
          have HG3 := Lib.hid (HG.out.trans hg3)
          have y2 := (hg3.cell (b := W.heap.size) (o := 2) hz2 ((Lib.cell_of_heap X0.out 2).trans rfl))
          have y3 := (hg3.cell (b := W.heap.size) (o := 3) hz2 ((Lib.cell_of_heap X0.out 3).trans rfl))
          clear hg3
          have htwo := one_str w3 r (by omega) (by omega)
          go_wp2_with fail
          go_ret
          exact ⟨by rw [HJ.out]; simp only [← mkapp]; rfl, HG3.out.alloc _⟩
        · by_cases hk2 : k = 0
          · have HJ := Lib.hid (show R = (([UInt8.ofNat l.toNat] ++ [63]) ++ [UInt8.ofNat r.toNat]) ++ [] by rw [HSH.out, if_neg hr, if_neg hk, if_pos hk2, HSG.out]; simp [byB])
            subst hk2
            clear HSH hr hk
            go_wp2_with fail
            rw [← HW.out]
            refine HF.out.mono ?_
            rintro e w3 ⟨rfl, hg3⟩
            have HG3 := Lib.hid (HG.out.trans hg3)
            have y2 := (hg3.cell (b := W.heap.size) (o := 2) hz2 ((Lib.cell_of_heap X0.out 2).trans rfl))
            have y3 := (hg3.cell (b := W.heap.size) (o := 3) hz2 ((Lib.cell_of_heap X0.out 3).trans rfl))
            clear hg3
            have htwo := one_str w3 r (by omega) (by omega)
            go_wp2_with fail
            go_ret
            exact ⟨by rw [HJ.out]; simp only [← mkapp]; rfl, HG3.out.alloc _⟩
          · have hk' : (k == 0) = false := by rw [beq_eq_false_iff_ne]; exact hk2
            have HJ := Lib.hid (show R = (([UInt8.ofNat l.toNat] ++ [63]) ++ [UInt8.ofNat r.toNat]) ++ a by rw [HSH.out, if_neg hr, if_neg hk, if_neg hk2, HSG.out]; simp [byB])
            clear HSH hr hk2
            go_wp2_with fail
            rw [← HW.out]
            refine HF.out.mono ?_
            rintro e w3 ⟨rfl, hg3⟩
            have HG3 := Lib.hid (HG.out.trans hg3)
            have y2 := (hg3.cell (b := W.heap.size) (o := 2) hz2 ((Lib.cell_of_heap X0.out 2).trans rfl))
            have y3 := (hg3.cell (b := W.heap.size) (o := 3) hz2 ((Lib.cell_of_heap X0.out 3).trans rfl))
            clear hg3
            have htwo := one_str w3 r (by omega) (by omega)
            go_wp2_with fail
            go_ret
            exact ⟨by rw [HJ.out]; simp only [← mkapp]; rfl, HG3.out.alloc _⟩
end Go.Proofs.YtcfimponmioneaaDoor.WS
