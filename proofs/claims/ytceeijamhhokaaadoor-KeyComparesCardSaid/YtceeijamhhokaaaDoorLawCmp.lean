/- KeyCompares, KeyOrders: the laws' walks. -/
import Derived.Test.YtceeijamhhokaaaDoorWCmpR
import Derived.Test.YtceeijamhhokaaaDoorLawMakes
namespace Go.Proofs.YtceeijamhhokaaaDoor.WK
open Go Go.RowKit Go.Sort Go.Proofs.YtceeijamhhokaaaDoor Go.Proofs.YtceeijamhhokaaaDoor.PK Go.Proofs.YtceeijamhhokaaaDoor.Mem

set_option maxRecDepth 100000 in
set_option maxHeartbeats 3200000 in
theorem compares_law (v : Value) (l : List KP) (v' : Value) (l' : List KP) (W : World) (hv : Prts W W.heap.size v l) (hs : ∀ p ∈ l, p.s.size ≤ 9223372036854775807) (hl : l.length * 32 ≤ 140737488351232)
    (hv' : Prts W W.heap.size v' l') (hs' : ∀ p ∈ l', p.s.size ≤ 9223372036854775807) (hl' : l'.length * 32 ≤ 140737488351232) (hm : MaxLen W) (hg : 0 < W.heap.size) :
    Calls Tryd.prog 7 #[v, v'] W fun e w' => e = .returned (.bool true) ∧ Below W.heap.size W w' := by
  have hlm : l.length ≤ maxLen := by unfold maxLen; omega
  have hlm' : l'.length ≤ maxLen := by unfold maxLen; omega
  have HL := Lib.hid (lists_any v l W hv hl)
  have HV' := Lib.hid hv'
  have mixed : Tryd.prog.follows .mixedOrders = true := by kernel_rfl
  clear hv hv'
  go_enter Tryd.func7, Tryd.ntmps7
  go_wp2_with fail
  refine HL.out.mono ?_
  rintro e w1 ⟨va, vb, rfl, hb1, o1, o2⟩
  have HL2 := Lib.hid (lists_any v' l' w1 (Sl.more (Sl.below HV'.out hb1) hb1.size) hl')
  have HO1 := Lib.hid (And.intro o1 o2)
  have HB1 := Lib.hid hb1
  clear hb1 o1 o2 HL
  go_wp2_with fail
  refine HL2.out.mono ?_
  rintro e w2 ⟨vc, vd, rfl, hb2, o3, o4⟩
  have HB2 := Lib.hid (HB1.out.trans (hb2.mono HB1.out.size))
  have hb2s := hb2.size
  have HWK := Lib.hid (wakes02 w2 (hm.below HB2.out hg) (Nat.lt_of_lt_of_le hg HB2.out.size))
  have HO := Lib.hid (show (Prts w2 w2.heap.size va l ∧ Prts w2 w2.heap.size vb l) ∧ (Prts w2 w2.heap.size vc l' ∧ Prts w2 w2.heap.size vd l') from ⟨⟨Prts.of_own HO1.out.1 hb2, Prts.of_own HO1.out.2 hb2⟩, ⟨Prts.of_own o3 (Below.refl _ _), Prts.of_own o4 (Below.refl _ _)⟩⟩)
  clear hb2 o3 o4 HL2 HO1
  go_wp2_with fail
  refine HWK.out.mono ?_
  rintro e w3 ⟨rfl, hb3⟩
  have HB3 := Lib.hid (HB2.out.trans (hb3.mono HB2.out.size))
  have h3 := hb3.size
  have HP : ∀ {v : Value} {l : List KP}, Prts w2 w2.heap.size v l → Prts w3 w3.heap.size v l := fun h => Sl.more (Sl.below h hb3) h3
  have HC := Lib.hid (Compare_any l l' va vc w3 (HP HO.out.1.1) (HP HO.out.2.1) hlm hlm')
  have HR3 := Lib.hid (And.intro (HP HO.out.1.2) (HP HO.out.2.2))
  clear hb3 HWK HP
  go_wp2_with fail
  refine HC.out.mono ?_
  rintro e w4 ⟨rfl, hb4⟩
  have HB4 := Lib.hid (HB3.out.trans (hb4.mono HB3.out.size))
  have HR := Lib.hid (refcmp_any l l' vb vd w4 (Sl.more (Sl.below HR3.out.1 hb4) hb4.size) (Sl.more (Sl.below HR3.out.2 hb4) hb4.size) hlm hlm' hs hs')
  clear hb4 HC
  go_wp2_with fail
  refine HR.out.mono ?_
  rintro e w5 ⟨rfl, hg5⟩
  have HB5 := Lib.hid (HB4.out.trans (hg5.below.mono HB4.out.size))
  clear hg5
  go_wp2_with fail
  go_ret
  exact ⟨rfl, HB5.out⟩

theorem makeS_of {l : List KP} (h : makeE l = 0) : makeS l = keyB l := by unfold makeS; rw [if_pos h]
theorem makeE_range (l : List KP) : makeE l = 0 ∨ makeE l = 5 := by unfold makeE; split <;> simp

set_option maxRecDepth 100000 in
set_option maxHeartbeats 3200000 in
theorem orders_law (v : Value) (l : List KP) (v' : Value) (l' : List KP) (W : World) (hv : Prts W W.heap.size v l) (hf : ∀ p ∈ l, fitK p) (hl : l.length * 32 ≤ 140737488351232)
    (hv' : Prts W W.heap.size v' l') (hf' : ∀ p ∈ l', fitK p) (hl' : l'.length * 32 ≤ 140737488351232) (hm : MaxLen W) (hg : 0 < W.heap.size) :
    Calls Tryd.prog 8 #[v, v'] W fun e w' => e = .returned (.bool true) ∧ Below W.heap.size W w' := by
  have hlm : l.length ≤ maxLen := by unfold maxLen; omega
  have hlm' : l'.length ≤ maxLen := by unfold maxLen; omega
  have HL := Lib.hid (lists_any v l W hv hl)
  have HV' := Lib.hid hv'
  clear hv hv'
  go_enter Tryd.func8, Tryd.ntmps8
  go_wp2_with fail
  refine HL.out.mono ?_
  rintro e w1 ⟨va, vb, rfl, hb1, o1, o2⟩
  have HL2 := Lib.hid (lists_any v' l' w1 (Sl.more (Sl.below HV'.out hb1) hb1.size) hl')
  have HO1 := Lib.hid o1
  have HB1 := Lib.hid hb1
  clear hb1 o1 o2 HL
  go_wp2_with fail
  refine HL2.out.mono ?_
  rintro e w2 ⟨vc, vd, rfl, hb2, o3, o4⟩
  have HB2 := Lib.hid (HB1.out.trans (hb2.mono HB1.out.size))
  have HM1 := Lib.hid (make_any l va w2 (hm.below HB2.out hg) (Nat.lt_of_lt_of_le hg HB2.out.size) (Prts.of_own HO1.out hb2) hf hlm)
  have HPA := Lib.hid (Prts.of_own HO1.out hb2)
  have HPC := Lib.hid (Prts.of_own o3 (Below.refl _ _))
  clear hb2 o3 o4 HL2 HO1
  go_wp2_with fail
  refine HM1.out.mono ?_
  rintro e w3 ⟨rfl, hb3⟩
  have HB3 := Lib.hid (HB2.out.trans (hb3.mono HB2.out.size))
  have HPA3 := Lib.hid (show Prts w3 w3.heap.size va l from Sl.more (Sl.below HPA.out hb3) hb3.size)
  have HPC3 := Lib.hid (show Prts w3 w3.heap.size vc l' from Sl.more (Sl.below HPC.out hb3) hb3.size)
  have HM2 := Lib.hid (make_any l' vc w3 (hm.below HB3.out hg) (Nat.lt_of_lt_of_le hg HB3.out.size) HPC3.out hf' hlm')
  clear hb3 HM1 HPA HPC
  go_wp2_with fail
  refine HM2.out.mono ?_
  rintro e w4 ⟨rfl, hb4⟩
  have HB4 := Lib.hid (HB3.out.trans (hb4.mono HB3.out.size))
  have HPA4 := Lib.hid (show Prts w4 w4.heap.size va l from Sl.more (Sl.below HPA3.out hb4) hb4.size)
  have HPC4 := Lib.hid (show Prts w4 w4.heap.size vc l' from Sl.more (Sl.below HPC3.out hb4) hb4.size)
  have HWK := Lib.hid (wakes02 w4 (hm.below HB4.out hg) (Nat.lt_of_lt_of_le hg HB4.out.size))
  clear hb4 HM2 HPA3 HPC3
  go_wp2_with fail
  refine HWK.out.mono ?_
  rintro e w5 ⟨rfl, hb5⟩
  have HB5 := Lib.hid (HB4.out.trans (hb5.mono HB4.out.size))
  have HPA5 := Lib.hid (show Prts w5 w5.heap.size va l from Sl.more (Sl.below HPA4.out hb5) hb5.size)
  have HPC5 := Lib.hid (show Prts w5 w5.heap.size vc l' from Sl.more (Sl.below HPC4.out hb5) hb5.size)
  have HWK2 := Lib.hid (wakes02 w5 (hm.below HB5.out hg) (Nat.lt_of_lt_of_le hg HB5.out.size))
  clear hb5 HWK HPA4 HPC4
  obtain ⟨e1, he1⟩ : ∃ e, makeE l = e := ⟨_, rfl⟩
  obtain ⟨e2, he2⟩ : ∃ e, makeE l' = e := ⟨_, rfl⟩
  have hr1 := makeE_range l
  have hr2 := makeE_range l'
  rw [he1] at hr1 ⊢
  rw [he2] at hr2 ⊢
  have HE1 := Lib.hid he1; have HE2 := Lib.hid he2
  clear he1 he2
  rcases hr1 with rfl | rfl
  · rcases hr2 with rfl | rfl
    · have HK := Lib.hid (key_order l l' hf hf')
      have HC := Lib.hid (Compare_any l l' va vc w5 HPA5.out HPC5.out hlm hlm')
      obtain ⟨c, hc⟩ : ∃ c, cmpL l l' = c := ⟨_, rfl⟩
      have hcr := cB_range (keyB l) (keyB l')
      rw [HK.out, hc] at hcr
      rw [hc] at HC HK
      have hlt : Op.bytesLess (⟨(makeS l).toArray⟩ : ByteArray).toList (⟨(makeS l').toArray⟩ : ByteArray).toList = (c == -1) := by
        rw [Lib.toList_data, Lib.toList_data, makeS_of HE1.out, makeS_of HE2.out]
        show Op.bytesLess (keyB l).toArray.toList (keyB l').toArray.toList = _
        rw [List.toList_toArray, List.toList_toArray, less_cB, HK.out]
      have heq : ((⟨(makeS l).toArray⟩ : ByteArray).toList == (⟨(makeS l').toArray⟩ : ByteArray).toList) = (c == 0) := by
        rw [Lib.toList_data, Lib.toList_data, makeS_of HE1.out, makeS_of HE2.out]
        show ((keyB l).toArray.toList == (keyB l').toArray.toList) = _
        rw [List.toList_toArray, List.toList_toArray, Bool.eq_iff_iff, beq_iff_eq, beq_iff_eq]
        constructor
        · intro h; rw [h] at HK; rw [← HK.out]; exact cB_self _
        · intro h; exact cB_zero _ _ (HK.out.trans h)
      obtain ⟨s1, hs1⟩ : ∃ s, (⟨(makeS l).toArray⟩ : ByteArray) = s := ⟨_, rfl⟩
      obtain ⟨s2, hs2⟩ : ∃ s, (⟨(makeS l').toArray⟩ : ByteArray) = s := ⟨_, rfl⟩
      rw [hs1, hs2] at hlt heq ⊢
      clear hs1 hs2 hc HK
      rcases hcr with rfl | rfl | rfl
      · have hlt' : Op.bytesLess s1.toList s2.toList = false := hlt
        have heq' : (s1.toList == s2.toList) = true := heq
        clear hlt heq
        go_wp2_with fail
        refine HC.out.mono ?_
        rintro e w6 ⟨rfl, hb6⟩
        have HB6 := Lib.hid (HB5.out.trans (hb6.mono HB5.out.size))
        clear hb6
        go_wp2_with fail
        go_ret
        exact ⟨rfl, HB6.out⟩
      · have hlt' : Op.bytesLess s1.toList s2.toList = true := hlt
        have heq' : (s1.toList == s2.toList) = false := heq
        clear hlt heq
        go_wp2_with fail
        refine HC.out.mono ?_
        rintro e w6 ⟨rfl, hb6⟩
        have HB6 := Lib.hid (HB5.out.trans (hb6.mono HB5.out.size))
        clear hb6
        go_wp2_with fail
        go_ret
        exact ⟨rfl, HB6.out⟩
      · have hlt' : Op.bytesLess s1.toList s2.toList = false := hlt
        have heq' : (s1.toList == s2.toList) = false := heq
        clear hlt heq
        go_wp2_with fail
        refine HC.out.mono ?_
        rintro e w6 ⟨rfl, hb6⟩
        have HB6 := Lib.hid (HB5.out.trans (hb6.mono HB5.out.size))
        clear hb6
        go_wp2_with fail
        go_ret
        exact ⟨rfl, HB6.out⟩
    · go_wp2_with fail
      refine HWK2.out.mono ?_
      rintro e w6 ⟨rfl, hb6⟩
      have HB6 := Lib.hid (HB5.out.trans (hb6.mono HB5.out.size))
      clear hb6
      go_wp2_with fail
      go_ret
      exact ⟨rfl, HB6.out⟩
  · go_wp2_with fail
    refine HWK2.out.mono ?_
    rintro e w6 ⟨rfl, hb6⟩
    have HB6 := Lib.hid (HB5.out.trans (hb6.mono HB5.out.size))
    clear hb6
    go_wp2_with fail
    go_ret
    exact ⟨rfl, HB6.out⟩
end Go.Proofs.YtceeijamhhokaaaDoor.WK
