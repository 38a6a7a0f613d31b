/- The walks of key.Compare (slices.CompareFunc at key.compare) and of the document's Compare (layer 2). -/
import Derived.Test.YtceeijamhhokaaaDoorPCmp
import Derived.Test.YtceeijamhhokaaaDoorWLists
import Derived.Test.YtceeijamhhokaaaDoorGrw
import Derived.Shelf.Small.Strs
namespace Go.Proofs
open Go.Shelf
def Tryd.lays106_ren : Go.Shelf.Ren := ⟨fun | 106 => 46 | 213 => 53 | 265 => 60 | n => n, fun | 9 => 9 | 3 => 3 | n => n, fun | n => n⟩
theorem Tryd.lays106 : Go.Proofs.Lays.n106 Tryd.prog Tryd.lays106_ren := {
  mixed := by kernel_rfl
  f106 := Tryd.func46.trans (congrArg some (by kernel_rfl))
  f213 := Tryd.func53.trans (congrArg some (by kernel_rfl))
  f265 := Tryd.func60.trans (congrArg some (by kernel_rfl))
  t3 := Tryd.underlying3
  a3 := Tryd.isAgg3
  z3 := Tryd.sizeOf3
  v3 := Tryd.zeroValue3
  t9 := Tryd.underlying9
  a9 := Tryd.isAgg9
  z9 := Tryd.sizeOf9
  v9 := Tryd.zeroValue9 }
end Go.Proofs
namespace Go.Proofs.YtceeijamhhokaaaDoor.WK
open Go Go.RowKit Go.Sort Go.Proofs.YtceeijamhhokaaaDoor Go.Proofs.YtceeijamhhokaaaDoor.PK Go.Proofs.YtceeijamhhokaaaDoor.Mem

theorem strcmp_any (a b : ByteArray) (w : World) : Calls Tryd.prog 46 #[.string a, .string b] w fun e w' => e = .returned (.int .i64 (Lib.compareBytes a.data.toList b.data.toList)) ∧ w' = w :=
  Any.strings_Compare Tryd.lays106 a b w
set_option maxRecDepth 100000 in
theorem nan_any (n : Int) (w : World) : Calls Tryd.prog 54 #[.int .i64 n] w fun e w' => e = .returned (.bool false) ∧ w' = w := by
  go_enter Tryd.func54, Tryd.ntmps54
  go_wp2_with fail
  go_ret
  exact ⟨rfl, rfl⟩
set_option maxRecDepth 100000 in
set_option maxHeartbeats 1600000 in
theorem cmpint_any (n m : Int) (w : World) : Calls Tryd.prog 47 #[.int .i64 n, .int .i64 m] w fun e w' => e = .returned (.int .i64 (cmpI n m)) ∧ w' = w := by
  have h1 := Lib.hid (nan_any n w)
  have h2 := Lib.hid (nan_any m w)
  go_enter Tryd.func47, Tryd.ntmps47
  go_wp2_with fail
  refine h1.out.mono ?_
  rintro e w1 ⟨rfl, rfl⟩
  go_wp2_with fail
  refine h2.out.mono ?_
  rintro e w2 ⟨rfl, rfl⟩
  rcases Int.lt_trichotomy n m with h | h | h
  · have e : cmpI n m = -1 := by unfold cmpI; rw [if_pos h]
    have HE := Lib.hid e
    clear e
    go_wp2_with fail
    go_ret
    exact ⟨by rw [HE.out]; rfl, rfl⟩
  · subst h
    have e : cmpI n n = 0 := by unfold cmpI; rw [if_neg (by omega), if_neg (by omega)]
    have HE := Lib.hid e
    clear e
    go_wp2_with fail
    go_ret
    exact ⟨by rw [HE.out]; rfl, rfl⟩
  · have e : cmpI n m = 1 := by unfold cmpI; rw [if_neg (by omega), if_pos h]
    have HE := Lib.hid e
    have h' : ¬ n < m := by omega
    clear e
    go_wp2_with fail
    go_ret
    exact ⟨by rw [HE.out]; rfl, rfl⟩

set_option maxRecDepth 100000 in
set_option maxHeartbeats 1600000 in
theorem compare_any (p q : KP) (w : World) : Calls Tryd.prog 39 #[partV p, partV q] w fun e w' => e = .returned (.int .i64 (cmpK p q)) ∧ Grw w w' := by
  obtain ⟨w2, hw2⟩ : ∃ w2, w2 = (w.alloc (.cells #[.bool p.txt, .int .i64 p.n, .string p.s] 34)).alloc (.cells #[.bool q.txt, .int .i64 q.n, .string q.s] 34) := ⟨_, rfl⟩
  have G := Lib.hid (show Grw w w2 by rw [hw2]; exact ((Grw.refl w).alloc _).alloc _)
  have HS := Lib.hid (strcmp_any p.s q.s w2)
  have HI := Lib.hid (cmpint_any p.n q.n w2)
  have HW := Lib.hid hw2
  clear hw2
  obtain ⟨pt, pn, ps⟩ := p
  obtain ⟨qt, qn, qs⟩ := q
  unfold cmpK
  simp only at HS HI HW ⊢
  go_enter Tryd.func39, Tryd.ntmps39
  cases pt <;> cases qt
  · go_wp2_with fail
    rw [← HW.out]
    refine HI.out.mono ?_
    rintro e w3 ⟨rfl, rfl⟩
    go_wp2_with fail
    go_ret
    exact ⟨rfl, G.out⟩
  · go_wp2_with fail
    rw [← HW.out]
    go_ret
    exact ⟨rfl, G.out⟩
  · go_wp2_with fail
    rw [← HW.out]
    go_ret
    exact ⟨rfl, G.out⟩
  · go_wp2_with fail
    rw [← HW.out]
    refine HS.out.mono ?_
    rintro e w3 ⟨rfl, rfl⟩
    go_wp2_with fail
    go_ret
    exact ⟨rfl, G.out⟩

set_option maxRecDepth 100000 in
set_option maxHeartbeats 3200000 in
theorem cmpfunc_any (a b : List KP) (va vb : Value) (W : World) (ha : Prts W W.heap.size va a) (hb : Prts W W.heap.size vb b) (hla : a.length ≤ maxLen) (hlb : b.length ≤ maxLen) :
    Calls Tryd.prog 38 #[va, vb, .func (.func 39) #[] #[]] W fun e w' => e = .returned (.int .i64 (cmpL a b)) ∧ Below W.heap.size W w' := by
  obtain ⟨a1, c1, rfl⟩ := Sl.shape ha
  obtain ⟨a2, c2, rfl⟩ := Sl.shape hb
  have HA := Lib.hid ha; have HB := Lib.hid hb
  have hla' : (a.length : Int) ≤ 9223372036854775807 := by unfold maxLen at hla; omega
  have hlb' : (b.length : Int) ≤ 9223372036854775807 := by unfold maxLen at hlb; omega
  clear ha hb
  go_enter Tryd.func38, Tryd.ntmps38
  go_wp2_with fail
  go_loopw [13] (fun u wr => ∃ i : Nat, u = .int .i64 i ∧ i ≤ a.length ∧ i ≤ b.length ∧ cmpL a b = cmpL (a.drop i) (b.drop i) ∧ Grw W wr) (fun u _ => a.length - (intOf u).toNat)
  case atStart => exact ⟨0, rfl, by omega, by omega, rfl, Grw.refl _⟩
  case round =>
    obtain ⟨i, rfl, hia, hib, hc, hgr⟩ := hrel
    have HC := Lib.hid hc; have HGR := Lib.hid hgr
    clear hc hgr
    by_cases hlt : i < a.length
    · have hlt' : (i : Int) < (a.length : Int) := by omega
      have hi0 : (0 : Int) ≤ (i : Int) := by omega
      obtain ⟨g1, o1, q1, e1, hb1, x0, x1, x2⟩ := HA.out.at_ hlt
      obtain ⟨rfl, rfl⟩ : a1 = some ⟨g1, o1, none⟩ ∧ c1 = q1 := by simpa using e1
      have y0 := HGR.out.cell hb1 x0
      have y1 := HGR.out.cell hb1 x1
      have y2 := HGR.out.cell hb1 x2
      by_cases hlt2 : i < b.length
      · have hlt2' : (i : Int) < (b.length : Int) := by omega
        have hge : decide ((i : Int) ≥ (b.length : Int)) = false := by simp; omega
        have hge2 : ¬ (b.length : Int) ≤ (i : Int) := by omega
        obtain ⟨g2, o2, q2, e2, hb2, z0, z1, z2⟩ := HB.out.at_ hlt2
        obtain ⟨rfl, rfl⟩ : a2 = some ⟨g2, o2, none⟩ ∧ c2 = q2 := by simpa using e2
        have HD := Lib.hid (cmpL_drop hlt hlt2)
        obtain ⟨p, hp⟩ : ∃ p, a[i] = p := ⟨_, rfl⟩
        obtain ⟨q, hq⟩ : ∃ q, b[i] = q := ⟨_, rfl⟩
        rw [hp] at y0 y1 y2
        rw [hq] at z0 z1 z2
        rw [hp, hq] at HD
        have HG1 := Lib.hid (HGR.out.alloc (.cells #[.bool p.txt, .int .i64 p.n, .string p.s] 34))
        have y3 := HG1.out.cell hb2 z0
        have y4 := HG1.out.cell hb2 z1
        have y5 := HG1.out.cell hb2 z2
        have HCM := Lib.hid (compare_any p q ((wr.alloc (.cells #[.bool p.txt, .int .i64 p.n, .string p.s] 34)).alloc (.cells #[.bool q.txt, .int .i64 q.n, .string q.s] 34)))
        have HG2 := Lib.hid (HG1.out.alloc (.cells #[.bool q.txt, .int .i64 q.n, .string q.s] 34))
        have HR := Lib.hid (cmpK_range p q)
        clear x0 x1 x2 z0 z1 z2 e1 e2 hp hq
        go_wp2_with fail
        refine HCM.out.mono ?_
        rintro e w3 ⟨rfl, hg3⟩
        have HG3 := Lib.hid (HG2.out.trans hg3)
        clear hg3 HCM
        obtain ⟨c, hce⟩ : ∃ c, cmpK p q = c := ⟨_, rfl⟩
        rw [hce] at HD ⊢
        clear hce HR
        by_cases hz : c = 0
        · subst hz
          have HN := Lib.hid (show cmpL a b = cmpL (a.drop (i + 1)) (b.drop (i + 1)) by rw [HC.out, HD.out]; rfl)
          go_wp2_with fail
          go_roundw
          case rel => exact ⟨i + 1, by go_num, by omega, by omega, HN.out, HG3.out⟩
          case measure => simp [intOf]; omega
        · have hz' : (c != 0) = true := by simpa using hz
          have HN := Lib.hid (show cmpL a b = c by rw [HC.out, HD.out, if_pos hz])
          go_wp2_with fail
          go_ret
          exact ⟨by rw [HN.out]; rfl, HG3.out.below⟩
      · have hge : (b.length : Int) ≤ (i : Int) := by omega
        have HN := Lib.hid (show cmpL a b = 1 by rw [HC.out, cmpL_long hlt (by omega)])
        clear x0 x1 x2 e1
        go_wp2_with fail
        go_ret
        exact ⟨by rw [HN.out]; rfl, HGR.out.below.alloc HGR.out.size _⟩
    · obtain rfl : i = a.length := by omega
      by_cases hlt2 : a.length < b.length
      · have hlt2' : (a.length : Int) < (b.length : Int) := by omega
        have HN := Lib.hid (show cmpL a b = -1 by rw [HC.out, cmpL_short (Nat.le_refl _) hlt2])
        go_wp2_with fail
        go_ret
        exact ⟨by rw [HN.out]; rfl, HGR.out.below⟩
      · have hlt2' : ¬ (a.length : Int) < (b.length : Int) := by omega
        have HN := Lib.hid (show cmpL a b = 0 by rw [HC.out, cmpL_end (Nat.le_refl _) (by omega)])
        go_wp2_with fail
        go_ret
        exact ⟨by rw [HN.out]; rfl, HGR.out.below⟩
set_option maxRecDepth 100000 in
theorem Compare_any (a b : List KP) (va vb : Value) (W : World) (ha : Prts W W.heap.size va a) (hb : Prts W W.heap.size vb b) (hla : a.length ≤ maxLen) (hlb : b.length ≤ maxLen) :
    Calls Tryd.prog 24 #[va, vb] W fun e w' => e = .returned (.int .i64 (cmpL a b)) ∧ Below W.heap.size W w' := by
  have H := Lib.hid (cmpfunc_any a b va vb W ha hb hla hlb)
  clear ha hb
  go_enter Tryd.func24, Tryd.ntmps24
  go_wp2_with fail
  refine H.out.mono ?_
  rintro e w1 ⟨rfl, hb1⟩
  go_wp2_with fail
  go_ret
  exact ⟨rfl, hb1⟩
end Go.Proofs.YtceeijamhhokaaaDoor.WK
