/- PatternAppended: the law's walk. -/
import Derived.Test.YtcfimponmioneaaWake
import Derived.Test.YtcfimponmioneaaPNz
namespace Go.Proofs.Ytcfimponmioneaa.WP
open Go.RowKit Go.Proofs.Ytcfimponmioneaa Go.Proofs.Ytcfimponmioneaa.PP Go.Proofs.Ytcfimponmioneaa.Mem

theorem cat_list (a b : ByteArray) : (a ++ b).data.toList = a.data.toList ++ b.data.toList := by
  simp
theorem toList_nil {m : ByteArray} (h : m.size ≠ 0) : ¬ m.toList = [] ∧ m.toList.isEmpty = false := by
  rw [ByteArray.toList_eq]
  have e : m.data.toList.length = m.size := Array.length_toList
  cases hx : m.data.toList with
  | nil => rw [hx] at e; exact absurd e.symm h
  | cons b r => exact ⟨by simp, rfl⟩
theorem toList_is {m : ByteArray} (h : m.size = 0) : m.toList = [] := by
  rw [ByteArray.toList_eq]
  have e : m.data.toList.length = m.size := Array.length_toList
  cases hx : m.data.toList with
  | nil => rfl
  | cons b r => rw [hx] at e; simp at e; omega
theorem wi_bound {l : List UInt8} {p : Ptn} (h : pParse l = .inr p) : p.wi < 1000000000 := by
  unfold pParse at h
  split at h
  · cases h
  · cases hp : pPat l with
    | inl f => rw [hp] at h; cases h
    | inr f =>
      obtain ⟨q, a⟩ := f
      rw [hp] at h
      simp only at h
      split at h
      · cases h
      · cases h
        rw [pat_head] at hp
        obtain ⟨sc, a1, h1, h2⟩ := bind_get hp
        obtain ⟨k, a2, h3, h4⟩ := bind_get h2
        cases h4
        exact pNum_bound (by omega) h3
theorem cat_size (a b : ByteArray) : (a ++ b).size = a.size + b.size := by
  simp

set_option maxRecDepth 100000 in
set_option maxHeartbeats 1600000 in
theorem appended_law (s m : ByteArray) (W : World) (hs1 : s.size ≤ 140737488355328) (hm1 : m.size ≤ 140737488355328) : Calls Try.prog 5 #[.string s, .string m] W fun e w' => e = .returned (.bool true) ∧ Below W.heap.size W w' := by
  have P1 := parse_any s W
  cases hr : pParse s.data.toList with
  | inl f =>
    obtain ⟨k, er⟩ := f
    have hnz := parse_nz hr
    have hnz1 : (er != 0) = true := by rw [bne_iff_ne]; exact hnz
    rw [hr] at P1
    have P1 := Lib.hid P1
    clear hr hnz
    go_enter Try.func5, Try.ntmps5
    go_wp2_with fail
    refine P1.out.mono ?_
    rintro e w1 ⟨hb1, rfl⟩
    go_wp2_with fail
    have B2 := Lib.hid (hb1.alloc hb1.size (.cells #[.slice none 0 0, .slice none 0 0, .int .i64 0] 25))
    generalize w1.alloc (.cells #[.slice none 0 0, .slice none 0 0, .int .i64 0] 25) = w2 at *
    refine (wakes_any _).mono ?_
    rintro e w3 ⟨rfl, hb3⟩
    have B3 := Lib.hid (B2.out.trans (hb3.mono B2.out.size))
    clear hb3 hb1
    go_wp2_with fail
    refine (wakes_any _).mono ?_
    rintro e w4 ⟨rfl, hb4⟩
    go_wp2_with fail
    go_ret
    exact ⟨rfl, B3.out.trans (hb4.mono B3.out.size)⟩
  | inr p =>
    rw [hr] at P1
    have P1 := Lib.hid P1
    by_cases hme : m.size = 0
    · have hE := toList_is hme
      clear hr
      go_enter Try.func5, Try.ntmps5
      go_wp2_with fail
      refine P1.out.mono ?_
      rintro e w1 ⟨hb1, sl, cl, rfl, o1, o2⟩
      obtain ⟨sad, scap, h1⟩ := own_slice o1
      obtain ⟨cad, ccap, h2⟩ := own_slice o2
      subst h1; subst h2
      clear o1 o2
      go_wp2_with fail
      have B2 := Lib.hid (hb1.alloc hb1.size (.cells #[.slice sad p.ss.length scap, .slice cad p.cs.length ccap, .int .i64 p.wi] 25))
      generalize w1.alloc (.cells #[.slice sad p.ss.length scap, .slice cad p.cs.length ccap, .int .i64 p.wi] 25) = w2 at *
      clear hb1
      refine (wakes_any _).mono ?_
      rintro e w3 ⟨rfl, hb3⟩
      have B3 := Lib.hid (B2.out.trans (hb3.mono B2.out.size))
      clear hb3
      go_wp2_with fail
      refine (wakes_any _).mono ?_
      rintro e w4 ⟨rfl, hb4⟩
      go_wp2_with fail
      go_ret
      exact ⟨rfl, B3.out.trans (hb4.mono B3.out.size)⟩
    · obtain ⟨hne, hne2⟩ := toList_nil hme
      by_cases hbig : 4096 < s.size + m.size
      · have hbig' : (4096 : Int) < s.size + m.size := by omega
        clear hr
        go_enter Try.func5, Try.ntmps5
        go_wp2_with fail
        refine P1.out.mono ?_
        rintro e w1 ⟨hb1, sl, cl, rfl, o1, o2⟩
        obtain ⟨sad, scap, h1⟩ := own_slice o1
        obtain ⟨cad, ccap, h2⟩ := own_slice o2
        subst h1; subst h2
        clear o1 o2
        go_wp2_with fail
        have B2 := Lib.hid (hb1.alloc hb1.size (.cells #[.slice sad p.ss.length scap, .slice cad p.cs.length ccap, .int .i64 p.wi] 25))
        generalize w1.alloc (.cells #[.slice sad p.ss.length scap, .slice cad p.cs.length ccap, .int .i64 p.wi] 25) = w2 at *
        clear hb1
        refine (wakes_any _).mono ?_
        rintro e w3 ⟨rfl, hb3⟩
        have B3 := Lib.hid (B2.out.trans (hb3.mono B2.out.size))
        clear hb3
        go_wp2_with fail
        refine (wakes_any _).mono ?_
        rintro e w4 ⟨rfl, hb4⟩
        go_wp2_with fail
        go_ret
        exact ⟨rfl, B3.out.trans (hb4.mono B3.out.size)⟩
      · have hwi := wi_bound hr
        have hsz : (s ++ m).size = s.size + m.size := cat_size s m
        have hap := parse_append (m := m.data.toList) hr (fun h => hme (by
          have : m.data.toList.length = m.size := Array.length_toList
          rw [h] at this
          exact this.symm)) (by
          have h1 : s.data.toList.length = s.size := Array.length_toList
          have h2 : m.data.toList.length = m.size := Array.length_toList
          rw [List.length_append]
          omega)
        have P2 := Lib.hid (fun w => parse_any (s ++ m) w)
        rw [cat_list] at P2
        have hsum : (s.size : Int) + m.size ≤ 4096 := by omega
        have Hap := Lib.hid hap
        clear hr hap hsz
        go_enter Try.func5, Try.ntmps5
        go_wp2_with fail
        refine P1.out.mono ?_
        rintro e w1 ⟨hb1, sl, cl, rfl, o1, o2⟩
        obtain ⟨sad, scap, h1⟩ := own_slice o1
        obtain ⟨cad, ccap, h2⟩ := own_slice o2
        subst h1; subst h2
        clear o1 o2
        go_wp2_with fail
        have B2 := Lib.hid (hb1.alloc hb1.size (.cells #[.slice sad p.ss.length scap, .slice cad p.cs.length ccap, .int .i64 p.wi] 25))
        have X0 := Lib.hid (blk_new w1 (.cells #[.slice sad p.ss.length scap, .slice cad p.cs.length ccap, .int .i64 p.wi] 25))
        have hz2 : (w1.alloc (.cells #[.slice sad p.ss.length scap, .slice cad p.cs.length ccap, .int .i64 p.wi] 25)).heap.size = w1.heap.size + 1 := by simp
        generalize w1.alloc (.cells #[.slice sad p.ss.length scap, .slice cad p.cs.length ccap, .int .i64 p.wi] 25) = w2 at *
        generalize w1.heap.size = A1 at *
        clear hb1
        refine (wakes_any _).mono ?_
        rintro e w3 ⟨rfl, hb3⟩
        have B3 := Lib.hid (B2.out.trans (hb3.mono B2.out.size))
        have X0 := Lib.hid ((hb3.block _ (by omega)).trans X0.out)
        have hz3 := hb3.size
        clear hb3
        go_wp2_with fail
        have hpos : (0 : Int) < m.size := by omega
        have hpos' : 0 < m.size := by omega
        cases hr2 : pParse (s.data.toList ++ m.data.toList) with
        | inl f =>
          obtain ⟨k, er⟩ := f
          have hap := Hap.out
          rw [hr2] at hap
          obtain ⟨rfl, hk⟩ := hap
          have hk' : (s.size : Int) ≤ k := by
            have : s.data.toList.length = s.size := Array.length_toList
            omega
          have P2 := Lib.hid (P2.out w3)
          rw [hr2] at P2
          clear hr2 hk
          refine P2.out.mono ?_
          rintro e w4 ⟨hb4, rfl⟩
          have B4 := Lib.hid (B3.out.trans (hb4.mono B3.out.size))
          have B5 := Lib.hid (B4.out.alloc B4.out.size (.cells #[.slice none 0 0, .slice none 0 0, .int .i64 0] 25))
          clear hb4
          go_wp2_with fail
          go_ret
          exact ⟨rfl, B5.out⟩
        | inr q =>
          obtain ⟨qss, qcs, qwi⟩ := q
          have hap := Hap.out
          rw [hr2] at hap
          obtain ⟨⟨b, hb1, hb2, hb3⟩, hss, hqw⟩ := hap
          simp only at hss hqw
          subst hss
          have hqb := wi_bound hr2
          simp only at hqb
          have hm0 : m[0].toNat = b.toNat := by
            have e : m.data.toList[0]? = some m[0] := peek_some hpos'
            rw [e] at hb1
            cases hb1
            rfl
          have hd1 : (48 : Int) ≤ m[0].toNat := by omega
          have hd2 : (m[0].toNat : Int) ≤ 57 := by omega
          have hq : (10 : Int) * p.wi ≤ qwi := by omega
          have P2 := Lib.hid (P2.out w3)
          rw [hr2] at P2
          clear hr2 hb1 hb2 hb3 hm0 hqw
          refine P2.out.mono ?_
          rintro e w4 ⟨hb4, sl2, cl2, rfl, o3, o4⟩
          simp only at o3 o4
          obtain ⟨sad2, scap2, h1⟩ := own_slice o3
          obtain ⟨cad2, ccap2, h2⟩ := own_slice o4
          subst h1; subst h2
          have B4 := Lib.hid (B3.out.trans (hb4.mono B3.out.size))
          have B5 := Lib.hid (B4.out.alloc B4.out.size (.cells #[.slice sad2 p.ss.length scap2, .slice cad2 qcs.length ccap2, .int .i64 qwi] 25))
          have hz4 := hb4.size
          have X1 := Lib.hid (blk_alloc ((hb4.block _ (by omega)).trans X0.out) (.cells #[.slice sad2 p.ss.length scap2, .slice cad2 qcs.length ccap2, .int .i64 qwi] 25))
          have y0 : (w4.alloc (.cells #[.slice sad2 p.ss.length scap2, .slice cad2 qcs.length ccap2, .int .i64 qwi] 25)).cell? ⟨A1, 0, none⟩ = some (.slice sad p.ss.length scap) := (Lib.cell_of_heap X1.out 0).trans rfl
          have y2 : (w4.alloc (.cells #[.slice sad2 p.ss.length scap2, .slice cad2 qcs.length ccap2, .int .i64 qwi] 25)).cell? ⟨A1, 2, none⟩ = some (.int .i64 p.wi) := (Lib.cell_of_heap X1.out 2).trans rfl
          clear hb4 o3 o4
          go_wp2_with fail
          go_ret
          exact ⟨rfl, B5.out⟩
end Go.Proofs.Ytcfimponmioneaa.WP
