/- PatternPrefixes: the law's walk. -/
import Derived.Test.YtcfimponmioneaaWake
import Derived.Test.YtcfimponmioneaaPCut
namespace Go.Proofs.Ytcfimponmioneaa.WP
open Go.RowKit Go.Proofs.Ytcfimponmioneaa Go.Proofs.Ytcfimponmioneaa.PP Go.Proofs.Ytcfimponmioneaa.Mem

def pfA (r : Sum (Nat × Int) Ptn) : Int := match r with
  | .inl (k, _) => k
  | .inr _ => 0
def pfE (r : Sum (Nat × Int) Ptn) : Int := match r with
  | .inl (_, er) => er
  | .inr _ => 0
/-- Parse, whatever it answers: the values' make, and what is known. -/
theorem parse_form (u : ByteArray) (W : World) (r : Sum (Nat × Int) Ptn) (hr : pParse u.data.toList = r) : Calls Try.prog 12 #[.string u] W fun e w' => ∃ a1 n1 c1 a2 n2 c2 wi,
    e = .returned (.tuple #[.agg #[.slice a1 n1 c1, .slice a2 n2 c2, .int .i64 wi], .int .i64 (pfA r), .int .i64 (pfE r)]) ∧ Below W.heap.size W w' := by
  refine (parse_any u W).mono ?_
  rw [hr]
  rintro e w' ⟨hb, h⟩
  match r, h with
  | .inl (k, er), h => exact ⟨none, 0, 0, none, 0, 0, 0, h, hb⟩
  | .inr p, h =>
    obtain ⟨sl, cl, h, o1, o2⟩ := h
    obtain ⟨a1, c1, e1⟩ := own_slice o1
    obtain ⟨a2, c2, e2⟩ := own_slice o2
    subst e1; subst e2
    exact ⟨a1, _, c1, a2, _, c2, _, h, hb⟩
theorem parse_cutW (s : ByteArray) (k n : Nat) (h : pParse s.data.toList = .inl (k, 20)) (hn : n ≤ k) (u : ByteArray) (hu : u.data.toList = s.data.toList.take n) (W : World) : Calls Try.prog 12 #[.string u] W fun e w' => ∃ a1 n1 c1 a2 n2 c2 wi, ∃ at1 er1 : Int,
    e = .returned (.tuple #[.agg #[.slice a1 n1 c1, .slice a2 n2 c2, .int .i64 wi], .int .i64 at1, .int .i64 er1]) ∧ Below W.heap.size W w' ∧ (er1 = 0 ∨ (er1 = 20 ∧ at1 = n)) := by
  rcases (parse_cut h).2 n hn with hc | ⟨p, hc⟩
  · refine (parse_form u W _ (hu ▸ hc)).mono ?_
    rintro e w' ⟨a1, n1, c1, a2, n2, c2, wi, he, hb⟩
    exact ⟨a1, n1, c1, a2, n2, c2, wi, _, _, he, hb, .inr ⟨rfl, rfl⟩⟩
  · refine (parse_form u W _ (hu ▸ hc)).mono ?_
    rintro e w' ⟨a1, n1, c1, a2, n2, c2, wi, he, hb⟩
    exact ⟨a1, n1, c1, a2, n2, c2, wi, _, _, he, hb, .inl rfl⟩
theorem ext_list (s : ByteArray) (n : Nat) : (s.extract 0 n).data.toList = s.data.toList.take n := by
  simp

set_option maxRecDepth 100000 in
set_option maxHeartbeats 1600000 in
theorem prefixes_other (s : ByteArray) (c : Int) (W : World) (r : Sum (Nat × Int) Ptn) (hr : pParse s.data.toList = r) (hne : pfE r ≠ 20) : Calls Try.prog 4 #[.string s, .int .i64 c] W fun e w' => e = .returned (.bool true) ∧ Below W.heap.size W w' := by
  have P1 := Lib.hid (parse_form s W r hr)
  obtain ⟨at0, ha⟩ : ∃ x : Int, x = pfA r := ⟨_, rfl⟩
  obtain ⟨er, he⟩ : ∃ x : Int, x = pfE r := ⟨_, rfl⟩
  rw [← ha, ← he] at P1
  rw [← he] at hne
  have hne1 : (er != 20) = true := by rw [bne_iff_ne]; exact hne
  clear ha he hr hne
  go_enter Try.func4, Try.ntmps4
  go_wp2_with fail
  refine P1.out.mono ?_
  rintro e w1 ⟨a1, n1, c1, a2, n2, c2, wi, rfl, hb1⟩
  go_wp2_with fail
  have B2 := Lib.hid (hb1.alloc hb1.size (.cells #[.slice a1 n1 c1, .slice a2 n2 c2, .int .i64 wi] 25))
  generalize w1.alloc (.cells #[.slice a1 n1 c1, .slice a2 n2 c2, .int .i64 wi] 25) = w2 at *
  clear hb1
  refine (wakes_any _).mono ?_
  rintro e w3 ⟨rfl, hb3⟩
  have B3 := Lib.hid (B2.out.trans (hb3.mono B2.out.size))
  clear hb3
  go_wp2_with fail
  refine (wakes_any _).mono ?_
  rintro e w4 ⟨rfl, hb4⟩
  go_wp2_with fail
  go_ret
  exact ⟨rfl, B3.out.trans (hb4.mono B3.out.size)⟩

set_option maxRecDepth 100000 in
set_option maxHeartbeats 1600000 in
theorem prefixes_fault (s : ByteArray) (c : Int) (W : World) (k : Nat) (hr : pParse s.data.toList = .inl (k, 20)) (hs : s.size ≤ 140737488355328) : Calls Try.prog 4 #[.string s, .int .i64 c] W fun e w' => e = .returned (.bool true) ∧ Below W.heap.size W w' := by
  have P1 := Lib.hid (parse_form s W _ hr)
  rw [show pfA (.inl (k, 20)) = (k : Int) from rfl, show pfE (.inl (k, 20)) = 20 from rfl] at P1
  have hk : k ≤ s.size := by
    have := (parse_cut hr).1
    have e : s.data.toList.length = s.size := Array.length_toList
    omega
  have hk' : (k : Int) ≤ s.size := by omega
  have hk0 : (0 : Int) ≤ k := by omega
  have P2 := Lib.hid (fun n hn u hu w => parse_cutW s k n hr hn u hu w)
  clear hr
  go_enter Try.func4, Try.ntmps4
  go_wp2_with fail
  refine P1.out.mono ?_
  rintro e w1 ⟨a1, n1, c1, a2, n2, c2, wi, rfl, hb1⟩
  go_wp2_with fail
  have B2 := Lib.hid (hb1.alloc hb1.size (.cells #[.slice a1 n1 c1, .slice a2 n2 c2, .int .i64 wi] 25))
  generalize w1.alloc (.cells #[.slice a1 n1 c1, .slice a2 n2 c2, .int .i64 wi] 25) = w2 at *
  clear hb1
  refine (wakes_any _).mono ?_
  rintro e w3 ⟨rfl, hb3⟩
  have B3 := Lib.hid (B2.out.trans (hb3.mono B2.out.size))
  clear hb3
  go_wp2_with fail
  refine (P2.out k (Nat.le_refl _) (s.extract 0 k) (ext_list s k) w3).mono ?_
  rintro e w4 ⟨b1, m1, d1, b2, m2, d2, wi2, at1, er1, rfl, hb4, hcase⟩
  have B4 := Lib.hid (B3.out.trans (hb4.mono B3.out.size))
  have B5 := Lib.hid (B4.out.alloc B4.out.size (.cells #[.slice b1 m1 d1, .slice b2 m2 d2, .int .i64 wi2] 25))
  clear hb4
  rcases hcase with rfl | ⟨rfl, rfl⟩
  · by_cases hc0 : c ≤ 0
    · have P3 := Lib.hid (P2.out 0 (Nat.zero_le _) ByteArray.empty rfl)
      go_wp2_with fail
      refine (P3.out _).mono ?_
      rintro e w6 ⟨e1, o1, f1, e2, o2, f2, wi3, at2, er2, rfl, hb6, hcase2⟩
      have B6 := Lib.hid (B5.out.trans (hb6.mono B5.out.size))
      clear hb6
      rcases hcase2 with rfl | ⟨rfl, rfl⟩
      · go_wp2_with fail
        go_ret
        exact ⟨rfl, B6.out⟩
      · go_wp2_with fail
        go_ret
        exact ⟨rfl, B6.out⟩
    · have hc1 : 0 < c := by omega
      obtain ⟨N, hN⟩ : ∃ N : Nat, c % ((k : Int) + 1) = N := ⟨(c % ((k : Int) + 1)).toNat, (Int.toNat_of_nonneg (Int.emod_nonneg _ (by omega))).symm⟩
      have hNk : N ≤ k := by
        have := Int.emod_lt_of_pos c (show (0 : Int) < (k : Int) + 1 by omega)
        omega
      have hN1 : (N : Int) ≤ s.size := by omega
      have hN2 : N ≤ s.size := by omega
      have hN0 : (0 : Int) ≤ N := by omega
      have P3 := Lib.hid (P2.out N hNk (s.extract 0 N) (ext_list s N))
      go_wp2_with fail
      refine (P3.out _).mono ?_
      rintro e w6 ⟨e1, o1, f1, e2, o2, f2, wi3, at2, er2, rfl, hb6, hcase2⟩
      have B6 := Lib.hid (B5.out.trans (hb6.mono B5.out.size))
      clear hb6
      rcases hcase2 with rfl | ⟨rfl, rfl⟩
      · go_wp2_with fail
        go_ret
        exact ⟨rfl, B6.out⟩
      · go_wp2_with fail
        go_ret
        exact ⟨rfl, B6.out⟩
  · by_cases hc0 : c ≤ 0
    · have P3 := Lib.hid (P2.out 0 (Nat.zero_le _) ByteArray.empty rfl)
      go_wp2_with fail
      refine (P3.out _).mono ?_
      rintro e w6 ⟨e1, o1, f1, e2, o2, f2, wi3, at2, er2, rfl, hb6, hcase2⟩
      have B6 := Lib.hid (B5.out.trans (hb6.mono B5.out.size))
      clear hb6
      rcases hcase2 with rfl | ⟨rfl, rfl⟩
      · go_wp2_with fail
        go_ret
        exact ⟨rfl, B6.out⟩
      · go_wp2_with fail
        go_ret
        exact ⟨rfl, B6.out⟩
    · have hc1 : 0 < c := by omega
      obtain ⟨N, hN⟩ : ∃ N : Nat, c % ((k : Int) + 1) = N := ⟨(c % ((k : Int) + 1)).toNat, (Int.toNat_of_nonneg (Int.emod_nonneg _ (by omega))).symm⟩
      have hNk : N ≤ k := by
        have := Int.emod_lt_of_pos c (show (0 : Int) < (k : Int) + 1 by omega)
        omega
      have hN1 : (N : Int) ≤ s.size := by omega
      have hN2 : N ≤ s.size := by omega
      have hN0 : (0 : Int) ≤ N := by omega
      have P3 := Lib.hid (P2.out N hNk (s.extract 0 N) (ext_list s N))
      go_wp2_with fail
      refine (P3.out _).mono ?_
      rintro e w6 ⟨e1, o1, f1, e2, o2, f2, wi3, at2, er2, rfl, hb6, hcase2⟩
      have B6 := Lib.hid (B5.out.trans (hb6.mono B5.out.size))
      clear hb6
      rcases hcase2 with rfl | ⟨rfl, rfl⟩
      · go_wp2_with fail
        go_ret
        exact ⟨rfl, B6.out⟩
      · go_wp2_with fail
        go_ret
        exact ⟨rfl, B6.out⟩
theorem prefixes_law (s : ByteArray) (c : Int) (W : World) (hs : s.size ≤ 140737488355328) : Calls Try.prog 4 #[.string s, .int .i64 c] W fun e w' => e = .returned (.bool true) ∧ Below W.heap.size W w' := by
  by_cases h : pfE (pParse s.data.toList) = 20
  · cases hr : pParse s.data.toList with
    | inl f =>
      obtain ⟨k, er⟩ := f
      rw [hr] at h
      have he : er = 20 := h
      subst he
      exact prefixes_fault s c W k hr hs
    | inr p =>
      rw [hr] at h
      cases h
  · exact prefixes_other s c W _ rfl h
end Go.Proofs.Ytcfimponmioneaa.WP
