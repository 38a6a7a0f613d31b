/- KeyBack: the law's walk. -/
import Derived.Test.YtceeijamhhokaaaDoorWParse
import Derived.Test.YtceeijamhhokaaaDoorWKWake
namespace Go.Proofs.YtceeijamhhokaaaDoor.WK
open Go Go.RowKit Go.Proofs.YtceeijamhhokaaaDoor Go.Proofs.YtceeijamhhokaaaDoor.PK Go.Proofs.YtceeijamhhokaaaDoor.Mem

theorem Prts.of_own' {w : World} {b : Nat} {e : TypeId} {v : Value} {l : List KP} (h : w.ownsRow b e 3 v l.length (cellsOf encK l)) : Prts w w.heap.size v l := Sl.of_own h
theorem makeE_two (l : List KP) : makeE l = 0 ∨ makeE l = 5 := by unfold makeE; split <;> simp
theorem makeE_parts {l : List KP} (h : makeE l = 0) (hf : ∀ p ∈ l, fitK p) : l.length ≤ 16 ∧ ∀ p ∈ l, okK p := by
  unfold makeE at h
  split at h
  · cases h
  · rename_i hn
    refine ⟨by omega, fun p hp => ⟨hf p hp, fun ht => ?_⟩⟩
    rcases Nat.lt_or_ge 4096 p.s.size with h' | h'
    · exact absurd (.inr ⟨p, hp, ht, h'⟩) hn
    · exact h'
theorem below_drewN' {B : Nat} {a w : World} (h : Below B a w) (n : Nat) : Below B a (w.drewN n) := ⟨h.os, h.tape, h.output, h.size, h.block⟩
theorem norm_true {p : KP} (h : p.txt = true) : normK p = ⟨true, 0, p.s⟩ := by unfold normK; rw [if_pos h]
theorem norm_false {p : KP} (h : p.txt = false) : normK p = ⟨false, p.n, .empty⟩ := by unfold normK; rw [if_neg (by rw [h]; decide)]

set_option maxRecDepth 100000 in
set_option maxHeartbeats 6400000 in
theorem back_law (v : Value) (l : List KP) (s : ByteArray) (W : World) (hv : Prts W W.heap.size v l) (hf : ∀ p ∈ l, fitK p) (hl : l.length * 32 ≤ 140737488351232) (hs : s.size ≤ 140737488351232) (hm : MaxLen W) (hg : 0 < W.heap.size) :
    Calls Tryd.prog 6 #[v, .string s] W fun e w' => e = .returned (.bool true) ∧ Below W.heap.size W w' := by
  have hlm : l.length ≤ maxLen := by unfold maxLen; omega
  have hs2 : s.size ≤ 140737488355328 := by omega
  have HL := Lib.hid (lists_any v l W hv hl)
  clear hv
  go_enter Tryd.func6, Tryd.ntmps6
  go_wp2_with fail
  refine HL.out.mono ?_
  rintro e w1 ⟨va, vb, rfl, hb1, o1, _⟩
  have HB1 := Lib.hid hb1
  have HO1 := Lib.hid o1
  have HM := Lib.hid (make_any l va w1 (hm.below hb1 hg) (Nat.lt_of_lt_of_le hg hb1.size) (Prts.of_own' o1) hf hlm)
  obtain ⟨a1, c1, rfl⟩ : ∃ a c, va = .slice a l.length c := (Sl.of_own o1).shape
  clear hb1 o1 HL
  go_wp2_with fail
  refine HM.out.mono ?_
  rintro e w2 ⟨rfl, hb2⟩
  have HB2 := Lib.hid (HB1.out.trans (hb2.mono HB1.out.size))
  have HA2 := Lib.hid (Sl.more (Sl.below (Prts.of_own' HO1.out) hb2) hb2.size)
  clear hb2 HM HO1
  rcases makeE_two l with hE | hE
  · obtain ⟨h16, hok⟩ := makeE_parts hE hf
    have hsz : (⟨(makeS l).toArray⟩ : ByteArray).size ≤ 140737488355328 := by
      have h1 := keyB_le l fun p hp ht => (hok p hp).2 ht
      unfold makeS
      rw [if_pos hE]
      show (keyB l).length ≤ _
      omega
    have hpk : parseR [] (⟨(makeS l).toArray⟩ : ByteArray).data.toList = .ok (l.map normK) := by
      unfold makeS
      rw [if_pos hE]
      exact parse_key l [] (by simpa using h16) hok
    have HP0 := parse_any ⟨(makeS l).toArray⟩ w2 hsz
    rw [hpk] at HP0
    obtain ⟨st, hst⟩ : ∃ st, (⟨(makeS l).toArray⟩ : ByteArray) = st := ⟨_, rfl⟩
    rw [hst] at HP0
    rw [hst, hE]
    have HP := Lib.hid HP0
    clear HP0 hpk hsz hst hE 
    go_wp2_with fail
    refine HP.out.mono ?_
    rintro e w3 ⟨vp, rfl, hb3, o3⟩
    have HB3 := Lib.hid (HB2.out.trans (hb3.mono HB2.out.size))
    have HA3 := Lib.hid (Sl.more (Sl.below HA2.out hb3) hb3.size)
    have o3' : w3.ownsRow w2.heap.size 34 3 vp (l.map normK).length (cellsOf encK (l.map normK)) := o3
    have hml : (l.map normK).length = l.length := List.length_map ..
    have HO3 := Lib.hid o3'
    obtain ⟨a3, c3, rfl⟩ : ∃ a c, vp = .slice a l.length c := by have := (Sl.of_own o3').shape; rwa [hml] at this
    have HWK := Lib.hid (wakes02 w3 (hm.below HB3.out hg) (Nat.lt_of_lt_of_le hg HB3.out.size))
    clear hb3 o3 o3' HP HA2 hml
    go_wp2_with fail
    refine HWK.out.mono ?_
    rintro e w4 ⟨rfl, hb4⟩
    have HB4 := Lib.hid (HB3.out.trans (hb4.mono HB3.out.size))
    have HA4 := Lib.hid (Sl.more (Sl.below HA3.out hb4) hb4.size)
    have HQ4 := Lib.hid (show Prts w4 w4.heap.size (.slice a3 l.length c3) (l.map normK) from Sl.more (Sl.below (Prts.of_own' HO3.out) hb4) hb4.size)
    clear hb4 HWK HA3 HO3
    go_wp2_with fail
    go_loopw [50] (fun u wr => ∃ i : Nat, i ≤ l.length ∧ u = .int .i64 i ∧ Below w4.heap.size w4 wr) (fun u _ => l.length - (intOf u).toNat)
    case atStart => exact ⟨0, by omega, rfl, Below.refl _ _⟩
    case round =>
      obtain ⟨i, hi, rfl, hbr⟩ := hrel
      have HBW := Lib.hid (HB4.out.trans (hbr.mono HB4.out.size))
      have HBR := Lib.hid hbr
      clear hbr
      by_cases hlt : i < l.length
      · have hlt' : (i : Int) < (l.length : Int) := by omega
        have hi0 : (0 : Int) ≤ (i : Int) := by omega
        have hltm : i < (l.map normK).length := by rw [List.length_map]; exact hlt
        obtain ⟨b, o, c, hc, hb, x0, x1, x2⟩ := Prts.at_ HA4.out hlt
        obtain ⟨rfl, rfl⟩ : a1 = some ⟨b, o, none⟩ ∧ c1 = c := by simpa using hc
        obtain ⟨b', o', c', hc', hb', z0, z1, z2⟩ := Prts.at_ HQ4.out hltm
        obtain ⟨rfl, rfl⟩ : a3 = some ⟨b', o', none⟩ ∧ c3 = c' := by simpa using hc'
        rw [List.getElem_map] at z0 z1 z2
        obtain ⟨p, hp⟩ : ∃ p, l[i] = p := ⟨_, rfl⟩
        rw [hp] at x0 x1 x2 z0 z1 z2
        have y0 := (HBR.out.cell (p := ⟨b, o + i * 3, none⟩) hb).trans x0
        have y1 := (HBR.out.cell (p := ⟨b, o + i * 3 + 1, none⟩) hb).trans x1
        have y2 := (HBR.out.cell (p := ⟨b, o + i * 3 + 2, none⟩) hb).trans x2
        have q0 := (HBR.out.cell (p := ⟨b', o' + i * 3, none⟩) hb').trans z0
        have q1 := (HBR.out.cell (p := ⟨b', o' + i * 3 + 1, none⟩) hb').trans z1
        have q2 := (HBR.out.cell (p := ⟨b', o' + i * 3 + 2, none⟩) hb').trans z2
        clear x0 x1 x2 z0 z1 z2 hc hc' hp hltm hb hb'
        cases ht : p.txt with
        | true =>
          rw [norm_true ht] at q0 q1 q2
          rw [ht] at y0
          clear ht
          go_wp2_with fail
          go_quiet (fail)
          go_wp2_with fail
          go_roundw
          case rel => exact ⟨i + 1, by omega, by go_num, below_drewN' HBR.out _⟩
          case measure => simp [intOf]; omega
        | false =>
          rw [norm_false ht] at q0 q1 q2
          rw [ht] at y0
          clear ht
          go_wp2_with fail
          go_quiet (fail)
          go_wp2_with fail
          go_roundw
          case rel => exact ⟨i + 1, by omega, by go_num, below_drewN' HBR.out _⟩
          case measure => simp [intOf]; omega
      · obtain rfl : i = l.length := by omega
        have HP2 := Lib.hid (parse_any s wr hs2)
        go_wp2_with fail
        refine HP2.out.mono ?_
        rintro e w5 ⟨vc, rfl, hb5, o5⟩
        have HB5 := Lib.hid (HBW.out.trans (hb5.mono HBW.out.size))
        obtain ⟨R2, hR2⟩ : ∃ R, parseR [] s.data.toList = R := ⟨_, rfl⟩
        rw [hR2] at o5 ⊢
        have HR2 := Lib.hid hR2
        have HO5 := Lib.hid o5
        clear hR2 o5 hb5 HP2
        cases R2 with
        | error e2 =>
          have he2 := parse_err _ _ _ HR2.out
          have hne : (e2 != 0) = true := by rcases he2 with rfl | rfl | rfl <;> rfl
          obtain ⟨ac, cc, rfl⟩ : ∃ a c, vc = .slice a 0 c := (Sl.of_own HO5.out).shape
          have hpe : parE (.error e2) = e2 := rfl
          rw [hpe]
          clear he2 hpe
          go_wp2_with fail
          go_ret
          exact ⟨rfl, HB5.out⟩
        | ok c =>
          obtain ⟨hc16, hck, hkey⟩ := parse_ok _ _ _ _ (Nat.le_refl _) (by simp) (by intro p hp; simp at hp) HR2.out
          have hmk : makeE c = 0 := makeE_ok hc16 fun p hp => (hck p hp).2
          have hms : (⟨(makeS c).toArray⟩ : ByteArray) = s := by
            unfold makeS
            rw [if_pos hmk, hkey]
            rfl
          have HM2 := make_any c vc w5 (hm.below HB5.out hg) (Nat.lt_of_lt_of_le hg HB5.out.size) (Prts.of_own' HO5.out) (fun p hp => (hck p hp).1) (by unfold maxLen; omega)
          rw [hms, hmk] at HM2
          have HM3 := Lib.hid HM2
          have hpe : parE (.ok c) = 0 := rfl
          rw [hpe]
          clear HM2 hms hmk hkey hck hc16 hpe
          go_wp2_with fail
          refine HM3.out.mono ?_
          rintro e w6 ⟨rfl, hb6⟩
          have HB6 := Lib.hid (HB5.out.trans (hb6.mono HB5.out.size))
          clear hb6
          go_wp2_with fail
          go_ret
          exact ⟨rfl, HB6.out⟩
  · have hnil : makeS l = [] := by unfold makeS; rw [if_neg (by rw [hE]; decide)]
    have hsz : (⟨(makeS l).toArray⟩ : ByteArray).size ≤ 140737488355328 := by rw [hnil]; decide
    have hpk : parseR [] (⟨(makeS l).toArray⟩ : ByteArray).data.toList = .ok [] := by rw [hnil, show (⟨([] : List UInt8).toArray⟩ : ByteArray).data.toList = [] from rfl, parseR]
    have HP0 := parse_any ⟨(makeS l).toArray⟩ w2 hsz
    rw [hpk] at HP0
    obtain ⟨st, hst⟩ : ∃ st, (⟨(makeS l).toArray⟩ : ByteArray) = st := ⟨_, rfl⟩
    rw [hst] at HP0
    rw [hst, hE]
    have HP := Lib.hid HP0
    clear HP0 hpk hsz hst hE hnil
    go_wp2_with fail
    refine HP.out.mono ?_
    rintro e w3 ⟨vp, rfl, hb3, o3⟩
    have HB3 := Lib.hid (HB2.out.trans (hb3.mono HB2.out.size))
    have HA3 := Lib.hid (Sl.more (Sl.below HA2.out hb3) hb3.size)
    have o3' : w3.ownsRow w2.heap.size 34 3 vp ([] : List KP).length (cellsOf encK ([] : List KP)) := o3
    have HO3 := Lib.hid o3'
    obtain ⟨a3, c3, rfl⟩ : ∃ a c, vp = .slice a 0 c := (Sl.of_own o3').shape
    have HWK := Lib.hid (wakes02 w3 (hm.below HB3.out hg) (Nat.lt_of_lt_of_le hg HB3.out.size))
    clear hb3 o3 o3' HP HA2 
    go_wp2_with fail
    refine HWK.out.mono ?_
    rintro e w4 ⟨rfl, hb4⟩
    have HB4 := Lib.hid (HB3.out.trans (hb4.mono HB3.out.size))
    have HA4 := Lib.hid (Sl.more (Sl.below HA3.out hb4) hb4.size)
    clear hb4 HWK HA3 HO3
    go_wp2_with fail
    go_loopw [50] (fun u wr => u = .int .i64 0 ∧ Below w4.heap.size w4 wr) (fun _ _ => 0)
    case atStart => exact ⟨rfl, Below.refl _ _⟩
    case round =>
      obtain ⟨rfl, hbr⟩ := hrel
      have HBW := Lib.hid (HB4.out.trans (hbr.mono HB4.out.size))
      clear hbr
      have HP2 := Lib.hid (parse_any s wr hs2)
      go_wp2_with fail
      refine HP2.out.mono ?_
      rintro e w5 ⟨vc, rfl, hb5, o5⟩
      have HB5 := Lib.hid (HBW.out.trans (hb5.mono HBW.out.size))
      obtain ⟨R2, hR2⟩ : ∃ R, parseR [] s.data.toList = R := ⟨_, rfl⟩
      rw [hR2] at o5 ⊢
      have HR2 := Lib.hid hR2
      have HO5 := Lib.hid o5
      clear hR2 o5 hb5 HP2
      cases R2 with
      | error e2 =>
        have he2 := parse_err _ _ _ HR2.out
        have hne : (e2 != 0) = true := by rcases he2 with rfl | rfl | rfl <;> rfl
        obtain ⟨ac, cc, rfl⟩ : ∃ a c, vc = .slice a 0 c := (Sl.of_own HO5.out).shape
        have hpe : parE (.error e2) = e2 := rfl
        rw [hpe]
        clear he2 hpe
        go_wp2_with fail
        go_ret
        exact ⟨rfl, HB5.out⟩
      | ok c =>
        obtain ⟨hc16, hck, hkey⟩ := parse_ok _ _ _ _ (Nat.le_refl _) (by simp) (by intro p hp; simp at hp) HR2.out
        have hmk : makeE c = 0 := makeE_ok hc16 fun p hp => (hck p hp).2
        have hms : (⟨(makeS c).toArray⟩ : ByteArray) = s := by
          unfold makeS
          rw [if_pos hmk, hkey]
          rfl
        have HM2 := make_any c vc w5 (hm.below HB5.out hg) (Nat.lt_of_lt_of_le hg HB5.out.size) (Prts.of_own' HO5.out) (fun p hp => (hck p hp).1) (by unfold maxLen; omega)
        rw [hms, hmk] at HM2
        have HM3 := Lib.hid HM2
        have hpe : parE (.ok c) = 0 := rfl
        rw [hpe]
        clear HM2 hms hmk hkey hck hc16 hpe
        go_wp2_with fail
        refine HM3.out.mono ?_
        rintro e w6 ⟨rfl, hb6⟩
        have HB6 := Lib.hid (HB5.out.trans (hb6.mono HB5.out.size))
        clear hb6
        go_wp2_with fail
        go_ret
        exact ⟨rfl, HB6.out⟩
end Go.Proofs.YtceeijamhhokaaaDoor.WK
