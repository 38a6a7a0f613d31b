/- The walks of the document's answer for layer 1: Put gives the bytes of a number; Get reads one: the same as the program's. -/
import Derived.Test.YtcojnojdgigmdaaDoorB01
import Derived.Test.YtcojnojdgigmdaaDoorWVar
set_option maxHeartbeats 400000
set_option maxRecDepth 100000
namespace Go.Proofs.YtcojnojdgigmdaaDoor.WR01
open Go.RowKit Go.Proofs.YtcojnojdgigmdaaDoor

theorem one_str (w : World) (x : Int) (h0 : 0 <= x) (h1 : x < 256) : (convert 111 9 (.slice (some ⟨w.heap.size, 0, none⟩) 1 1)).run Tryd.prog (w.alloc (.cells #[.int .u8 x] 5)) =
  .ok (.string ⟨[UInt8.ofNat x.toNat].toArray⟩) (w.alloc (.cells #[.int .u8 x] 5)) := by
 have := run_convert_bytes_back (P := Tryd.prog) (w.alloc (.cells #[.int .u8 x] 5)) 111 9 5 ⟨w.heap.size, 0, none⟩ 1 [UInt8.ofNat x.toNat] Tryd.underlying111 Tryd.underlying5 Tryd.underlying9 (fun j hj => by
  have hj0 : j = 0 := by simpa using hj
  subst hj0; rw [WV.addr_add, World.cell?_alloc_at _ _ _ _ rfl]
  simp [UInt8.toNat_ofNat']; omega)
 simpa using this

theorem u64_eq {a b : Int} (h : a = b) : Value.int .u64 a = Value.int .u64 b := by rw [h]
theorem str_eq {a b : List UInt8} (h : a = b) : Value.string ⟨a.toArray⟩ = Value.string ⟨b.toArray⟩ := by rw [h]
theorem str_app (a b c : List UInt8) (h : a ++ b = c) : Value.string (⟨a.toArray⟩ ++ ⟨b.toArray⟩) = Value.string ⟨c.toArray⟩ := by rw [ByteArray.mk_append_mk, h]
theorem ret_str {v : Value} {b : List UInt8} (h : v = .string ⟨b.toArray⟩) : Ending.returned v = .returned (.string ⟨b.toArray⟩) := by rw [h]

theorem put_any (n : Int) (W : World) (h1 : -9223372036854775808 <= n) (h2 : n <= 9223372036854775807) :
  Calls Tryd.prog 40 #[.int .i64 n] W fun e w' => e = .returned (.string ⟨(PV.putB n).toArray⟩) /\ Below W.heap.size W w' := by
 by_cases hn : n < 0
 all_goals
  go_enter Tryd.func40, Tryd.ntmps40
  go_wp2
  go_loopw [3, 4] (fun u s wr => ∃ (ds : List UInt8) (U : Nat), ds.length <= 9 /\ PV.putB n = ds ++ PV.enc (9 - ds.length) U /\ U < 2 * 128 ^ (9 - ds.length) /\ u = .int .u64 U /\ s = .string ⟨ds.toArray⟩ /\ Below W.heap.size W wr) (fun u _ _ => (intOf u).toNat)
  case atStart => exact ⟨[], PV.zig n, by simp, rfl, by have := PV.zig_lt h1 h2; simpa using this, u64_eq (by unfold PV.zig; split <;> omega), rfl, Below.refl _ _⟩
  case round =>
   obtain ⟨ds, U, hl, he, hU, rfl, rfl, hb⟩ := hrel; have He := Hyd he; have HU := Hyd hU; clear he hU
   have HU64 : U < 18446744073709551616 := by
    have h1 : 128 ^ (9 - ds.length) <= 128 ^ 9 := Nat.pow_le_pow_right (by omega) (by omega); have := HU.out
    omega
   by_cases hlt : U < 128
   ·have one := one_str wr (U : Int) (by omega) (by omega); have hle : ds.length <= 9 := hl; go_wp2; go_ret; exact ⟨ret_str (str_app _ _ _ (by rw [He.out, PV.enc_lt hlt])), hb.alloc hb.size _⟩
   ·have one := one_str wr ((U : Int) % 128 + 128) (by omega) (by omega); go_wp2; go_roundw
    case rel =>
     have hl9 : ds.length ≠ 9 := by intro h; have := HU.out; rw [h] at this; simp at this; omega
     refine ⟨ds ++ [UInt8.ofNat (U % 128 + 128)], U / 128, by simp; omega, ?_, ?_, by go_num, str_app _ _ _ (by rw [UInt8.ofNat_add]; rfl), hb.alloc hb.size _⟩
     ·rw [He.out, show 9 - ds.length = (9 - (ds.length + 1)) + 1 by omega, PV.enc, if_neg hlt]; simp
     ·have := HU.out; rw [show 9 - ds.length = (9 - (ds.length + 1)) + 1 by omega, Nat.pow_succ] at this; rw [show 9 - (ds ++ [UInt8.ofNat (U % 128 + 128)]).length = 9 - (ds.length + 1) by simp]
      omega
    case measure => simp [intOf]; omega

theorem get_any (s : ByteArray) (k : Int) (W : World) (hs : s.size <= 1000000000000) (h1 : -9223372036854775808 <= k) (h2 : k <= 9223372036854775807) :
  Calls Tryd.prog 36 #[.string s, .int .i64 k] W fun e w' => e = .returned (WV.getV (PV.getB s.data.toList k)) /\ W = w' := by
 by_cases hk : k < 0
 ·go_enter Tryd.func36, Tryd.ntmps36
  go_wp2
  go_ret3
  exact ⟨by simp [PV.getB, hk, WV.getV], rfl⟩
 by_cases hk2 : (s.size : Int) < k
 ·go_enter Tryd.func36, Tryd.ntmps36
  go_wp2
  go_ret3
  exact ⟨by simp [PV.getB, hk2, WV.getV], rfl⟩
 obtain ⟨K, rfl⟩ := Int.eq_ofNat_of_zero_le (by omega : 0 <= k)
 go_enter Tryd.func36, Tryd.ntmps36
 go_wp2
 have hdl : s.data.toList.length = s.size := by rw [Array.length_toList]; rfl
 have Hdl := Hyd hdl; clear hdl
 go_loop [7, 8] (fun u i => ∃ j : Nat, j <= 10 /\ K + j <= s.size /\ PV.getB s.data.toList K = PV.fin K (PV.dec (10 - j) j (PV.vs s.data.toList K j) (s.data.toList.drop (K + j))) /\ u = .int .i64 (-1) /\ i = .int .i64 j) (fun _ i => 10 - (intOf i).toNat)
 case atStart => exact ⟨0, by omega, by omega, PV.getB_fin _ _ (by rw [Hdl.out]; omega), rfl, rfl⟩
 case round =>
  obtain ⟨j, hj, hK, he, rfl, rfl⟩ := hrel; have He := Hyd he; clear he
  by_cases hj10 : j = 10
  ·subst hj10; go_wp2
   go_ret3
   exact ⟨by rw [He.out]; rfl, rfl⟩
  by_cases hend : K + j = s.size
  ·have hend' : decide ((K : Int) + j < s.size) = false := by simp; omega
   have hsh : decide ((s.size : Int) - K < 10) = true := by simp; omega
   clear hend; go_wp2
   go_ret3
   refine ⟨?_, rfl⟩; rw [He.out, List.drop_of_length_le (by rw [Hdl.out]; simp at hend'; omega), PV.dec_end j _ (by omega)]; rfl
  have hend' : decide ((K : Int) + j < s.size) = true := by simp; omega
  have hlt : K + j < s.size := by omega
  have hdr : s.data.toList.drop (K + j) = s[K + j] :: s.data.toList.drop (K + (j + 1)) := List.drop_eq_getElem_cons (by rw [Hdl.out]; omega)
  have hgd : s.data.toList.getD (K + j) 0 = s[K + j] := by simp [List.getD, hlt]; rfl
  have Hdr := Hyd hdr; have Hgd := Hyd hgd; clear hdr hgd; have hb8 := s[K + j].toNat_lt
  by_cases hb : s[K + j].toNat < 128
  ·have Hb := Hyd hb
   by_cases hz : 0 < j /\ s[K + j].toNat = 0
   ·have hj0 : (0 : Int) < j := by omega
    have hb0 : ((s[K + j].toNat : Int) == 0) = true := by rw [beq_iff_eq]; omega
    have Hz := Hyd hz; clear hz; go_wp2
    go_ret3
    refine ⟨?_, rfl⟩; rw [He.out, Hdr.out, PV.dec_bad j _ _ _ (by omega) (Or.inr Hz.out)]; rfl
   by_cases h9 : j = 9 /\ 1 < s[K + j].toNat
   ·have hj9 : ((j : Int) == 9) = true := by rw [beq_iff_eq]; omega
    have hlt9 : K + 9 < s.size := by omega
    have hb0 : ((s[K + j].toNat : Int) == 0) = false := by rw [beq_eq_false_iff_ne]; omega
    have hb1 : decide ((1 : Int) < (s[K + 9].toNat : Int)) = true := by
     obtain ⟨h, h'⟩ := h9; subst h; simp; omega
    have H9 := Hyd h9
    have hj0 : (0 : Int) < j := by omega
    clear h9 hz; go_wp2
    go_ret3
    refine ⟨?_, rfl⟩; rw [He.out, Hdr.out, PV.dec_bad j _ _ _ (by omega) (Or.inl H9.out)]; rfl
   have H9 := Hyd h9; have Hz := Hyd hz
   have hcase : (((j : Int) == 9) = false /\ ¬ (0 : Int) < (j : Int) /\ j < 10) \/ (((j : Int) == 9) = false /\ (0 : Int) < (j : Int) /\ ((s[K + j].toNat : Int) == 0) = false) \/
     (((j : Int) == 9) = true /\ (0 : Int) < (j : Int) /\ ((s[K + j].toNat : Int) == 0) = false) := by
    simp only [beq_iff_eq, beq_eq_false_iff_ne]; omega
   have h9b : ∀ (_ : j = 9) (hlt9 : K + 9 < s.size), decide ((1 : Int) < (s[K + 9].toNat : Int)) = false := by
    intro h hlt9; subst h; simp; omega
   have hsm : ∀ m, m <= j -> PV.vs s.data.toList (K + (m + 1)) (j - m) <= 144115188075855871 := by
    intro m hm
    apply PV.vs_small
    by_cases hm9 : j - m = 9
    ·refine Or.inr ⟨hm9, ?_⟩; rw [show K + (m + 1) + 8 = K + j by omega, Hgd.out]; omega
    ·exact Or.inl (by omega)
   have Hsm := Hyd hsm; have H9b := Hyd h9b; clear h9 hz h9b hsm
   have fin2 : PV.getB s.data.toList K = PV.fin K (.inr (PV.vs s.data.toList K (j + 1), j + 1)) := by
    rw [He.out, Hdr.out, PV.dec_done j _ _ _ (by omega) (by have := H9.out; have := Hz.out; omega) Hb.out, PV.vs_snoc, Hgd.out, Nat.mod_eq_of_lt Hb.out]
   have Hfin := Hyd fin2; clear fin2 He
   have hlt9 : K + 9 < s.size \/ j ≠ 9 := by omega
   rcases hcase with ⟨c1, c2, _⟩ | ⟨c1, c2, c3⟩ | ⟨c1, c2, c3⟩
   rotate_right
   ·have hj9 : j = 9 := by rw [beq_iff_eq] at c1; omega
    have h99 : K + 9 < s.size := by omega
    have c4 := H9b.out hj9 h99; clear hj9 hlt9; go_wp2
    go_loop [9, 10] (fun u i => ∃ (m : Nat) (x : Int), m <= j + 1 /\ x + 1 = m /\ i = .int .i64 x /\ u = .int .u64 (PV.vs s.data.toList (K + m) (j + 1 - m) : Nat)) (fun _ i => (intOf i + 1).toNat)
    case atStart => exact ⟨j + 1, j, by omega, by omega, rfl, by rw [Nat.sub_self]; rfl⟩
    case round =>
     obtain ⟨m, x, hm, hx, rfl, rfl⟩ := hrel
     rcases Nat.eq_zero_or_pos m with hm0 | hm0
     ·subst hm0
      obtain rfl : x = -1 := by omega
      clear hx; have hV : PV.vs s.data.toList (K + 0) (j + 1 - 0) = PV.vs s.data.toList K (j + 1) := rfl; rw [hV]; clear hV
      have hVl : PV.vs s.data.toList K (j + 1) < 18446744073709551616 := by
       have h0 := Hsm.out 0 (by omega); have e : PV.vs s.data.toList K (j + 1) = (s.data.toList.getD K 0).toNat % 128 + 128 * PV.vs s.data.toList (K + (0 + 1)) (j - 0) := rfl
       omega
      obtain ⟨V, hV⟩ : ∃ V, V = PV.vs s.data.toList K (j + 1) := ⟨_, rfl⟩
      have HV := Hyd hV; rw [<- hV] at hVl; rw [<- hV]; clear hV
      by_cases h2 : V % 2 = 1
      ·have h2' : (((V : Int) % 2) == 1) = true := by rw [beq_iff_eq]; omega
       have H2 := Hyd h2; clear h2; go_wp2
       go_ret3
       refine ⟨?_, rfl⟩; rw [Hfin.out, <- HV.out]; exact WV.ret3_eq (x := 0) (by simp only [PV.fin, PV.zag]; rw [if_pos H2.out]; omega) (by simp [PV.fin]; omega) rfl rfl
      ·have h2' : (((V : Int) % 2) == 1) = false := by rw [beq_eq_false_iff_ne]; omega
       have H2 := Hyd h2; clear h2; go_wp2
       go_ret3
       refine ⟨?_, rfl⟩; rw [Hfin.out, <- HV.out]; exact WV.ret3_eq (x := 0) (by simp only [PV.fin, PV.zag]; rw [if_neg H2.out]; omega) (by simp [PV.fin]; omega) rfl rfl
     ·obtain ⟨q, rfl⟩ : ∃ q, m = q + 1 := ⟨m - 1, by omega⟩
      obtain rfl : x = (q : Int) := by omega
      clear hx; have hV := Hsm.out q (by omega)
      have hVe : PV.vs s.data.toList (K + q) (j + 1 - q) = (s.data.toList.getD (K + q) 0).toNat % 128 + 128 * PV.vs s.data.toList (K + (q + 1)) (j - q) := by
       rw [show j + 1 - q = (j - q) + 1 by omega, PV.vs, Nat.add_assoc]
      have HVe := Hyd hVe; clear hVe; rw [show j + 1 - (q + 1) = j - q by omega]
      obtain ⟨V, hVV⟩ : ∃ V, V = PV.vs s.data.toList (K + (q + 1)) (j - q) := ⟨_, rfl⟩
      have HV := Hyd hVV; rw [<- hVV] at hV; rw [<- hVV]; clear hVV; have hq8 := s[K + q].toNat_lt
      have hgq : s.data.toList.getD (K + q) 0 = s[K + q] := by simp [List.getD, show K + q < s.size by omega]; rfl
      have Hgq := Hyd hgq; clear hgq; go_wp2
      go_round
      case rel => exact ⟨q, (q : Int) - 1, by omega, by omega, by go_num, u64_eq (by rw [HVe.out, <- HV.out, Hgq.out]; try omega)⟩
      case measure => simp [intOf]
   all_goals
    clear hlt9; go_wp2
    go_loop [9, 10] (fun u i => ∃ (m : Nat) (x : Int), m <= j + 1 /\ x + 1 = m /\ i = .int .i64 x /\ u = .int .u64 (PV.vs s.data.toList (K + m) (j + 1 - m) : Nat)) (fun _ i => (intOf i + 1).toNat)
    case atStart => exact ⟨j + 1, j, by omega, by omega, rfl, by rw [Nat.sub_self]; rfl⟩
    case round =>
     obtain ⟨m, x, hm, hx, rfl, rfl⟩ := hrel
     rcases Nat.eq_zero_or_pos m with hm0 | hm0
     ·subst hm0
      obtain rfl : x = -1 := by omega
      clear hx; have hV : PV.vs s.data.toList (K + 0) (j + 1 - 0) = PV.vs s.data.toList K (j + 1) := rfl; rw [hV]; clear hV
      have hVl : PV.vs s.data.toList K (j + 1) < 18446744073709551616 := by
       have h0 := Hsm.out 0 (by omega); have e : PV.vs s.data.toList K (j + 1) = (s.data.toList.getD K 0).toNat % 128 + 128 * PV.vs s.data.toList (K + (0 + 1)) (j - 0) := rfl
       omega
      obtain ⟨V, hV⟩ : ∃ V, V = PV.vs s.data.toList K (j + 1) := ⟨_, rfl⟩
      have HV := Hyd hV; rw [<- hV] at hVl; rw [<- hV]; clear hV
      by_cases h2 : V % 2 = 1
      ·have h2' : (((V : Int) % 2) == 1) = true := by rw [beq_iff_eq]; omega
       have H2 := Hyd h2; clear h2; go_wp2
       go_ret3
       refine ⟨?_, rfl⟩; rw [Hfin.out, <- HV.out]; exact WV.ret3_eq (x := 0) (by simp only [PV.fin, PV.zag]; rw [if_pos H2.out]; omega) (by simp [PV.fin]; omega) rfl rfl
      ·have h2' : (((V : Int) % 2) == 1) = false := by rw [beq_eq_false_iff_ne]; omega
       have H2 := Hyd h2; clear h2; go_wp2
       go_ret3
       refine ⟨?_, rfl⟩; rw [Hfin.out, <- HV.out]; exact WV.ret3_eq (x := 0) (by simp only [PV.fin, PV.zag]; rw [if_neg H2.out]; omega) (by simp [PV.fin]; omega) rfl rfl
     ·obtain ⟨q, rfl⟩ : ∃ q, m = q + 1 := ⟨m - 1, by omega⟩
      obtain rfl : x = (q : Int) := by omega
      clear hx; have hV := Hsm.out q (by omega)
      have hVe : PV.vs s.data.toList (K + q) (j + 1 - q) = (s.data.toList.getD (K + q) 0).toNat % 128 + 128 * PV.vs s.data.toList (K + (q + 1)) (j - q) := by
       rw [show j + 1 - q = (j - q) + 1 by omega, PV.vs, Nat.add_assoc]
      have HVe := Hyd hVe; clear hVe; rw [show j + 1 - (q + 1) = j - q by omega]
      obtain ⟨V, hVV⟩ : ∃ V, V = PV.vs s.data.toList (K + (q + 1)) (j - q) := ⟨_, rfl⟩
      have HV := Hyd hVV; rw [<- hVV] at hV; rw [<- hVV]; clear hVV; have hq8 := s[K + q].toNat_lt
      have hgq : s.data.toList.getD (K + q) 0 = s[K + q] := by simp [List.getD, show K + q < s.size by omega]; rfl
      have Hgq := Hyd hgq; clear hgq; go_wp2
      go_round
      case rel => exact ⟨q, (q : Int) - 1, by omega, by omega, by go_num, u64_eq (by rw [HVe.out, <- HV.out, Hgq.out]; try omega)⟩
      case measure => simp [intOf]
  ·by_cases hbad : (j = 9 /\ 1 < s[K + j].toNat) \/ (0 < j /\ s[K + j].toNat = 0)
   ·have Hbad := Hyd hbad; clear hbad; go_wp2
    go_round
    case rel => exact ⟨j + 1, by omega, by omega, by rw [He.out, Hdr.out, PV.dec_bad j _ _ _ (by omega) Hbad.out, show 10 - (j + 1) = 0 by have := Hbad.out; omega]; rfl, rfl, by go_num⟩
    case measure => simp [intOf]; omega
   ·have Hbad := Hyd hbad; clear hbad; go_wp2
    go_round
    case rel => exact ⟨j + 1, by omega, by omega, by rw [He.out, Hdr.out, PV.dec_more j _ _ _ (by omega) Hbad.out hb, PV.vs_snoc, Hgd.out], rfl, by go_num⟩
    case measure => simp [intOf]; omega
end Go.Proofs.YtcojnojdgigmdaaDoor.WR01
