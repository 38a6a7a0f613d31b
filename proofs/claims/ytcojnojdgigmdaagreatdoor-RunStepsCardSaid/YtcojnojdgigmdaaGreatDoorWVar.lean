/- The walks of layer 1: varint.Put gives the bytes of a number; varint.Get reads one. -/
import Derived.Test.YtcojnojdgigmdaaGreatDoorB01
import Derived.Test.YtcojnojdgigmdaaGreatDoorChecked
import Derived.Test.YtcojnojdgigmdaaGreatDoorPVar
import Derived.WalkKit
import Derived.Outline
import Derived.Lib.Hide
import Derived.Laws.IdiomStrings
import Derived.Laws.BitsAllLaws
import Derived.Laws.Bits64
import Derived.WalkSpells
import Derived.WalkLawsBesides
set_option maxHeartbeats 400000
set_option maxRecDepth 100000
namespace Go.Proofs.YtcojnojdgigmdaaGreatDoor.WV
open Go.RowKit Go.Proofs.YtcojnojdgigmdaaGreatDoor

def outC (ds : List UInt8) : Array Value := (ds.map (fun b => Value.int .u8 b.toNat) ++ List.replicate (10 - ds.length) (Value.int .u8 0)).toArray

theorem xor_all (a : Nat) (ha : a < 18446744073709551616) : a ^^^ 18446744073709551615 = 18446744073709551615 - a := by
 have h : (BitVec.ofNat 64 a ^^^ BitVec.allOnes 64).toNat = (~~~ (BitVec.ofNat 64 a)).toNat := by rw [BitVec.xor_allOnes]
 rw [BitVec.toNat_xor, BitVec.toNat_not, BitVec.toNat_ofNat, BitVec.toNat_allOnes, Nat.mod_eq_of_lt (by omega)] at h
 simpa using h

theorem zig_bits {n : Int} (h1 : -9223372036854775808 <= n) (h2 : n <= 9223372036854775807) :
  bits BinOp.xor IntKind.u64 (IntKind.u64.wrap (wrap64 (n * 2))) (IntKind.u64.wrap (n / 9223372036854775808)) = (PV.zig n : Int) := by
 rw [IntKind.wrap_u64, IntKind.wrap_u64]; unfold PV.zig
 split
 ·rename_i hn
  have e1 : n / 9223372036854775808 % 18446744073709551616 = ((18446744073709551615 : Nat) : Int) := by omega
  have e2 : wrap64 (n * 2) % 18446744073709551616 = ((18446744073709551616 - 2 * (-n).toNat : Nat) : Int) := by unfold wrap64; omega
  rw [e1, e2, bits_xor_u64_nat _ _ (by omega) (by omega), xor_all _ (by omega)]
  omega
 ·rename_i hn
  have e1 : n / 9223372036854775808 % 18446744073709551616 = ((0 : Nat) : Int) := by omega
  have e2 : wrap64 (n * 2) % 18446744073709551616 = ((2 * n.toNat : Nat) : Int) := by unfold wrap64; omega
  rw [e1, e2, bits_xor_u64_nat _ _ (by omega) (by omega), Nat.xor_zero]

theorem or128 (U : Nat) : bits BinOp.or IntKind.u8 ((U : Int) % 256) 128 = ((UInt8.ofNat (U % 128 + 128)).toNat : Int) := by
 have e : (U : Int) % 256 = ((U % 256 : Nat) : Int) := by omega
 rw [e, show (128 : Int) = ((128 : Nat) : Int) by rfl, u8_or_nat _ _ (by omega) (by omega)]
 congr 1
 rw [show (UInt8.ofNat (U % 128 + 128)).toNat = U % 128 + 128 by simp [UInt8.toNat_ofNat']; omega]
 have h : U % 256 = U % 128 + 128 * (U / 128 % 2) := by omega
 rcases Nat.mod_two_eq_zero_or_one (U / 128) with h0 | h0
 ·rw [h, h0, Nat.mul_zero, Nat.add_zero, Nat.or_comm, nat_join 7 128 (U % 128) (by decide) (by omega)]; omega
 ·have e3 : U % 256 = 128 ||| U % 128 := by rw [nat_join 7 128 (U % 128) (by decide) (by omega)]; omega
  rw [e3, Nat.or_comm 128 (U % 128), Nat.or_assoc, Nat.or_self, Nat.or_comm, nat_join 7 128 (U % 128) (by decide) (by omega)]; omega

theorem addr_add (b j : Nat) : (⟨b, 0, none⟩ : Addr).add j = ⟨b, j, none⟩ := by
 unfold Addr.add; split
 ·rename_i h; subst h; rfl
 ·simp
theorem outC_size (ds : List UInt8) (h : ds.length <= 10) : (outC ds).size = 10 := by simp [outC]; omega
theorem outC_at (ds : List UInt8) (i : Nat) (h : i < ds.length) : (outC ds)[i]? = some (.int .u8 ds[i].toNat) := by
 simp [outC, List.getElem?_append, h]
theorem outC_end (ds : List UInt8) (h : ds.length <= 9) : (outC ds)[ds.length]? = some (.int .u8 0) := by
 simp [outC, List.getElem?_append, List.getElem?_replicate]; omega
theorem outC_put (ds : List UInt8) (b : UInt8) (h : ds.length <= 9) : (outC ds).setIfInBounds ds.length (.int .u8 b.toNat) = outC (ds ++ [b]) := by
 unfold outC; rw [List.setIfInBounds_toArray]
 congr 1
 apply List.ext_getElem?
 intro i
 simp only [List.getElem?_set, List.getElem?_append, List.getElem?_map, List.getElem?_replicate, List.length_append, List.length_map, List.length_replicate, List.length_cons, List.length_nil]
 rcases Nat.lt_trichotomy i ds.length with hi | hi | hi
 ·simp [hi, show ds.length ≠ i by omega, show i < ds.length + 1 by omega]
 ·subst hi; simp; omega
 ·simp only [show ¬ i < ds.length by omega, show ds.length ≠ i by omega, show ¬ i < ds.length + 1 by omega, if_false, show (i - ds.length < 10 - ds.length) ↔ (i - (ds.length + 1) < 10 - (ds.length + 1)) by omega]

theorem alen10 : Tryz.prog.arrayLen 209 = 10 := by kernel_rfl
theorem elem10 : Tryz.prog.elem 209 = 5 := by kernel_rfl
theorem size_u8 (w : World) : (sizeOf 5).run Tryz.prog w = .ok 1 w := by kernel_rfl
theorem out_slice (w : World) (b k : Nat) (h : k <= 9) : (Instr.sliceAt 209 (.pointer (some ⟨b, 0, none⟩)) none (some (.int .i64 ((k : Int) + 1))) none).run Tryz.prog w = .ok (.slice (some ⟨b, 0, none⟩) (k + 1) 10) w := by
 rw [run_sliceAt_array_h w 209 ⟨b, 0, none⟩ Tryz.underlying209 _ _ (by omega) (by rw [alen10]; omega)]; rw [elem10, size_u8, alen10]
 simp only [Result.andThen, slicedAt]
 rw [if_neg (by omega)]
 simp [Addr.add]
theorem out_str (w : World) (ds : List UInt8) (b : UInt8) (U : Int) (hU : U = b.toNat) (h : ds.length <= 9) :
  (convert 171 9 (.slice (some ⟨w.heap.size, 0, none⟩) (ds.length + 1) 10)).run Tryz.prog (w.alloc (.cells ((outC ds).setIfInBounds ds.length (.int .u8 U)) 209)) =
   .ok (.string ⟨(ds ++ [b]).toArray⟩) (w.alloc (.cells ((outC ds).setIfInBounds ds.length (.int .u8 U)) 209)) := by
 subst hU; rw [outC_put ds b h]
 have := run_convert_bytes_back (P := Tryz.prog) (w.alloc (.cells (outC (ds ++ [b])) 209)) 171 9 5 ⟨w.heap.size, 0, none⟩ 10 (ds ++ [b]) Tryz.underlying171 Tryz.underlying5 Tryz.underlying9 (fun j hj => by
  rw [addr_add, World.cell?_alloc_at _ _ _ _ rfl]
  exact outC_at _ j hj)
 simpa using this

theorem put_any (n : Int) (W : World) (h1 : -9223372036854775808 <= n) (h2 : n <= 9223372036854775807) :
  Calls Tryz.prog 86 #[.int .i64 n] W fun e w' => e = .returned (.string ⟨(PV.putB n).toArray⟩) /\ Below W.heap.size W w' := by
 have hz := zig_bits h1 h2
 go_enter Tryz.func86, Tryz.ntmps86
 go_wp2

 clear hz
 go_loopw [3, 5] (fun u i wr => ∃ (ds : List UInt8) (U : Nat), ds.length <= 9 /\ PV.putB n = ds ++ PV.enc (9 - ds.length) U /\ U < 2 * 128 ^ (9 - ds.length) /\ u = .int .u64 U /\ i = .int .i64 ds.length /\ wr = W.alloc (.cells (outC ds) 209)) (fun u _ _ => (intOf u).toNat)
 case atStart => exact ⟨[], PV.zig n, by simp, rfl, by have := PV.zig_lt h1 h2; simpa using this, rfl, rfl, rfl⟩
 case round =>
  obtain ⟨ds, U, hl, he, hU, rfl, rfl, rfl⟩ := hrel; have He := Hyd he; have HU := Hyd hU; clear he hU; have hc := outC_end ds hl
  by_cases hlt : U < 128
  ·have hsl := fun w => out_slice w W.heap.size ds.length hl
   have hcv := out_str W ds (UInt8.ofNat U) U (by simp [UInt8.toNat_ofNat']; omega) hl; go_wp2; go_ret; refine ⟨?_, (Below.refl _ _).alloc (Nat.le_refl _) _⟩; rw [He.out, PV.enc_lt hlt]
   rfl
  ·go_wp2; go_roundw
   case rel =>
    have hl9 : ds.length ≠ 9 := by intro h; have := HU.out; rw [h] at this; simp at this; omega
    refine ⟨ds ++ [UInt8.ofNat (U % 128 + 128)], U / 128, by simp; omega, ?_, ?_, by go_num, by simp, ?_⟩
    ·rw [He.out, show 9 - ds.length = (9 - (ds.length + 1)) + 1 by omega, PV.enc, if_neg hlt]; simp
    ·have := HU.out; rw [show 9 - ds.length = (9 - (ds.length + 1)) + 1 by omega, Nat.pow_succ] at this; rw [show 9 - (ds ++ [UInt8.ofNat (U % 128 + 128)]).length = 9 - (ds.length + 1) by simp]
     omega
    ·rw [<- outC_put _ _ hl, or128]
   case measure => simp [intOf]; omega

theorem or_step (U j : Nat) (b : UInt8) (hU : U < 128 ^ j) (hj : j < 9 \/ (j = 9 /\ b.toNat <= 1)) :
  bits BinOp.or IntKind.u64 (U : Int) (IntKind.u64.wrap (IntKind.u64.wrap (bits BinOp.and IntKind.u8 (b.toNat : Int) 127) * 2 ^ (7 * j))) = ((U + b.toNat % 128 * 128 ^ j : Nat) : Int) := by
 have hb := b.toNat_lt
 have e1 : bits BinOp.and IntKind.u8 (b.toNat : Int) 127 = ((b.toNat % 128 : Nat) : Int) := by
  rw [show (127 : Int) = ((127 : Nat) : Int) by rfl, u8_and_nat _ _ (by omega) (by omega), nat_mask7]
 have e2 : (2 : Int) ^ (7 * j) = ((128 ^ j : Nat) : Int) := by
  rw [Int.natCast_pow, show ((128 : Nat) : Int) = 2 ^ 7 by rfl, <- Int.pow_mul]
 have hp : b.toNat % 128 * 128 ^ j + 128 ^ j <= 18446744073709551616 := by
  rcases hj with hj | ⟨rfl, hb1⟩
  ·have h1 : (b.toNat % 128 + 1) * 128 ^ j <= 128 * 128 ^ j := Nat.mul_le_mul_right _ (by omega); have h2 : 128 ^ (j + 1) <= 128 ^ 9 := Nat.pow_le_pow_right (by omega) (by omega); rw [Nat.pow_succ] at h2; rw [Nat.add_mul] at h1
   omega
  ·omega
 rw [e1, e2, IntKind.wrap_u64, IntKind.wrap_u64]; rw [show ((b.toNat % 128 : Nat) : Int) % 18446744073709551616 = ((b.toNat % 128 : Nat) : Int) by omega, <- Int.natCast_mul]; generalize hm : b.toNat % 128 * 128 ^ j = m at *; rw [show (m : Int) % 18446744073709551616 = (m : Int) by omega, u64_or_nat _ _ (by omega) (by omega)]
 congr 1
 rw [Nat.or_comm, nat_join (7 * j) m U (by rw [<- hm, Nat.pow_mul]; exact Nat.mul_mod_left _ _) (by rw [Nat.pow_mul]; exact hU)]
 omega

theorem zag_end (U j : Nat) (b : UInt8) (hb : b.toNat < 128) (h : U + b.toNat % 128 * 128 ^ j < 18446744073709551616) :
  bits BinOp.xor IntKind.i64 (wrap64 (((U : Int) + (b.toNat : Int) % 128 * 128 ^ j) / 2)) (wrap64 (-wrap64 (bits BinOp.and IntKind.u64 ((U : Int) + (b.toNat : Int) % 128 * 128 ^ j) 1))) = PV.zag (U + b.toNat * 128 ^ j) := by
 rw [Nat.mod_eq_of_lt hb] at h
 have e : ((U : Int) + (b.toNat : Int) % 128 * 128 ^ j) = ((U + b.toNat * 128 ^ j : Nat) : Int) := by
  rw [show (b.toNat : Int) % 128 = (b.toNat : Int) by omega, Int.natCast_add, Int.natCast_mul, Int.natCast_pow]; rfl
 rw [e]; generalize U + b.toNat * 128 ^ j = V at *; rw [show (1 : Int) = ((1 : Nat) : Int) by rfl, u64_and_nat _ _ h (by omega), nat_mask1]
 have e2 : wrap64 ((V : Int) / 2) = ((V / 2 : Nat) : Int) := by unfold wrap64; omega
 rw [show (2 : Int) = ((2 : Nat) : Int) by rfl] at e2; rw [show (2 : Int) = ((2 : Nat) : Int) by rfl, e2]; unfold PV.zag
 rcases Nat.mod_two_eq_zero_or_one V with h0 | h0
 ·rw [h0, if_neg (by omega), show wrap64 (-wrap64 ((0 : Nat) : Int)) = 0 by simp only [wrap64]; omega]
  show IntKind.i64.wrap ((BitVec.ofInt 64 ((V / 2 : Nat) : Int) ^^^ BitVec.ofInt 64 0).toNat : Int) = _
  rw [BitVec.toNat_xor, ofInt_u64 _ (by omega), show (BitVec.ofInt 64 0).toNat = 0 by rfl, Nat.xor_zero, IntKind.wrap_i64]
  omega
 ·rw [h0, if_pos rfl, show wrap64 (-wrap64 ((1 : Nat) : Int)) = -1 by simp only [wrap64]; omega]
  show IntKind.i64.wrap ((BitVec.ofInt 64 ((V / 2 : Nat) : Int) ^^^ BitVec.ofInt 64 (-1)).toNat : Int) = _
  rw [BitVec.toNat_xor, ofInt_u64 _ (by omega), show (BitVec.ofInt 64 (-1)).toNat = 18446744073709551615 by rfl, xor_all _ (by omega), IntKind.wrap_i64]
  omega
theorem step_lt (U j : Nat) (b : UInt8) (hU : U < 128 ^ j) (hj : j < 9 \/ (j = 9 /\ b.toNat <= 1)) : U + b.toNat % 128 * 128 ^ j < 128 ^ (j + 1) /\ U + b.toNat % 128 * 128 ^ j < 18446744073709551616 := by
 have h1 : (b.toNat % 128 + 1) * 128 ^ j <= 128 * 128 ^ j := Nat.mul_le_mul_right _ (by omega); rw [Nat.add_mul] at h1; refine ⟨by rw [Nat.pow_succ]; omega, ?_⟩
 rcases hj with hj | ⟨rfl, hb1⟩
 ·have h2 : 128 ^ (j + 1) <= 128 ^ 9 := Nat.pow_le_pow_right (by omega) (by omega); rw [Nat.pow_succ] at h2
  omega
 ·omega
theorem cast_step (U j : Nat) (b : UInt8) : (U : Int) + (b.toNat : Int) % 128 * 128 ^ j = ((U + b.toNat % 128 * 128 ^ j : Nat) : Int) := by
 rw [Int.natCast_add, Int.natCast_mul, Int.natCast_pow, Int.natCast_emod]; rfl

theorem ret3_eq {x a b c a' b' c' : Int} {k1 k2 k3 : IntKind} (h1 : a = a') (h2 : b = b') (h3 : c = c') (_hx : x = 0) :
  Ending.returned (.tuple #[.int k1 a, .int k2 b, .int k3 c]) = Ending.returned (.tuple #[.int k1 a', .int k2 b', .int k3 c']) := by rw [h1, h2, h3]

def getV (r : Int × Int × Int) : Value := .tuple #[.int .i64 r.1, .int .i64 r.2.1, .int .i64 r.2.2]

theorem get_any (s : ByteArray) (k : Int) (W : World) (hs : s.size <= 1000000000000) (h1 : -9223372036854775808 <= k) (h2 : k <= 9223372036854775807) :
  Calls Tryz.prog 83 #[.string s, .int .i64 k] W fun e w' => e = .returned (getV (PV.getB s.data.toList k)) /\ W = w' := by
 by_cases hk : k < 0
 ·go_enter Tryz.func83, Tryz.ntmps83
  go_wp2
  go_ret3
  exact ⟨by simp [PV.getB, hk, getV], rfl⟩
 by_cases hk2 : (s.size : Int) < k
 ·go_enter Tryz.func83, Tryz.ntmps83
  go_wp2
  go_ret3
  exact ⟨by simp [PV.getB, hk2, getV], rfl⟩
 obtain ⟨K, rfl⟩ := Int.eq_ofNat_of_zero_le (by omega : 0 <= k)
 go_enter Tryz.func83, Tryz.ntmps83
 go_wp2
 go_loop [7, 18] (fun u i => ∃ j U : Nat, j <= 10 /\ K + j <= s.size /\ U < 128 ^ j /\ PV.getB s.data.toList K = PV.fin K (PV.dec (10 - j) j U (s.data.toList.drop (K + j))) /\ u = .int .u64 U /\ i = .int .i64 j) (fun _ i => 10 - (intOf i).toNat)
 case atStart => exact ⟨0, 0, by omega, by omega, by omega, PV.getB_fin _ _ (by simp; omega), rfl, rfl⟩
 case round =>
  obtain ⟨j, U, hj, hK, hU, he, rfl, rfl⟩ := hrel; have HU := Hyd hU; have He := Hyd he; clear hU he
  have hdl : s.data.toList.length = s.size := by rw [Array.length_toList]; rfl
  by_cases hj10 : j = 10
  ·subst hj10; go_wp2
   go_ret3
   exact ⟨by rw [He.out]; rfl, rfl⟩
  by_cases hend : K + j = s.size
  ·have hend' : ((K : Int) + j == s.size) = true := by rw [beq_iff_eq]; omega
   go_wp2
   go_ret3
   refine ⟨?_, rfl⟩; rw [He.out, List.drop_of_length_le (by omega), PV.dec_end j U (by omega)]; rfl
  have hend' : ((K : Int) + j == s.size) = false := by rw [beq_eq_false_iff_ne]; omega
  have hlt : K + j < s.size := by omega
  have hdr : s.data.toList.drop (K + j) = s[K + j] :: s.data.toList.drop (K + (j + 1)) := List.drop_eq_getElem_cons (by omega); have Hdr := Hyd hdr; clear hdr hdl; have hb8 := s[K + j].toNat_lt
  by_cases hbad : (j = 9 /\ 1 < s[K + j].toNat) \/ (0 < j /\ s[K + j].toNat = 0)
  ·have Hbad := Hyd hbad
   by_cases h9 : j = 9 /\ 1 < s[K + j].toNat
   ·have h9' : ((j : Int) == 9) = true := by rw [beq_iff_eq]; omega
    have hb1' : decide ((1 : Int) < (s[K + j].toNat : Int)) = true := by simp; omega
    clear hbad h9; go_wp2
    go_ret3
    refine ⟨?_, rfl⟩; rw [He.out, Hdr.out, PV.dec_bad j U _ _ (by omega) Hbad.out]; rfl
   ·have hj0 : 0 < j := by omega
    have hb0 : ((s[K + j].toNat : Int) == 0) = true := by rw [beq_iff_eq]; omega
    have hb1' : decide ((1 : Int) < (s[K + j].toNat : Int)) = false := by simp; omega
    clear hbad h9
    by_cases h9 : j = 9
    ·have h9' : ((j : Int) == 9) = true := by rw [beq_iff_eq]; omega
     clear h9; go_wp2
     go_ret3
     refine ⟨?_, rfl⟩; rw [He.out, Hdr.out, PV.dec_bad j U _ _ (by omega) Hbad.out]; rfl
    ·have h9' : ((j : Int) == 9) = false := by rw [beq_eq_false_iff_ne]; omega
     go_wp2
     go_ret3
     refine ⟨?_, rfl⟩; rw [He.out, Hdr.out, PV.dec_bad j U _ _ (by omega) Hbad.out]; rfl
  have hor := or_step U j s[K + j] HU.out (by omega); have Hbad := Hyd hbad; have hlt2 := step_lt U j s[K + j] HU.out (by omega)
  have hcase : (((j : Int) == 9) = false /\ ¬ (0 : Int) < (j : Int) /\ j < 10) \/ (((j : Int) == 9) = false /\ (0 : Int) < (j : Int) /\ ((s[K + j].toNat : Int) == 0) = false) \/
    (((j : Int) == 9) = true /\ (0 : Int) < (j : Int) /\ ((s[K + j].toNat : Int) == 0) = false /\ decide ((1 : Int) < (s[K + j].toNat : Int)) = false /\ s[K + j].toNat < 128) := by
   simp only [beq_iff_eq, beq_eq_false_iff_ne, decide_eq_false_iff_not]; omega
  have Hlt2 := Hyd hlt2; clear hbad hlt2
  by_cases hb : s[K + j].toNat < 128
  ·have hze := zag_end U j s[K + j] hb Hlt2.out.2
   rcases hcase with ⟨c1, c2, _⟩ | ⟨c1, c2, c3⟩ | ⟨c1, c2, c3, c4, _⟩
   all_goals
    go_wp2
    go_ret3
    refine ⟨?_, rfl⟩; rw [He.out, Hdr.out, PV.dec_done j U _ _ (by omega) Hbad.out hb]; exact ret3_eq (x := 0) rfl (by simp [PV.fin]; omega) rfl rfl
  ·rcases hcase with ⟨c1, c2, _⟩ | ⟨c1, c2, c3⟩ | ⟨c1, c2, c3, c4, c5⟩
   ·go_wp2
    go_round
    case rel => exact ⟨j + 1, _, by omega, by omega, Hlt2.out.1, by rw [He.out, Hdr.out, PV.dec_more j U _ _ (by omega) Hbad.out hb], by rw [cast_step], by go_num⟩
    case measure => simp [intOf]; omega
   ·go_wp2
    go_round
    case rel => exact ⟨j + 1, _, by omega, by omega, Hlt2.out.1, by rw [He.out, Hdr.out, PV.dec_more j U _ _ (by omega) Hbad.out hb], by rw [cast_step], by go_num⟩
    case measure => simp [intOf]; omega
   ·exact absurd c5 hb
end Go.Proofs.YtcojnojdgigmdaaGreatDoor.WV
