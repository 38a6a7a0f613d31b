/- The walk of (key.Part).put: a part's bytes behind others. -/
import Derived.Test.YtceeijamhhokaaaDoorChecked
import Derived.Test.YtceeijamhhokaaaDoorMem
import Derived.Test.YtceeijamhhokaaaDoorPKey
import Derived.Ground.NamesProg
import Derived.Shelf.Strings.Replace
import Derived.Lib.Agree
import Derived.WalkKit
import Derived.Outline
import Derived.RegionTactic
import Derived.Lib.Hide
import Derived.Lib.AppendStr
import Derived.Deep.AppendLies
import Derived.Laws.Bits64
namespace Go.Proofs
open Go.Shelf
def Tryd.lays155_ren : Go.Shelf.Ren := ⟨fun | 155 => 42 | 154 => 50 | 138 => 55 | 165 => 56 | 143 => 57 | 166 => 43 | 197 => 58 | 169 => 45 | 195 => 61 | 218 => 62 | 240 => 51 | 241 => 63 | 219 => 64 | 260 => 65 | 276 => 59 | 277 => 66 | 217 => 67 | 225 => 68 | 224 => 69 | 267 => 70 | 266 => 71 | 314 => 72 | n => n, fun | 9 => 9 | 3 => 3 | 4 => 4 | 72 => 84 | 0 => 0 | 76 => 87 | 105 => 97 | 21 => 21 | 5 => 5 | 70 => 82 | 20 => 20 | 37 => 63 | 75 => 86 | 127 => 93 | 164 => 99 | 46 => 72 | 119 => 106 | 139 => 109 | 138 => 108 | 146 => 111 | 51 => 110 | 80 => 67 | n => n, fun | 1 => 0 | 3 => 1 | 4 => 2 | n => n⟩
theorem Tryd.lays155 : Go.Proofs.Lays.n155 Tryd.prog Tryd.lays155_ren := {
  mixed := by kernel_rfl
  f138 := Tryd.func55.trans (congrArg some (by kernel_rfl))
  f143 := Tryd.func57.trans (congrArg some (by kernel_rfl))
  f154 := Tryd.func50.trans (congrArg some (by kernel_rfl))
  f155 := Tryd.func42.trans (congrArg some (by kernel_rfl))
  f165 := Tryd.func56.trans (congrArg some (by kernel_rfl))
  f166 := Tryd.func43.trans (congrArg some (by kernel_rfl))
  f169 := Tryd.func45.trans (congrArg some (by kernel_rfl))
  f195 := Tryd.func61.trans (congrArg some (by kernel_rfl))
  f197 := Tryd.func58.trans (congrArg some (by kernel_rfl))
  f217 := Tryd.func67.trans (congrArg some (by kernel_rfl))
  f218 := Tryd.func62.trans (congrArg some (by kernel_rfl))
  f219 := Tryd.func64.trans (congrArg some (by kernel_rfl))
  f224 := Tryd.func69.trans (congrArg some (by kernel_rfl))
  f225 := Tryd.func68.trans (congrArg some (by kernel_rfl))
  f240 := Tryd.func51.trans (congrArg some (by kernel_rfl))
  f241 := Tryd.func63.trans (congrArg some (by kernel_rfl))
  f260 := Tryd.func65.trans (congrArg some (by kernel_rfl))
  f266 := Tryd.func71.trans (congrArg some (by kernel_rfl))
  f267 := Tryd.func70.trans (congrArg some (by kernel_rfl))
  f276 := Tryd.func59.trans (congrArg some (by kernel_rfl))
  f277 := Tryd.func66.trans (congrArg some (by kernel_rfl))
  f314 := Tryd.func72.trans (congrArg some (by kernel_rfl))
  t0 := Tryd.underlying0
  a0 := Tryd.isAgg0
  z0 := Tryd.sizeOf0
  v0 := Tryd.zeroValue0
  t3 := Tryd.underlying3
  a3 := Tryd.isAgg3
  z3 := Tryd.sizeOf3
  v3 := Tryd.zeroValue3
  t4 := Tryd.underlying4
  a4 := Tryd.isAgg4
  z4 := Tryd.sizeOf4
  v4 := Tryd.zeroValue4
  t5 := Tryd.underlying5
  a5 := Tryd.isAgg5
  z5 := Tryd.sizeOf5
  v5 := Tryd.zeroValue5
  t9 := Tryd.underlying9
  a9 := Tryd.isAgg9
  z9 := Tryd.sizeOf9
  v9 := Tryd.zeroValue9
  t20 := Tryd.underlying20
  a20 := Tryd.isAgg20
  z20 := Tryd.sizeOf20
  v20 := Tryd.zeroValue20
  t21 := Tryd.underlying21
  a21 := Tryd.isAgg21
  z21 := Tryd.sizeOf21
  v21 := Tryd.zeroValue21
  t37 := Tryd.underlying63
  a37 := Tryd.isAgg63
  z37 := Tryd.sizeOf63
  v37 := Tryd.zeroValue63
  t46 := Tryd.underlying72
  a46 := Tryd.isAgg72
  z46 := Tryd.sizeOf72
  v46 := Tryd.zeroValue72
  t51 := Tryd.underlying110
  a51 := Tryd.isAgg110
  z51 := Tryd.sizeOf110
  v51 := Tryd.zeroValue110
  t70 := Tryd.underlying82
  a70 := Tryd.isAgg82
  z70 := Tryd.sizeOf82
  v70 := Tryd.zeroValue82
  t72 := Tryd.underlying84
  a72 := Tryd.isAgg84
  z72 := Tryd.sizeOf84
  v72 := Tryd.zeroValue84
  t75 := Tryd.underlying86
  a75 := Tryd.isAgg86
  z75 := Tryd.sizeOf86
  v75 := Tryd.zeroValue86
  t76 := Tryd.underlying87
  a76 := Tryd.isAgg87
  z76 := Tryd.sizeOf87
  v76 := Tryd.zeroValue87
  t105 := Tryd.underlying97
  a105 := Tryd.isAgg97
  z105 := Tryd.sizeOf97
  v105 := Tryd.zeroValue97
  t119 := Tryd.underlying106
  a119 := Tryd.isAgg106
  z119 := Tryd.sizeOf106
  t127 := Tryd.underlying93
  a127 := Tryd.isAgg93
  z127 := Tryd.sizeOf93
  v127 := Tryd.zeroValue93
  t138 := Tryd.underlying108
  a138 := Tryd.isAgg108
  z138 := Tryd.sizeOf108
  v138 := Tryd.zeroValue108
  t139 := Tryd.underlying109
  a139 := Tryd.isAgg109
  z139 := Tryd.sizeOf109
  v139 := Tryd.zeroValue109
  t146 := Tryd.underlying111
  a146 := Tryd.isAgg111
  z146 := Tryd.sizeOf111
  v146 := Tryd.zeroValue111
  t164 := Tryd.underlying99
  a164 := Tryd.isAgg99
  z164 := Tryd.sizeOf99
  v164 := Tryd.zeroValue99
  g1 := by kernel_rfl
  g3 := by kernel_rfl
  g4 := by kernel_rfl }
theorem Tryd.extra155 : Builder.Extra Tryd.prog Tryd.lays155_ren := {
  sizeBuilder := by kernel_rfl
  liesBuilder := by kernel_rfl
  t5 := Tryd.lays155.t5
  a5 := Tryd.lays155.a5
  z5 := Tryd.lays155.z5
  v5 := Tryd.lays155.v5
  infoByte := by kernel_rfl
  cellsByte := by kernel_rfl
  sizeByte := by kernel_rfl
  neB5 := by decide }
end Go.Proofs
namespace Go.Proofs.YtceeijamhhokaaaDoor.WK
open Go Go.RowKit Go.Proofs.YtceeijamhhokaaaDoor Go.Proofs.YtceeijamhhokaaaDoor.PK Go.Proofs.YtceeijamhhokaaaDoor.Mem

theorem infoByte : (Tryd.prog.info? 5).map (fun i => (i.zero, i.size, i.bytes)) = some (some (.int .u8 0), 1, 1) := by kernel_rfl
/-- The package variable that strings.Index asks for. -/
def MaxLen (w : World) : Prop := ∃ m : Int, w.cell? ⟨0, 0, none⟩ = some (.int .i64 m)
theorem MaxLen.below {w w' : World} {B : Nat} (h : MaxLen w) (hb : Below B w w') (hB : 0 < B) : MaxLen w' := by
  obtain ⟨m, hm⟩ := h
  exact ⟨m, (hb.cell (p := ⟨0, 0, none⟩) hB).trans hm⟩
theorem replace_any (s : ByteArray) (w : World) (hm : MaxLen w) (hs : s.size ≤ 1048576) :
    Calls Tryd.prog 42 #[.string s, .string ⟨#[0]⟩, .string ⟨#[0, 255]⟩] w fun e w' => e = .returned (.string ⟨(esc s.data.toList).toArray⟩) ∧ Below w.heap.size w w' := by
  obtain ⟨m, hm⟩ := hm
  have hc : Lib.countB s ⟨#[0]⟩ ≤ s.size := by
    have h := Lib.countB_mul_le ⟨#[0]⟩ (by decide) s.size s (Nat.le_refl _)
    have e : (⟨#[0]⟩ : ByteArray).size = 1 := rfl
    rw [e, Nat.mul_one] at h
    exact h
  have h := Any.strings_ReplaceAll Tryd.lays155 Tryd.extra155 s ⟨#[0]⟩ ⟨#[0, 255]⟩ m w (by omega) hm (by decide) (by have e : (⟨#[0, 255]⟩ : ByteArray).size = 2 := rfl; rw [e]; omega)
  have e : Lib.replaceAll s.data.toList (⟨#[0]⟩ : ByteArray).data.toList (⟨#[0, 255]⟩ : ByteArray).data.toList = esc s.data.toList := esc_replace _
  rw [e] at h
  exact h

/-- The bytes under way. -/
structure Kb (W w : World) (base : Nat) (p : KP) (v : Value) (l : List UInt8) : Prop where
  bel : Below base W w
  le : base ≤ W.heap.size
  box : w.heap[W.heap.size]? = some (.cells #[.bool p.txt, .int .i64 p.n, .string p.s] 34 (0, 0))
  own : w.ownsRow base 5 1 v l.length (Lib.byteCells l)
theorem Kb.push {W w w' : World} {base : Nat} {p : KP} {v v' : Value} {l m : List UInt8} (h : Kb W w base p v l) (hgr : w.grownBy w' v.ownBlock) (hown : w'.ownsRow base 5 1 v' (l.length + m.length) (Lib.byteCells l ++ Lib.byteCells m)) : Kb W w' base p v' (l ++ m) :=
  ⟨below_grown h.bel h.own hgr (Nat.le_trans h.le h.bel.size) (Nat.le_refl _), h.le, heap_kept h.box h.own (by decide) hgr, by
    rw [List.length_append]
    have e : Lib.byteCells (l ++ m) = Lib.byteCells l ++ Lib.byteCells m := by unfold Lib.byteCells; rw [List.map_append]
    rw [e]; exact hown⟩
theorem Kb.alloc {W w : World} {base : Nat} {p : KP} {v : Value} {l : List UInt8} (h : Kb W w base p v l) (o : Obj) : Kb W (w.alloc o) base p v l :=
  ⟨h.bel.alloc (Nat.le_trans h.le h.bel.size) o, h.le, heap_alloc h.box, h.own.alloc _⟩
theorem Kb.below {W w w' : World} {base : Nat} {p : KP} {v : Value} {l : List UInt8} (h : Kb W w base p v l) (hb : Below w.heap.size w w') : Kb W w' base p v l :=
  ⟨h.bel.trans (hb.mono (Nat.le_trans h.le h.bel.size)), h.le, (hb.block _ (heap_lt h.box)).trans h.box, h.own.kept (row := none) ⟨hb.os, hb.tape, hb.output, hb.size, fun k hk _ => hb.block k hk⟩ (by cases v.ownBlock <;> simp)⟩
theorem bytes_one (l : List UInt8) : ∀ u ∈ Lib.byteCells l, u.oneCell' = true := by
  intro u hu
  obtain ⟨b, _, rfl⟩ := List.mem_map.1 hu
  rfl

theorem top_bits {n : Int} (h1 : -9223372036854775808 ≤ n) (h2 : n ≤ 9223372036854775807) : bits BinOp.xor IntKind.u64 (IntKind.u64.wrap n) 9223372036854775808 = ((n + 9223372036854775808).toNat : Int) := by
  obtain ⟨U, hU, hlt, hc⟩ : ∃ U : Nat, IntKind.u64.wrap n = U ∧ U < 18446744073709551616 ∧ ((0 ≤ n ∧ (U : Int) = n) ∨ (n < 0 ∧ (U : Int) = n + 18446744073709551616)) := by
    rw [IntKind.wrap_u64]
    exact ⟨(n % 18446744073709551616).toNat, by omega, by omega, by omega⟩
  rw [hU, show (9223372036854775808 : Int) = ((9223372036854775808 : Nat) : Int) from rfl, bits_xor_u64_nat _ _ hlt (by decide)]
  have := xor_top (a := U) hlt
  rw [show (2 : Nat) ^ 63 = 9223372036854775808 by decide] at this
  rw [this]
  split <;> omega
theorem num_byte {n : Int} (h1 : -9223372036854775808 ≤ n) (h2 : n ≤ 9223372036854775807) (i : Nat) : bits BinOp.xor IntKind.u64 (IntKind.u64.wrap n) 9223372036854775808 / 2 ^ (56 - 8 * i) % 256 = ((numAt n i).toNat : Int) := by
  rw [top_bits h1 h2]
  unfold numAt
  rw [UInt8.toNat_ofNat']
  have e : ((n + 9223372036854775808).toNat : Int) / 2 ^ (56 - 8 * i) = (((n + 9223372036854775808).toNat / 2 ^ (56 - 8 * i) : Nat) : Int) := by push_cast; rfl
  rw [e]
  omega

set_option maxRecDepth 100000 in
set_option maxHeartbeats 3200000 in
theorem put_any (p : KP) (v : Value) (l : List UInt8) (base : Nat) (W : World) (hm : MaxLen W) (hg : 0 < base) (hn : -9223372036854775808 ≤ p.n ∧ p.n ≤ 9223372036854775807) (hs : p.txt = true → p.s.size ≤ 4096) (hown : W.ownsRow base 5 1 v l.length (Lib.byteCells l)) (hb : base ≤ W.heap.size) (hl : l.length ≤ 1048576) :
    Calls Tryd.prog 30 #[.agg #[.bool p.txt, .int .i64 p.n, .string p.s], v] W fun e w' => ∃ v', e = .returned v' ∧ Below base W w' ∧ w'.ownsRow base 5 1 v' (l ++ oneB p).length (Lib.byteCells (l ++ oneB p)) := by
  obtain ⟨i0, hi, hz0, hz1, hz2⟩ := info_parts infoByte
  have HK := Lib.hid (show Kb W (W.alloc (.cells #[.bool p.txt, .int .i64 p.n, .string p.s] 34)) base p v l from ⟨(Below.refl _ _).alloc hb _, hb, heap_new rfl, hown.alloc _⟩)
  have HZ := Lib.hid (show (W.alloc (.cells #[.bool p.txt, .int .i64 p.n, .string p.s] 34)).heap.size = W.heap.size + 1 by simp)
  obtain ⟨ptx, hptx⟩ : ∃ b, p.txt = b := ⟨_, rfl⟩
  cases ptx with
  | false =>
    have HTX := Lib.hid hptx
    rw [hptx] at HK HZ ⊢
    clear hptx
    go_enter Tryd.func30, Tryd.ntmps30
    go_wp2_with (at_builtin; refine wpList_append_lies _ rfl (.tmp 9) (.tmp 10) 63 rfl base 5 i0 _ 1 1 Tryd.underlying63 hi hz0 hz1 hz2 rfl (by decide) _ _ _ rfl (HK.out.own.alloc _) ⟨W.heap.size + 1, 0, none⟩ 1 1 (Lib.byteCells [1]) rfl rfl ?c1 ?c2 (by decide) ?c3 ?c4 ?c5 _ rfl ?_)
    case c1 =>
      intro j u hu
      have h := new_cell (W.alloc (.cells #[.bool false, .int .i64 p.n, .string p.s] 34)) (Lib.byteCells [1]).toArray 5 j u (by simpa using hu)
      rw [HZ.out] at h
      exact h
    case c2 => exact bytes_one _
    case c3 => unfold maxLen; omega
    case c4 => omega
    case c5 => simp; omega
    intro g cap w1 hown1 hgr _ _
    have HK1 := Lib.hid (Kb.push (m := [1]) (HK.out.alloc _) hgr hown1)
    clear hgr hown1 HK HZ
    go_wp2_with fail
    go_loopw [1, 12] (fun t u wr => ∃ i : Nat, i ≤ 8 ∧ u = .int .i64 i ∧ Kb W wr base p t (l ++ 1 :: (numB p.n).take i)) (fun _ u _ => 8 - (intOf u).toNat)
    case atStart => exact ⟨0, by omega, rfl, HK1.out⟩
    case round =>
      obtain ⟨i, hi8, rfl, hkb⟩ := hrel
      have HR := Lib.hid hkb
      clear hkb
      by_cases hlt : i < 8
      · have hlt' : (i : Int) < 8 := by omega
        have hi0 : (0 : Int) ≤ (i : Int) := by omega
        have y1 := (Lib.cell_of_heap HR.out.box 1).trans rfl
        have hval := num_byte hn.1 hn.2 i
        have HB := Lib.hid (show l ++ 1 :: (numB p.n).take (i + 1) = (l ++ 1 :: (numB p.n).take i) ++ [numAt p.n i] by rw [numB_take _ hlt]; simp)
        have hlen : (l ++ 1 :: (numB p.n).take i).length ≤ 2000000 := by simp; omega
        obtain ⟨lc, hlc⟩ : ∃ lc, l ++ 1 :: (numB p.n).take i = lc := ⟨_, rfl⟩
        rw [hlc] at HR HB hlen
        clear hlc
        go_wp2_with (at_builtin; refine wpList_append_lies _ rfl (.tmp 15) (.tmp 25) 63 rfl base 5 i0 _ 1 1 Tryd.underlying63 hi hz0 hz1 hz2 rfl (by decide) _ _ _ rfl (HR.out.own.alloc _) ⟨wr.heap.size, 0, none⟩ 1 1 (Lib.byteCells [numAt p.n i]) rfl rfl ?d1 ?d2 (by decide) ?d3 ?d4 ?d5 _ rfl ?_)
        case d1 =>
          intro j u hu
          exact new_cell wr (Lib.byteCells [numAt p.n i]).toArray 5 j u (by simpa using hu)
        case d2 => exact bytes_one _
        case d3 => unfold maxLen; omega
        case d4 => omega
        case d5 => have := HR.out.bel.size; have := HR.out.le; simp; omega
        intro g cap w2 hown2 hgr2 _ _
        have HK2 := Lib.hid (Kb.push (m := [numAt p.n i]) (HR.out.alloc _) hgr2 hown2)
        clear hgr2 hown2
        go_wp2_with fail
        go_roundw
        case rel => exact ⟨i + 1, by omega, by go_num, by rw [HB.out]; exact HK2.out⟩
        case measure => simp [intOf]; omega
      · obtain rfl : i = 8 := by omega
        go_wp2_with fail
        go_ret
        have e : l ++ 1 :: (numB p.n).take 8 = l ++ oneB p := by unfold oneB; rw [if_neg (by rw [HTX.out]; decide), List.take_of_length_le (by rw [numB_len]; exact Nat.le_refl _)]
        exact ⟨_, rfl, HR.out.bel, by rw [← e]; exact HR.out.own⟩
  | true =>
    have HTX := Lib.hid hptx
    have hs4 := hs hptx
    rw [hptx] at HK HZ ⊢
    clear hptx
    have y2 := (Lib.cell_of_heap HK.out.box 2).trans rfl
    go_enter Tryd.func30, Tryd.ntmps30
    go_wp2_with (at_builtin; refine wpList_append_lies _ rfl (.tmp 29) (.tmp 30) 63 rfl base 5 i0 _ 1 1 Tryd.underlying63 hi hz0 hz1 hz2 rfl (by decide) _ _ _ rfl (HK.out.own.alloc _) ⟨W.heap.size + 1, 0, none⟩ 1 1 (Lib.byteCells [2]) rfl rfl ?c1 ?c2 (by decide) ?c3 ?c4 ?c5 _ rfl ?_)
    case c1 =>
      intro j u hu
      have h := new_cell (W.alloc (.cells #[.bool true, .int .i64 p.n, .string p.s] 34)) (Lib.byteCells [2]).toArray 5 j u (by simpa using hu)
      rw [HZ.out] at h
      exact h
    case c2 => exact bytes_one _
    case c3 => unfold maxLen; omega
    case c4 => omega
    case c5 => simp; omega
    intro g cap w1 hown1 hgr _ _
    have HK1 := Lib.hid (Kb.push (m := [2]) (HK.out.alloc _) hgr hown1)
    clear hgr hown1 HK HZ y2
    have y2 := (Lib.cell_of_heap HK1.out.box 2).trans rfl
    have HRP := Lib.hid (replace_any p.s w1 (hm.below HK1.out.bel hg) (by omega))
    go_wp2_with fail
    refine HRP.out.mono ?_
    rintro e w2 ⟨rfl, hb2⟩
    have HK2 := Lib.hid (HK1.out.below hb2)
    have hel := esc_len p.s.data.toList
    have hds : p.s.data.toList.length = p.s.size := Array.length_toList
    obtain ⟨es, hes⟩ : ∃ es, esc p.s.data.toList = es := ⟨_, rfl⟩
    rw [hes] at hel ⊢
    have hel2 : es.length ≤ 8192 := by omega
    have HES := Lib.hid hes
    clear hb2 HRP HK1 hel hds hes y2
    obtain ⟨l2, hl2⟩ : ∃ l2, l ++ [2] = l2 := ⟨_, rfl⟩
    have hll : l2.length ≤ 2000000 := by rw [← hl2]; simp; omega
    have e2 : l.length + 1 = l2.length := by rw [← hl2]; simp
    rw [hl2, e2] at HK2
    rw [e2]
    clear e2
    have HL2 := Lib.hid hl2
    clear hl2
    have hesz : (⟨es.toArray⟩ : ByteArray).size = es.length := rfl
    go_wp2_with (at_builtin; refine Lib.wpList_append_own_string _ rfl _ _ 63 9 rfl base 5 i0 Tryd.underlying63 Tryd.underlying9 hi hz0 hz1 hz2 _ _ _ rfl HK2.out.own ⟨es.toArray⟩ rfl ?c3 ?c4 ?c5 ?_)
    case c3 => rw [hesz]; unfold maxLen; omega
    case c4 => rw [hesz]; omega
    case c5 => have := HK2.out.bel.size; have := HK2.out.le; omega
    intro v' w3 hown3 hgr3 _
    have HK3 := Lib.hid (Kb.push (m := es) HK2.out hgr3 hown3)
    clear hown3 hgr3 HK2
    obtain ⟨l3, hl3⟩ : ∃ l3, l2 ++ es = l3 := ⟨_, rfl⟩
    have hll3 : l3.length ≤ 2010000 := by rw [← hl3]; simp; omega
    rw [hl3] at HK3
    have HL3 := Lib.hid hl3
    clear hl3
    obtain ⟨vd, vcap, rfl⟩ : ∃ ad c, v' = .slice ad l3.length c := (Sl.of_own HK3.out.own).shape
    go_wp2_with (at_builtin; refine wpList_append_lies _ rfl (.tmp 37) (.tmp 38) 63 rfl base 5 i0 _ 1 1 Tryd.underlying63 hi hz0 hz1 hz2 rfl (by decide) _ _ _ rfl (HK3.out.own.alloc _) ⟨w3.heap.size, 0, none⟩ 2 2 (Lib.byteCells [0, 1]) rfl rfl ?d1 ?d2 (by decide) ?d3 ?d4 ?d5 _ rfl ?_)
    case d1 =>
      intro j u hu
      exact new_cell w3 (Lib.byteCells [0, 1]).toArray 5 j u (by simpa using hu)
    case d2 => exact bytes_one _
    case d3 => unfold maxLen; omega
    case d4 => omega
    case d5 => have := HK3.out.bel.size; have := HK3.out.le; simp; omega
    intro g4 cap4 w4 hown4 hgr4 _ _
    have HK4 := Lib.hid (Kb.push (m := [0, 1]) (HK3.out.alloc _) hgr4 hown4)
    clear hown4 hgr4 HK3
    go_wp2_with fail
    go_ret
    have e : l3 ++ [0, 1] = l ++ oneB p := by unfold oneB; rw [if_pos HTX.out, HES.out, ← HL3.out, ← HL2.out]; simp
    exact ⟨_, rfl, HK4.out.bel, by rw [← e]; exact HK4.out.own⟩
end Go.Proofs.YtceeijamhhokaaaDoor.WK
