/- The walks of the document's One and Make (layer 2). -/
import Derived.Test.YtceeijamhhokaaaDoorWKWake
namespace Go.Proofs.YtceeijamhhokaaaDoor.WK
open Go Go.RowKit Go.Proofs.YtceeijamhhokaaaDoor Go.Proofs.YtceeijamhhokaaaDoor.PK Go.Proofs.YtceeijamhhokaaaDoor.Mem

theorem esc_snoc (l : List UInt8) (b : UInt8) : esc (l ++ [b]) = esc l ++ if b = 0 then [0, 255] else [b] := by
  induction l with
  | nil => simp [esc]
  | cons a l ih => simp only [List.cons_append, esc, ih]; split <;> simp
theorem numB_drop (n : Int) {i : Nat} (h : i < 8) : (numB n).drop (8 - (i + 1)) = numAt n (7 - i) :: (numB n).drop (8 - i) := by
  have hl := numB_len n
  rw [List.drop_eq_getElem_cons (by rw [hl]; omega)]
  have e : 8 - (i + 1) + 1 = 8 - i := by omega
  rw [e]
  congr 1
  simp [numB]
theorem num_at (n : Int) {i : Nat} (h : i < 8) : UInt8.ofNat ((n + 9223372036854775808).toNat / 256 ^ i % 256) = numAt n (7 - i) := by
  unfold numAt
  have e : 56 - 8 * (7 - i) = 8 * i := by omega
  rw [e, Nat.pow_mul]
theorem u64_top {n : Int} (h1 : -9223372036854775808 ≤ n) (h2 : n ≤ 9223372036854775807) : IntKind.u64.wrap (IntKind.u64.wrap n + 9223372036854775808) = ((n + 9223372036854775808).toNat : Int) := by
  rw [IntKind.wrap_u64, IntKind.wrap_u64]; omega

/-- The document's bytes under way. -/
structure Rb (W w : World) (p : KP) (v : Value) (l : List UInt8) : Prop where
  bel : Below W.heap.size W w
  box : w.heap[W.heap.size]? = some (.cells #[.bool p.txt, .int .i64 p.n, .string p.s] 62 (0, 0))
  own : w.ownsRow W.heap.size 5 1 v l.length (Lib.byteCells l)
theorem Rb.push {W w w' : World} {p : KP} {v v' : Value} {l m : List UInt8} (h : Rb W w p v l) (hgr : w.grownBy w' v.ownBlock) (hown : w'.ownsRow W.heap.size 5 1 v' (l.length + m.length) (Lib.byteCells l ++ Lib.byteCells m)) : Rb W w' p v' (l ++ m) :=
  ⟨below_grown h.bel h.own hgr h.bel.size (Nat.le_refl _), heap_kept h.box h.own (by decide) hgr, by
    rw [List.length_append]
    have e : Lib.byteCells (l ++ m) = Lib.byteCells l ++ Lib.byteCells m := by unfold Lib.byteCells; rw [List.map_append]
    rw [e]; exact hown⟩
theorem Rb.alloc {W w : World} {p : KP} {v : Value} {l : List UInt8} (h : Rb W w p v l) (o : Obj) : Rb W (w.alloc o) p v l :=
  ⟨h.bel.alloc h.bel.size o, heap_alloc h.box, h.own.alloc _⟩

set_option maxRecDepth 100000 in
set_option maxHeartbeats 3200000 in
theorem one_any (p : KP) (W : World) (hn : fitK p) (hs : p.txt = true → p.s.size ≤ 4096) :
    Calls Tryd.prog 31 #[.agg #[.bool p.txt, .int .i64 p.n, .string p.s]] W fun e w' => e = .returned (.string ⟨(oneB p).toArray⟩) ∧ Below W.heap.size W w' := by
  obtain ⟨hn1, hn2⟩ := hn
  obtain ⟨ptx, hptx⟩ : ∃ b, p.txt = b := ⟨_, rfl⟩
  have HB := Lib.hid (show (W.alloc (.cells #[.bool p.txt, .int .i64 p.n, .string p.s] 62)).heap[W.heap.size]? = some (.cells #[.bool p.txt, .int .i64 p.n, .string p.s] 62 (0, 0)) from Mem.heap_new rfl)
  cases ptx with
  | false =>
    have HTX := Lib.hid hptx
    rw [hptx] at HB ⊢
    clear hptx
    have htop := u64_top hn1 hn2
    obtain ⟨N, hN⟩ : ∃ N, (p.n + 9223372036854775808).toNat = N := ⟨_, rfl⟩
    have hNl : N < 18446744073709551616 := by omega
    rw [hN] at htop
    have HN := Lib.hid hN
    clear hN
    go_enter Tryd.func31, Tryd.ntmps31
    go_wp2_with fail
    go_loopw [3, 4, 5] (fun u s i wr => ∃ k : Nat, k ≤ 8 ∧ i = .int .i64 k ∧ u = .int .u64 ((N / 256 ^ k : Nat) : Int) ∧ s = .string ⟨((numB p.n).drop (8 - k)).toArray⟩ ∧ Below W.heap.size W wr) (fun _ _ i _ => 8 - (intOf i).toNat)
    case atStart => exact ⟨0, by omega, rfl, by simp, by rw [List.drop_of_length_le (by rw [numB_len]; exact Nat.le_refl _)], (Below.refl _ _).alloc (Nat.le_refl _) _⟩
    case round =>
      obtain ⟨k, hk, rfl, rfl, rfl, hbel⟩ := hrel
      have HBE := Lib.hid hbel
      clear hbel
      by_cases hlt : k < 8
      · have hlt' : (k : Int) < 8 := by omega
        have hk0 : (0 : Int) ≤ (k : Int) := by omega
        have HD := Lib.hid (numB_drop p.n hlt)
        have HA := Lib.hid (num_at p.n hlt)
        obtain ⟨Q, hQ⟩ : ∃ Q, N / 256 ^ k = Q := ⟨_, rfl⟩
        have hQ2 : N / 256 ^ (k + 1) = Q / 256 := by rw [← hQ, Nat.pow_succ, Nat.div_div_eq_div_mul]
        have hQl : Q < 18446744073709551616 := by rw [← hQ]; exact Nat.lt_of_le_of_lt (Nat.div_le_self _ _) hNl
        have HQ := Lib.hid hQ; have HQ2 := Lib.hid hQ2
        rw [hQ]
        clear hQ hQ2
        have hq8 : IntKind.u8.wrap ((Q : Int) % 256) = (Q : Int) % 256 := by rw [IntKind.wrap_u8]; omega
        have hconv := one_str wr ((Q : Int) % 256) (by omega) (by omega)
        obtain ⟨ds, hds⟩ : ∃ ds, (numB p.n).drop (8 - k) = ds := ⟨_, rfl⟩
        have hdl : ds.length ≤ 8 := by rw [← hds, List.length_drop, numB_len]; omega
        rw [hds] at HD ⊢
        clear hds
        have hdl' : ¬ 9223372036854775807 < 1 + ds.length := by omega
        go_wp2_with fail
        go_roundw
        case rel => exact ⟨k + 1, by omega, by go_num, by rw [HQ2.out]; rfl, by
          rw [HD.out, ByteArray.mk_append_mk]
          have h := HA.out
          rw [HN.out, HQ.out] at h
          rw [← h]
          rfl, HBE.out.alloc HBE.out.size _⟩
        case measure => simp [intOf]; omega
      · obtain rfl : k = 8 := by omega
        obtain ⟨ds, hds⟩ : ∃ ds, (numB p.n).drop (8 - 8) = ds := ⟨_, rfl⟩
        have hdl : ds.length ≤ 8 := by rw [← hds, List.length_drop, numB_len]; omega
        have HD := Lib.hid hds
        rw [hds]
        clear hds
        have hdl' : ¬ 9223372036854775807 < 1 + ds.length := by omega
        go_wp2_with fail
        go_ret
        refine ⟨?_, HBE.out⟩
        have e : oneB p = 1 :: numB p.n := by unfold oneB; rw [if_neg (by rw [HTX.out]; decide)]
        have e2 : ds = numB p.n := by rw [← HD.out]; rfl
        rw [e, ← e2]
        show Ending.returned (Value.string (⟨#[1]⟩ ++ ⟨ds.toArray⟩)) = _
        rw [show (⟨#[1]⟩ : ByteArray) = ⟨[1].toArray⟩ from rfl, ByteArray.mk_append_mk]
        rfl
  | true =>
    have HTX := Lib.hid hptx
    have hs4 := hs hptx
    rw [hptx] at HB ⊢
    have hs4' : (p.s.size : Int) ≤ 4096 := by omega
    obtain ⟨i0, hi, hz0, hz1, hz2⟩ := info_parts infoByte
    clear hptx
    go_enter Tryd.func31, Tryd.ntmps31
    go_wp2_with fail
    go_loopw [6, 7] (fun b i wr => ∃ (k : Nat) (vb : Value), k ≤ p.s.size ∧ i = .int .i64 k ∧ vb = b ∧ Rb W wr p b (2 :: esc (p.s.data.toList.take k))) (fun _ i _ => p.s.size - (intOf i).toNat)
    case atStart =>
      refine ⟨0, _, by omega, rfl, rfl, ((Below.refl _ _).alloc (Nat.le_refl _) _).alloc (by simp) _, by rw [HTX.out]; exact heap_alloc HB.out, ?_⟩
      have h := World.ownsRow_lit (base := W.heap.size) (e := 5) (size := 1) (W.alloc (.cells #[.bool true, .int .i64 p.n, .string p.s] 62)) #[.int .u8 2] 1 (by simp) (by decide) rfl
      simpa [esc, Lib.byteCells] using h
    case round =>
      obtain ⟨k, vb, hk, rfl, rfl, hrb⟩ := hrel
      have HR := Lib.hid hrb
      clear hrb
      have y2 := (Lib.cell_of_heap HR.out.box 2).trans rfl
      have htl : (p.s.data.toList.take k).length = k := by
        have e : p.s.data.toList.length = p.s.size := Array.length_toList
        rw [List.length_take]; omega
      have hel := esc_len (p.s.data.toList.take k)
      rw [htl] at hel
      by_cases hlt : k < p.s.size
      · have hlt' : (k : Int) < (p.s.size : Int) := by omega
        have hk0 : (0 : Int) ≤ (k : Int) := by omega
        have hg : p.s.data.toList[k]? = some p.s[k] := by rw [List.getElem?_eq_getElem (by rw [Array.length_toList]; exact hlt)]; rfl
        have HE := Lib.hid (show esc (p.s.data.toList.take (k + 1)) = esc (p.s.data.toList.take k) ++ if p.s[k] = 0 then [0, 255] else [p.s[k]] by
          rw [List.take_add_one, hg]; exact esc_snoc _ _)
        obtain ⟨es, hes⟩ : ∃ es, esc (p.s.data.toList.take k) = es := ⟨_, rfl⟩
        rw [hes] at HR HE hel
        clear hes hg htl
        have hll : (2 :: es).length ≤ 9000 := by simp; omega
        obtain ⟨lc, hlc⟩ : ∃ lc, 2 :: es = lc := ⟨_, rfl⟩
        rw [hlc] at HR hll
        have HLC := Lib.hid hlc
        clear hlc
        go_wp2_with (at_builtin; refine wpList_append_lies _ rfl (.tmp 38) (.tmp 43) 63 rfl W.heap.size 5 i0 _ 1 1 Tryd.underlying63 hi hz0 hz1 hz2 rfl (by decide) _ _ _ rfl (HR.out.own.alloc _) ⟨wr.heap.size, 0, none⟩ 1 1 (Lib.byteCells [p.s[k]]) rfl rfl ?d1 ?d2 (by decide) ?d3 ?d4 ?d5 _ rfl ?_)
        case d1 =>
          intro j u hu
          exact new_cell wr (Lib.byteCells [p.s[k]]).toArray 5 j u (by simpa using hu)
        case d2 => exact bytes_one _
        case d3 => unfold maxLen; omega
        case d4 => omega
        case d5 => have := HR.out.bel.size; simp; omega
        intro g cap w2 hown2 hgr2 _ _
        have HK2 := Lib.hid (Rb.push (m := [p.s[k]]) (HR.out.alloc _) hgr2 hown2)
        clear hgr2 hown2 y2 HR
        have y2 := (Lib.cell_of_heap HK2.out.box 2).trans rfl
        by_cases hc : p.s[k] = 0
        · have hc' : ((p.s[k].toNat : Int) == 0) = true := by rw [hc]; rfl
          obtain ⟨l2, hl2⟩ : ∃ l2, lc ++ [p.s[k]] = l2 := ⟨_, rfl⟩
          have e2 : lc.length + 1 = l2.length := by rw [← hl2]; simp
          have hll2 : l2.length ≤ 9001 := by omega
          rw [hl2, e2] at HK2
          rw [e2]
          have HL2 := Lib.hid hl2
          clear hl2 e2
          go_wp2_with (at_builtin; refine wpList_append_lies _ rfl (.tmp 50) (.tmp 51) 63 rfl W.heap.size 5 i0 _ 1 1 Tryd.underlying63 hi hz0 hz1 hz2 rfl (by decide) _ _ _ rfl (HK2.out.own.alloc _) ⟨w2.heap.size, 0, none⟩ 1 1 (Lib.byteCells [255]) rfl rfl ?f1 ?f2 (by decide) ?f3 ?f4 ?f5 _ rfl ?_)
          case f1 =>
            intro j u hu
            exact new_cell w2 (Lib.byteCells [255]).toArray 5 j u (by simpa using hu)
          case f2 => exact bytes_one _
          case f3 => unfold maxLen; omega
          case f4 => omega
          case f5 => have := HK2.out.bel.size; simp; omega
          intro g3 cap3 w3 hown3 hgr3 _ _
          have HK3 := Lib.hid (Rb.push (m := [255]) (HK2.out.alloc _) hgr3 hown3)
          have HF := Lib.hid (show l2 ++ [255] = 2 :: esc (p.s.data.toList.take (k + 1)) by rw [HE.out, if_pos hc, ← HL2.out, ← HLC.out, hc]; simp)
          clear hgr3 hown3 HK2
          go_wp2_with fail
          go_roundw
          case rel => exact ⟨k + 1, _, by omega, by go_num, rfl, by rw [← HF.out]; exact HK3.out⟩
          case measure => simp [intOf]; omega
        · have hc' : ((p.s[k].toNat : Int) == 0) = false := by
            rw [beq_eq_false_iff_ne]
            intro e
            exact hc (UInt8.toNat_inj.1 (by have : p.s[k].toNat = 0 := by omega
                                            rw [this]; rfl))
          have HF := Lib.hid (show lc ++ [p.s[k]] = 2 :: esc (p.s.data.toList.take (k + 1)) by rw [HE.out, if_neg hc, ← HLC.out]; simp)
          go_wp2_with fail
          go_roundw
          case rel => exact ⟨k + 1, _, by omega, by go_num, rfl, by rw [← HF.out]; exact HK2.out⟩
          case measure => simp [intOf]; omega
      · obtain rfl : k = p.s.size := by omega
        have e0 : p.s.data.toList.length = p.s.size := Array.length_toList
        have e : p.s.data.toList.take p.s.size = p.s.data.toList := List.take_of_length_le (by omega)
        rw [e] at HR hel
        obtain ⟨lc, hlc⟩ : ∃ lc, 2 :: esc p.s.data.toList = lc := ⟨_, rfl⟩
        have hll : lc.length ≤ 9000 := by rw [← hlc]; simp; omega
        rw [hlc] at HR
        have HLC := Lib.hid hlc
        clear hlc e hel htl e0
        go_wp2_with (at_builtin; refine wpList_append_lies _ rfl (.tmp 53) (.tmp 54) 63 rfl W.heap.size 5 i0 _ 1 1 Tryd.underlying63 hi hz0 hz1 hz2 rfl (by decide) _ _ _ rfl (HR.out.own.alloc _) ⟨wr.heap.size, 0, none⟩ 1 1 (Lib.byteCells [0]) rfl rfl ?d1 ?d2 (by decide) ?d3 ?d4 ?d5 _ rfl ?_)
        case d1 =>
          intro j u hu
          exact new_cell wr (Lib.byteCells [0]).toArray 5 j u (by simpa using hu)
        case d2 => exact bytes_one _
        case d3 => unfold maxLen; omega
        case d4 => omega
        case d5 => have := HR.out.bel.size; simp; omega
        intro g cap w2 hown2 hgr2 _ _
        have HK2 := Lib.hid (Rb.push (m := [0]) (HR.out.alloc _) hgr2 hown2)
        clear hgr2 hown2 y2 HR
        obtain ⟨l2, hl2⟩ : ∃ l2, lc ++ [0] = l2 := ⟨_, rfl⟩
        have e2 : lc.length + 1 = l2.length := by rw [← hl2]; simp
        have hll2 : l2.length ≤ 9001 := by omega
        rw [hl2, e2] at HK2
        rw [e2]
        have HL2 := Lib.hid hl2
        clear hl2 e2
        go_wp2_with (at_builtin; refine wpList_append_lies _ rfl (.tmp 56) (.tmp 57) 63 rfl W.heap.size 5 i0 _ 1 1 Tryd.underlying63 hi hz0 hz1 hz2 rfl (by decide) _ _ _ rfl (HK2.out.own.alloc _) ⟨w2.heap.size, 0, none⟩ 1 1 (Lib.byteCells [1]) rfl rfl ?f1 ?f2 (by decide) ?f3 ?f4 ?f5 _ rfl ?_)
        case f1 =>
          intro j u hu
          exact new_cell w2 (Lib.byteCells [1]).toArray 5 j u (by simpa using hu)
        case f2 => exact bytes_one _
        case f3 => unfold maxLen; omega
        case f4 => omega
        case f5 => have := HK2.out.bel.size; simp; omega
        intro g3 cap3 w3 hown3 hgr3 _ _
        have HK3 := Lib.hid (Rb.push (m := [1]) (HK2.out.alloc _) hgr3 hown3)
        have HF := Lib.hid (show l2 ++ [1] = oneB p by unfold oneB; rw [if_pos HTX.out, ← HL2.out, ← HLC.out]; simp)
        have hconv := conv_own HK3.out.own
        clear hgr3 hown3 HK2
        go_wp2_with fail
        go_ret
        exact ⟨by rw [← HF.out]; rfl, HK3.out.bel⟩

set_option maxRecDepth 100000 in
set_option maxHeartbeats 3200000 in
theorem refmake_any (l : List KP) (v : Value) (W : World) (hv : Prts W W.heap.size v l) (hf : ∀ p ∈ l, fitK p) (hlen : l.length ≤ maxLen) :
    Calls Tryd.prog 13 #[v] W fun e w' => e = .returned (.tuple #[.string ⟨(makeS l).toArray⟩, .int .i64 (makeE l)]) ∧ Below W.heap.size W w' := by
  obtain ⟨a1, c1, rfl⟩ := Sl.shape hv
  have HV := Lib.hid hv; have HF := Lib.hid hf
  have hlen' : (l.length : Int) ≤ 9223372036854775807 := by unfold maxLen at hlen; omega
  clear hv hf
  go_enter Tryd.func13, Tryd.ntmps13
  by_cases hn : 16 < l.length
  · have hn' : (16 : Int) < (l.length : Int) := by omega
    have HE := Lib.hid (makeE_many hn)
    go_wp2_with fail
    go_ret2
    refine ⟨?_, Below.refl _ _⟩
    unfold makeS
    rw [HE.out]; rfl
  · have hn' : ¬ (16 : Int) < (l.length : Int) := by omega
    have hn2 : (l.length : Int) ≤ 16 := by omega
    go_wp2_with fail
    go_loopw [4, 5] (fun t u wr => ∃ i : Nat, i ≤ l.length ∧ u = .int .i64 i ∧ t = .string ⟨(keyB (l.take i)).toArray⟩ ∧ (∀ p ∈ l.take i, p.txt = true → p.s.size ≤ 4096) ∧ Below W.heap.size W wr) (fun _ u _ => l.length - (intOf u).toNat)
    case atStart => exact ⟨0, by omega, rfl, rfl, fun p hp => absurd hp (by simp), Below.refl _ _⟩
    case round =>
      obtain ⟨i, hi, rfl, rfl, hok, hbel⟩ := hrel
      have HOK := Lib.hid hok; have HB := Lib.hid hbel
      clear hok hbel
      by_cases hlt : i < l.length
      · have hlt' : (i : Int) < (l.length : Int) := by omega
        have hi0 : (0 : Int) ≤ (i : Int) := by omega
        obtain ⟨b, o, c, hc, hb, x0, x1, x2⟩ := HV.out.at_ hlt
        obtain ⟨rfl, rfl⟩ : a1 = some ⟨b, o, none⟩ ∧ c1 = c := by simpa using hc
        have hfk := HF.out l[i] (List.getElem_mem hlt)
        have HT := Lib.hid (List.take_succ_eq_append_getElem (l := l) (i := i) hlt)
        have HMEM := Lib.hid (List.getElem_mem hlt)
        obtain ⟨p, hp⟩ : ∃ p, l[i] = p := ⟨_, rfl⟩
        rw [hp] at x0 x1 x2 hfk HT HMEM
        have y0 := (HB.out.cell (p := ⟨b, o + i * 3, none⟩) hb).trans x0
        have y1 := (HB.out.cell (p := ⟨b, o + i * 3 + 1, none⟩) hb).trans x1
        have y2 := (HB.out.cell (p := ⟨b, o + i * 3 + 2, none⟩) hb).trans x2
        clear x0 x1 x2 hc hp
        obtain ⟨ptx, hptx⟩ : ∃ b, p.txt = b := ⟨_, rfl⟩
        have HTX := Lib.hid hptx
        rw [hptx] at y0
        clear hptx
        by_cases hbad : ptx = true ∧ 4096 < p.s.size
        · obtain ⟨rfl, hbig⟩ := hbad
          have hbig' : (4096 : Int) < (p.s.size : Int) := by omega
          have HE := Lib.hid (makeE_long HMEM.out HTX.out hbig)
          go_wp2_with fail
          go_ret2
          refine ⟨?_, HB.out⟩
          unfold makeS
          rw [HE.out]; rfl
        · have hs4 : p.txt = true → p.s.size ≤ 4096 := fun h => by
            rcases Nat.lt_or_ge 4096 p.s.size with h' | h'
            · exact absurd ⟨HTX.out.symm.trans h, h'⟩ hbad
            · exact h'
          have hkl : (keyB (l.take i)).length ≤ 1048576 := by
            have := keyB_le _ HOK.out
            have e : (l.take i).length = i := by simp; omega
            rw [e] at this
            omega
          have hol := oneB_le p hs4
          have h1 := one_any p wr hfk hs4
          rw [HTX.out] at h1
          have HP := Lib.hid h1
          have HS4 := Lib.hid hs4
          have HK := Lib.hid (show keyB (l.take (i + 1)) = keyB (l.take i) ++ oneB p by rw [HT.out, keyB_snoc])
          obtain ⟨kl, hkl'⟩ : ∃ kl, keyB (l.take i) = kl := ⟨_, rfl⟩
          obtain ⟨ol, hol'⟩ : ∃ ol, oneB p = ol := ⟨_, rfl⟩
          rw [hkl'] at hkl HK ⊢
          rw [hol'] at hol HK HP
          have hsum : ¬ 9223372036854775807 < kl.length + ol.length := by omega
          clear h1 hs4 hkl' hol'
          have hrest : ∀ w2, Below wr.heap.size wr w2 → Below W.heap.size W w2 := fun w2 h => HB.out.trans (h.mono HB.out.size)
          have HR := Lib.hid hrest
          clear hrest
          have HNX := Lib.hid (show ∀ q ∈ l.take (i + 1), q.txt = true → q.s.size ≤ 4096 from fun q hq => by
            rw [HT.out] at hq
            rcases List.mem_append.1 hq with hq | hq
            · exact HOK.out q hq
            · simp only [List.mem_cons, List.not_mem_nil, or_false] at hq
              subst hq; exact HS4.out)
          cases ptx with
          | true =>
            have hsm : p.s.size ≤ 4096 := HS4.out HTX.out
            have hsm' : ¬ (4096 : Int) < (p.s.size : Int) := by omega
            go_wp2_with fail
            refine HP.out.mono ?_
            rintro e w2 ⟨rfl, hb2⟩
            have HB2 := Lib.hid (HR.out w2 hb2)
            clear hb2
            go_wp2_with fail
            go_roundw
            case rel => exact ⟨i + 1, by omega, by go_num, by rw [HK.out, ByteArray.mk_append_mk], HNX.out, HB2.out⟩
            case measure => simp [intOf]; omega
          | false =>
            go_wp2_with fail
            refine HP.out.mono ?_
            rintro e w2 ⟨rfl, hb2⟩
            have HB2 := Lib.hid (HR.out w2 hb2)
            clear hb2
            go_wp2_with fail
            go_roundw
            case rel => exact ⟨i + 1, by omega, by go_num, by rw [HK.out, ByteArray.mk_append_mk], HNX.out, HB2.out⟩
            case measure => simp [intOf]; omega
      · obtain rfl : i = l.length := by omega
        have e : l.take l.length = l := List.take_length
        rw [e]
        have HOK := Lib.hid (show ∀ p ∈ l, p.txt = true → p.s.size ≤ 4096 by have := HOK.out; rwa [e] at this)
        clear e
        have HE := Lib.hid (makeE_ok (by omega) HOK.out)
        go_wp2_with fail
        go_ret2
        refine ⟨?_, HB.out⟩
        unfold makeS
        rw [HE.out]; rfl
end Go.Proofs.YtceeijamhhokaaaDoor.WK
