/- The walk of oxbowtop.TopPairs: each pair that two loops find, in order, and no other. -/
import Derived.Test.YtcojnojdgigmdaaDoorWTop4
import Derived.Test.YtcojnojdgigmdaaDoorWAllG
namespace Go.Proofs.YtcojnojdgigmdaaDoor.WR
open Go Go.RowKit Go.Sort Go.Proofs.YtcojnojdgigmdaaDoor Go.Proofs.YtcojnojdgigmdaaDoor.PL Go.Proofs.YtcojnojdgigmdaaDoor.PR Go.Proofs.YtcojnojdgigmdaaDoor.Mem Go.Proofs.YtcojnojdgigmdaaDoor.WS Go.Proofs.YtcojnojdgigmdaaDoor.WL

theorem mkapp2 (a b c d : List UInt8) : (⟨a.toArray⟩ ++ ⟨b.toArray⟩ ++ ⟨c.toArray⟩ ++ ⟨d.toArray⟩ : ByteArray) = ⟨(a ++ b ++ c ++ d).toArray⟩ := by rw [joinT, joinT, joinT]
theorem Tps.below {w w' : World} {B : Nat} {v : Value} {l : List Ev} (h : Tps w B v l) (hb : Below B w w') : Tps w' w'.heap.size v l ∨ False := by
  left
  obtain ⟨A, c, e, hc, hr⟩ := h
  refine ⟨A, c, e, hc, fun hn => ?_⟩
  obtain ⟨b, o, ea, hB, hx⟩ := hr hn
  refine ⟨b, o, ea, ?_, fun i hi => ?_⟩
  · exact World.block_lt_of_cell? w' _ ((hb.cell (p := ⟨b, o + 0 * 3, none⟩) hB).trans (hx 0 hn).1)
  · obtain ⟨h0, h1, h2⟩ := hx i hi
    exact ⟨(hb.cell (p := ⟨b, _, none⟩) hB).trans h0, (hb.cell (p := ⟨b, _, none⟩) hB).trans h1, (hb.cell (p := ⟨b, _, none⟩) hB).trans h2⟩
/-- The texts of one second event with the first so many first ones; of the first so many second ones. -/
def pairW (n m : Int) (l : List Ev) (i j : Nat) : List (List UInt8) := (List.range j).flatMap fun k => if pairOk n m l i k then [pairT (evAt l k) (evAt l i)] else []
def pairsW (n m : Int) (l : List Ev) (j : Nat) : List (List UInt8) := (List.range j).flatMap fun i => pairW n m l i i
theorem pairW_succ (n m : Int) (l : List Ev) (i j : Nat) : pairW n m l i (j + 1) = pairW n m l i j ++ if pairOk n m l i j then [pairT (evAt l j) (evAt l i)] else [] := by
  unfold pairW; rw [List.range_succ, List.flatMap_append]; simp
theorem pairsW_succ (n m : Int) (l : List Ev) (j : Nat) : pairsW n m l (j + 1) = pairsW n m l j ++ pairW n m l j j := by
  unfold pairsW; rw [List.range_succ, List.flatMap_append]; simp
theorem pairW_len (n m : Int) (l : List Ev) (i j : Nat) : (pairW n m l i j).length ≤ j := by
  induction j with
  | zero => simp [pairW]
  | succ j ih => rw [pairW_succ, List.length_append]; split <;> simp <;> omega
theorem pairsW_len (n m : Int) (l : List Ev) (j : Nat) : (pairsW n m l j).length ≤ j * j := by
  induction j with
  | zero => simp [pairsW]
  | succ j ih =>
    rw [pairsW_succ, List.length_append]
    have := pairW_len n m l j j
    have e : (j + 1) * (j + 1) = j * j + j + j + 1 := by rw [Nat.add_mul, Nat.mul_add]; omega
    omega
theorem barT_step (l : List Ev) (k j : Nat) : ((List.range' (k + 1) (j + 1)).any fun i => stopB (evAt l k) (evAt l i)) = (((List.range' (k + 1) j).any fun i => stopB (evAt l k) (evAt l i)) || stopB (evAt l k) (evAt l (k + 1 + j))) := by
  rw [List.range'_concat, List.any_append]; simp
theorem evAt_get (l : List Ev) {i : Nat} (h : i < l.length) : evAt l i = l[i] := by unfold evAt; rw [List.getD_eq_getElem?_getD, List.getElem?_eq_getElem h]; rfl
theorem strs_snoc (xs : List (List UInt8)) (t : List UInt8) : xs.map strV ++ [strV t] = (xs ++ [t]).map strV := by simp
/-- The outer loop under way: the texts so far. -/
def POut (n m : Int) (ls : List Ev) (W : World) (va i : Value) (wr : World) : Prop := ∃ k, k ≤ ls.length ∧ i = .int .i64 (k : Nat) ∧ wr.ownsRow W.heap.size 9 1 va (pairsW n m ls k).length ((pairsW n m ls k).map strV) ∧ Below W.heap.size W wr
/-- The middle loop. -/
def PMid (n m : Int) (ls : List Ev) (W : World) (q bx : Nat) (va i : Value) (wr : World) : Prop := ∃ k, k ≤ q ∧ i = .int .i64 (k : Nat) ∧ wr.ownsRow W.heap.size 9 1 va (pairsW n m ls q ++ pairW n m ls q k).length ((pairsW n m ls q ++ pairW n m ls q k).map strV) ∧ Below W.heap.size W wr ∧ wr.heap[bx]? = some (.cells (encE (evAt ls q)).toArray 37 (0, 0))
set_option maxRecDepth 100000 in
set_option maxHeartbeats 6400000 in
theorem pairs_law (v : Value) (l : List Ev) (more within : Int) (W : World) (hv : Tps W W.heap.size v l) (hf : ∀ x ∈ l, x.fits) (hmo : -9223372036854775808 ≤ more ∧ more ≤ 9223372036854775807) (hwi : -9223372036854775808 ≤ within ∧ within ≤ 9223372036854775807) (ht : Tab W) (hg : 0 < W.heap.size) :
    Calls Tryd.prog 8 #[v, .int .i64 more, .int .i64 within] W fun e w' => e = .returned (.bool true) ∧ Below W.heap.size W w' := by
  have HV := Lib.hid hv; have HF := Lib.hid hf; have HT := Lib.hid ht
  have HN1 := Lib.hid (fun w => near_top more 5 w hmo (by omega)); have HN2 := Lib.hid (fun w => near_top within 40 w hwi (by omega))
  obtain ⟨q, hq⟩ : ∃ q, nearI more 5 = q := ⟨_, rfl⟩
  obtain ⟨m, hm⟩ : ∃ m, nearI within 40 = m := ⟨_, rfl⟩
  have hq2 := nearI_in more 5 (by omega)
  have hm2 := nearI_in within 40 (by omega)
  rw [hq] at HN1 hq2; rw [hm] at HN2 hm2
  obtain ⟨hq0, hq1⟩ := hq2; obtain ⟨hm0, hm1⟩ := hm2
  clear hv hf ht hmo hwi hq hm
  go_enter Tryd.func8, Tryd.ntmps8
  go_wp2_with fail
  refine (HN1.out _).mono ?_
  rintro e w1 ⟨rfl, rfl⟩
  have hw1 : IntKind.i64.wrap (1 + q) = 1 + q := IntWalk.i64_in _ (by omega)
  go_wp2_with fail
  refine (HN2.out _).mono ?_
  rintro e w1 ⟨rfl, rfl⟩
  clear HN1 HN2
  obtain ⟨n, hn⟩ : ∃ n, 1 + q = n := ⟨_, rfl⟩
  have hn0 : 1 ≤ n := by omega
  have hn5 : n ≤ 5 := by omega
  have HDN := Lib.hid (fun w => dec_top n (by omega) (by omega) w); have HDM := Lib.hid (fun w => dec_top m (by omega) (by omega) w)
  have hln := Lib.itoa_length_le n (by omega) (by omega)
  have hlm := Lib.itoa_length_le m (by omega) (by omega)
  rw [hn] at hw1
  try rw [hn]
  go_wp2_with fail
  try rw [hn]
  refine (HDN.out _).mono ?_
  rintro e w1 ⟨rfl, hg1⟩
  have HG1 := Lib.hid hg1.below
  clear hg1 hw1
  go_wp2_with fail
  refine (HDM.out _).mono ?_
  rintro e w2 ⟨rfl, hg2⟩
  have HG2 := Lib.hid (HG1.out.trans (hg2.below.mono HG1.out.size))
  clear hg2 HG1
  have HC := Lib.hid (comp_pair n m ⟨hn0, hn5⟩ ⟨hm0, hm1⟩ w2)
  unfold preP midP at HC
  go_wp2_with fail
  refine HC.out.mono ?_
  rintro e w3 ⟨hb3, pa, pn, pc, rfl, hokp, rfl, hpl⟩
  clear HC HDN HDM
  have hbW3 := HG2.out.trans (hb3.mono HG2.out.size)
  obtain ⟨w4, hw4⟩ : ∃ w4, w4 = w3.alloc (.cells #[.slice pa 2 pc, .int .i64 m] 25) := ⟨_, rfl⟩
  have hb34 : Below w3.heap.size w3 w4 := by rw [hw4]; exact (Below.refl _ _).alloc (Nat.le_refl _) _
  have HX4 := Lib.hid (show w4.heap[w3.heap.size]? = some (.cells #[.slice pa 2 pc, .int .i64 m] 25 (0, 0)) by rw [hw4]; exact heap_new rfl)
  have HPL4 := Lib.hid (show PlnAt w4 w3.heap.size (.slice pa 2 pc) (pairP n m).steps from PlnAt.keep hpl fun a ha => hb34.cell ha)
  have HBW4 := Lib.hid (hbW3.trans (hb34.mono hbW3.size)); have HW4 := Lib.hid hw4; have HOKP := Lib.hid hokp
  have hg4 : 0 < w4.heap.size := by have := HBW4.out.size; omega
  have HAL := Lib.hid (alive_any w4 (Tab.of_eq HT.out (HBW4.out.block _ hg)) hg4)
  obtain ⟨X, hX⟩ : ∃ X, w3.heap.size = X := ⟨_, rfl⟩
  rw [hX] at HX4 HPL4
  have HXX := Lib.hid hX
  have hX4 : X < w4.heap.size := heap_lt HX4.out
  clear hb3 hbW3 hb34 hpl hokp hw4 hX hln hlm
  go_upto_region 3 with (fail)
  rw [← HW4.out, HXX.out]
  go_wp2_with fail
  refine HAL.out.mono ?_
  rintro e w5 ⟨rfl, hb5⟩
  clear HAL
  have HBW5 := Lib.hid (HBW4.out.trans (hb5.mono HBW4.out.size))
  have HX5 := Lib.hid ((hb5.block _ hX4).trans HX4.out)
  have HPL5 := Lib.hid (PlnAt.keep HPL4.out fun a ha => hb5.cell (Nat.lt_trans ha hX4))
  have hX5 : X < w5.heap.size := heap_lt HX5.out
  have HEV := Lib.hid (events_top 60 v l w5 (by omega) ((Tps.below HV.out HBW5.out).resolve_right id) HF.out)
  clear hb5
  go_wp2_with fail
  refine HEV.out.mono ?_
  rintro e w6 ⟨va, rfl, hoa, hb6⟩
  clear HEV
  obtain ⟨k0, hk0⟩ : ∃ k0, min l.length 60 = k0 := ⟨_, rfl⟩
  rw [hk0] at hoa
  have hk60 : k0 ≤ 60 := by omega
  obtain ⟨E, hE⟩ : ∃ E, evsT l k0 = E := ⟨_, rfl⟩
  have hEl : E.length = k0 := by rw [← hE, evsT_len]
  have HEE := Lib.hid (fun e (he : e ∈ E) => evsT_ok (k := k0) (l := l) (by rw [hE]; exact he))
  have HED := Lib.hid (show DistE E by rw [← hE]; exact evsT_dist l k0)
  rw [hE, ← hEl] at hoa
  have HBW6 := Lib.hid (HBW5.out.trans (hb6.mono HBW5.out.size))
  have HX6 := Lib.hid ((hb6.block _ hX5).trans HX5.out)
  have HPL6 := Lib.hid (PlnAt.keep HPL5.out fun a ha => hb6.cell (Nat.lt_trans ha hX5))
  have hX6 : X < w6.heap.size := heap_lt HX6.out
  have HSO := Lib.hid (sortG va E w6 w6.heap.size (Sl.of_own hoa) (Lit.of_own hoa) (by omega))
  clear hb6 hoa hE hk0
  go_wp2_with fail
  refine HSO.out.mono ?_
  rintro e w7 ⟨v7, ls, rfl, hperm, hsort, how7, hb7⟩
  clear HSO
  have hlen := hperm.length_eq
  rw [← hlen] at how7
  have hl60 : ls.length ≤ 60 := by omega
  have HLE := Lib.hid (fun e (he : e ∈ ls) => HEE.out e (hperm.mem_iff.1 he))
  have HLD := Lib.hid (DistE.perm hperm HED.out); have HLS := Lib.hid hsort
  have HBW7 := Lib.hid (HBW6.out.trans (hb7.mono HBW6.out.size))
  have HX7 := Lib.hid ((hb7.block _ hX6).trans HX6.out)
  have HPL7 := Lib.hid (PlnAt.keep HPL6.out fun a ha => hb7.cell (Nat.lt_trans ha hX6))
  have hX7 : X < w7.heap.size := heap_lt HX7.out
  have hLIT := Lit.of_own how7
  have hEV7 := Sl.of_own how7
  obtain ⟨sa, sc, rfl⟩ := hEV7.shape
  obtain ⟨hlsc, _⟩ : ls.length ≤ sc ∧ True := by
    obtain ⟨_, A7, c7, e7, hx, _⟩ := id hEV7
    injection e7 with _ _ e7
    exact ⟨by omega, trivial⟩
  have HV7 := Lib.hid (show Evs w7 w7.heap.size (.slice sa ls.length sc) ls from hEV7); have HLI := Lib.hid hLIT
  have HK60 := Lib.hid hk60
  clear hperm hsort hlen how7 hb7 HEE HED hLIT hEV7 HV HF hEl hk60 HBW4 HBW5 HBW6 HX4 HX5 HX6 HPL4 HPL5 HPL6 HG2
  go_wp2_with fail
  go_loopw [10, 47] (fun va i wr => POut n m ls w7 va i wr) (fun _ i _ => ls.length - (intOf i).toNat)
  case atStart => exact ⟨0, Nat.zero_le _, rfl, World.ownsRow_nil _ _ _ _, Below.refl _ _⟩
  case round =>
    obtain ⟨i, hi, rfl, hoa, hb⟩ := hrel
    obtain ⟨wa, wk, rfl⟩ := (Sl.of_own hoa).shape
    by_cases hlt : i < ls.length
    · have hii : (i : Int) < (ls.length : Int) := by omega
      have hi0 : (0 : Int) ≤ (i : Int) := by omega
      have hic : (i : Int) ≤ (sc : Int) := by omega
      obtain ⟨b, o, c', hc', hbl, g0, g1, g2, g3⟩ := HV7.out.at_ hlt
      obtain ⟨rfl, rfl⟩ : sa = some ⟨b, o, none⟩ ∧ sc = c' := by simpa using hc'
      have HCF := Lib.hid (HLE.out _ (List.getElem_mem hlt))
      rw [← evAt_get ls hlt] at g0 g1 g2 g3 HCF
      have HSU := Lib.hid (pairsW_succ n m ls i)
      obtain ⟨c, hce⟩ : ∃ c, evAt ls i = c := ⟨_, rfl⟩
      have HCE := Lib.hid hce
      rw [hce] at g0 g1 g2 g3 HCF
      have hc0 := (hb.cell (p := ⟨b, o + i * 4, none⟩) hbl).trans g0
      have hc1 := (hb.cell (p := ⟨b, o + i * 4 + 1, none⟩) hbl).trans g1
      have hc2 := (hb.cell (p := ⟨b, o + i * 4 + 2, none⟩) hbl).trans g2
      have hc3 := (hb.cell (p := ⟨b, o + i * 4 + 3, none⟩) hbl).trans g3
      obtain ⟨wx, hwx⟩ : ∃ wx, wx = wr.alloc (.cells #[.int .i64 c.id, .int .i64 c.time, .int .u8 c.kind, .int .i64 c.val] 37) := ⟨_, rfl⟩
      have HBX := Lib.hid (show wx.heap[wr.heap.size]? = some (.cells (encE c).toArray 37 (0, 0)) by rw [hwx]; exact heap_new rfl)
      have hGX : Below wr.heap.size wr wx := by rw [hwx]; exact (Below.refl _ _).alloc (Nat.le_refl _) _
      have HOX := Lib.hid (own_below hoa hGX); have HB7X := Lib.hid (hb.trans (hGX.mono hb.size)); have HWX := Lib.hid hwx
      have hzr := hb.size
      clear hc' g0 g1 g2 g3 hoa hb hwx hGX hce
      go_upto_region 10 with (fail)
      rw [← HWX.out]
      clear hc0 hc1 hc2 hc3
      obtain ⟨bx, hbx⟩ : ∃ bx, wr.heap.size = bx := ⟨_, rfl⟩
      rw [hbx] at HBX ⊢
      have hbx7 : w7.heap.size ≤ bx := by omega
      clear hbx hzr
      go_wp2_with fail
      go_loopw [10, 56] (fun va i' wr => PMid n m ls w7 i bx va i' wr) (fun _ i' _ => i - (intOf i').toNat)
      case atStart => exact ⟨0, Nat.zero_le _, rfl, by have h0 : pairsW n m ls i ++ pairW n m ls i 0 = pairsW n m ls i := List.append_nil _
                                                       rw [h0]; exact HOX.out, HB7X.out, by rw [HCE.out]; exact HBX.out⟩
      case round =>
        obtain ⟨k, hk, rfl, hoa, hb, hxb⟩ := hrel
        obtain ⟨wa, wk, rfl⟩ := (Sl.of_own hoa).shape
        rw [HCE.out] at hxb
        by_cases hlk : k < i
        · have hkl : k < ls.length := by omega
          have hki : (k : Int) < (i : Int) := by omega
          have hk0 : (0 : Int) ≤ (k : Int) := by omega
          obtain ⟨b', o', c', hc', hbl, g0, g1, g2, g3⟩ := HV7.out.at_ hkl
          obtain ⟨⟨rfl, rfl⟩, rfl⟩ : (b = b' ∧ o = o') ∧ sc = c' := by simpa using hc'
          have HAF := Lib.hid (HLE.out _ (List.getElem_mem hkl))
          rw [← evAt_get ls hkl] at g0 g1 g2 g3 HAF
          have HSV := Lib.hid (pairW_succ n m ls i k)
          obtain ⟨a, hae⟩ : ∃ a, evAt ls k = a := ⟨_, rfl⟩
          have HAE := Lib.hid hae
          rw [hae] at g0 g1 g2 g3 HAF
          have hc0 := (hb.cell (p := ⟨b, o + k * 4, none⟩) hbl).trans g0
          have hc1 := (hb.cell (p := ⟨b, o + k * 4 + 1, none⟩) hbl).trans g1
          have hc2 := (hb.cell (p := ⟨b, o + k * 4 + 2, none⟩) hbl).trans g2
          have hc3 := (hb.cell (p := ⟨b, o + k * 4 + 3, none⟩) hbl).trans g3
          obtain ⟨wy, hwy⟩ : ∃ wy, wy = wr.alloc (.cells #[.int .i64 a.id, .int .i64 a.time, .int .u8 a.kind, .int .i64 a.val] 37) := ⟨_, rfl⟩
          have HBY := Lib.hid (show wy.heap[wr.heap.size]? = some (.cells (encE a).toArray 37 (0, 0)) by rw [hwy]; exact heap_new rfl)
          have hGY : Below wr.heap.size wr wy := by rw [hwy]; exact (Below.refl _ _).alloc (Nat.le_refl _) _
          have HOY := Lib.hid (own_below hoa hGY); have HB7Y := Lib.hid (hb.trans (hGY.mono hb.size)); have HWY := Lib.hid hwy
          have HXY := Lib.hid ((hGY.block _ (heap_lt hxb)).trans hxb)
          have hzr := hb.size
          clear hc' g0 g1 g2 g3 hoa hb hwy hGY hae hxb
          go_upto_region 13 with (fail)
          rw [← HWY.out]
          clear hc0 hc1 hc2 hc3
          obtain ⟨by', hby⟩ : ∃ by', wr.heap.size = by' := ⟨_, rfl⟩
          rw [hby] at HBY ⊢
          have hby7 : w7.heap.size ≤ by' := by omega
          clear hby hzr
          have x1 : wy.cell? ⟨bx, 1, none⟩ = some (.int .i64 c.time) := (Lib.cell_of_heap HXY.out 1).trans rfl
          have x2 : wy.cell? ⟨bx, 2, none⟩ = some (.int .u8 c.kind) := (Lib.cell_of_heap HXY.out 2).trans rfl
          have x3 : wy.cell? ⟨bx, 3, none⟩ = some (.int .i64 c.val) := (Lib.cell_of_heap HXY.out 3).trans rfl
          have y1 : wy.cell? ⟨by', 1, none⟩ = some (.int .i64 a.time) := (Lib.cell_of_heap HBY.out 1).trans rfl
          have y2 : wy.cell? ⟨by', 2, none⟩ = some (.int .u8 a.kind) := (Lib.cell_of_heap HBY.out 2).trans rfl
          have y3 : wy.cell? ⟨by', 3, none⟩ = some (.int .i64 a.val) := (Lib.cell_of_heap HBY.out 3).trans rfl
          obtain ⟨_, _, ⟨ct0, ct1⟩, _, cv0, cv1⟩ := HCF.out
          obtain ⟨_, _, ⟨at0, at1⟩, _, av0, av1⟩ := HAF.out
          have hwt : IntKind.i64.wrap (c.time - a.time) = c.time - a.time := IntWalk.i64_in _ (by omega)
          have hwv : IntKind.i64.wrap (a.val + n) = a.val + n := IntWalk.i64_in _ (by omega)
          obtain ⟨R, hR⟩ : ∃ R, (c.kind == 67 && (a.kind == 65 && (decide (c.time - a.time ≤ m) && decide (a.val + n ≤ c.val)))) = R := ⟨_, rfl⟩
          have HPK := Lib.hid (show pairOk n m ls i k = (R && !barT ls k i) by
            unfold pairOk
            rw [HCE.out, HAE.out, ← hR]
            simp only [Bool.and_assoc])
          have HRR := Lib.hid hR
          go_cut [86] (fun s wq => s = .bool (!R) ∧ wq = wy)
          case first =>
            by_cases hk1 : c.kind = 67
            · have e1 : (c.kind == 67) = true := by simp [hk1]
              have f1 : (c.kind != 67) = false := by simp [hk1]
              by_cases hk2 : a.kind = 65
              · have e2 : (a.kind == 65) = true := by simp [hk2]
                have f2 : (a.kind != 65) = false := by simp [hk2]
                by_cases hk3 : c.time - a.time ≤ m
                · have e3 : decide (c.time - a.time ≤ m) = true := decide_eq_true hk3
                  have f3 : decide (m < c.time - a.time) = false := decide_eq_false (by omega)
                  by_cases hk4 : a.val + n ≤ c.val
                  · have e4 : decide (a.val + n ≤ c.val) = true := decide_eq_true hk4
                    have f4 : decide (c.val < a.val + n) = false := decide_eq_false (by omega)
                    have HRV := Lib.hid (show R = true by rw [← HRR.out, e1, e2, e3, e4]; rfl)
                    clear hR hk1 hk2 hk3 hk4
                    go_wp2_with fail
                    go_meet
                    exact ⟨by rw [HRV.out]; rfl, rfl⟩
                  · have e4 : decide (a.val + n ≤ c.val) = false := decide_eq_false hk4
                    have f4 : decide (c.val < a.val + n) = true := decide_eq_true (by omega)
                    have HRV := Lib.hid (show R = false by rw [← HRR.out, e1, e2, e3, e4]; rfl)
                    clear hR hk1 hk2 hk3 hk4
                    go_wp2_with fail
                    go_meet
                    exact ⟨by rw [HRV.out]; rfl, rfl⟩
                · have e3 : decide (c.time - a.time ≤ m) = false := decide_eq_false hk3
                  have f3 : decide (m < c.time - a.time) = true := decide_eq_true (by omega)
                  have HRV := Lib.hid (show R = false by rw [← HRR.out, e1, e2, e3]; rfl)
                  clear hR hk1 hk2 hk3
                  go_wp2_with fail
                  go_meet
                  exact ⟨by rw [HRV.out]; rfl, rfl⟩
              · have e2 : (a.kind == 65) = false := by simp [hk2]
                have f2 : (a.kind != 65) = true := by simp [hk2]
                have HRV := Lib.hid (show R = false by rw [← HRR.out, e1, e2]; rfl)
                clear hR hk1 hk2
                go_wp2_with fail
                go_meet
                exact ⟨by rw [HRV.out]; rfl, rfl⟩
            · have e1 : (c.kind == 67) = false := by simp [hk1]
              have f1 : (c.kind != 67) = true := by simp [hk1]
              have HRV := Lib.hid (show R = false by rw [← HRR.out, e1]; rfl)
              clear hR hk1
              go_wp2_with fail
              go_meet
              exact ⟨by rw [HRV.out]; rfl, rfl⟩
          case rest =>
            obtain ⟨rfl, hwq⟩ := hcut
            obtain ⟨wz, rfl⟩ : ∃ w' : World, w' = wc := ⟨_, rfl⟩
            subst hwq
            clear hR HRR hwt hwv x1 x2 x3 y1 y2 y3
            cases hRv : R with
            | false =>
              have HPF := Lib.hid (show pairW n m ls i (k + 1) = pairW n m ls i k by rw [HSV.out, HPK.out, hRv]; simp)
              clear hRv
              have HP := Lib.hid (show PMid n m ls w7 i bx (.slice wa (pairsW n m ls i ++ pairW n m ls i k).length wk) (.int .i64 ((k : Int) + 1)) _ from ⟨k + 1, by omega, by go_num, by rw [HPF.out]; exact HOY.out, HB7Y.out, by rw [HCE.out]; exact HXY.out⟩)
              go_wp2_with fail
              go_roundw
              case rel => exact HP.out
              case measure => simp [intOf]; omega
            | true =>
              have HPT := Lib.hid (show pairW n m ls i (k + 1) = pairW n m ls i k ++ if barT ls k i then [] else [pairT a c] by
                rw [HSV.out, HPK.out, hRv, HCE.out, HAE.out]
                cases barT ls k i <;> rfl)
              clear hRv HPK
              have hk1i : (k : Int) + 1 ≤ (i : Int) := by omega
              have hk10 : (0 : Int) ≤ (k : Int) + 1 := by omega
              have hwk : IntKind.i64.wrap ((k : Int) + 1) = (k : Int) + 1 := IntWalk.i64_in _ (by omega)
              obtain ⟨nb, hnb⟩ : ∃ nb, i - (k + 1) = nb := ⟨_, rfl⟩
              have hnb1 : (i : Int) - ((k : Int) + 1) = (nb : Int) := by omega
              have hik1 : i ≤ k + 1 + nb := by omega
              have hik2 : k + 1 + nb ≤ i := by omega
              have HZ7 := HB7Y.out.size
              go_wp2_with fail
              go_loopw [15, 93] (fun bv j wr => ∃ jn, jn ≤ nb ∧ j = .int .i64 (jn : Nat) ∧ bv = .bool ((List.range' (k + 1) jn).any fun x => stopB (evAt ls k) (evAt ls x)) ∧ Below wz.heap.size wz wr) (fun _ j _ => nb - (intOf j).toNat)
              case atStart => exact ⟨0, Nat.zero_le _, rfl, rfl, Below.refl _ _⟩
              case round =>
                obtain ⟨j, hj, rfl, rfl, hb⟩ := hrel
                have HBB := Lib.hid (barT_step ls k j)
                obtain ⟨bb, hbb⟩ : ∃ bb, ((List.range' (k + 1) j).any fun x => stopB (evAt ls k) (evAt ls x)) = bb := ⟨_, rfl⟩
                have HB0 := Lib.hid hbb
                rw [hbb] at HBB ⊢
                clear hbb
                by_cases hlj : j < nb
                · have hji : (j : Int) < (nb : Int) := by omega
                  have hj0 : (0 : Int) ≤ (j : Int) := by omega
                  have hpl : k + 1 + j < ls.length := by omega
                  obtain ⟨b', o', c', hc', hbl, g0, g1, g2, g3⟩ := HV7.out.at_ hpl
                  obtain ⟨⟨rfl, rfl⟩, rfl⟩ : (b = b' ∧ o = o') ∧ sc = c' := by simpa using hc'
                  rw [← evAt_get ls hpl] at g0 g1 g2 g3
                  obtain ⟨d, hde⟩ : ∃ d, evAt ls (k + 1 + j) = d := ⟨_, rfl⟩
                  rw [hde] at HBB
                  rw [hde] at g0 g1 g2 g3
                  have hb7 := HB7Y.out.trans (hb.mono HZ7)
                  have ea : o + (k + 1 + j) * 4 = o + (k + 1) * 4 + j * 4 := by rw [Nat.add_mul (k + 1) j 4]; omega
                  rw [ea] at g0 g1 g2 g3
                  have hc0 := (hb7.cell (p := ⟨b, o + (k + 1) * 4 + j * 4, none⟩) hbl).trans g0
                  have hc1 := (hb7.cell (p := ⟨b, o + (k + 1) * 4 + j * 4 + 1, none⟩) hbl).trans g1
                  have hc2 := (hb7.cell (p := ⟨b, o + (k + 1) * 4 + j * 4 + 2, none⟩) hbl).trans g2
                  have hc3 := (hb7.cell (p := ⟨b, o + (k + 1) * 4 + j * 4 + 3, none⟩) hbl).trans g3
                  obtain ⟨wd, hwd⟩ : ∃ wd, wd = wr.alloc (.cells #[.int .i64 d.id, .int .i64 d.time, .int .u8 d.kind, .int .i64 d.val] 37) := ⟨_, rfl⟩
                  have HBD := Lib.hid (show wd.heap[wr.heap.size]? = some (.cells (encE d).toArray 37 (0, 0)) by rw [hwd]; exact heap_new rfl)
                  have hGD : Below wr.heap.size wr wd := by rw [hwd]; exact (Below.refl _ _).alloc (Nat.le_refl _) _
                  have HBZ := Lib.hid (hb.trans (hGD.mono hb.size)); have HWD := Lib.hid hwd
                  have HYD := Lib.hid (((hb.trans (hGD.mono hb.size)).block _ (heap_lt HBY.out)).trans HBY.out)
                  clear hc' g0 g1 g2 g3 hb hwd hGD hde hb7 ea
                  go_upto_region 18 with (fail)
                  rw [← HWD.out]
                  clear hc0 hc1 hc2 hc3
                  have x2 : wd.cell? ⟨wr.heap.size, 2, none⟩ = some (.int .u8 d.kind) := (Lib.cell_of_heap HBD.out 2).trans rfl
                  have x3 : wd.cell? ⟨wr.heap.size, 3, none⟩ = some (.int .i64 d.val) := (Lib.cell_of_heap HBD.out 3).trans rfl
                  have y3 : wd.cell? ⟨by', 3, none⟩ = some (.int .i64 a.val) := (Lib.cell_of_heap HYD.out 3).trans rfl
                  obtain ⟨nv, hnv⟩ : ∃ nv, (bb || stopB a d) = nv := ⟨_, rfl⟩
                  have HBB := Lib.hid (HBB.out.trans (show (bb || stopB (evAt ls k) d) = nv by rw [HAE.out]; exact hnv))
                  have HNV := Lib.hid hnv
                  have HPR := Lib.hid (show ∃ jn, jn ≤ nb ∧ Value.int .i64 ((j : Int) + 1) = .int .i64 (jn : Nat) ∧ Value.bool nv = .bool ((List.range' (k + 1) jn).any fun x => stopB (evAt ls k) (evAt ls x)) ∧ Below wz.heap.size wz wd from ⟨j + 1, by omega, by go_num, by rw [HBB.out], HBZ.out⟩)
                  clear hnv HBB HB0
                  cases bb with
                  | true =>
                    obtain rfl : nv = true := by rw [← HNV.out]; rfl
                    go_wp2_with fail
                    go_roundw
                    case rel => exact HPR.out
                    case measure => simp [intOf]; omega
                  | false =>
                    by_cases hk1 : d.kind = 66
                    · have f1 : (d.kind == 66) = true := by simp [hk1]
                      by_cases hk2 : a.val < d.val
                      · obtain rfl : nv = true := by rw [← HNV.out]; unfold stopB; rw [f1, decide_eq_true hk2]; rfl
                        clear hk1
                        go_wp2_with fail
                        go_roundw
                        case rel => exact HPR.out
                        case measure => simp [intOf]; omega
                      · have f2 : decide (a.val < d.val) = false := decide_eq_false hk2
                        obtain rfl : nv = false := by rw [← HNV.out]; unfold stopB; rw [f1, f2]; rfl
                        clear hk1
                        go_wp2_with fail
                        go_roundw
                        case rel => exact HPR.out
                        case measure => simp [intOf]; omega
                    · have f1 : (d.kind == 66) = false := by simp [hk1]
                      obtain rfl : nv = false := by rw [← HNV.out]; unfold stopB; rw [f1]; rfl
                      clear hk1
                      go_wp2_with fail
                      go_roundw
                      case rel => exact HPR.out
                      case measure => simp [intOf]; omega
                · obtain rfl : j = nb := by omega
                  have HBT := Lib.hid (show barT ls k i = bb by unfold barT; rw [hnb]; exact HB0.out)
                  clear HBB HB0
                  have HOR := Lib.hid (own_below HOY.out hb)
                  have HXR := Lib.hid ((hb.block _ (heap_lt HXY.out)).trans HXY.out)
                  have HYR := Lib.hid ((hb.block _ (heap_lt HBY.out)).trans HBY.out)
                  have HB7R := Lib.hid (HB7Y.out.trans (hb.mono HZ7))
                  clear hb
                  cases bb with
                  | true =>
                    have HPF := Lib.hid (show pairW n m ls i (k + 1) = pairW n m ls i k by rw [HPT.out, HBT.out]; simp)
                    have HP := Lib.hid (show PMid n m ls w7 i bx (.slice wa (pairsW n m ls i ++ pairW n m ls i k).length wk) (.int .i64 ((k : Int) + 1)) wr from ⟨k + 1, by omega, by go_num, by rw [HPF.out]; exact HOR.out, HB7R.out, by rw [HCE.out]; exact HXR.out⟩)
                    go_wp2_with fail
                    go_roundw
                    case rel => exact HP.out
                    case measure => simp [intOf]; omega
                  | false =>
                    have HPF := Lib.hid (show pairW n m ls i (k + 1) = pairW n m ls i k ++ [pairT a c] by rw [HPT.out, HBT.out]; simp)
                    have HLN := Lib.hid (show (pairsW n m ls i ++ pairW n m ls i k).length ≤ 7200 by
                      rw [List.length_append]
                      have h1 := pairsW_len n m ls i
                      have h2 := pairW_len n m ls i k
                      have h3 : i * i ≤ 60 * 60 := Nat.mul_le_mul (by omega) (by omega)
                      omega)
                    obtain ⟨L, hL⟩ : ∃ L, pairsW n m ls i ++ pairW n m ls i k = L := ⟨_, rfl⟩
                    have HLL := Lib.hid hL
                    rw [hL] at HOR HLN ⊢
                    have hLl := HLN.out
                    have HAI := Lib.hid (show 0 ≤ a.id ∧ a.id ≤ 9223372036854775807 by have := HAF.out; have := HK60.out; omega)
                    have HCI := Lib.hid (show 0 ≤ c.id ∧ c.id ≤ 9223372036854775807 by have := HCF.out; have := HK60.out; omega)
                    have HLA := Lib.hid (show (Lib.itoa a.id).length ≤ 21 from Lib.itoa_length_le a.id (by have := HAI.out; omega) HAI.out.2)
                    have HLC := Lib.hid (show (Lib.itoa c.id).length ≤ 21 from Lib.itoa_length_le c.id (by have := HCI.out; omega) HCI.out.2)
                    have HTX := Lib.hid (show (⟨(Lib.itoa a.id).toArray⟩ ++ ⟨#[124]⟩ ++ ⟨(Lib.itoa c.id).toArray⟩ : ByteArray) = ⟨(pairT a c).toArray⟩ by
                      rw [show (⟨#[124]⟩ : ByteArray) = ⟨[124].toArray⟩ from rfl, joinT, joinT]
                      unfold pairT
                      simp)
                    have hz7 : w7.heap.size ≤ wr.heap.size := HB7R.out.size
                    obtain ⟨i0, hi', hz0, hz1, hz2⟩ := info_parts infoStr
                    clear hL
                    go_upto_region 21 with (fail)
                    refine Reg.stand_order (W := w7) (h := 11) (t := 1)
                      [⟨0, 113, [], 99, [], none, fun v _ => v = .slice wa L.length wk⟩,
                       ⟨1, 114, [], 99, [], none, fun v _ => v = .pointer (some ⟨by', 0, none⟩)⟩,
                       ⟨2, 115, [], 99, [], none, fun v _ => v = .int .i64 a.id⟩,
                       ⟨3, 116, [], 99, [], none, fun v _ => v = .string ⟨(Lib.itoa a.id).toArray⟩⟩,
                       ⟨4, 117, [], 99, [], none, fun v _ => v = .string (⟨(Lib.itoa a.id).toArray⟩ ++ ⟨#[124]⟩)⟩,
                       ⟨5, 118, [], 99, [], none, fun v _ => v = .pointer (some ⟨bx, 0, none⟩)⟩,
                       ⟨6, 119, [], 99, [], none, fun v _ => v = .int .i64 c.id⟩,
                       ⟨7, 120, [], 99, [], none, fun v _ => v = .string ⟨(Lib.itoa c.id).toArray⟩⟩,
                       ⟨8, 121, [], 99, [], none, fun v _ => v = .string ⟨(pairT a c).toArray⟩⟩,
                       ⟨9, 122, [9], 10, [], none, fun v w' => ∃ q, v = .slice (some ⟨q, 0, none⟩) 1 1 ∧ w'.heap[q]? = some (.cells #[.string ⟨(pairT a c).toArray⟩] 9 (0, 0))⟩,
                       ⟨10, 123, [9], 99, [], some 9, fun v w' => w'.ownsRow w7.heap.size 9 1 v (L.length + 1) (L.map strV ++ [strV (pairT a c)])⟩]
                      [⟨[37], 99, fun w' => w'.heap[bx]? = some (.cells (encE c).toArray 37 (0, 0))⟩,
                       ⟨[37], 99, fun w' => w'.heap[by']? = some (.cells (encE a).toArray 37 (0, 0))⟩,
                       ⟨[9], 10, fun w' => w'.ownsRow w7.heap.size 9 1 (.slice wa L.length wk) L.length (L.map strV)⟩]
                      (by kernel_rfl) rfl (by kernel_rfl) (by kernel_rfl) (by kernel_rfl) (show [0, 1, 2, 3, 4, 5, 6, 7, 8, 9, 10].Nodup by decide) (show ∀ i, i < 11 → i ∈ [0, 1, 2, 3, 4, 5, 6, 7, 8, 9, 10] by decide) ?_ (show [113, 114, 115, 116, 117, 118, 119, 120, 121, 122, 123].Nodup by decide) (show ∀ s ∈ [113, 114, 115, 116, 117, 118, 119, 120, 121, 122, 123], s < 149 by decide) (by kernel_rfl) ?_ ?_ HB7R.out ?_ ?_ ?_
                    · intro f hf
                      simp only [List.mem_cons, List.not_mem_nil, or_false] at hf
                      rcases hf with rfl | rfl | rfl | rfl | rfl | rfl | rfl | rfl | rfl | rfl | rfl <;> simp
                    · intro f hf v w1 w2 hk hF
                      simp only [List.mem_cons, List.not_mem_nil, or_false] at hf
                      rcases hf with rfl | rfl | rfl | rfl | rfl | rfl | rfl | rfl | rfl | rfl | rfl
                      · exact hF
                      · exact hF
                      · exact hF
                      · exact hF
                      · exact hF
                      · exact hF
                      · exact hF
                      · exact hF
                      · exact hF
                      · obtain ⟨q', e1, e2⟩ := hF
                        exact ⟨q', e1, (hk 9 (by simp)).2 _ _ e2⟩
                      · exact (hk 9 (by simp)).1 _ _ _ _ _ hF
                    · intro f hf w1 w2 hk hG
                      simp only [List.mem_cons, List.not_mem_nil, or_false] at hf
                      rcases hf with rfl | rfl | rfl
                      · exact (hk 37 (by simp)).2 _ _ hG
                      · exact (hk 37 (by simp)).2 _ _ hG
                      · exact (hk 9 (by simp)).1 _ _ _ _ _ hG
                    · intro f hf
                      simp only [List.mem_cons, List.not_mem_nil, or_false] at hf
                      rcases hf with rfl | rfl | rfl
                      · exact HXR.out
                      · exact HYR.out
                      · exact HOR.out.drew
                    · intro f hf a' w1 hs hg' hst
                      have t10 : a'.eval (.tmp 10) = .slice wa L.length wk := Reg.eval_tmp ((hs.out 10 (show 10 ∉ [113, 114, 115, 116, 117, 118, 119, 120, 121, 122, 123] by decide)).trans rfl)
                      have t12 : a'.eval (.tmp 12) = .pointer (some ⟨bx, 0, none⟩) := Reg.eval_tmp ((hs.out 12 (show 12 ∉ [113, 114, 115, 116, 117, 118, 119, 120, 121, 122, 123] by decide)).trans rfl)
                      have t14 : a'.eval (.tmp 14) = .pointer (some ⟨by', 0, none⟩) := Reg.eval_tmp ((hs.out 14 (show 14 ∉ [113, 114, 115, 116, 117, 118, 119, 120, 121, 122, 123] by decide)).trans rfl)
                      simp only [List.mem_cons, List.not_mem_nil, or_false] at hf
                      rcases hf with rfl | rfl | rfl | rfl | rfl | rfl | rfl | rfl | rfl | rfl | rfl
                      · have u1 := t10
                        exact Reg.step_val rfl rfl rfl (Reg.run_move u1) rfl hs.below (fun e => Reg.Keeps.refl e _)
                      · have u1 := t14
                        exact Reg.step_val (w' := w1) (v := .pointer (some ⟨by', 0, none⟩)) rfl rfl rfl (Ord.run_fld u1 (by go_simp)) rfl hs.below (fun e => Reg.Keeps.refl e _)
                      · obtain ⟨v1, hv1, rfl⟩ : ∃ v, a'.tmps[114]? = some v ∧ v = .pointer (some ⟨by', 0, none⟩) := hg' _ (Reg.at_fact 1 rfl) (by kernel_rfl) (by simp [Reg.okTil])
                        have u1 := Reg.eval_tmp hv1
                        exact Reg.step_val rfl rfl rfl (Reg.run_load u1 (load_i64 ((Lib.cell_of_heap (hst _ (Reg.at_stand 1 rfl) (by simp [Reg.okTil])) 0).trans rfl))) rfl hs.below (fun e => Reg.Keeps.refl e _)
                      · obtain ⟨v1, hv1, rfl⟩ : ∃ v, a'.tmps[115]? = some v ∧ v = .int .i64 a.id := hg' _ (Reg.at_fact 2 rfl) (by kernel_rfl) (by simp [Reg.okTil])
                        have u1 := Reg.eval_tmp hv1
                        refine Reg.step_call (f := 23) (args := #[.int .i64 a.id]) rfl rfl rfl (by go_simp) hs.below ((dec_top a.id HAI.out.1 HAI.out.2 w1).mono ?_)
                        rintro en w2 ⟨rfl, hgr⟩
                        exact ⟨_, rfl, rfl, hgr.below⟩
                      · obtain ⟨v1, hv1, rfl⟩ : ∃ v, a'.tmps[116]? = some v ∧ v = .string ⟨(Lib.itoa a.id).toArray⟩ := hg' _ (Reg.at_fact 3 rfl) (by kernel_rfl) (by simp [Reg.okTil])
                        have u1 := Reg.eval_tmp hv1
                        have hla : (Lib.itoa a.id).length ≤ 9223372036854775806 := by have := HLA.out; omega
                        exact Reg.step_val rfl rfl rfl (w' := w1) (v := .string (⟨(Lib.itoa a.id).toArray⟩ ++ ⟨#[124]⟩)) (by go_simp) rfl hs.below (fun e => Reg.Keeps.refl e _)
                      · have u1 := t12
                        exact Reg.step_val (w' := w1) (v := .pointer (some ⟨bx, 0, none⟩)) rfl rfl rfl (Ord.run_fld u1 (by go_simp)) rfl hs.below (fun e => Reg.Keeps.refl e _)
                      · obtain ⟨v1, hv1, rfl⟩ : ∃ v, a'.tmps[118]? = some v ∧ v = .pointer (some ⟨bx, 0, none⟩) := hg' _ (Reg.at_fact 5 rfl) (by kernel_rfl) (by simp [Reg.okTil])
                        have u1 := Reg.eval_tmp hv1
                        exact Reg.step_val rfl rfl rfl (Reg.run_load u1 (load_i64 ((Lib.cell_of_heap (hst _ (Reg.at_stand 0 rfl) (by simp [Reg.okTil])) 0).trans rfl))) rfl hs.below (fun e => Reg.Keeps.refl e _)
                      · obtain ⟨v1, hv1, rfl⟩ : ∃ v, a'.tmps[119]? = some v ∧ v = .int .i64 c.id := hg' _ (Reg.at_fact 6 rfl) (by kernel_rfl) (by simp [Reg.okTil])
                        have u1 := Reg.eval_tmp hv1
                        refine Reg.step_call (f := 23) (args := #[.int .i64 c.id]) rfl rfl rfl (by go_simp) hs.below ((dec_top c.id HCI.out.1 HCI.out.2 w1).mono ?_)
                        rintro en w2 ⟨rfl, hgr⟩
                        exact ⟨_, rfl, rfl, hgr.below⟩
                      · obtain ⟨v1, hv1, rfl⟩ : ∃ v, a'.tmps[117]? = some v ∧ v = .string (⟨(Lib.itoa a.id).toArray⟩ ++ ⟨#[124]⟩) := hg' _ (Reg.at_fact 4 rfl) (by kernel_rfl) (by simp [Reg.okTil])
                        obtain ⟨v2, hv2, rfl⟩ : ∃ v, a'.tmps[120]? = some v ∧ v = .string ⟨(Lib.itoa c.id).toArray⟩ := hg' _ (Reg.at_fact 7 rfl) (by kernel_rfl) (by simp [Reg.okTil])
                        have u1 := Reg.eval_tmp hv1
                        have u2 := Reg.eval_tmp hv2
                        have hla : (Lib.itoa a.id).length + 1 + (Lib.itoa c.id).length ≤ 9223372036854775807 := by have := HLA.out; have := HLC.out; omega
                        exact Reg.step_val rfl rfl rfl (w' := w1) (v := .string ⟨(pairT a c).toArray⟩) (by rw [← HTX.out]; go_simp) rfl hs.below (fun e => Reg.Keeps.refl e _)
                      · obtain ⟨v1, hv1, rfl⟩ : ∃ v, a'.tmps[121]? = some v ∧ v = .string ⟨(pairT a c).toArray⟩ := hg' _ (Reg.at_fact 8 rfl) (by kernel_rfl) (by simp [Reg.okTil])
                        exact Reg.step_val rfl rfl rfl (Reg.run_build (Reg.eval_tmp hv1) (build_str w1 ⟨(pairT a c).toArray⟩)) ⟨_, rfl, heap_new rfl⟩ (hs.below.alloc hs.below.size _) (fun e => Reg.Keeps.alloc e _ _)
                      · obtain ⟨v1, hv1, rfl⟩ : ∃ v, a'.tmps[113]? = some v ∧ v = .slice wa L.length wk := hg' _ (Reg.at_fact 0 rfl) (by kernel_rfl) (by simp [Reg.okTil])
                        obtain ⟨v2, hv2, q', rfl, hh⟩ : ∃ v, a'.tmps[122]? = some v ∧ ∃ q, v = .slice (some ⟨q, 0, none⟩) 1 1 ∧ w1.heap[q]? = some (.cells #[.string ⟨(pairT a c).toArray⟩] 9 (0, 0)) := hg' _ (Reg.at_fact 9 rfl) (by kernel_rfl) (by simp [Reg.okTil])
                        have hown := hst _ (Reg.at_stand 2 rfl) (by simp [Reg.okTil])
                        exact Reg.step_append rfl rfl rfl rfl hs.below Tryd.underlying39 hi' hz0 hz1 hz2 rfl (by decide) hv1 hown hv2 (news := [strV (pairT a c)]) rfl (fun j u hu => World.news_of_block hh j u (by simpa using hu)) (by intro u hu; rw [List.mem_singleton.1 hu]; rfl) (by decide) (by unfold maxLen; omega) (by omega) (fun v' w' h => h)
                    · intro vals w1 hF hfx hb1
                      have h123 : w1.ownsRow w7.heap.size 9 1 (vals 123) (L.length + 1) (L.map strV ++ [strV (pairT a c)]) := hF _ (Reg.at_fact 10 rfl) (show (11 + 1 : Nat) ≤ 99 by decide)
                      have hxx : w1.heap[bx]? = some (.cells (encE c).toArray 37 (0, 0)) := hfx _ (Reg.at_stand 0 rfl) (show (11 + 1 : Nat) ≤ 99 by decide)
                      have HREL := Lib.hid (show PMid n m ls w7 i bx (vals 123) (.int .i64 ((k : Int) + 1)) w1 from ⟨k + 1, by omega, by go_num, by rw [HPF.out, ← List.append_assoc, HLL.out, ← strs_snoc, List.length_append]; exact h123, hb1, by rw [HCE.out]; exact hxx⟩)
                      simp only [List.map_cons, List.map_nil]
                      generalize vals 113 = p113 at HREL ⊢
                      generalize vals 114 = p114 at HREL ⊢
                      generalize vals 115 = p115 at HREL ⊢
                      generalize vals 116 = p116 at HREL ⊢
                      generalize vals 117 = p117 at HREL ⊢
                      generalize vals 118 = p118 at HREL ⊢
                      generalize vals 119 = p119 at HREL ⊢
                      generalize vals 120 = p120 at HREL ⊢
                      generalize vals 121 = p121 at HREL ⊢
                      generalize vals 122 = p122 at HREL ⊢
                      generalize vals 123 = p123 at HREL ⊢
                      clear hF hfx h123 hxx hb1
                      unfold Reg.puts Reg.puts Reg.puts Reg.puts Reg.puts Reg.puts Reg.puts Reg.puts Reg.puts Reg.puts Reg.puts Reg.puts
                      go_wp2_with fail
                      go_roundw
                      case rel => exact HREL.out
                      case measure => simp [intOf]; omega

        · obtain rfl : k = i := by omega
          have HP := Lib.hid (show POut n m ls w7 (.slice wa (pairsW n m ls k ++ pairW n m ls k k).length wk) (.int .i64 ((k : Int) + 1)) wr from ⟨k + 1, by omega, by go_num, by rw [HSU.out]; exact hoa, hb⟩)
          clear hoa hb hxb
          go_wp2_with fail
          go_roundw
          case rel => exact HP.out
          case measure => simp [intOf]; omega
    · obtain ⟨L, hL⟩ : ∃ L, pairsW n m ls i = L := ⟨_, rfl⟩
      have HLL := Lib.hid (show pairsW n m ls ls.length = L by rw [← hL]; congr 1; omega)
      have HRP := Lib.hid ((run_pairs n m ls (by
        intro x y hxy hy
        have hp := List.pairwise_iff_getElem.1 HLS.out x y (by omega) hy hxy
        rw [evAt_get ls (by omega), evAt_get ls hy]
        unfold ltE at hp
        simp only [decide_eq_false_iff_not] at hp
        omega)).trans (show (List.range ls.length).flatMap (fun i => (List.range i).flatMap fun k => if pairOk n m ls i k then [pairT (evAt ls k) (evAt ls i)] else []) = L from HLL.out))
      have hln : L.length ≤ 3600 := by
        rw [← hL]
        have h1 := pairsW_len n m ls i
        have h3 : i * i ≤ 60 * 60 := Nat.mul_le_mul (by omega) (by omega)
        omega
      rw [hL] at hoa ⊢
      have HOA := Lib.hid hoa; have HB := Lib.hid hb
      have hXr : X < wr.heap.size := by have := hb.size; omega
      have HXR := Lib.hid ((hb.block _ hX7).trans HX7.out)
      have p0 : wr.cell? ⟨X, 0, none⟩ = some (.slice pa 2 pc) := (Lib.cell_of_heap HXR.out 0).trans rfl
      have p1 : wr.cell? ⟨X, 1, none⟩ = some (.int .i64 m) := (Lib.cell_of_heap HXR.out 1).trans rfl
      have HAL := Lib.hid (runAllG (pairP n m) (.slice pa 2 pc) (.slice sa ls.length sc) ls X wr HOKP.out (by show 2 ≤ 1000; omega) (PlnAt.keep HPL7.out fun a ha => hb.cell (Nat.lt_trans ha hX7)) (by omega) ((Sl.below HV7.out hb).more hb.size) HLI.out (by omega)
        (by
          intro ls' hp' _ k hk
          have h1 := pair_few n m ls' k hk (by have := hp'.length_eq; omega)
          omega)
        (by
          intro e he
          have := HLE.out e he
          have := HK60.out
          unfold OkEv Sm
          omega)
        (Tab.of_eq HT.out ((HBW7.out.trans (hb.mono HBW7.out.size)).block _ hg)) (by have := HBW7.out.size; have := hb.size; omega))
      rw [show (pairP n m).within = m from rfl] at HAL
      clear hoa hb hL
      go_wp2_with fail
      refine HAL.out.mono ?_
      rintro e w8 ⟨v8, ls', rfl, hp', hs', ho8, hb8⟩
      clear HAL p0 p1
      have hls : ls' = ls := sort_eq hp' (List.Perm.refl _) hs' HLS.out HLD.out
      subst hls
      rw [HRP.out] at ho8
      obtain ⟨ga, gc, rfl⟩ := (Sl.of_own ho8).shape
      have HSG := Lib.hid (Sl.of_own ho8)
      have HSW := Lib.hid ((Sl.below (Sl.of_own HOA.out) hb8).more hb8.size)
      have HBW8 := Lib.hid (HBW7.out.trans (HB.out.mono HBW7.out.size) |>.trans (hb8.mono (HBW7.out.trans (HB.out.mono HBW7.out.size)).size))
      clear hp' hs' ho8 hb8
      go_wp2_with fail
      go_loopw [136] (fun j wq => ∃ jn, jn ≤ L.length ∧ j = .int .i64 (jn : Nat) ∧ Mem.Grw w8 wq) (fun j _ => L.length - (intOf j).toNat)
      case atStart => exact ⟨0, Nat.zero_le _, rfl, Mem.Grw.refl _⟩
      case round =>
        obtain ⟨j, hj, rfl, hgr⟩ := hrel
        by_cases hlj : j < L.length
        · have hji : (j : Int) < (L.length : Int) := by omega
          have hj0 : (0 : Int) ≤ (j : Int) := by omega
          obtain ⟨b1, o1, c1, e1, hb1, hx1⟩ := str_at HSG.out hlj
          obtain ⟨rfl, rfl⟩ : ga = some ⟨b1, o1, none⟩ ∧ gc = c1 := by simpa using e1
          obtain ⟨b2, o2, c2, e2, hb2, hx2⟩ := str_at HSW.out hlj
          obtain ⟨rfl, rfl⟩ : wa = some ⟨b2, o2, none⟩ ∧ wk = c2 := by simpa using e2
          obtain ⟨t, ht⟩ : ∃ t, L[j] = t := ⟨_, rfl⟩
          rw [ht] at hx1 hx2
          have k1 : ∀ d, (wr.drewN d).cell? ⟨b1, o1 + j, none⟩ = some (.string ⟨t.toArray⟩) := fun d => (hgr.below.cell (p := ⟨b1, o1 + j, none⟩) hb1).trans hx1
          have k2 : ∀ d, (wr.drewN d).cell? ⟨b2, o2 + j, none⟩ = some (.string ⟨t.toArray⟩) := fun d => (hgr.below.cell (p := ⟨b2, o2 + j, none⟩) hb2).trans hx2
          have HGR := Lib.hid hgr
          clear e1 e2 hx1 hx2 ht hgr
          go_wp2_with fail
          go_quiet (fail)
          go_wp2_with fail
          go_roundw
          case rel => exact ⟨j + 1, by omega, by go_num, HGR.out.drewN _⟩
          case measure => simp [intOf]; omega
        · have HBF := Lib.hid (HBW8.out.trans (hgr.below.mono HBW8.out.size))
          clear hgr
          go_wp2_with fail
          go_ret
          exact ⟨rfl, HBF.out⟩
end Go.Proofs.YtcojnojdgigmdaaDoor.WR
