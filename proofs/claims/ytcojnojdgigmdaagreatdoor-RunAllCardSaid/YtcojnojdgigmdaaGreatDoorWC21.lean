/- The walks of oxbowref21.Steps, count, Ahead, Text. -/
import Derived.Test.YtcojnojdgigmdaaGreatDoorWW21
import Derived.Test.YtcojnojdgigmdaaGreatDoorPPlc
import Derived.Test.YtcojnojdgigmdaaGreatDoorPText
import Derived.Test.YtcojnojdgigmdaaGreatDoorWDec
set_option maxHeartbeats 3200000
set_option maxRecDepth 100000
namespace Go.Proofs.YtcojnojdgigmdaaGreatDoor.WR
open Go Go.RowKit Go.Sort Go.Proofs.YtcojnojdgigmdaaGreatDoor Go.Proofs.YtcojnojdgigmdaaGreatDoor.PL Go.Proofs.YtcojnojdgigmdaaGreatDoor.PR Go.Proofs.YtcojnojdgigmdaaGreatDoor.Mem Go.Proofs.YtcojnojdgigmdaaGreatDoor.WL

theorem DocAt.cells {w : World} {L B : Nat} {qs : Value} {ss : List GS} {ts : Nat -> List PT} (h : DocAt w L B qs ss ts) {i : Nat} (hi : i < ss.length) : ∃ g c, qs = .slice (some ⟨g, 0, none⟩) ss.length c /\ g < B /\ w.cell? ⟨g, i * 5, none⟩ = some (.int .u8 (ss[i]!).k) /\ w.cell? ⟨g, i * 5 + 1, none⟩ = some (.bool (ss[i]!).neg) /\
  w.cell? ⟨g, i * 5 + 2, none⟩ = some (.int .i64 (ss[i]!).lo) /\ w.cell? ⟨g, i * 5 + 3, none⟩ = some (.int .i64 (ss[i]!).hi) /\ ∃ vt, w.cell? ⟨g, i * 5 + 4, none⟩ = some vt /\ TstAt w B vt (ts i) := by
 obtain ⟨ad, c, e, hq⟩ := h; obtain ⟨g, e1, hb, h0, h1, h2, h3, vt, h4, h5⟩ := hq i hi; rw [getElem!_pos ss i hi]; exact ⟨g, c, by rw [e, e1], hb.2, h0, h1, h2, h3, vt, h4, h5.1⟩
theorem plcV (l : List Nat) (k : Nat) : cntV (l ++ [k]) = cntV l ++ [.int .i64 (k : Nat)] := by simp [cntV]
theorem steps21 (qs : Value) (wi : Int) (ss : List GS) (ts : Nat -> List PT) (L : Nat) (w : World) (hd : DocAt w L w.heap.size qs ss ts) (hn : ss.length <= 1000000) :
  Calls Tryz.prog 43 #[.agg #[qs, .int .i64 wi]] w fun e w' => ∃ v, e = .returned v /\ w'.ownsRow w.heap.size 3 1 v (plc ss ss.length).length (cntV (plc ss ss.length)) /\ Below w.heap.size w w' := by
 have HD := Hyd hd; obtain ⟨ad, c, rfl, _⟩ := hd
 obtain ⟨w0, hw0⟩ : ∃ w0, w0 = w.alloc (.cells #[.slice ad ss.length c, .int .i64 wi] 28) := ⟨_, rfl⟩
 have HB0 := Hyd (show Below w.heap.size w w0 by rw [hw0]; exact (Below.refl _ _).alloc (Nat.le_refl _) _); have HX := Hyd (show w0.heap[w.heap.size]? = some (.cells #[.slice ad ss.length c, .int .i64 wi] 28 (0, 0)) by rw [hw0]; exact heap_new rfl); have HW0 := Hyd hw0; clear hw0
 go_enter Tryz.func43, Tryz.ntmps43
 go_upto_region 1 with (fail)
 rw [<- HW0.out]; go_wp2_with fail
 go_loopw [3, 4] (fun va u wr => ∃ k, k <= ss.length /\ u = .int .i64 (k : Nat) /\ wr.ownsRow w.heap.size 3 1 va (plc ss k).length (cntV (plc ss k)) /\ Below w.heap.size w wr /\ wr.heap[w.heap.size]? = some (.cells #[.slice ad ss.length c, .int .i64 wi] 28 (0, 0))) (fun _ u _ => ss.length - (intOf u).toNat)
 case atStart => exact ⟨0, Nat.zero_le _, rfl, World.ownsRow_nil _ _ _ _, HB0.out, HX.out⟩
 case round =>
  obtain ⟨k, hk, rfl, ho, hb, hx⟩ := hrel; have y0 : wr.cell? ⟨w.heap.size, 0, none⟩ = some (.slice ad ss.length c) := (Lib.cell_of_heap hx 0).trans rfl; have hsz := hb.size
  by_cases hlt : k < ss.length
  ·have hki : (k : Int) < (ss.length : Int) := by omega
   have hk0 : (0 : Int) <= (k : Int) := by omega
   obtain ⟨g, c', e, hg, _, x1, _⟩ := DocAt.cells HD.out hlt
   obtain ⟨rfl, rfl⟩ : ad = some ⟨g, 0, none⟩ /\ c = c' := by simpa using e
   have z1 := (hb.cell (p := ⟨g, k * 5 + 1, none⟩) hg).trans x1; have hpl := plc_len ss k; have HPS := Hyd (plc_succ ss k)
   obtain ⟨b, hbn⟩ : ∃ b, (ss[k]!).neg = b := ⟨_, rfl⟩
   rw [hbn] at z1 HPS; clear e x1 hbn
   cases b with
   | true =>
    have HP2 := Hyd (show plc ss (k + 1) = plc ss k by rw [HPS.out]; simp); have HRL := Hyd (show ∃ k', k' <= ss.length /\ Value.int .i64 ((k : Int) + 1) = .int .i64 (k' : Nat) /\ wr.ownsRow w.heap.size 3 1 u3 (plc ss k').length (cntV (plc ss k')) /\ Below w.heap.size w wr /\ wr.heap[w.heap.size]? = some (.cells #[.slice (some ⟨g, 0, none⟩) ss.length c, .int .i64 wi] 28 (0, 0)) from ⟨k + 1, by omega, by go_num, by rw [HP2.out]; exact ho, hb, hx⟩); clear ho hb hx; go_wp2_with fail; go_roundw
    case rel => exact HRL.out
    case measure => simp [intOf]; omega
   | false =>
    have HP2 := Hyd (show plc ss (k + 1) = plc ss k ++ [k] by rw [HPS.out]; simp)
    obtain ⟨pl, hpl2⟩ : ∃ pl, plc ss k = pl := ⟨_, rfl⟩
    rw [hpl2] at ho hpl HP2; have HO := Hyd ho; have HB := Hyd hb; have HX2 := Hyd hx; obtain ⟨i0, hi, hz0, hz1, hz2⟩ := info_parts infoInt; have HNA := Hyd (Reg.own_new (w := wr) (b := 0) (e := 3) (sz := 1) (n := 1) (cs := #[.int .i64 (k : Nat)]) rfl (Nat.zero_le _) rfl (by decide)); have HNB := Hyd (show Below wr.heap.size wr (wr.alloc (.cells #[.int .i64 (k : Nat)] 3)) from (Below.refl _ _).alloc (Nat.le_refl _) _); clear ho hb hx hpl2
    go_wp2_with (at_builtin; refine Reg.wpList_append_src _ rfl (.tmp 19) (.tmp 21) 45 rfl w.heap.size 0 3 i0 _ 1 8 Tryz.underlying45 hi hz0 hz1 hz2 rfl (by decide) _ _ pl.length 1 _ _ rfl (own_below HO.out HNB.out) rfl HNA.out ?d1 ?d2 ?d3 ?d4 ?_)
    case d1 => first | rfl | (intro u hu; rw [List.mem_singleton.1 (by simpa using hu)]; rfl)
    case d2 => unfold maxLen; omega
    case d3 => omega
    case d4 => omega
    intro va' w5 ho5 hg5 _; have HRL := Hyd (show ∃ k', k' <= ss.length /\ Value.int .i64 ((k : Int) + 1) = .int .i64 (k' : Nat) /\ w5.ownsRow w.heap.size 3 1 va' (plc ss k').length (cntV (plc ss k')) /\ Below w.heap.size w w5 /\ w5.heap[w.heap.size]? = some (.cells #[.slice (some ⟨g, 0, none⟩) ss.length c, .int .i64 wi] 28 (0, 0)) from ⟨k + 1, by omega, by go_num, by rw [HP2.out, List.length_append, plcV]; exact ho5, below_grown (HB.out.trans (HNB.out.mono hsz)) (own_below HO.out HNB.out) hg5 (by simp; omega) (Nat.le_refl _), (Reg.Keeps.grown (show 28 ≠ 3 by decide) (own_below HO.out HNB.out) hg5).2 _ _ (heap_alloc HX2.out)⟩); clear ho5 hg5; go_wp2_with fail; go_roundw
    case rel => exact HRL.out
    case measure => simp [intOf]; omega
  ·obtain rfl : k = ss.length := by omega
   have HO := Hyd ho; have HB := Hyd hb; clear ho hb hx; go_wp2_with fail; go_ret; exact ⟨_, rfl, HO.out, HB.out⟩
theorem count21 (mv : Value) (m : Mt) (B : Nat) (w : World) (hm : MtAt w B mv m) (hBw : B <= w.heap.size) (hlen : m.length <= 1000000) :
  Calls Tryz.prog 69 #[mv] w fun e w' => e = .returned (.int .i64 (countM m : Nat)) /\ Mem.Grw w w' := by
 have mixed : Tryz.prog.follows .mixedOrders = true := by kernel_rfl
 obtain ⟨va, vs, rfl, hma, hms⟩ := hm; obtain ⟨aa, ac, rfl⟩ := hma.shape; obtain ⟨sa, sc, rfl⟩ := hms.shape; have HMS := Hyd hms
 obtain ⟨w0, hw0⟩ : ∃ w0, w0 = w.alloc (.cells #[.slice aa m.length ac, .slice sa m.length sc] 84) := ⟨_, rfl⟩
 have HG0 := Hyd (show Mem.Grw w w0 by rw [hw0]; exact (Mem.Grw.refl _).alloc _); have HX := Hyd (show w0.heap[w.heap.size]? = some (.cells #[.slice aa m.length ac, .slice sa m.length sc] 84 (0, 0)) by rw [hw0]; exact heap_new rfl); have hz0 : w.heap.size < w0.heap.size := heap_lt HX.out; have HW0 := Hyd hw0; have HC := Hyd (show countM m = (m.filter fun x => x.2 == lastS m).length from rfl); clear hma hms hw0
 go_enter Tryz.func69, Tryz.ntmps69
 go_upto_region 1 with (fail)
 rw [<- HW0.out]; go_wp2_with fail
 go_loopw [3, 4] (fun n u wr => ∃ k, k <= m.length /\ u = .int .i64 (k : Nat) /\ n = .int .i64 (((m.take k).filter fun x => x.2 == lastS m).length : Nat) /\ Mem.Grw w0 wr) (fun _ u _ => m.length - (intOf u).toNat)
 case atStart => exact ⟨0, Nat.zero_le _, rfl, rfl, Mem.Grw.refl _⟩
 case round =>
  obtain ⟨k, hk, rfl, rfl, hg⟩ := hrel; have HG := Hyd hg; have y0 := hg.cell hz0 ((Lib.cell_of_heap HX.out 0).trans rfl); have y1 := hg.cell hz0 ((Lib.cell_of_heap HX.out 1).trans rfl)
  by_cases hlt : k < m.length
  ·have hki : (k : Int) < (m.length : Int) := by omega
   have hk0 : (0 : Int) <= (k : Int) := by omega
   have hl1 : m.length - 1 < m.length := by omega
   obtain ⟨b, o, c, hv, hb, x0⟩ := sl_at HMS.out hlt
   obtain ⟨rfl, rfl⟩ : sa = some ⟨b, o, none⟩ /\ sc = c := by simpa using hv
   obtain ⟨b', o', c', hv', _, x1⟩ := sl_at HMS.out hl1
   obtain ⟨⟨rfl, rfl⟩, rfl⟩ : (b = b' /\ o = o') /\ sc = c' := by simpa using hv'
   have hll : lastS m = m[m.length - 1].2 := by
    unfold lastS; rw [List.getLast?_eq_getElem?, List.getElem?_eq_getElem hl1]
   have HTK := Hyd (List.take_succ_eq_append_getElem (l := m) (i := k) hlt)
   obtain ⟨p, hp⟩ : ∃ p, m[k] = p := ⟨_, rfl⟩
   rw [hp] at x0 HTK; rw [<- hll] at x1
   obtain ⟨L, hL⟩ : ∃ L, lastS m = L := ⟨_, rfl⟩
   rw [hL] at x1; have hbw : b < w0.heap.size := Nat.lt_of_lt_of_le (Nat.lt_of_lt_of_le hb hBw) HG0.out.size; have z0 := hg.cell hbw (HG0.out.cell (Nat.lt_of_lt_of_le hb hBw) x0); have z1 := hg.cell hbw (HG0.out.cell (Nat.lt_of_lt_of_le hb hBw) x1); have hwl : IntKind.i64.wrap ((m.length : Int) - 1) = (m.length : Int) - 1 := IntWalk.i64_in _ (by omega)
   have hli0 : (0 : Int) <= (m.length : Int) - 1 := by omega
   have hli1 : (m.length : Int) - 1 < (m.length : Int) := by omega
   have htn : ((m.length : Int) - 1).toNat = m.length - 1 := by omega
   have hl1n : 1 <= m.length := by omega
   have hfl : ((m.take k).filter fun x => x.2 == lastS m).length <= 1000000 := Nat.le_trans (List.length_filter_le _ _) (by rw [List.length_take]; omega)
   obtain ⟨N, hN⟩ : ∃ N, ((m.take k).filter fun x => x.2 == lastS m).length = N := ⟨_, rfl⟩
   rw [hN] at hfl ⊢; obtain ⟨i, s⟩ := p
   simp only at z0
   have HNX := Hyd (show ((m.take (k + 1)).filter fun x => x.2 == lastS m).length = N + if s = L then 1 else 0 by
    rw [HTK.out, List.filter_append, List.length_append, hN, hL]
    by_cases h : s = L <;> simp [h])
   clear hv hv' hp hll hL hN x0 x1 hg
   by_cases hs : s = L
   ·have hne : ((s : Int) == (L : Int)) = true := by simp [hs]
    rw [if_pos hs] at HNX; go_wp2_with fail
    go_quiet (fail)
    have HGQ := Hyd (HG.out.drewN nq); go_wp2_with fail; go_roundw
    case rel => exact ⟨k + 1, by omega, by go_num, by rw [HNX.out]; go_num, HGQ.out⟩
    case measure => simp [intOf]; omega
   ·have hne : ((s : Int) == (L : Int)) = false := by simp; omega
    rw [if_neg hs] at HNX; go_wp2_with fail
    go_quiet (fail)
    have HGQ := Hyd (HG.out.drewN nq); go_wp2_with fail; go_roundw
    case rel => exact ⟨k + 1, by omega, by go_num, by rw [HNX.out]; rfl, HGQ.out⟩
    case measure => simp [intOf]; omega
  ·obtain rfl : k = m.length := by omega
   rw [List.take_length, <- HC.out]; clear hg; go_wp2_with fail; go_ret; exact ⟨rfl, HG0.out.trans HG.out⟩
theorem rev_at (a : Mt) (j : Nat) (h : j < a.length) : ((a.map (·.1)).reverse).drop j = (a[a.length - 1 - j]'(by omega)).1 :: ((a.map (·.1)).reverse).drop (j + 1) := by
 have hl : j < ((a.map (·.1)).reverse).length := by simpa using h
 rw [List.drop_eq_getElem_cons hl]
 congr 1
 rw [List.getElem_reverse, List.getElem_map]
 congr 2
 rw [List.length_map]
theorem rev_end (a : Mt) : ((a.map (·.1)).reverse).drop a.length = [] := by rw [List.drop_eq_nil_iff]; simp
theorem st_at (a : Mt) (j : Nat) (h : j + 1 < a.length) : (a.map (·.2)).drop j = a[j].2 :: a[j + 1].2 :: (a.map (·.2)).drop (j + 2) := by
 rw [List.drop_eq_getElem_cons (by simpa using Nat.lt_of_succ_lt h), List.drop_eq_getElem_cons (by simpa using h), List.getElem_map, List.getElem_map]
theorem st_at1 (a : Mt) (j : Nat) (h : j + 1 < a.length) : (a.map (·.2)).drop (j + 1) = a[j + 1].2 :: (a.map (·.2)).drop (j + 2) := by
 rw [List.drop_eq_getElem_cons (by simpa using h), List.getElem_map]
theorem st_short : ∀ (x y : List Nat), x.length <= 1 -> cmpSt x y = false
 | [], _, _ => by simp [cmpSt]
 | [_], _, _ => by simp [cmpSt]
 | _ :: _ :: _, _, h => by simp at h
theorem ahead21 (av bv : Value) (a b : Mt) (B : Nat) (w : World) (ha : MtAt w B av a) (hb : MtAt w B bv b) (hBw : B <= w.heap.size) (hla : a.length <= 1000000) (hlb : b.length <= 1000000) :
  Calls Tryz.prog 30 #[av, bv] w fun e w' => e = .returned (.bool (aheadM a b)) /\ Mem.Grw w w' := by
 have mixed : Tryz.prog.follows .mixedOrders = true := by kernel_rfl
 obtain ⟨va, vs, rfl, hma, hms⟩ := ha; obtain ⟨ua, us, rfl, hna, hns⟩ := hb; obtain ⟨aa, ac, rfl⟩ := hma.shape; obtain ⟨sa, sc, rfl⟩ := hms.shape; obtain ⟨ba, bc, rfl⟩ := hna.shape; obtain ⟨ta, tc, rfl⟩ := hns.shape; have HMA := Hyd hma; have HMS := Hyd hms; have HNA := Hyd hna; have HNS := Hyd hns
 obtain ⟨w0, hw0⟩ : ∃ w0, w0 = (w.alloc (.cells #[.slice aa a.length ac, .slice sa a.length sc] 84)).alloc (.cells #[.slice ba b.length bc, .slice ta b.length tc] 84) := ⟨_, rfl⟩
 have HG0 := Hyd (show Mem.Grw w w0 by rw [hw0]; exact ((Mem.Grw.refl _).alloc _).alloc _); have HX := Hyd (show w0.heap[w.heap.size]? = some (.cells #[.slice aa a.length ac, .slice sa a.length sc] 84 (0, 0)) by rw [hw0]; exact heap_alloc (heap_new rfl)); have HY := Hyd (show w0.heap[w.heap.size + 1]? = some (.cells #[.slice ba b.length bc, .slice ta b.length tc] 84 (0, 0)) by rw [hw0]; exact heap_new (by simp)); have hz0 : w.heap.size < w0.heap.size := heap_lt HX.out; have hz1 : w.heap.size + 1 < w0.heap.size := heap_lt HY.out; have HW0 := Hyd hw0; have HR := Hyd (show aheadM a b = match cmpAt (a.map (·.1)).reverse (b.map (·.1)).reverse with | some r => r | none => cmpSt (a.map (·.2)) (b.map (·.2)) from rfl)
 obtain ⟨R, hR⟩ : ∃ R, aheadM a b = R := ⟨_, rfl⟩
 rw [hR] at HR ⊢; clear hma hms hna hns hw0 hR
 go_enter Tryz.func30, Tryz.ntmps30
 go_upto_region 1 with (fail)
 rw [<- HW0.out]; go_wp2_with fail
 go_loopw [5] (fun u wr => ∃ j : Nat, j <= a.length /\ j <= b.length /\ u = .int .i64 ((j : Int) + 1) /\ cmpAt (a.map (·.1)).reverse (b.map (·.1)).reverse = cmpAt (((a.map (·.1)).reverse).drop j) (((b.map (·.1)).reverse).drop j) /\ Mem.Grw w0 wr) (fun u _ => a.length + 2 - (intOf u).toNat)
 case atStart => exact ⟨0, Nat.zero_le _, Nat.zero_le _, rfl, rfl, Mem.Grw.refl _⟩
 case round =>
  obtain ⟨j, hja, hjb, rfl, hc, hg⟩ := hrel; have HG := Hyd hg; have HC := Hyd hc; have y0 := hg.cell hz0 ((Lib.cell_of_heap HX.out 0).trans rfl); have y1 := hg.cell hz1 ((Lib.cell_of_heap HY.out 0).trans rfl); clear hg hc
  by_cases hla' : j < a.length
  ·have hi1 : (j : Int) + 1 <= (a.length : Int) := by omega
   by_cases hlb' : j < b.length
   ·have hi2 : (j : Int) + 1 <= (b.length : Int) := by omega
    have hia : a.length - 1 - j < a.length := by omega
    have hib : b.length - 1 - j < b.length := by omega
    obtain ⟨g, o, c, hv, hb, x0⟩ := sl_at HMA.out hia
    obtain ⟨rfl, rfl⟩ : aa = some ⟨g, o, none⟩ /\ ac = c := by simpa using hv
    obtain ⟨g2, o2, c2, hv2, hb2, x1⟩ := sl_at HNA.out hib
    obtain ⟨rfl, rfl⟩ : ba = some ⟨g2, o2, none⟩ /\ bc = c2 := by simpa using hv2
    have ea := rev_at a j hla'; have eb := rev_at b j hlb'
    obtain ⟨x, hx⟩ : ∃ x, a[a.length - 1 - j].1 = x := ⟨_, rfl⟩
    obtain ⟨y, hy⟩ : ∃ y, b[b.length - 1 - j].1 = y := ⟨_, rfl⟩
    rw [hx] at x0 ea; rw [hy] at x1 eb; have HC2 := Hyd (show cmpAt (a.map (·.1)).reverse (b.map (·.1)).reverse = cmpAt (x :: ((a.map (·.1)).reverse).drop (j + 1)) (y :: ((b.map (·.1)).reverse).drop (j + 1)) by rw [HC.out, ea, eb]); have z0 := HG.out.cell (Nat.lt_of_lt_of_le (Nat.lt_of_lt_of_le hb hBw) HG0.out.size) (HG0.out.cell (Nat.lt_of_lt_of_le hb hBw) x0); have z1 := HG.out.cell (Nat.lt_of_lt_of_le (Nat.lt_of_lt_of_le hb2 hBw) HG0.out.size) (HG0.out.cell (Nat.lt_of_lt_of_le hb2 hBw) x1); have hwa : IntKind.i64.wrap ((a.length : Int) - ((j : Int) + 1)) = (a.length : Int) - ((j : Int) + 1) := IntWalk.i64_in _ (by omega); have hwb : IntKind.i64.wrap ((b.length : Int) - ((j : Int) + 1)) = (b.length : Int) - ((j : Int) + 1) := IntWalk.i64_in _ (by omega)
    have ha0 : (0 : Int) <= (a.length : Int) - ((j : Int) + 1) := by omega
    have ha1 : (a.length : Int) - ((j : Int) + 1) < (a.length : Int) := by omega
    have hb0 : (0 : Int) <= (b.length : Int) - ((j : Int) + 1) := by omega
    have hb1 : (b.length : Int) - ((j : Int) + 1) < (b.length : Int) := by omega
    have hta : ((a.length : Int) - ((j : Int) + 1)).toNat = a.length - 1 - j := by omega
    have htb : ((b.length : Int) - ((j : Int) + 1)).toNat = b.length - 1 - j := by omega
    have ha2 : j + 1 <= a.length := hla'; have hb3 : j + 1 <= b.length := hlb'; clear hv hv2 x0 x1 ea eb hx hy
    by_cases hxy : x = y
    ·have hne : ((x : Int) != (y : Int)) = false := by simp [hxy]
     have HN := Hyd (show cmpAt (a.map (·.1)).reverse (b.map (·.1)).reverse = cmpAt (((a.map (·.1)).reverse).drop (j + 1)) (((b.map (·.1)).reverse).drop (j + 1)) by
      rw [HC2.out]
      conv => lhs; unfold cmpAt
      rw [if_pos hxy])
     go_wp2_with fail; go_roundw
     case rel => exact ⟨j + 1, by omega, by omega, by go_num, HN.out, HG.out⟩
     case measure => simp [intOf]; omega
    ·have hne : ((x : Int) != (y : Int)) = true := by simp; omega
     have HN := Hyd (show R = decide (x < y) by
      rw [HR.out, HC2.out]; unfold cmpAt
      rw [if_neg hxy])
     go_wp2_with fail; go_ret; exact ⟨by rw [HN.out]; rfl, HG0.out.trans HG.out⟩
   ·have hi2 : ¬ (j : Int) + 1 <= (b.length : Int) := by omega
    have hjl : j = b.length := by omega
    have hne : ((a.length : Int) != (b.length : Int)) = true := by simp; omega
    have HN := Hyd (show R = decide (b.length < a.length) by
     have e := rev_end b; rw [<- hjl] at e; rw [HR.out, HC.out, rev_at a j hla', e]
     simp only [cmpAt]
     rw [eq_comm, decide_eq_true_eq]; omega)
    go_wp2_with fail; go_ret; exact ⟨by rw [HN.out]; rfl, HG0.out.trans HG.out⟩
  ·have hi1 : ¬ (j : Int) + 1 <= (a.length : Int) := by omega
   have hjl : j = a.length := by omega
   by_cases hab : a.length = b.length
   ·have hne : ((a.length : Int) != (b.length : Int)) = false := by simp [hab]
    have HN := Hyd (show R = cmpSt (a.map (·.2)) (b.map (·.2)) by
     rw [HR.out, HC.out, hjl, rev_end a, hab, rev_end b]
     rfl)
    have HAB := Hyd hab; clear hjl hab; go_wp2_with fail; clear y0 y1
    go_loopw [8] (fun u wq => ∃ j : Nat, (j = 0 \/ j < a.length) /\ u = .int .i64 ((j : Int) + 1) /\ cmpSt (a.map (·.2)) (b.map (·.2)) = cmpSt ((a.map (·.2)).drop j) ((b.map (·.2)).drop j) /\ Mem.Grw w0 wq) (fun u _ => a.length + 2 - (intOf u).toNat)
    case atStart => exact ⟨0, .inl rfl, rfl, rfl, HG.out⟩
    case round =>
     clear HG HC hi1 hla' hja hjb; obtain ⟨j, hj, rfl, hc, hg⟩ := hrel; have HG := Hyd hg; have HC := Hyd hc; have y0 := hg.cell hz0 ((Lib.cell_of_heap HX.out 0).trans rfl); have y1 := hg.cell hz0 ((Lib.cell_of_heap HX.out 1).trans rfl); have y2 := hg.cell hz1 ((Lib.cell_of_heap HY.out 0).trans rfl); have y3 := hg.cell hz1 ((Lib.cell_of_heap HY.out 1).trans rfl); clear hg hc
     by_cases hlt : j + 1 < a.length
     ·have hlt2 : j + 1 < b.length := by have := HAB.out; omega
      have hi1 : (j : Int) + 1 < (a.length : Int) := (by omega); have hi2 : (j : Int) + 1 < (b.length : Int) := (by omega); have hi0 : (0 : Int) <= (j : Int) + 1 := (by omega); have hj0 : (0 : Int) <= (j : Int) := (by omega); have hj1 : (j : Int) < (a.length : Int) := (by omega); have hj2 : (j : Int) < (b.length : Int) := (by omega); have hjn : ((j : Int) + 1).toNat = j + 1 := (by omega); have hjm : (j : Int) + 1 - 1 = (j : Int) := (by omega)
      have hwj : IntKind.i64.wrap ((j : Int) + 1 - 1) = (j : Int) := by rw [hjm]; exact IntWalk.i64_in _ (by omega)
      obtain ⟨g, o, c, hv, hb, x0⟩ := sl_at HMS.out hlt
      obtain ⟨rfl, rfl⟩ : sa = some ⟨g, o, none⟩ /\ sc = c := by simpa using hv
      obtain ⟨g', o', c', hv', _, x1⟩ := sl_at HMS.out (Nat.lt_of_succ_lt hlt)
      obtain ⟨⟨rfl, rfl⟩, rfl⟩ : (g = g' /\ o = o') /\ sc = c' := by simpa using hv'
      obtain ⟨h, p, d, hu, hb2, x2⟩ := sl_at HNS.out hlt2
      obtain ⟨rfl, rfl⟩ : ta = some ⟨h, p, none⟩ /\ tc = d := by simpa using hu
      obtain ⟨h', p', d', hu', _, x3⟩ := sl_at HNS.out (Nat.lt_of_succ_lt hlt2)
      obtain ⟨⟨rfl, rfl⟩, rfl⟩ : (h = h' /\ p = p') /\ tc = d' := by simpa using hu'
      have ea := st_at a j hlt; have eb := st_at b j hlt2; have ea1 := st_at1 a j hlt; have eb1 := st_at1 b j hlt2
      obtain ⟨x, hx⟩ : ∃ x, a[j].2 = x := ⟨_, rfl⟩
      obtain ⟨x', hx'⟩ : ∃ x, a[j + 1].2 = x := ⟨_, rfl⟩
      obtain ⟨y, hy⟩ : ∃ x, b[j].2 = x := ⟨_, rfl⟩
      obtain ⟨y', hy'⟩ : ∃ x, b[j + 1].2 = x := ⟨_, rfl⟩
      rw [hx, hx'] at ea; rw [hx'] at ea1; rw [hy, hy'] at eb; rw [hy'] at eb1; rw [hx'] at x0; rw [hx] at x1; rw [hy'] at x2; rw [hy] at x3
      have HC2 := Hyd (show cmpSt (a.map (·.2)) (b.map (·.2)) = if (x' == x) = (y' == y) then cmpSt ((a.map (·.2)).drop (j + 1)) ((b.map (·.2)).drop (j + 1)) else x' == x by
       rw [HC.out, ea, eb, ea1, eb1]
       conv => lhs; unfold cmpSt)
      have hgw := Nat.lt_of_lt_of_le (Nat.lt_of_lt_of_le hb hBw) HG0.out.size; have hhw := Nat.lt_of_lt_of_le (Nat.lt_of_lt_of_le hb2 hBw) HG0.out.size; have z0 := HG.out.cell hgw (HG0.out.cell (Nat.lt_of_lt_of_le hb hBw) x0); have z1 := HG.out.cell hgw (HG0.out.cell (Nat.lt_of_lt_of_le hb hBw) x1); have z2 := HG.out.cell hhw (HG0.out.cell (Nat.lt_of_lt_of_le hb2 hBw) x2); have z3 := HG.out.cell hhw (HG0.out.cell (Nat.lt_of_lt_of_le hb2 hBw) x3)
      have hqx : ((x' : Int) == (x : Int)) = (x' == x) := by
       by_cases he : x' = x
       ·simp [he]
       ·have h1 : (x' == x) = false := beq_eq_false_iff_ne.2 he; rw [h1, beq_eq_false_iff_ne]; omega
      have hqy : ((y' : Int) == (y : Int)) = (y' == y) := by
       by_cases he : y' = y
       ·simp [he]
       ·have h1 : (y' == y) = false := beq_eq_false_iff_ne.2 he; rw [h1, beq_eq_false_iff_ne]; omega
      obtain ⟨bx, hbx⟩ : ∃ bx, (x' == x) = bx := ⟨_, rfl⟩
      obtain ⟨by', hby⟩ : ∃ bx, (y' == y) = bx := ⟨_, rfl⟩
      rw [hbx] at HC2 hqx; rw [hby] at HC2 hqy
      clear hv hv' hu hu' x0 x1 x2 x3 ea eb ea1 eb1 hx hx' hy hy' hbx hby
      have hgr : g < wr.heap.size := Nat.lt_of_lt_of_le hgw HG.out.size; have hhr : h < wr.heap.size := Nat.lt_of_lt_of_le hhw HG.out.size; go_wp2_with fail
      go_quiet (fail)
      revert nq
      intro n1; go_wp2_with fail
      go_quiet (fail)
      have HGQ := Hyd (HG.out.drewN (n1 + nq))
      by_cases hxy : bx = by'
      ·subst hxy; rw [if_pos rfl] at HC2; have HRL := Hyd (show ∃ j' : Nat, (j' = 0 \/ j' < a.length) /\ Value.int .i64 ((j : Int) + 1 + 1) = .int .i64 ((j' : Int) + 1) /\ cmpSt (a.map (·.2)) (b.map (·.2)) = cmpSt ((a.map (·.2)).drop j') ((b.map (·.2)).drop j') /\ Mem.Grw w0 (wr.drewN (n1 + nq)) from ⟨j + 1, .inr hlt, by go_num, HC2.out, HGQ.out⟩)
       cases bx with
       | false =>
        go_wp2_with fail; go_roundw
        case rel => exact HRL.out
        case measure => simp [intOf]; omega
       | true =>
        go_wp2_with fail; go_roundw
        case rel => exact HRL.out
        case measure => simp [intOf]; omega
      ·rw [if_neg hxy] at HC2; have HE := Hyd (show R = bx by rw [HN.out]; exact HC2.out)
       cases bx with
       | false =>
        obtain rfl : by' = true := by cases by' <;> simp_all
        go_wp2_with fail; go_ret; exact ⟨by rw [HE.out]; rfl, HG0.out.trans HGQ.out⟩
       | true =>
        obtain rfl : by' = false := by cases by' <;> simp_all
        go_wp2_with fail; go_ret; exact ⟨by rw [HE.out]; rfl, HG0.out.trans HGQ.out⟩
     ·have hi1 : ¬ (j : Int) + 1 < (a.length : Int) := by omega
      have HE := Hyd (show R = false by
       rw [HN.out, HC.out]
       exact st_short _ _ (by rw [List.length_drop, List.length_map]; omega))
      go_wp2_with fail; go_ret; exact ⟨by rw [HE.out]; rfl, HG0.out.trans HG.out⟩
   ·have hne : ((a.length : Int) != (b.length : Int)) = true := by simp; omega
    have HN := Hyd (show R = decide (b.length < a.length) by
     have hlb' : j < b.length := by omega
     have e := rev_end a; rw [<- hjl] at e; rw [HR.out, HC.out, rev_at b j hlb', e]
     simp only [cmpAt]
     rw [eq_comm, decide_eq_false_iff_not]; omega)
    go_wp2_with fail; go_ret; exact ⟨by rw [HN.out]; rfl, HG0.out.trans HG.out⟩
theorem byte_app (a b : List UInt8) : (⟨a.toArray⟩ ++ ⟨b.toArray⟩ : ByteArray) = ⟨(a ++ b).toArray⟩ := by simp [ByteArray.mk_append_mk]
theorem itoa_le {n : Int} (h0 : -9223372036854775808 <= n) (h1 : n <= 9223372036854775807) : (Lib.itoa n).length <= 21 := Lib.itoa_length_le n h0 h1
theorem textTo_len (l : List Ev) (m : Mt) (hid : ∀ y ∈ l, -9223372036854775808 <= y.id /\ y.id <= 9223372036854775807) (hat : ∀ x ∈ m, x.1 < l.length) : ∀ n, n <= m.length -> (textTo l m n).length <= 23 * n
 | 0, _ => by simp [textTo]
 | n + 1, h => by
  have ih := textTo_len l m hid hat n (by omega)
  have hm : m.getD n (0, 0) ∈ m := by rw [List.getD_eq_getElem?_getD, List.getElem?_eq_getElem (by omega)]; exact List.getElem_mem _
  have hl := hat _ hm; have := hid _ (by rw [evAt_eq hl]; exact List.getElem_mem hl : evAt l (m.getD n (0, 0)).1 ∈ l); have h2 := itoa_le this.1 this.2; rw [textTo]
  simp only [List.length_append]
  have h3 : (if 0 < n /\ (m.getD n (0, 0)).2 = (m.getD (n - 1) (0, 0)).2 then [44] else ([] : List UInt8)).length <= 1 := by split <;> simp
  have h4 : (if 0 < n /\ (m.getD n (0, 0)).2 ≠ (m.getD (n - 1) (0, 0)).2 then [124] else ([] : List UInt8)).length <= 1 := by split <;> simp
  omega
theorem text21 (lv mv : Value) (l : List Ev) (m : Mt) (B : Nat) (w : World) (hl : Evs w B lv l) (hm : MtAt w B mv m) (hBw : B <= w.heap.size) (hlen : m.length <= 1000000) (hat : ∀ x ∈ m, x.1 < l.length) (hid : ∀ y ∈ l, -9223372036854775808 <= y.id /\ y.id <= 9223372036854775807) :
  Calls Tryz.prog 31 #[lv, mv] w fun e w' => e = .returned (.string ⟨(textTo l m m.length).toArray⟩) /\ Mem.Grw w w' := by
 have mixed : Tryz.prog.follows .mixedOrders = true := by kernel_rfl
 obtain ⟨va, vs, rfl, hma, hms⟩ := hm; obtain ⟨aa, ac, rfl⟩ := hma.shape; obtain ⟨sa, sc, rfl⟩ := hms.shape; obtain ⟨la, lc, rfl⟩ := Sl.shape hl; have HMA := Hyd hma; have HMS := Hyd hms; have HL := Hyd hl; have HAT := Hyd hat; have HID := Hyd hid; have HTL := Hyd (textTo_len l m hid hat)
 obtain ⟨w0, hw0⟩ : ∃ w0, w0 = w.alloc (.cells #[.slice aa m.length ac, .slice sa m.length sc] 84) := ⟨_, rfl⟩
 have HG0 := Hyd (show Mem.Grw w w0 by rw [hw0]; exact (Mem.Grw.refl _).alloc _); have HX := Hyd (show w0.heap[w.heap.size]? = some (.cells #[.slice aa m.length ac, .slice sa m.length sc] 84 (0, 0)) by rw [hw0]; exact heap_new rfl); have hz0 : w.heap.size < w0.heap.size := heap_lt HX.out; have HW0 := Hyd hw0; clear hma hms hl hw0 hat hid
 go_enter Tryz.func31, Tryz.ntmps31
 go_upto_region 1 with (fail)
 rw [<- HW0.out]; go_wp2_with fail
 go_loopw [5, 6] (fun s u wr => ∃ k, k <= m.length /\ u = .int .i64 (k : Nat) /\ s = .string ⟨(textTo l m k).toArray⟩ /\ Mem.Grw w0 wr) (fun _ u _ => m.length - (intOf u).toNat)
 case atStart => exact ⟨0, Nat.zero_le _, rfl, rfl, Mem.Grw.refl _⟩
 case round =>
  obtain ⟨k, hk, rfl, rfl, hg⟩ := hrel; have HG := Hyd hg; have y0 := hg.cell hz0 ((Lib.cell_of_heap HX.out 0).trans rfl); have y1 := hg.cell hz0 ((Lib.cell_of_heap HX.out 1).trans rfl)
  by_cases hlt : k < m.length
  ·have hki : (k : Int) < (m.length : Int) := by omega
   have hk0 : (0 : Int) <= (k : Int) := by omega
   obtain ⟨b, o, c, hv, hb, x0⟩ := sl_at HMS.out hlt
   obtain ⟨rfl, rfl⟩ : sa = some ⟨b, o, none⟩ /\ sc = c := by simpa using hv
   obtain ⟨b2, o2, c2, hv2, hb2, x1⟩ := sl_at HMA.out hlt
   obtain ⟨rfl, rfl⟩ : aa = some ⟨b2, o2, none⟩ /\ ac = c2 := by simpa using hv2
   have hai := HAT.out _ (List.getElem_mem hlt)
   obtain ⟨p, hp⟩ : ∃ p, m[k].1 = p := ⟨_, rfl⟩
   obtain ⟨s, hsd⟩ : ∃ s, m[k].2 = s := ⟨_, rfl⟩
   have hgk : m.getD k (0, 0) = (p, s) := by
    rw [List.getD_eq_getElem?_getD, List.getElem?_eq_getElem hlt, <- hp, <- hsd]; rfl
   have hpl : p < l.length := by rw [<- hp]; exact hai
   obtain ⟨b3, o3, c3, hv3, hb3, z0, _⟩ := Evs.at_ HL.out hpl
   obtain ⟨rfl, rfl⟩ : la = some ⟨b3, o3, none⟩ /\ lc = c3 := by simpa using hv3
   obtain ⟨n, hn⟩ : ∃ n, l[p].id = n := ⟨_, rfl⟩
   have hnb := HID.out _ (List.getElem_mem hpl)
   have hen : (evAt l p).id = n := by rw [evAt_eq hpl]; exact hn
   rw [hn] at z0 hnb; rw [hp] at x1; rw [hsd] at x0; have hbw : b < w0.heap.size := Nat.lt_of_lt_of_le (Nat.lt_of_lt_of_le hb hBw) HG0.out.size; have hbw2 : b2 < w0.heap.size := Nat.lt_of_lt_of_le (Nat.lt_of_lt_of_le hb2 hBw) HG0.out.size; have hbw3 : b3 < w0.heap.size := Nat.lt_of_lt_of_le (Nat.lt_of_lt_of_le hb3 hBw) HG0.out.size; have v0 := hg.cell hbw (HG0.out.cell (Nat.lt_of_lt_of_le hb hBw) x0); have v1 := hg.cell hbw2 (HG0.out.cell (Nat.lt_of_lt_of_le hb2 hBw) x1); have v2 := hg.cell hbw3 (HG0.out.cell (Nat.lt_of_lt_of_le hb3 hBw) z0)
   have hpi0 : (0 : Int) <= (p : Int) := by omega
   have hpi1 : (p : Int) < (l.length : Int) := by omega
   have hSl := HTL.out k (by omega); have hSl2 := HTL.out (k + 1) (by omega); have HTT := Hyd (show textTo l m (k + 1) = textTo l m k ++ ((if 0 < k /\ s = (m.getD (k - 1) (0, 0)).2 then [44] else []) ++ (if 0 < k /\ s ≠ (m.getD (k - 1) (0, 0)).2 then [124] else [])) ++ Lib.itoa n by rw [textTo, hgk, hen])
   obtain ⟨S, hS⟩ : ∃ S, textTo l m k = S := ⟨_, rfl⟩
   rw [hS] at hSl HTT ⊢; have HD := Hyd (fun w => WS.dec_any n hnb.1 hnb.2 w); have hil := itoa_le hnb.1 hnb.2; have hzw : w.heap.size < wr.heap.size := Nat.lt_of_lt_of_le hz0 HG.out.size; have hbr := Nat.lt_of_lt_of_le hbw HG.out.size; have hbr2 := Nat.lt_of_lt_of_le hbw2 HG.out.size; have hbr3 := Nat.lt_of_lt_of_le hbw3 HG.out.size
   by_cases hk1 : k = 0
   ·subst hk1; have HT2 := Hyd (show textTo l m 1 = S ++ Lib.itoa n by rw [HTT.out]; simp); rw [Nat.add_zero] at v0 v1; clear hv hv2 hv3 x0 x1 z0 hp hsd hgk hai hn hen hS hg HTT hSl2; go_wp2_with fail
    go_quiet (fail)
    revert nq
    intro n1; go_wp2_with fail
    go_quiet (fail)
    go_wp2_with fail; refine (HD.out _).mono ?_; rintro e w5 ⟨rfl, hg5⟩; have HGQ := Hyd (HG.out.trans ((Mem.Grw.refl wr).drewN (n1 + nq) |>.trans hg5)); clear hg5; go_wp2_with fail; go_roundw
    case rel => exact ⟨1, by omega, by go_num, by rw [HT2.out]; simp [byte_app], HGQ.out⟩
    case measure => simp [intOf]; omega
   ·have hki1 : (0 : Int) < (k : Int) := by omega
    have hk1n : 0 < k := by omega
    have hk1i : k - 1 < m.length := by omega
    obtain ⟨b', o', c', hv', _, x2⟩ := sl_at HMS.out hk1i
    obtain ⟨⟨rfl, rfl⟩, rfl⟩ : (b = b' /\ o = o') /\ sc = c' := by simpa using hv'
    have hgk1 : (m.getD (k - 1) (0, 0)).2 = m[k - 1].2 := by
     rw [List.getD_eq_getElem?_getD, List.getElem?_eq_getElem hk1i]; rfl
    rw [hgk1] at HTT
    obtain ⟨t, ht⟩ : ∃ t, m[k - 1].2 = t := ⟨_, rfl⟩
    rw [ht] at HTT x2; have v3 := hg.cell hbw (HG0.out.cell (Nat.lt_of_lt_of_le hb hBw) x2); have hwj : IntKind.i64.wrap ((k : Int) - 1) = (k : Int) - 1 := IntWalk.i64_in _ (by omega)
    have hj0 : (0 : Int) <= (k : Int) - 1 := by omega
    have hj1 : (k : Int) - 1 < (m.length : Int) := by omega
    have hjn : ((k : Int) - 1).toNat = k - 1 := by omega
    have hk1' : 1 <= k := hk1n
    by_cases hst : s = t
    ·have HT2 := Hyd (show textTo l m (k + 1) = (S ++ [44]) ++ Lib.itoa n by rw [HTT.out, if_pos ⟨hk1n, hst⟩, if_neg (fun h => h.2 hst)]; simp)
     have he1 : ((s : Int) == (t : Int)) = true := by simp [hst]
     have he2 : ((s : Int) != (t : Int)) = false := by simp [hst]
     clear hv hv2 hv3 hv' x0 x1 x2 z0 hp hsd hgk hgk1 ht hai hn hen hS hg HTT hSl2 hst; go_wp2_with fail
     go_quiet (fail)
     revert nq
     intro n1; go_wp2_with fail
     go_quiet (fail)
     go_wp2_with fail; refine (HD.out _).mono ?_; rintro e w5 ⟨rfl, hg5⟩; have HGQ := Hyd (HG.out.trans ((Mem.Grw.refl wr).drewN (n1 + nq) |>.trans hg5)); clear hg5; go_wp2_with fail; go_roundw
     case rel => exact ⟨k + 1, by omega, by go_num, by rw [HT2.out]; simp [byte_app], HGQ.out⟩
     case measure => simp [intOf]; omega
    ·have HT2 := Hyd (show textTo l m (k + 1) = (S ++ [124]) ++ Lib.itoa n by rw [HTT.out, if_neg (fun h => hst h.2), if_pos ⟨hk1n, hst⟩]; simp)
     have he1 : ((s : Int) == (t : Int)) = false := by simp; omega
     have he2 : ((s : Int) != (t : Int)) = true := by simp; omega
     clear hv hv2 hv3 hv' x0 x1 x2 z0 hp hsd hgk hgk1 ht hai hn hen hS hg HTT hSl2 hst; go_wp2_with fail
     go_quiet (fail)
     revert nq
     intro n1; go_wp2_with fail
     go_quiet (fail)
     go_wp2_with fail; refine (HD.out _).mono ?_; rintro e w5 ⟨rfl, hg5⟩; have HGQ := Hyd (HG.out.trans ((Mem.Grw.refl wr).drewN (n1 + nq) |>.trans hg5)); clear hg5; go_wp2_with fail; go_roundw
     case rel => exact ⟨k + 1, by omega, by go_num, by rw [HT2.out]; simp [byte_app], HGQ.out⟩
     case measure => simp [intOf]; omega
  ·obtain rfl : k = m.length := by omega
   clear hg; go_wp2_with fail; go_ret; exact ⟨rfl, HG0.out.trans HG.out⟩
end Go.Proofs.YtcojnojdgigmdaaGreatDoor.WR
