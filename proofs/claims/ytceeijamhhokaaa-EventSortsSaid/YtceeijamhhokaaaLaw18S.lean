/- The walk of EventSorts: every events are brought in the document's order, in a new list. -/
import Derived.Test.YtceeijamhhokaaaLaw18B
import Derived.Test.YtceeijamhhokaaaReg
import Derived.Test.YtceeijamhhokaaaSrt18A
namespace Go.Proofs.Ytceeijamhhokaaa.L18
open Go.RowKit Go.Proofs.Ytceeijamhhokaaa Go.Proofs.Ytceeijamhhokaaa.Mem Go.Proofs.Ytceeijamhhokaaa.PE Go.Proofs.Ytceeijamhhokaaa.ST

theorem info18R : (Try.prog.info? 28).map (fun i => (i.zero, i.size, i.bytes)) = some (some (.agg #[.int .i64 0, .int .i64 0, .int .u8 0, .int .i64 0]), 4, 32) := by kernel_rfl

theorem load_struct (w : World) (g : Nat) (c0 c1 c2 c3 : Value) (h : w.heap[g]? = some (.cells #[c0, c1, c2, c3] 26 (0, 0))) :
    (Instr.loadAt 26 (.pointer (some ⟨g, 0, none⟩))).run Try.prog w = .ok (.agg #[c0, c1, c2, c3]) w := by
  have e0 : w.cell? ⟨g, 0, none⟩ = some c0 := by rw [Lib.cell_of_heap h]; rfl
  have e1 : w.cell? ⟨g, 1, none⟩ = some c1 := by rw [Lib.cell_of_heap h]; rfl
  have e2 : w.cell? ⟨g, 2, none⟩ = some c2 := by rw [Lib.cell_of_heap h]; rfl
  have e3 : w.cell? ⟨g, 3, none⟩ = some c3 := by rw [Lib.cell_of_heap h]; rfl
  go_simp

theorem build_p (w : World) (e : Ev) : (Instr.buildSlice 23 1 #[(0, WE.evV e)]).run Try.prog w = .ok (.slice (some ⟨w.heap.size, 0, none⟩) 1 1) (w.alloc (.cells (encE e).toArray 27)) := by
  unfold WE.evV encE
  go_simp
theorem build_r (w : World) (e : Ev) : (Instr.buildSlice 24 1 #[(0, WE.evV e)]).run Try.prog w = .ok (.slice (some ⟨w.heap.size, 0, none⟩) 1 1) (w.alloc (.cells (encE e).toArray 28)) := by
  unfold WE.evV encE
  go_simp

theorem Evs.take {w : World} {B : Nat} {A : Option Addr} {c : Nat} {l : List Ev} (h : Evs w B (.slice A l.length c) l) (n : Nat) (hn : n ≤ l.length) : Evs w B (.slice A n c) (l.take n) := by
  obtain ⟨h1, A', c', e, hc, hr⟩ := h
  injection e with e1 _ e3
  subst e1 e3
  have hl : (l.take n).length = n := by rw [List.length_take]; omega
  refine ⟨by rw [cellsOf_length encE_len], A, c, by rw [hl], by omega, fun h0 => ?_⟩
  rw [hl] at h0
  obtain ⟨b, o, e, hb, hx⟩ := hr (by omega)
  refine ⟨b, o, e, hb, fun j u hu => hx j u ?_⟩
  have e2 : cellsOf encE l = cellsOf encE (l.take n) ++ cellsOf encE (l.drop n) := by
    unfold cellsOf
    rw [← List.flatMap_append, List.take_append_drop]
  have hj := (List.getElem?_eq_some_iff.1 hu).1
  rw [e2, List.getElem?_append_left hj]
  exact hu
/-- What the second loop leaves of memory. -/
structure Zer (w5 : World) (gm k : Nat) (wr : World) : Prop where
  cell : ∀ p : Addr, p.spot = none → (p.block ≠ gm ∨ k * 4 ≤ p.off) → wr.cell? p = w5.cell? p
  fr : ∀ p : Addr, wr.frozen? p = w5.frozen? p
theorem Zer.step {w5 w7 : World} {gm j : Nat} (h : Zer w5 gm j w7) :
    Zer w5 gm (j + 1) ((((w7.setCell ⟨gm, j * 4, none⟩ (.int .i64 0)).setCell ⟨gm, j * 4 + 1, none⟩ (.int .i64 0)).setCell ⟨gm, j * 4 + 2, none⟩ (.int .u8 0)).setCell ⟨gm, j * 4 + 3, none⟩ (.int .i64 0)) := by
  refine ⟨fun p h1 h2 => ?_, fun p => ?_⟩
  · obtain ⟨b, o, s⟩ := p
    simp only at h1 h2
    subst h1
    have ne : ∀ t, t < 4 → (⟨gm, j * 4 + t, none⟩ : Addr) ≠ ⟨b, o, none⟩ := by
      intro t ht e
      injection e with e1 e2 _
      omega
    rw [World.cell?_setCell_other _ _ _ _ (ne 3 (by omega)), World.cell?_setCell_other _ _ _ _ (ne 2 (by omega)), World.cell?_setCell_other _ _ _ _ (ne 1 (by omega)), World.cell?_setCell_other _ _ _ _ (show (⟨gm, j * 4, none⟩ : Addr) ≠ ⟨b, o, none⟩ from ne 0 (by omega))]
    exact h.cell _ rfl (by
      show b ≠ gm ∨ j * 4 ≤ o
      rcases h2 with h2 | h2
      · exact .inl h2
      · exact .inr (by omega))
  · rw [World.frozen?_setCell, World.frozen?_setCell, World.frozen?_setCell, World.frozen?_setCell]
    exact h.fr p
set_option maxRecDepth 100000 in
set_option maxHeartbeats 6400000 in
theorem sorts_any (v : Value) (l : List Ev) (W : World) (hv : Evs W W.heap.size v l) (hf : ∀ x ∈ l, x.fits) :
    Calls Try.prog 5 #[v] W fun e w' => e = .returned (.bool true) ∧ Below W.heap.size W w' := by
  have mixed : Try.prog.follows .mixedOrders = true := by kernel_rfl
  obtain ⟨i0, hi, hz0, hz1, hz2⟩ := info_parts infoL
  obtain ⟨i1, hj, hy0, hy1, hy2⟩ := info_parts info18R
  obtain ⟨_, A, c, rfl, hlc, _⟩ := id hv
  obtain ⟨n, hn⟩ : ∃ n, min l.length 150 = n := ⟨_, rfl⟩
  have hni : min (l.length : Int) 150 = (n : Int) := by omega
  have hn1 : n ≤ l.length := by omega
  have hn150 : n ≤ 150 := by omega
  have hnc : n ≤ c := by omega
  have hL0 : Evs W W.heap.size (.slice A n c) (l.take n) := Evs.take hv n hn1
  have hLf : ∀ x ∈ l.take n, x.fits := fun x hx => hf x (List.mem_of_mem_take hx)
  have hLl : (l.take n).length = n := by rw [List.length_take]; omega
  obtain ⟨L, hL⟩ : ∃ L, l.take n = L := ⟨_, rfl⟩
  rw [hL] at hL0 hLf hLl
  have HL := Lib.hid hLl
  have Hv := Lib.hid hL0; have Hf := Lib.hid hLf
  clear hv hf hL0 hLf hL hLl hn
  go_enter Try.func5, Try.ntmps5
  go_wp2_with fail
  go_loopw [3, 4, 18] (fun va vb i wr => ∃ k : Nat, k ≤ n ∧ i = .int .i64 k ∧ wr.ownsRow W.heap.size 27 4 va k (cellsOf encE (L.take k)) ∧ wr.ownsRow W.heap.size 28 4 vb k (cellsOf encE (L.take k)) ∧ Below W.heap.size W wr) (fun _ _ i _ => n - (intOf i).toNat)
  case atStart => exact ⟨0, by omega, rfl, World.ownsRow_nil _ _ _ _, World.ownsRow_nil _ _ _ _, Below.refl _ _⟩
  case round =>
    obtain ⟨k, hk, rfl, hoa, hob, hb⟩ := hrel
    by_cases hltn : k < n
    · have hlt : k < L.length := by rw [HL.out]; exact hltn
      obtain ⟨b, o, c', hc', hbl, g0, g1, g2, g3⟩ := Evs.at_ (i := k) (show Evs W W.heap.size (.slice A L.length c) L by rw [HL.out]; exact Hv.out) hlt
      rw [HL.out] at hc'
      obtain ⟨rfl, rfl⟩ : A = some ⟨b, o, none⟩ ∧ c = c' := by simpa using hc'
      clear hc'
      have hc0 := (hb.cell (p := ⟨b, o + k * 4, none⟩) hbl).trans g0
      have hc1 := (hb.cell (p := ⟨b, o + k * 4 + 1, none⟩) hbl).trans g1
      have hc2 := (hb.cell (p := ⟨b, o + k * 4 + 2, none⟩) hbl).trans g2
      have hc3 := (hb.cell (p := ⟨b, o + k * 4 + 3, none⟩) hbl).trans g3
      clear g0 g1 g2 g3
      have Hoa := Lib.hid hoa; have Hob := Lib.hid hob
      clear hoa hob
      have hbk := hb.size
      go_wp2_with fail
      refine Reg.two_rows (W := W) (h := 8) (t := 2) (known := [(0, 22, u3), (1, 23, WE.evV L[k]), (4, 26, u4), (5, 27, WE.evV L[k])])
        (boxes := [(wr.heap.size, #[.int .i64 L[k].id, .int .i64 L[k].time, .int .u8 L[k].kind, .int .i64 L[k].val], 26)])
        (A := { ib := 2, ip := 3, sb := 24, sp := 25, base := W.heap.size, e := 27, sz := 4, v := u3, n := k, xs := cellsOf encE (L.take k), news := encE L[k] })
        (B := { ib := 6, ip := 7, sb := 28, sp := 29, base := W.heap.size, e := 28, sz := 4, v := u4, n := k, xs := cellsOf encE (L.take k), news := encE L[k] })
        (srcA := 22) (srcB := 26) (jsA := 0) (jsB := 4) (tA := 23) (tB := 24) (iA := i0) (iB := i1) (zA := .agg #[.int .i64 0, .int .i64 0, .int .u8 0, .int .i64 0]) (zB := .agg #[.int .i64 0, .int .i64 0, .int .u8 0, .int .i64 0]) (bA := 32) (bB := 32)
        (by kernel_rfl) rfl (by kernel_rfl) (by kernel_rfl) (by kernel_rfl) (show (27 : TypeId) ≠ 28 by decide) (show [0, 1, 4, 5, 2, 3, 6, 7].Nodup by decide) (show ∀ i, i < 8 → i ∈ [0, 1, 4, 5, 2, 3, 6, 7] by decide) (show [22, 23, 26, 27, 24, 25, 28, 29].Nodup by decide) (show ∀ s ∈ [22, 23, 26, 27, 24, 25, 28, 29], s < 78 by decide) (show ∀ i ∈ [0, 1, 4, 5, 2, 3, 6, 7], i < 8 by decide)
        ?_ ?_ ?_ (hb.alloc hb.size _) ?_ (Hoa.out.alloc _) (Hob.out.alloc _) ?_
      · intro i s x hm
        simp only [List.mem_cons, List.not_mem_nil, or_false, Prod.mk.injEq] at hm
        rcases hm with ⟨rfl, rfl, rfl⟩ | ⟨rfl, rfl, rfl⟩ | ⟨rfl, rfl, rfl⟩ | ⟨rfl, rfl, rfl⟩
        · refine ⟨_, rfl, rfl, rfl, fun a w hs _ => ?_⟩
          have h5 := hs.out 3 (show 3 ∉ [22, 23, 26, 27, 24, 25, 28, 29] by decide)
          exact Reg.run_move (Reg.eval_tmp (h5.trans rfl))
        · refine ⟨_, rfl, rfl, rfl, fun a w hs _ => ?_⟩
          have h8 := hs.out 6 (show 6 ∉ [22, 23, 26, 27, 24, 25, 28, 29] by decide)
          exact Reg.run_load (Reg.eval_tmp (h8.trans rfl)) (load_struct w _ _ _ _ _ (hs.boxes _ _ _ (List.mem_singleton.2 rfl)))
        · refine ⟨_, rfl, rfl, rfl, fun a w hs _ => ?_⟩
          have h6 := hs.out 4 (show 4 ∉ [22, 23, 26, 27, 24, 25, 28, 29] by decide)
          exact Reg.run_move (Reg.eval_tmp (h6.trans rfl))
        · refine ⟨_, rfl, rfl, rfl, fun a w hs _ => ?_⟩
          have h8 := hs.out 6 (show 6 ∉ [22, 23, 26, 27, 24, 25, 28, 29] by decide)
          exact Reg.run_load (Reg.eval_tmp (h8.trans rfl)) (load_struct w _ _ _ _ _ (hs.boxes _ _ _ (List.mem_singleton.2 rfl)))
      · refine { base := rfl, build := ⟨_, rfl, rfl, rfl, fun a w hs hkn => ?_⟩, app := ⟨_, rfl, rfl, rfl, rfl, Reg.waits_of (by kernel_rfl), Reg.waits_of (by kernel_rfl)⟩, src := by simp, ht := Try.underlying23, hi := hi, hz := hz0, hsize := hz1, hby := hz2, hzs := rfl, hsz := (show 0 < 4 by decide), hnl := rfl, h1 := encE_one _, h63 := (show k + 1 ≤ maxLen by unfold maxLen; omega), hbytes := (show (k + 1) * 32 ≤ 140737488355328 by omega), hbox := ?_ }
        · have h1 := hkn 1 23 (WE.evV L[k]) (by simp) (Reg.waits_of (by kernel_rfl))
          exact Reg.run_build (Reg.eval_tmp h1) (build_p w L[k])
        · intro g cs t hm
          simp only [List.mem_cons, List.not_mem_nil, or_false, Prod.mk.injEq] at hm
          rw [hm.2.2]
          exact (show (27 : TypeId) ≠ 26 by decide)
      · refine { base := rfl, build := ⟨_, rfl, rfl, rfl, fun a w hs hkn => ?_⟩, app := ⟨_, rfl, rfl, rfl, rfl, Reg.waits_of (by kernel_rfl), Reg.waits_of (by kernel_rfl)⟩, src := by simp, ht := Try.underlying24, hi := hj, hz := hy0, hsize := hy1, hby := hy2, hzs := rfl, hsz := (show 0 < 4 by decide), hnl := rfl, h1 := encE_one _, h63 := (show k + 1 ≤ maxLen by unfold maxLen; omega), hbytes := (show (k + 1) * 32 ≤ 140737488355328 by omega), hbox := ?_ }
        · have h1 := hkn 5 27 (WE.evV L[k]) (by simp) (Reg.waits_of (by kernel_rfl))
          exact Reg.run_build (Reg.eval_tmp h1) (build_r w L[k])
        · intro g cs t hm
          simp only [List.mem_cons, List.not_mem_nil, or_false, Prod.mk.injEq] at hm
          rw [hm.2.2]
          exact (show (28 : TypeId) ≠ 26 by decide)
      · intro g cs t hm
        simp only [List.mem_cons, List.not_mem_nil, or_false, Prod.mk.injEq] at hm
        rw [hm.1, hm.2.1, hm.2.2]
        exact heap_alloc_new wr _
      · intro w x1 g1 c1 x2 g2 c2 hbw _ hA hB
        have HA := Lib.hid hA; have HB := Lib.hid hB
        clear hA hB
        simp only [Reg.puts, List.map_cons, List.map_nil, List.cons_append, List.nil_append]
        go_wp2_with fail
        go_roundw
        case rel =>
          have hl' : cellsOf encE (L.take (k + 1)) = cellsOf encE (L.take k) ++ encE L[k] := by rw [List.take_succ_eq_append_getElem hlt, cellsOf_snoc]
          exact ⟨k + 1, by omega, by go_num, by rw [hl']; exact HA.out, by rw [hl']; exact HB.out, hbw⟩
        case measure => simp [intOf]; omega
    · obtain rfl : k = n := by omega
      have hLk : L.take k = L := List.take_of_length_le (by rw [HL.out]; exact Nat.le_refl _)
      rw [hLk] at hoa hob
      obtain ⟨aa, ac, rfl⟩ := (Sl.of_own hoa).shape
      obtain ⟨ba, bc, rfl⟩ := (Sl.of_own hob).shape
      have hlit : aa = none ∨ ∃ b o, aa = some ⟨b, o, none⟩ := by
        rcases hoa.2 with ⟨e, _⟩ | ⟨g, cap, cur, e, _⟩
        · injection e with e; exact .inl e
        · injection e with e; exact .inr ⟨g, 0, e⟩
      have hea := Sl.of_own hoa
      have heb := Sl.of_own hob
      have hbz := hb.size
      have HEA := Lib.hid hea; have HEB := Lib.hid heb
      have hsA := sort_big aa ac L wr wr.heap.size (by rw [Evs, HL.out]; exact hea) hlit (by rw [HL.out]; omega)
      rw [HL.out] at hsA
      have HSA := Lib.hid hsA
      have HB0 := Lib.hid hb
      clear hoa hob hsA hea heb hlit hLk hb
      go_wp2_with fail
      refine HSA.out.mono ?_
      rintro e w1 ⟨vm, ls, rfl, hst, hsr, hom, hb1⟩
      obtain ⟨ma, mc, rfl⟩ := (Sl.of_own hom).shape
      have hb1z := hb1.size
      have hsB := sort18 (.slice ba k bc) L w1 (by rw [Evs, HL.out]; exact (Sl.below HEB.out hb1).more hb1z) (by rw [HL.out]; omega)
      have HSB := Lib.hid hsB
      have HST := Lib.hid hst; have HSR := Lib.hid hsr; have HOM := Lib.hid hom; have HB1 := Lib.hid hb1
      clear hst hsr hom hb1 hsB
      go_wp2_with fail
      refine HSB.out.mono ?_
      rintro e w2 ⟨vn, ls2, rfl, hst2, hsr2, hon, hb2⟩
      have hll : ls.length = k := by rw [HST.out.perm.length_eq, HL.out]
      obtain rfl : ls2 = ls := Stab.uniq HSR.out hsr2 (HST.out.symm.trans hst2)
      rw [hll] at hon
      obtain ⟨na, nc, rfl⟩ := (Sl.of_own hon).shape
      have HLL := Lib.hid hll
      have HON := Lib.hid hon
      have hb2z := hb2.size
      have HB2 := Lib.hid (HB0.out.trans ((HB1.out.trans (hb2.mono hb1z)).mono hbz))
      have HOM2 := Lib.hid (own_below HOM.out hb2)
      have HEA2 := Lib.hid (((Sl.below HEA.out HB1.out).below (hb2.mono hb1z)))
      clear hst2 hsr2 hon hb2 hll
      go_wp2_with fail
      refine (wakes_any w2).mono ?_
      rintro e w5 ⟨rfl, hb3⟩
      have hb3z := hb3.size
      have HB5 := Lib.hid (HB2.out.trans (hb3.mono HB2.out.size))
      have HOM5 := Lib.hid (own_below HOM2.out hb3)
      have HON5 := Lib.hid (own_below HON.out hb3)
      have HEA5 := Lib.hid (Sl.below HEA2.out (hb3.mono (by omega)))
      clear hb3
      go_wp2_with fail
      obtain ⟨gm, hgm1, hgm2, hgm3⟩ : ∃ gm, (0 < k → ma = some ⟨gm, 0, none⟩) ∧ wr.heap.size ≤ gm ∧ (0 < k → gm < w1.heap.size) := by
        rcases HOM.out.2 with ⟨e, e0⟩ | ⟨g, cap, cur, e, hg, hh, _⟩
        · exact ⟨wr.heap.size, fun h => by omega, Nat.le_refl _, fun h => by omega⟩
        · injection e with e
          exact ⟨g, fun _ => e, hg, fun _ => heap_lt hh⟩
      have HGM := Lib.hid hgm1
      have HZ0 := Lib.hid (show Zer w5 gm 0 w5 from ⟨fun _ _ _ => rfl, fun _ => rfl⟩)
      clear hgm1
      obtain ⟨w0, rfl⟩ : ∃ w' : World, w' = wr := ⟨_, rfl⟩
      go_loopw [46] (fun i w6 => ∃ j : Nat, j ≤ k ∧ i = .int .i64 j ∧ Zer w5 gm j w6 ∧ Below W.heap.size W w6) (fun i _ => k - (intOf i).toNat)
      case atStart => exact ⟨0, by omega, rfl, HZ0.out, HB5.out⟩
      case round =>
        clear HZ0
        obtain ⟨w6, rfl⟩ : ∃ w' : World, w' = wr := ⟨_, rfl⟩
        obtain ⟨j, hjk, rfl, hz, hb6⟩ := hrel
        have HZ := Lib.hid hz; have HB6 := Lib.hid hb6
        by_cases hjl : j < k
        · have hk0 : 0 < k := by omega
          have hma := HGM.out hk0
          have hgl := hgm3 hk0
          subst hma
          have hjls : j < ls2.length := by rw [HLL.out]; exact hjl
          have RR : RW w5 gm ls2.toArray := ⟨encE_len, encE_one, holds_own (n := k) HOM5.out, by omega⟩
          obtain ⟨p0, p1, p2, p3⟩ := SW.at_ (SWK.start RR.hH) RR rfl (i := j) (by simpa using hjls)
          obtain ⟨f0, f1, f2, f3⟩ := SW.fr (SWK.start RR.hH) RR rfl (i := j) (by simpa using hjls)
          obtain ⟨x, hx⟩ : ∃ x, ls2[j] = x := ⟨_, rfl⟩
          have hx2 : ls2.toArray[j]! = x := by rw [getElem!_pos _ _ (by simpa using hjls)]; simpa using hx
          rw [hx2] at p0 p1 p2 p3
          obtain ⟨gn, cn, hcn, _, q0, q1, q2, q3⟩ := evs_at18 HON5.out HLL.out hjls
          rw [hx] at q0 q1 q2 q3
          obtain ⟨rfl, rfl⟩ : na = some ⟨gn, 0, none⟩ ∧ nc = cn := by simpa using hcn
          have hgn : w1.heap.size ≤ gn := (HON5.out.lt gn rfl).1
          have c0 := (hz.cell ⟨gm, j * 4, none⟩ rfl (.inr (Nat.le_refl _))).trans p0
          have c1 := (hz.cell ⟨gm, j * 4 + 1, none⟩ rfl (.inr (by show j * 4 ≤ j * 4 + 1; omega))).trans p1
          have c2 := (hz.cell ⟨gm, j * 4 + 2, none⟩ rfl (.inr (by show j * 4 ≤ j * 4 + 2; omega))).trans p2
          have c3 := (hz.cell ⟨gm, j * 4 + 3, none⟩ rfl (.inr (by show j * 4 ≤ j * 4 + 3; omega))).trans p3
          have d0 := (hz.cell ⟨gn, j * 4, none⟩ rfl (.inl (by show gn ≠ gm; omega))).trans q0
          have d1 := (hz.cell ⟨gn, j * 4 + 1, none⟩ rfl (.inl (by show gn ≠ gm; omega))).trans q1
          have d2 := (hz.cell ⟨gn, j * 4 + 2, none⟩ rfl (.inl (by show gn ≠ gm; omega))).trans q2
          have d3 := (hz.cell ⟨gn, j * 4 + 3, none⟩ rfl (.inl (by show gn ≠ gm; omega))).trans q3
          have F0 := Lib.hid ((hz.fr ⟨gm, j * 4, none⟩).trans f0); have F1 := Lib.hid ((hz.fr ⟨gm, j * 4 + 1, none⟩).trans f1)
          have F2 := Lib.hid ((hz.fr ⟨gm, j * 4 + 2, none⟩).trans f2); have F3 := Lib.hid ((hz.fr ⟨gm, j * 4 + 3, none⟩).trans f3)
          have C0 := Lib.hid c0; have C1 := Lib.hid c1; have C2 := Lib.hid c2; have C3 := Lib.hid c3
          have hji : (j : Int) < (k : Int) := by omega
          have hj0 : (0 : Int) ≤ (j : Int) := by omega
          clear p0 p1 p2 p3 q0 q1 q2 q3 f0 f1 f2 f3 hx hx2 hcn hz hb6 RR
          go_wp2_with fail
          go_quiet (fail)
          clear c0 c1 c2 c3 d0 d1 d2 d3
          have HZ7 := Lib.hid (show Zer w5 gm j (w6.drewN nq) from ⟨fun p h1 h2 => HZ.out.cell p h1 h2, fun p => HZ.out.fr p⟩)
          have HB7 := Lib.hid (below_dN HB6.out nq)
          have c0 : (w6.drewN nq).cell? ⟨gm, j * 4, none⟩ = some (.int .i64 x.id) := C0.out
          have c1 : (w6.drewN nq).cell? ⟨gm, j * 4 + 1, none⟩ = some (.int .i64 x.time) := C1.out
          have c2 : (w6.drewN nq).cell? ⟨gm, j * 4 + 2, none⟩ = some (.int .u8 x.kind) := C2.out
          have c3 : (w6.drewN nq).cell? ⟨gm, j * 4 + 3, none⟩ = some (.int .i64 x.val) := C3.out
          have f0 : (w6.drewN nq).frozen? ⟨gm, j * 4, none⟩ = false := F0.out
          have f1 : (w6.drewN nq).frozen? ⟨gm, j * 4 + 1, none⟩ = false := F1.out
          have f2 : (w6.drewN nq).frozen? ⟨gm, j * 4 + 2, none⟩ = false := F2.out
          have f3 : (w6.drewN nq).frozen? ⟨gm, j * 4 + 3, none⟩ = false := F3.out
          generalize w6.drewN nq = w7 at *
          go_wp2_with fail
          go_roundw
          case rel => exact ⟨j + 1, by omega, by go_num, HZ7.out.step, (((HB7.out.setCell (by show W.heap.size ≤ gm; omega) _).setCell (by show W.heap.size ≤ gm; omega) _).setCell (by show W.heap.size ≤ gm; omega) _).setCell (by show W.heap.size ≤ gm; omega) _⟩
          case measure => simp [intOf]; omega
        · obtain rfl : j = k := by omega
          have HEA6 := Lib.hid (show Evs w6 w0.heap.size (.slice aa j ac) L by
            rw [Evs, HL.out]
            obtain ⟨h1, A', c', e, hc, hr⟩ := HEA5.out
            refine ⟨h1, A', c', e, hc, fun hn => ?_⟩
            obtain ⟨b, o, e2, hb, hx⟩ := hr hn
            exact ⟨b, o, e2, hb, fun t u hu => (hz.cell ⟨b, o + t, none⟩ rfl (.inl (by show b ≠ gm; omega))).trans (hx t u hu)⟩)
          clear hz hb6 HZ HGM
          obtain ⟨w8, rfl⟩ : ∃ w' : World, w' = w6 := ⟨_, rfl⟩
          go_wp2_with fail
          go_loopw [65] (fun i wr => ∃ t d : Nat, t ≤ j ∧ i = .int .i64 t ∧ wr = w8.drewN d) (fun i _ => j - (intOf i).toNat)
          case atStart => exact ⟨0, 0, by omega, rfl, rfl⟩
          case round =>
            obtain ⟨t, d, ht, rfl, rfl⟩ := hrel
            by_cases htl : t < j
            · have htL : t < L.length := by rw [HL.out]; exact htl
              obtain ⟨b1, o1, c1, hc1, _, q0, q1, q2, q3⟩ := Evs.at_ (i := t) (show Evs w8 w0.heap.size (.slice aa L.length ac) L by rw [HL.out]; exact HEA6.out) htL
              obtain ⟨b2, o2, c2, hc2, hb2, g0, g1, g2, g3⟩ := Evs.at_ (i := t) (show Evs W W.heap.size (.slice A L.length c) L by rw [HL.out]; exact Hv.out) htL
              rw [HL.out] at hc1 hc2
              obtain ⟨rfl, rfl⟩ : aa = some ⟨b1, o1, none⟩ ∧ ac = c1 := by simpa using hc1
              obtain ⟨rfl, rfl⟩ : A = some ⟨b2, o2, none⟩ ∧ c = c2 := by simpa using hc2
              have p0 := (HB6.out.cell (p := ⟨b2, o2 + t * 4, none⟩) hb2).trans g0
              have p1 := (HB6.out.cell (p := ⟨b2, o2 + t * 4 + 1, none⟩) hb2).trans g1
              have p2 := (HB6.out.cell (p := ⟨b2, o2 + t * 4 + 2, none⟩) hb2).trans g2
              have p3 := (HB6.out.cell (p := ⟨b2, o2 + t * 4 + 3, none⟩) hb2).trans g3
              clear hc1 hc2 g0 g1 g2 g3
              have hti : (t : Int) < (j : Int) := by omega
              have ht0 : (0 : Int) ≤ (t : Int) := by omega
              go_wp2_with fail
              go_quiet (fail)
              go_wp2_with fail
              go_roundw
              case rel => exact ⟨t + 1, d + nq, by omega, by go_num, rfl⟩
              case measure => simp [intOf]; omega
            · obtain rfl : t = j := by omega
              go_wp2_with fail
              go_ret
              exact ⟨rfl, below_dN HB6.out d⟩
end Go.Proofs.Ytceeijamhhokaaa.L18
