/- The walk of EventPuts: every events have the document's bytes, and every bytes the document's events, or its error. -/
import Derived.Test.YtceeijamhhokaaaLaw18B
import Derived.Test.YtceeijamhhokaaaReg
namespace Go.Proofs.Ytceeijamhhokaaa.L18
open Go.RowKit Go.Proofs.Ytceeijamhhokaaa Go.Proofs.Ytceeijamhhokaaa.Mem Go.Proofs.Ytceeijamhhokaaa.PE

theorem info18R : (Try.prog.info? 28).map (fun i => (i.zero, i.size, i.bytes)) = some (some (.agg #[.int .i64 0, .int .i64 0, .int .u8 0, .int .i64 0]), 4, 32) := by kernel_rfl

theorem load_struct (w : World) (g : Nat) (c0 c1 c2 c3 : Value) (h : w.heap[g]? = some (.cells #[c0, c1, c2, c3] 26 (0, 0))) :
    (Instr.loadAt 26 (.pointer (some ⟨g, 0, none⟩))).run Try.prog w = .ok (.agg #[c0, c1, c2, c3]) w := by
  have e0 : w.cell? ⟨g, 0, none⟩ = some c0 := by rw [Lib.cell_of_heap h]; rfl
  have e1 : w.cell? ⟨g, 1, none⟩ = some c1 := by rw [Lib.cell_of_heap h]; rfl
  have e2 : w.cell? ⟨g, 2, none⟩ = some c2 := by rw [Lib.cell_of_heap h]; rfl
  have e3 : w.cell? ⟨g, 3, none⟩ = some c3 := by rw [Lib.cell_of_heap h]; rfl
  go_simp

theorem lst_len (s : ByteArray) : (lstOf (getEs s.data.toList s.size 0)).length ≤ s.size := by
  have hsz : s.data.toList.length = s.size := Array.length_toList
  cases h : getEs s.data.toList s.size 0 with
  | inl e => simp [lstOf]
  | inr l => have := (getEs_len (by omega) h).2.2; simp only [lstOf]; omega
theorem build_p (w : World) (e : Ev) : (Instr.buildSlice 23 1 #[(0, WE.evV e)]).run Try.prog w = .ok (.slice (some ⟨w.heap.size, 0, none⟩) 1 1) (w.alloc (.cells (encE e).toArray 27)) := by
  unfold WE.evV encE
  go_simp
theorem build_r (w : World) (e : Ev) : (Instr.buildSlice 24 1 #[(0, WE.evV e)]).run Try.prog w = .ok (.slice (some ⟨w.heap.size, 0, none⟩) 1 1) (w.alloc (.cells (encE e).toArray 28)) := by
  unfold WE.evV encE
  go_simp

set_option maxRecDepth 100000 in
set_option maxHeartbeats 3200000 in
theorem puts_any (v : Value) (l : List Ev) (s : ByteArray) (W : World) (hv : Evs W W.heap.size v l) (hl : l.length ≤ 10000000) (hs : s.size ≤ 10000000) (hf : ∀ x ∈ l, x.fits) :
    Calls Try.prog 3 #[v, .string s] W fun e w' => e = .returned (.bool true) ∧ Below W.heap.size W w' := by
  obtain ⟨i0, hi, hz0, hz1, hz2⟩ := info_parts infoL
  obtain ⟨i1, hj, hy0, hy1, hy2⟩ := info_parts info18R
  obtain ⟨A, c, hvv⟩ := hv.shape
  subst hvv
  have Hv := Lib.hid hv; have Hf := Lib.hid hf
  clear hv hf
  go_enter Try.func3, Try.ntmps3
  go_wp2
  go_loopw [5, 6, 16] (fun va vb i wr => ∃ k : Nat, k ≤ l.length ∧ i = .int .i64 k ∧ wr.ownsRow W.heap.size 27 4 va k (cellsOf encE (l.take k)) ∧ wr.ownsRow W.heap.size 28 4 vb k (cellsOf encE (l.take k)) ∧ Below W.heap.size W wr) (fun _ _ i _ => l.length - (intOf i).toNat)
  case atStart => exact ⟨0, by omega, rfl, World.ownsRow_nil _ _ _ _, World.ownsRow_nil _ _ _ _, Below.refl _ _⟩
  case round =>
    obtain ⟨k, hk, rfl, hoa, hob, hb⟩ := hrel
    by_cases hlt : k < l.length
    · obtain ⟨b, o, c', hc', hbl, g0, g1, g2, g3⟩ := Hv.out.at_ hlt
      obtain ⟨rfl, rfl⟩ : A = some ⟨b, o, none⟩ ∧ c = c' := by simpa using hc'
      clear hc'
      have hc0 := (hb.cell (p := ⟨b, o + k * 4, none⟩) hbl).trans g0
      have hc1 := (hb.cell (p := ⟨b, o + k * 4 + 1, none⟩) hbl).trans g1
      have hc2 := (hb.cell (p := ⟨b, o + k * 4 + 2, none⟩) hbl).trans g2
      have hc3 := (hb.cell (p := ⟨b, o + k * 4 + 3, none⟩) hbl).trans g3
      clear g0 g1 g2 g3
      have Hoa := Lib.hid hoa; have Hob := Lib.hid hob
      clear hoa hob
      have hbk := hb.size
      go_wp2_with fail
      refine Reg.two_rows (W := W) (h := 8) (t := 2) (known := [(0, 20, u5), (1, 21, WE.evV l[k]), (4, 24, u6), (5, 25, WE.evV l[k])])
        (boxes := [(wr.heap.size, #[.int .i64 l[k].id, .int .i64 l[k].time, .int .u8 l[k].kind, .int .i64 l[k].val], 26)])
        (A := { ib := 2, ip := 3, sb := 22, sp := 23, base := W.heap.size, e := 27, sz := 4, v := u5, n := k, xs := cellsOf encE (l.take k), news := encE l[k] })
        (B := { ib := 6, ip := 7, sb := 26, sp := 27, base := W.heap.size, e := 28, sz := 4, v := u6, n := k, xs := cellsOf encE (l.take k), news := encE l[k] })
        (srcA := 20) (srcB := 24) (jsA := 0) (jsB := 4) (tA := 23) (tB := 24) (iA := i0) (iB := i1) (zA := .agg #[.int .i64 0, .int .i64 0, .int .u8 0, .int .i64 0]) (zB := .agg #[.int .i64 0, .int .i64 0, .int .u8 0, .int .i64 0]) (bA := 32) (bB := 32)
        (by kernel_rfl) rfl (by kernel_rfl) (by kernel_rfl) (by kernel_rfl) (show (27 : TypeId) ≠ 28 by decide) (show [0, 1, 4, 5, 2, 3, 6, 7].Nodup by decide) (show ∀ i, i < 8 → i ∈ [0, 1, 4, 5, 2, 3, 6, 7] by decide) (show [20, 21, 24, 25, 22, 23, 26, 27].Nodup by decide) (show ∀ s ∈ [20, 21, 24, 25, 22, 23, 26, 27], s < 75 by decide) (show ∀ i ∈ [0, 1, 4, 5, 2, 3, 6, 7], i < 8 by decide)
        ?_ ?_ ?_ (hb.alloc hb.size _) ?_ (Hoa.out.alloc _) (Hob.out.alloc _) ?_
      · intro i s x hm
        simp only [List.mem_cons, List.not_mem_nil, or_false, Prod.mk.injEq] at hm
        rcases hm with ⟨rfl, rfl, rfl⟩ | ⟨rfl, rfl, rfl⟩ | ⟨rfl, rfl, rfl⟩ | ⟨rfl, rfl, rfl⟩
        · refine ⟨_, rfl, rfl, rfl, fun a w hs _ => ?_⟩
          have h5 := hs.out 5 (show 5 ∉ [20, 21, 24, 25, 22, 23, 26, 27] by decide)
          exact Reg.run_move (Reg.eval_tmp (h5.trans rfl))
        · refine ⟨_, rfl, rfl, rfl, fun a w hs _ => ?_⟩
          have h8 := hs.out 8 (show 8 ∉ [20, 21, 24, 25, 22, 23, 26, 27] by decide)
          exact Reg.run_load (Reg.eval_tmp (h8.trans rfl)) (load_struct w _ _ _ _ _ (hs.boxes _ _ _ (List.mem_singleton.2 rfl)))
        · refine ⟨_, rfl, rfl, rfl, fun a w hs _ => ?_⟩
          have h6 := hs.out 6 (show 6 ∉ [20, 21, 24, 25, 22, 23, 26, 27] by decide)
          exact Reg.run_move (Reg.eval_tmp (h6.trans rfl))
        · refine ⟨_, rfl, rfl, rfl, fun a w hs _ => ?_⟩
          have h8 := hs.out 8 (show 8 ∉ [20, 21, 24, 25, 22, 23, 26, 27] by decide)
          exact Reg.run_load (Reg.eval_tmp (h8.trans rfl)) (load_struct w _ _ _ _ _ (hs.boxes _ _ _ (List.mem_singleton.2 rfl)))
      · refine { base := rfl, build := ⟨_, rfl, rfl, rfl, fun a w hs hkn => ?_⟩, app := ⟨_, rfl, rfl, rfl, rfl, Reg.waits_of (by kernel_rfl), Reg.waits_of (by kernel_rfl)⟩, src := by simp, ht := Try.underlying23, hi := hi, hz := hz0, hsize := hz1, hby := hz2, hzs := rfl, hsz := (show 0 < 4 by decide), hnl := rfl, h1 := encE_one _, h63 := (show k + 1 ≤ maxLen by unfold maxLen; omega), hbytes := (show (k + 1) * 32 ≤ 140737488355328 by omega), hbox := ?_ }
        · have h1 := hkn 1 21 (WE.evV l[k]) (by simp) (Reg.waits_of (by kernel_rfl))
          exact Reg.run_build (Reg.eval_tmp h1) (build_p w l[k])
        · intro g cs t hm
          simp only [List.mem_cons, List.not_mem_nil, or_false, Prod.mk.injEq] at hm
          rw [hm.2.2]
          exact (show (27 : TypeId) ≠ 26 by decide)
      · refine { base := rfl, build := ⟨_, rfl, rfl, rfl, fun a w hs hkn => ?_⟩, app := ⟨_, rfl, rfl, rfl, rfl, Reg.waits_of (by kernel_rfl), Reg.waits_of (by kernel_rfl)⟩, src := by simp, ht := Try.underlying24, hi := hj, hz := hy0, hsize := hy1, hby := hy2, hzs := rfl, hsz := (show 0 < 4 by decide), hnl := rfl, h1 := encE_one _, h63 := (show k + 1 ≤ maxLen by unfold maxLen; omega), hbytes := (show (k + 1) * 32 ≤ 140737488355328 by omega), hbox := ?_ }
        · have h1 := hkn 5 25 (WE.evV l[k]) (by simp) (Reg.waits_of (by kernel_rfl))
          exact Reg.run_build (Reg.eval_tmp h1) (build_r w l[k])
        · intro g cs t hm
          simp only [List.mem_cons, List.not_mem_nil, or_false, Prod.mk.injEq] at hm
          rw [hm.2.2]
          exact (show (28 : TypeId) ≠ 26 by decide)
      · intro g cs t hm
        simp only [List.mem_cons, List.not_mem_nil, or_false, Prod.mk.injEq] at hm
        rw [hm.1, hm.2.1, hm.2.2]
        exact heap_alloc_new wr _
      · intro w x1 g1 c1 x2 g2 c2 hbw _ hA hB
        have HA := Lib.hid hA; have HB := Lib.hid hB
        clear hA hB
        simp only [Reg.puts, List.map_cons, List.map_nil, List.cons_append, List.nil_append]
        go_wp2_with fail
        go_roundw
        case rel =>
          have hl' : cellsOf encE (l.take (k + 1)) = cellsOf encE (l.take k) ++ encE l[k] := by rw [take_snoc l k hlt, cellsOf_snoc]
          exact ⟨k + 1, by omega, by go_num, by rw [hl']; exact HA.out, by rw [hl']; exact HB.out, hbw⟩
        case measure => simp [intOf]; omega
    · obtain rfl : k = l.length := by omega
      rw [List.take_length] at hoa hob
      have Hoa := Lib.hid hoa; have Hob := Lib.hid hob
      clear hoa hob
      have hbz := hb.size
      have hg1 := WG.get_any s wr (by omega)
      have Hg1 := Lib.hid hg1
      clear hg1
      go_wp2_with fail
      refine Hg1.out.mono ?_
      rintro e w1 ⟨vm, rfl, hvm, hb1⟩
      have hbw1 : Below W.heap.size W w1 := hb.trans (hb1.mono hbz)
      have hbz1 := hbw1.size
      have hg2 := WG.rget_any s w1 (by omega)
      have Hg2 := Lib.hid hg2; have Hvm := Lib.hid hvm
      clear hg2 hvm
      go_wp2_with fail
      refine Hg2.out.mono ?_
      rintro e w2 ⟨vn, rfl, hvn, hb2⟩
      have hbw2 : Below W.heap.size W w2 := hbw1.trans (hb2.mono hbz1)
      have hbz2 := hbw2.size
      have Hvn := Lib.hid hvn
      clear hvn
      go_wp2_with fail
      refine (wakes_any w2).mono ?_
      rintro e w3 ⟨rfl, hb3⟩
      have hbw3 : Below W.heap.size W w3 := hbw2.trans (hb3.mono hbz2)
      have hbz3 := hbw3.size
      have hb03 : Below wr.heap.size wr w3 := (hb1.trans (hb2.mono hb1.size)).trans (hb3.mono (by have := hb1.size; have := hb2.size; omega))
      have hb13 : Below w1.heap.size w1 w3 := hb2.trans (hb3.mono hb2.size)
      have hva : Evs w3 w3.heap.size u5 l := ((Sl.of_own Hoa.out).below hb03).more hb03.size
      have hvb : Evs w3 w3.heap.size u6 l := ((Sl.of_own Hob.out).below hb03).more hb03.size
      have hvm : Evs w3 w3.heap.size vm (lstOf (getEs s.data.toList s.size 0)) := (Hvm.out.below hb13).more hb13.size
      have hvn : Evs w3 w3.heap.size vn (lstOf (getEs s.data.toList s.size 0)) := (Hvn.out.below hb3).more hb3.size
      obtain ⟨el, hel⟩ : ∃ el, el = errOf (getEs s.data.toList s.size 0) := ⟨_, rfl⟩
      obtain ⟨ml, hml⟩ : ∃ ml, ml = lstOf (getEs s.data.toList s.size 0) := ⟨_, rfl⟩
      have hmlen : ml.length ≤ s.size := by rw [hml]; exact lst_len s
      rw [← hml] at hvm hvn
      rw [← hel]
      clear Hvm Hvn Hoa Hob hb1 hb2 hb3 Hg1 Hg2 hb03 hb13 hel hml
      have hput := WE.put_any u5 l w3 hva (by omega) Hf.out
      have Hput := Lib.hid hput; have Hvb := Lib.hid hvb; have Hvm := Lib.hid hvm; have Hvn := Lib.hid hvn
      clear hput hvb hvm hvn hva
      go_wp2_with fail
      refine Hput.out.mono ?_
      rintro e w4 ⟨rfl, hb4⟩
      have hbw4 : Below W.heap.size W w4 := hbw3.trans (hb4.mono hbz3)
      have hbz4 := hbw4.size
      have hvb : Evs w4 w4.heap.size u6 l := (Sl.below Hvb.out hb4).more hb4.size
      have hput := WE.rput_any u6 l w4 hvb (by omega) Hf.out
      have Hput2 := Lib.hid hput
      clear hput hvb Hput Hvb
      go_wp2_with fail
      refine Hput2.out.mono ?_
      rintro e w5 ⟨rfl, hb5⟩
      have hbw5 : Below W.heap.size W w5 := hbw4.trans (hb5.mono hbz4)
      have hb35 : Below w3.heap.size w3 w5 := hb4.trans (hb5.mono hb4.size)
      have hvm : Evs w5 w5.heap.size vm ml := (Sl.below Hvm.out hb35).more hb35.size
      have hvn : Evs w5 w5.heap.size vn ml := (Sl.below Hvn.out hb35).more hb35.size
      obtain ⟨Am, cm, hm⟩ := hvm.shape
      obtain ⟨An, cn, hn⟩ := hvn.shape
      subst hm
      subst hn
      have Hvm2 := Lib.hid hvm; have Hvn2 := Lib.hid hvn
      clear hvm hvn Hput2 Hvm Hvn hb4 hb5 hb35
      go_wp2_with fail
      go_loopw [62] (fun i wr => ∃ k d : Nat, k ≤ ml.length ∧ i = .int .i64 k ∧ wr = w5.drewN d) (fun i _ => ml.length - (intOf i).toNat)
      case atStart => exact ⟨0, 0, by omega, rfl, rfl⟩
      case round =>
        obtain ⟨k, d, hk, rfl, rfl⟩ := hrel
        by_cases hkl : k < ml.length
        · obtain ⟨ba, oa, ca', hca, hba, p0, p1, p2, p3⟩ := Evs.at_ Hvm2.out hkl
          obtain ⟨bb, ob, cb', hcb, hbb, q0, q1, q2, q3⟩ := Evs.at_ Hvn2.out hkl
          obtain ⟨rfl, rfl⟩ : Am = some ⟨ba, oa, none⟩ ∧ cm = ca' := by simpa using hca
          obtain ⟨rfl, rfl⟩ : An = some ⟨bb, ob, none⟩ ∧ cn = cb' := by simpa using hcb
          clear hca hcb
          have hki : (k : Int) < (ml.length : Int) := by omega
          have hki0 : (0 : Int) ≤ (k : Int) := by omega
          go_wp2_with fail
          go_quiet (fail)
          go_wp2_with fail
          go_roundw
          case rel => exact ⟨k + 1, d + nq, by omega, by go_num, rfl⟩
          case measure => simp [intOf]; omega
        · obtain rfl : k = ml.length := by omega
          go_wp2_with fail
          go_ret
          exact ⟨rfl, below_dN hbw5 d⟩
end Go.Proofs.Ytceeijamhhokaaa.L18
