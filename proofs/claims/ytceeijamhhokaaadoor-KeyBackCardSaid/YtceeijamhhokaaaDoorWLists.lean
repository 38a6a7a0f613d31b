/- The walk of oxbowlaw02.lists: the program's and the document's parts. -/
import Derived.Test.YtceeijamhhokaaaDoorWKMake
import Derived.Test.YtceeijamhhokaaaDoorReg
namespace Go.Proofs.YtceeijamhhokaaaDoor.WK
open Go Go.RowKit Go.Proofs.YtceeijamhhokaaaDoor Go.Proofs.YtceeijamhhokaaaDoor.PK Go.Proofs.YtceeijamhhokaaaDoor.Mem

theorem infoP1 : (Tryd.prog.info? 34).map (fun i => (i.zero, i.size, i.bytes)) = some (some (.agg #[.bool false, .int .i64 0, .string ⟨#[]⟩]), 3, 32) := by kernel_rfl
theorem infoP2 : (Tryd.prog.info? 62).map (fun i => (i.zero, i.size, i.bytes)) = some (some (.agg #[.bool false, .int .i64 0, .string ⟨#[]⟩]), 3, 32) := by kernel_rfl
abbrev partV (p : KP) : Value := .agg #[.bool p.txt, .int .i64 p.n, .string p.s]
theorem encK_one (p : KP) : ∀ u ∈ encK p, u.oneCell' = true := by
  intro u hu
  simp only [encK, List.mem_cons, List.not_mem_nil, or_false] at hu
  rcases hu with rfl | rfl | rfl <;> rfl
theorem load_lp {w : World} {g : Nat} {p : KP} (h : w.heap[g]? = some (.cells #[.bool p.txt, .int .i64 p.n, .string p.s] 33 (0, 0))) :
    (Instr.loadAt 33 (.pointer (some ⟨g, 0, none⟩))).run Tryd.prog w = .ok (partV p) w := by
  have e0 : w.cell? ⟨g, 0, none⟩ = some (.bool p.txt) := (Lib.cell_of_heap h 0).trans rfl
  have e1 : w.cell? ⟨g, 1, none⟩ = some (.int .i64 p.n) := (Lib.cell_of_heap h 1).trans rfl
  have e2 : w.cell? ⟨g, 2, none⟩ = some (.string p.s) := (Lib.cell_of_heap h 2).trans rfl
  go_simp
theorem build_k (w : World) (p : KP) : (Instr.buildSlice 23 1 #[(0, partV p)]).run Tryd.prog w = .ok (.slice (some ⟨w.heap.size, 0, none⟩) 1 1) (w.alloc (.cells (encK p).toArray 34)) := by
  unfold encK
  go_simp
theorem build_rk (w : World) (p : KP) : (Instr.buildSlice 24 1 #[(0, partV p)]).run Tryd.prog w = .ok (.slice (some ⟨w.heap.size, 0, none⟩) 1 1) (w.alloc (.cells (encK p).toArray 62)) := by
  unfold encK
  go_simp

def ListsPost (W : World) (l : List KP) (e : Ending) (w : World) : Prop := ∃ va vb, e = .returned (.tuple #[va, vb]) ∧ Below W.heap.size W w ∧
  w.ownsRow W.heap.size 34 3 va l.length (cellsOf encK l) ∧ w.ownsRow W.heap.size 62 3 vb l.length (cellsOf encK l)

set_option maxRecDepth 100000 in
set_option maxHeartbeats 3200000 in
theorem lists_any (v : Value) (l : List KP) (W : World) (hv : Prts W W.heap.size v l) (hl : l.length * 32 ≤ 140737488351232) :
    Calls Tryd.prog 11 #[v] W (ListsPost W l) := by
  obtain ⟨i0, hi, hz0, hz1, hz2⟩ := info_parts infoP1
  obtain ⟨i1, hj, hy0, hy1, hy2⟩ := info_parts infoP2
  obtain ⟨A, c, rfl⟩ := Sl.shape hv
  have Hv := Lib.hid hv
  clear hv
  go_enter Tryd.func11, Tryd.ntmps11
  go_wp2
  go_loopw [4, 5, 10] (fun va vb i wr => ∃ (k : Nat) (xa xb : Value), k ≤ l.length ∧ i = .int .i64 k ∧ xa = va ∧ xb = vb ∧ wr.ownsRow W.heap.size 34 3 va k (cellsOf encK (l.take k)) ∧ wr.ownsRow W.heap.size 62 3 vb k (cellsOf encK (l.take k)) ∧ Below W.heap.size W wr) (fun _ _ i _ => l.length - (intOf i).toNat)
  case atStart => exact ⟨0, _, _, by omega, rfl, rfl, rfl, World.ownsRow_nil _ _ _ _, World.ownsRow_nil _ _ _ _, Below.refl _ _⟩
  case round =>
    obtain ⟨k, xa, xb, hk, rfl, rfl, rfl, hoa, hob, hb⟩ := hrel
    by_cases hlt : k < l.length
    · obtain ⟨b, o, c', hc', hbl, g0, g1, g2⟩ := Hv.out.at_ hlt
      obtain ⟨rfl, rfl⟩ : A = some ⟨b, o, none⟩ ∧ c = c' := by simpa using hc'
      have hlt' : (k : Int) < (l.length : Int) := by omega
      have hk0 : (0 : Int) ≤ (k : Int) := by omega
      have hc0 := (hb.cell (p := ⟨b, o + k * 3, none⟩) hbl).trans g0
      have hc1 := (hb.cell (p := ⟨b, o + k * 3 + 1, none⟩) hbl).trans g1
      have hc2 := (hb.cell (p := ⟨b, o + k * 3 + 2, none⟩) hbl).trans g2
      have HL := Lib.hid (show cellsOf encK (l.take (k + 1)) = cellsOf encK (l.take k) ++ encK l[k] by rw [List.take_succ_eq_append_getElem hlt, cellsOf_snoc])
      obtain ⟨p, hp⟩ : ∃ p, l[k] = p := ⟨_, rfl⟩
      rw [hp] at hc0 hc1 hc2 HL
      clear g0 g1 g2 hc' hp
      have Hoa := Lib.hid hoa; have Hob := Lib.hid hob; have Hb := Lib.hid hb
      have hbk := hb.size
      clear hoa hob hb
      go_wp2_with fail
      refine Reg.two_rows (W := W) (h := 8) (t := 2) (known := [(0, 14, xa), (1, 15, partV p), (4, 18, xb), (5, 19, partV p)])
        (boxes := [(wr.heap.size, #[.bool p.txt, .int .i64 p.n, .string p.s], 33)])
        (A := { ib := 2, ip := 3, sb := 16, sp := 17, base := W.heap.size, e := 34, sz := 3, v := xa, n := k, xs := cellsOf encK (l.take k), news := encK p })
        (B := { ib := 6, ip := 7, sb := 20, sp := 21, base := W.heap.size, e := 62, sz := 3, v := xb, n := k, xs := cellsOf encK (l.take k), news := encK p })
        (srcA := 14) (srcB := 18) (jsA := 0) (jsB := 4) (tA := 23) (tB := 24) (iA := i0) (iB := i1) (zA := .agg #[.bool false, .int .i64 0, .string ⟨#[]⟩]) (zB := .agg #[.bool false, .int .i64 0, .string ⟨#[]⟩]) (bA := 32) (bB := 32)
        (by kernel_rfl) rfl (by kernel_rfl) (by kernel_rfl) (by kernel_rfl) (show (34 : TypeId) ≠ 62 by decide) (show [0, 1, 4, 5, 2, 3, 6, 7].Nodup by decide) (show ∀ i, i < 8 → i ∈ [0, 1, 4, 5, 2, 3, 6, 7] by decide) (show [14, 15, 18, 19, 16, 17, 20, 21].Nodup by decide) (show ∀ s ∈ [14, 15, 18, 19, 16, 17, 20, 21], s < 25 by decide) (show ∀ i ∈ [0, 1, 4, 5, 2, 3, 6, 7], i < 8 by decide)
        ?_ ?_ ?_ (Hb.out.alloc Hb.out.size _) ?_ (Hoa.out.alloc _) (Hob.out.alloc _) ?_
      · intro i s x hm
        simp only [List.mem_cons, List.not_mem_nil, or_false, Prod.mk.injEq] at hm
        rcases hm with ⟨rfl, rfl, rfl⟩ | ⟨rfl, rfl, rfl⟩ | ⟨rfl, rfl, rfl⟩ | ⟨rfl, rfl, rfl⟩
        · refine ⟨_, rfl, rfl, rfl, fun a w hs _ => ?_⟩
          exact Reg.run_move (Reg.eval_tmp ((hs.out 4 (show 4 ∉ [14, 15, 18, 19, 16, 17, 20, 21] by decide)).trans rfl))
        · refine ⟨_, rfl, rfl, rfl, fun a w hs _ => ?_⟩
          exact Reg.run_load (Reg.eval_tmp ((hs.out 7 (show 7 ∉ [14, 15, 18, 19, 16, 17, 20, 21] by decide)).trans rfl)) (load_lp (hs.boxes _ _ _ (List.mem_singleton.2 rfl)))
        · refine ⟨_, rfl, rfl, rfl, fun a w hs _ => ?_⟩
          exact Reg.run_move (Reg.eval_tmp ((hs.out 5 (show 5 ∉ [14, 15, 18, 19, 16, 17, 20, 21] by decide)).trans rfl))
        · refine ⟨_, rfl, rfl, rfl, fun a w hs _ => ?_⟩
          exact Reg.run_load (Reg.eval_tmp ((hs.out 7 (show 7 ∉ [14, 15, 18, 19, 16, 17, 20, 21] by decide)).trans rfl)) (load_lp (hs.boxes _ _ _ (List.mem_singleton.2 rfl)))
      · refine { base := rfl, build := ⟨_, rfl, rfl, rfl, fun a w hs hkn => ?_⟩, app := ⟨_, rfl, rfl, rfl, rfl, Reg.waits_of (by kernel_rfl), Reg.waits_of (by kernel_rfl)⟩, src := by simp, ht := Tryd.underlying23, hi := hi, hz := hz0, hsize := hz1, hby := hz2, hzs := rfl, hsz := (show 0 < 3 by decide), hnl := rfl, h1 := encK_one _, h63 := (show k + 1 ≤ maxLen by unfold maxLen; omega), hbytes := (show (k + 1) * 32 ≤ 140737488355328 by omega), hbox := ?_ }
        · exact Reg.run_build (Reg.eval_tmp (hkn 1 15 (partV p) (by simp) (Reg.waits_of (by kernel_rfl)))) (build_k w p)
        · intro g cs t hm
          simp only [List.mem_cons, List.not_mem_nil, or_false, Prod.mk.injEq] at hm
          rw [hm.2.2]
          exact (show (34 : TypeId) ≠ 33 by decide)
      · refine { base := rfl, build := ⟨_, rfl, rfl, rfl, fun a w hs hkn => ?_⟩, app := ⟨_, rfl, rfl, rfl, rfl, Reg.waits_of (by kernel_rfl), Reg.waits_of (by kernel_rfl)⟩, src := by simp, ht := Tryd.underlying24, hi := hj, hz := hy0, hsize := hy1, hby := hy2, hzs := rfl, hsz := (show 0 < 3 by decide), hnl := rfl, h1 := encK_one _, h63 := (show k + 1 ≤ maxLen by unfold maxLen; omega), hbytes := (show (k + 1) * 32 ≤ 140737488355328 by omega), hbox := ?_ }
        · exact Reg.run_build (Reg.eval_tmp (hkn 5 19 (partV p) (by simp) (Reg.waits_of (by kernel_rfl)))) (build_rk w p)
        · intro g cs t hm
          simp only [List.mem_cons, List.not_mem_nil, or_false, Prod.mk.injEq] at hm
          rw [hm.2.2]
          exact (show (62 : TypeId) ≠ 33 by decide)
      · intro g cs t hm
        simp only [List.mem_cons, List.not_mem_nil, or_false, Prod.mk.injEq] at hm
        rw [hm.1, hm.2.1, hm.2.2]
        exact heap_alloc_new wr _
      · intro w x1 g1 c1 x2 g2 c2 hbw _ hA hB
        have HA := Lib.hid hA; have HB := Lib.hid hB
        clear hA hB
        simp only [Reg.puts, List.map_cons, List.map_nil, List.cons_append, List.nil_append]
        go_wp2_with fail
        go_roundw
        case rel => exact ⟨k + 1, _, _, by omega, by go_num, rfl, rfl, by rw [HL.out]; exact HA.out, by rw [HL.out]; exact HB.out, hbw⟩
        case measure => simp [intOf]; omega
    · obtain rfl : k = l.length := by omega
      rw [List.take_length] at hoa hob
      obtain ⟨d1, e1, rfl⟩ : ∃ ad c, xa = .slice ad l.length c := (Sl.of_own hoa).shape
      obtain ⟨d2, e2, rfl⟩ : ∃ ad c, xb = .slice ad l.length c := (Sl.of_own hob).shape
      have Hoa := Lib.hid hoa; have Hob := Lib.hid hob; have Hb := Lib.hid hb
      clear hoa hob hb
      go_wp2_with fail
      go_ret2
      exact ⟨_, _, rfl, Hb.out, Hoa.out, Hob.out⟩
end Go.Proofs.YtceeijamhhokaaaDoor.WK
