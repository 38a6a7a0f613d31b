/- KeyMakes: the law's walk. -/
import Derived.Test.YtceeijamhhokaaaDoorWRef02
import Derived.Test.YtceeijamhhokaaaDoorWLists
import Derived.Test.YtceeijamhhokaaaDoorGrw
namespace Go.Proofs.YtceeijamhhokaaaDoor.WK
open Go Go.RowKit Go.Sort Go.Proofs.YtceeijamhhokaaaDoor Go.Proofs.YtceeijamhhokaaaDoor.PK Go.Proofs.YtceeijamhhokaaaDoor.Mem

set_option maxRecDepth 100000 in
theorem num_grw (n : Int) (W : World) : Calls Tryd.prog 14 #[.int .i64 n] W fun e w' => e = .returned (.agg #[.bool false, .int .i64 n, .string .empty]) ∧ Grw W w' := by
  go_enter Tryd.func14, Tryd.ntmps14
  go_wp2_with fail
  have X := Mem.heap_new (w := W) (o := .cells #[.bool false, .int .i64 n, .string ⟨#[]⟩] 34) (g := W.heap.size) rfl
  refine bodyPost_ret (res_num rfl ((Lib.cell_of_heap X 0).trans rfl) ((Lib.cell_of_heap X 1).trans rfl) ((Lib.cell_of_heap X 2).trans rfl)) rfl ?_
  exact ⟨rfl, (Grw.refl _).alloc _⟩
set_option maxRecDepth 100000 in
theorem text_grw (s : ByteArray) (W : World) : Calls Tryd.prog 15 #[.string s] W fun e w' => e = .returned (.agg #[.bool true, .int .i64 0, .string s]) ∧ Grw W w' := by
  go_enter Tryd.func15, Tryd.ntmps15
  go_wp2_with fail
  have X := Mem.heap_new (w := W) (o := .cells #[.bool true, .int .i64 0, .string s] 34) (g := W.heap.size) rfl
  refine bodyPost_ret (res_text rfl ((Lib.cell_of_heap X 0).trans rfl) ((Lib.cell_of_heap X 1).trans rfl) ((Lib.cell_of_heap X 2).trans rfl)) rfl ?_
  exact ⟨rfl, (Grw.refl _).alloc _⟩

theorem Prts.of_own {w w' : World} {b : Nat} {e : TypeId} {v : Value} {l : List KP} (h : w.ownsRow b e 3 v l.length (cellsOf encK l)) (hb : Below w.heap.size w w') : Prts w' w'.heap.size v l :=
  Sl.more (Sl.below (Sl.of_own h) hb) hb.size

set_option maxRecDepth 100000 in
set_option maxHeartbeats 3200000 in
theorem makes_law (v : Value) (l : List KP) (W : World) (hv : Prts W W.heap.size v l) (hf : ∀ p ∈ l, fitK p) (hl : l.length * 32 ≤ 140737488351232) (hm : MaxLen W) (hg : 0 < W.heap.size) :
    Calls Tryd.prog 3 #[v] W fun e w' => e = .returned (.bool true) ∧ Below W.heap.size W w' := by
  have hlm : l.length ≤ maxLen := by unfold maxLen; omega
  have hlm' : (l.length : Int) ≤ 9223372036854775807 := by omega
  have HL := Lib.hid (lists_any v l W hv hl)
  have mixed : Tryd.prog.follows .mixedOrders = true := by kernel_rfl
  obtain ⟨a1, c1, rfl⟩ := Sl.shape hv
  have HV := Lib.hid hv
  clear hv
  go_enter Tryd.func3, Tryd.ntmps3
  go_wp2_with fail
  refine HL.out.mono ?_
  rintro e w1 ⟨va, vb, rfl, hb1, o1, o2⟩
  have HM := Lib.hid (make_any l va w1 (hm.below hb1 hg) (Nat.lt_of_lt_of_le hg hb1.size) (Prts.of_own o1 (Below.refl _ _)) hf hlm)
  have HO2 := Lib.hid o2
  have HB1 := Lib.hid hb1
  clear hb1 o1 o2 HL
  go_wp2_with fail
  refine HM.out.mono ?_
  rintro e w2 ⟨rfl, hb2⟩
  have HR := Lib.hid (refmake_any l vb w2 (Prts.of_own HO2.out hb2) hf hlm)
  have HB2 := Lib.hid (HB1.out.trans (hb2.mono HB1.out.size))
  clear hb2 HM
  go_wp2_with fail
  refine HR.out.mono ?_
  rintro e w3 ⟨rfl, hb3⟩
  have HB3 := Lib.hid (HB2.out.trans (hb3.mono HB2.out.size))
  clear hb3 HR
  obtain ⟨sv, hsv⟩ : ∃ s : ByteArray, (⟨(makeS l).toArray⟩ : ByteArray) = s := ⟨_, rfl⟩
  obtain ⟨ev, hev⟩ : ∃ e, makeE l = e := ⟨_, rfl⟩
  rw [hsv, hev]
  clear hsv hev
  go_wp2_with fail
  go_loopw [28] (fun u wr => ∃ i : Nat, i ≤ l.length ∧ u = .int .i64 i ∧ Grw w3 wr) (fun u _ => l.length - (intOf u).toNat)
  case atStart => exact ⟨0, by omega, rfl, Grw.refl _⟩
  case round =>
    obtain ⟨i, hi, rfl, hgr⟩ := hrel
    have HGR := Lib.hid hgr
    have hbw := HB3.out.trans (hgr.below.mono HB3.out.size)
    have HBW := Lib.hid hbw
    clear hgr
    by_cases hlt : i < l.length
    · have hlt' : (i : Int) < (l.length : Int) := by omega
      have hi0 : (0 : Int) ≤ (i : Int) := by omega
      obtain ⟨b, o, c, hc, hb, x0, x1, x2⟩ := HV.out.at_ hlt
      obtain ⟨rfl, rfl⟩ : a1 = some ⟨b, o, none⟩ ∧ c1 = c := by simpa using hc
      obtain ⟨p, hp⟩ : ∃ p, l[i] = p := ⟨_, rfl⟩
      rw [hp] at x0 x1 x2
      have y0 := (hbw.cell (p := ⟨b, o + i * 3, none⟩) hb).trans x0
      have y1 := (hbw.cell (p := ⟨b, o + i * 3 + 1, none⟩) hb).trans x1
      have y2 := (hbw.cell (p := ⟨b, o + i * 3 + 2, none⟩) hb).trans x2
      obtain ⟨wa, hwa⟩ : ∃ wa, wa = wr.alloc (.cells #[.bool p.txt, .int .i64 p.n, .string p.s] 33) := ⟨_, rfl⟩
      have hza : wr.heap.size < wa.heap.size := by rw [hwa]; simp
      have X := (show wa.heap[wr.heap.size]? = some (.cells #[.bool p.txt, .int .i64 p.n, .string p.s] 33 (0, 0)) by rw [hwa]; exact Mem.heap_new rfl)
      have s1 := Grw.cellG (b := wr.heap.size) (o := 1) (u := .int .i64 p.n) hza ((Lib.cell_of_heap X 1).trans rfl)
      have s2 := Grw.cellG (b := wr.heap.size) (o := 2) (u := .string p.s) hza ((Lib.cell_of_heap X 2).trans rfl)
      have HA := Lib.hid (HGR.out.trans (show Grw wr wa by rw [hwa]; exact (Grw.refl _).alloc _))
      have HNM := Lib.hid (fun n os => num_grw p.n (grow (wa.drewN n) os))
      have HTX := Lib.hid (fun n os => text_grw p.s (grow (wa.drewN n) os))
      have HWA := Lib.hid hwa
      clear x0 x1 x2 hc hp hbw hwa X
      go_wp2_with fail
      rw [← HWA.out]
      go_quiet_grown (first | (go_at_call 14; exact Grw.grown (HNM.out _ _)) | (go_at_call 15; exact Grw.grown (HTX.out _ _)))
      change Exit.then _ _ Exit.normal _ (grow (wa.drewN nq) osq)
      have HGQ := Lib.hid (HA.out.trans (show Grw wa (grow (wa.drewN nq) osq) from ⟨nq, osq, rfl⟩))
      clear s1 s2 HNM HTX
      generalize grow (wa.drewN nq) osq = w7 at *
      go_wp2_with fail
      go_roundw
      case rel => exact ⟨i + 1, by omega, by go_num, HGQ.out⟩
      case measure => simp [intOf]; omega
    · obtain rfl : i = l.length := by omega
      have HWK := Lib.hid (wakes02 wr (hm.below HBW.out hg) (Nat.lt_of_lt_of_le hg HBW.out.size))
      clear hbw
      go_wp2_with fail
      refine HWK.out.mono ?_
      rintro e w5 ⟨rfl, hb5⟩
      have HB5 := Lib.hid (HBW.out.trans (hb5.mono HBW.out.size))
      clear hb5
      go_wp2_with fail
      go_ret
      exact ⟨rfl, HB5.out⟩
end Go.Proofs.YtceeijamhhokaaaDoor.WK
