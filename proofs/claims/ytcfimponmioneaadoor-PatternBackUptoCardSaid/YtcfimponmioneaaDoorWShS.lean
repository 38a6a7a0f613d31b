/- The walks of (pattern.Step).show and (pattern.Cond).show. -/
import Derived.Test.YtcfimponmioneaaDoorWDec
import Derived.Test.YtcfimponmioneaaDoorWShLib
import Derived.BigQuiet
import Derived.Deep.QuietTactic
import Derived.Shelf.SlSortCmp.QuietGrown
namespace Go.Proofs.YtcfimponmioneaaDoor.WS
open Go Go.RowKit Go.Sort Go.Proofs.YtcfimponmioneaaDoor Go.Proofs.YtcfimponmioneaaDoor.PL Go.Proofs.YtcfimponmioneaaDoor.PS Go.Proofs.YtcfimponmioneaaDoor.Mem

/-- A text of three bytes. -/
theorem three_str (w : World) (x y z : Int) (hx : 0 ≤ x ∧ x < 256) (hy : 0 ≤ y ∧ y < 256) (hz : 0 ≤ z ∧ z < 256) : (convert 60 9 (.slice (some ⟨w.heap.size, 0, none⟩) 3 3)).run Tryd.prog (w.alloc (.cells #[.int .u8 x, .int .u8 y, .int .u8 z] 5)) =
    .ok (.string ⟨[UInt8.ofNat x.toNat, UInt8.ofNat y.toNat, UInt8.ofNat z.toNat].toArray⟩) (w.alloc (.cells #[.int .u8 x, .int .u8 y, .int .u8 z] 5)) := by
  have := run_convert_bytes_back (P := Tryd.prog) (w.alloc (.cells #[.int .u8 x, .int .u8 y, .int .u8 z] 5)) 60 9 5 ⟨w.heap.size, 0, none⟩ 3 [UInt8.ofNat x.toNat, UInt8.ofNat y.toNat, UInt8.ofNat z.toNat] Tryd.underlying60 Tryd.underlying5 Tryd.underlying9 (fun j hj => by
    rw [add_lit, World.cell?_alloc_at _ _ _ _ rfl]
    match j, hj with
    | 0, _ => simp [UInt8.toNat_ofNat']; omega
    | 1, _ => simp [UInt8.toNat_ofNat']; omega
    | 2, _ => simp [UInt8.toNat_ofNat']; omega)
  simpa using this

theorem ne_one {n : Int} (h : n ≠ 1) : (n != 1) = true := by rw [bne_iff_ne]; exact h
set_option maxRecDepth 100000 in
set_option maxHeartbeats 3200000 in
theorem showS_any (s : GS) (hf : fitS s) (W : World) (ht : Tab W) :
    Calls Tryd.prog 12 #[.agg #[.int .u8 s.k, .int .u8 s.nm, .bool s.neg, .int .i64 s.lo, .int .i64 s.hi]] W fun e w' => e = .returned (.string ⟨(showS s).toArray⟩) ∧ Grw W w' := by
  obtain ⟨⟨k0, k1⟩, ⟨m0, m1⟩, ⟨l0, l1⟩, ⟨h0, h1⟩⟩ := hf
  have hi1 := Lib.itoa_length_le s.lo l0 l1
  have hi2 := Lib.itoa_length_le s.hi h0 h1
  have HSH := Lib.hid (show showS s = (if s.neg = true then [33] else []) ++ ([byB s.k, 32, byB s.nm] ++ (if s.lo = 1 ∧ s.hi = 1 then [] else 123 :: (Lib.itoa s.lo ++ 44 :: (Lib.itoa s.hi ++ [125])))) from rfl)
  obtain ⟨R, hR⟩ : ∃ R, showS s = R := ⟨_, rfl⟩
  rw [hR] at HSH ⊢
  clear hR
  obtain ⟨k, nm, neg, lo, hi⟩ := s
  simp only at *
  have hthree := three_str (W.alloc (.cells #[.int .u8 k, .int .u8 nm, .bool neg, .int .i64 lo, .int .i64 hi] 48)) k 32 nm (by omega) (by omega) (by omega)
  rw [show (W.alloc (.cells #[.int .u8 k, .int .u8 nm, .bool neg, .int .i64 lo, .int .i64 hi] 48)).heap.size = W.heap.size + 1 by simp] at hthree
  obtain ⟨w2, hw2⟩ : ∃ w2, w2 = (W.alloc (.cells #[.int .u8 k, .int .u8 nm, .bool neg, .int .i64 lo, .int .i64 hi] 48)).alloc (.cells #[.int .u8 k, .int .u8 32, .int .u8 nm] 5) := ⟨_, rfl⟩
  have X0 := Lib.hid (show w2.heap[W.heap.size]? = some (.cells #[.int .u8 k, .int .u8 nm, .bool neg, .int .i64 lo, .int .i64 hi] 48 (0, 0)) by rw [hw2]; exact heap_alloc (heap_new rfl))
  have HG := Lib.hid (show Grw W w2 by rw [hw2]; exact ((Grw.refl _).alloc _).alloc _)
  have hz2 : W.heap.size < w2.heap.size := by rw [hw2]; simp; omega
  have HW := Lib.hid hw2
  clear hw2
  have mixed : Tryd.prog.follows .mixedOrders = true := by kernel_rfl
  go_enter Tryd.func12, Tryd.ntmps12
  cases neg with
  | false =>
    by_cases hlo : lo = 1
    · subst hlo
      by_cases hhi : hi = 1
      · subst hhi
        have HJ := Lib.hid (show R = [UInt8.ofNat k.toNat, 32, UInt8.ofNat nm.toNat] by rw [HSH.out]; simp [byB])
        clear HSH
        go_wp2_with fail
        go_ret
        exact ⟨by rw [HJ.out]; rfl, by rw [← HW.out]; exact HG.out⟩
      · have hhi' := ne_one hhi
        have HNE := Lib.hid (fun (h : (1 : Int) = 1 ∧ hi = 1) => hhi h.2)
        clear hhi
        have HJ := Lib.hid (show R = ([UInt8.ofNat k.toNat, 32, UInt8.ofNat nm.toNat]) ++ (([123] ++ Lib.itoa 1 ++ [44]) ++ Lib.itoa hi ++ [125]) by rw [HSH.out, if_neg HNE.out]; simp [byB])
        clear HSH
        go_wp2_with fail
        rw [← HW.out]
        have s3 := Grw.cellG (b := W.heap.size) (o := 3) hz2 ((Lib.cell_of_heap X0.out 3).trans rfl)
        have s4 := Grw.cellG (b := W.heap.size) (o := 4) hz2 ((Lib.cell_of_heap X0.out 4).trans rfl)
        have HT := ht.grw HG.out
        have H1 := Lib.hid (fun n os => itoa_any 1 l0 l1 (grow (w2.drewN n) os) (HT.grw ⟨n, os, rfl⟩))
        have H2 := Lib.hid (fun n os => itoa_any hi h0 h1 (grow (w2.drewN n) os) (HT.grw ⟨n, os, rfl⟩))
        clear HT
        obtain ⟨a, ha⟩ : ∃ a, Lib.itoa 1 = a := ⟨_, rfl⟩
        obtain ⟨b, hb⟩ : ∃ b, Lib.itoa hi = b := ⟨_, rfl⟩
        rw [ha] at H1 HJ hi1
        rw [hb] at H2 HJ hi2
        clear ha hb
        have c1 := fun w => run_string_add_sum (P := Tryd.prog) (w := w) ⟨#[123]⟩ ⟨a.toArray⟩ (by show 1 + a.length ≤ _; omega)
        have c2 := fun w => run_string_add_sum (P := Tryd.prog) (w := w) (⟨#[123]⟩ ++ ⟨a.toArray⟩) ⟨#[44]⟩ (by rw [ByteArray.size_append]; show 1 + a.length + 1 ≤ _; omega)
        have c3 := fun w => run_string_add_sum (P := Tryd.prog) (w := w) (⟨#[123]⟩ ++ ⟨a.toArray⟩ ++ ⟨#[44]⟩) ⟨b.toArray⟩ (by rw [ByteArray.size_append, ByteArray.size_append]; show 1 + a.length + 1 + b.length ≤ _; omega)
        have c4 := fun w => run_string_add_sum (P := Tryd.prog) (w := w) (⟨#[123]⟩ ++ ⟨a.toArray⟩ ++ ⟨#[44]⟩ ++ ⟨b.toArray⟩) ⟨#[125]⟩ (by rw [ByteArray.size_append, ByteArray.size_append, ByteArray.size_append]; show 1 + a.length + 1 + b.length + 1 ≤ _; omega)
        have c5 := fun w => run_string_add_sum (P := Tryd.prog) (w := w) ⟨#[UInt8.ofNat k.toNat, 32, UInt8.ofNat nm.toNat]⟩ (⟨#[123]⟩ ++ ⟨a.toArray⟩ ++ ⟨#[44]⟩ ++ ⟨b.toArray⟩ ++ ⟨#[125]⟩) (by simp only [ByteArray.size_append]; show 3 + (1 + a.length + 1 + b.length + 1) ≤ _; omega)
        go_quiet_grown (first | (go_at_call 21; exact Grw.grown (H1.out _ _)) | (go_at_call 21; exact Grw.grown (H2.out _ _)))
        change Exit.then _ _ Exit.normal _ (grow (w2.drewN nq) osq)
        have HGQ := Lib.hid (HG.out.trans (show Grw w2 (grow (w2.drewN nq) osq) from ⟨nq, osq, rfl⟩))
        clear s3 s4 H1 H2 c1 c2 c3 c4 c5
        generalize grow (w2.drewN nq) osq = w7 at *
        go_wp2_with fail
        go_ret
        exact ⟨by rw [HJ.out]; simp only [← mkapp]; rfl, HGQ.out⟩
    · have hlo' := ne_one hlo
      have HNE := Lib.hid (fun (h : lo = 1 ∧ hi = 1) => hlo h.1)
      clear hlo
      have HJ := Lib.hid (show R = ([UInt8.ofNat k.toNat, 32, UInt8.ofNat nm.toNat]) ++ (([123] ++ Lib.itoa lo ++ [44]) ++ Lib.itoa hi ++ [125]) by rw [HSH.out, if_neg HNE.out]; simp [byB])
      clear HSH
      go_wp2_with fail
      rw [← HW.out]
      have s3 := Grw.cellG (b := W.heap.size) (o := 3) hz2 ((Lib.cell_of_heap X0.out 3).trans rfl)
      have s4 := Grw.cellG (b := W.heap.size) (o := 4) hz2 ((Lib.cell_of_heap X0.out 4).trans rfl)
      have HT := ht.grw HG.out
      have H1 := Lib.hid (fun n os => itoa_any lo l0 l1 (grow (w2.drewN n) os) (HT.grw ⟨n, os, rfl⟩))
      have H2 := Lib.hid (fun n os => itoa_any hi h0 h1 (grow (w2.drewN n) os) (HT.grw ⟨n, os, rfl⟩))
      clear HT
      obtain ⟨a, ha⟩ : ∃ a, Lib.itoa lo = a := ⟨_, rfl⟩
      obtain ⟨b, hb⟩ : ∃ b, Lib.itoa hi = b := ⟨_, rfl⟩
      rw [ha] at H1 HJ hi1
      rw [hb] at H2 HJ hi2
      clear ha hb
      have c1 := fun w => run_string_add_sum (P := Tryd.prog) (w := w) ⟨#[123]⟩ ⟨a.toArray⟩ (by show 1 + a.length ≤ _; omega)
      have c2 := fun w => run_string_add_sum (P := Tryd.prog) (w := w) (⟨#[123]⟩ ++ ⟨a.toArray⟩) ⟨#[44]⟩ (by rw [ByteArray.size_append]; show 1 + a.length + 1 ≤ _; omega)
      have c3 := fun w => run_string_add_sum (P := Tryd.prog) (w := w) (⟨#[123]⟩ ++ ⟨a.toArray⟩ ++ ⟨#[44]⟩) ⟨b.toArray⟩ (by rw [ByteArray.size_append, ByteArray.size_append]; show 1 + a.length + 1 + b.length ≤ _; omega)
      have c4 := fun w => run_string_add_sum (P := Tryd.prog) (w := w) (⟨#[123]⟩ ++ ⟨a.toArray⟩ ++ ⟨#[44]⟩ ++ ⟨b.toArray⟩) ⟨#[125]⟩ (by rw [ByteArray.size_append, ByteArray.size_append, ByteArray.size_append]; show 1 + a.length + 1 + b.length + 1 ≤ _; omega)
      have c5 := fun w => run_string_add_sum (P := Tryd.prog) (w := w) ⟨#[UInt8.ofNat k.toNat, 32, UInt8.ofNat nm.toNat]⟩ (⟨#[123]⟩ ++ ⟨a.toArray⟩ ++ ⟨#[44]⟩ ++ ⟨b.toArray⟩ ++ ⟨#[125]⟩) (by simp only [ByteArray.size_append]; show 3 + (1 + a.length + 1 + b.length + 1) ≤ _; omega)
      go_quiet_grown (first | (go_at_call 21; exact Grw.grown (H1.out _ _)) | (go_at_call 21; exact Grw.grown (H2.out _ _)))
      change Exit.then _ _ Exit.normal _ (grow (w2.drewN nq) osq)
      have HGQ := Lib.hid (HG.out.trans (show Grw w2 (grow (w2.drewN nq) osq) from ⟨nq, osq, rfl⟩))
      clear s3 s4 H1 H2 c1 c2 c3 c4 c5
      generalize grow (w2.drewN nq) osq = w7 at *
      go_wp2_with fail
      go_ret
      exact ⟨by rw [HJ.out]; simp only [← mkapp]; rfl, HGQ.out⟩
  | true =>
    by_cases hlo : lo = 1
    · subst hlo
      by_cases hhi : hi = 1
      · subst hhi
        have HJ := Lib.hid (show R = [33] ++ [UInt8.ofNat k.toNat, 32, UInt8.ofNat nm.toNat] by rw [HSH.out]; simp [byB])
        clear HSH
        go_wp2_with fail
        go_ret
        exact ⟨by rw [HJ.out]; rw [← mkapp]; rfl, by rw [← HW.out]; exact HG.out⟩
      · have hhi' := ne_one hhi
        have HNE := Lib.hid (fun (h : (1 : Int) = 1 ∧ hi = 1) => hhi h.2)
        clear hhi
        have HJ := Lib.hid (show R = ([33] ++ [UInt8.ofNat k.toNat, 32, UInt8.ofNat nm.toNat]) ++ (([123] ++ Lib.itoa 1 ++ [44]) ++ Lib.itoa hi ++ [125]) by rw [HSH.out, if_neg HNE.out]; simp [byB])
        clear HSH
        go_wp2_with fail
        rw [← HW.out]
        have s3 := Grw.cellG (b := W.heap.size) (o := 3) hz2 ((Lib.cell_of_heap X0.out 3).trans rfl)
        have s4 := Grw.cellG (b := W.heap.size) (o := 4) hz2 ((Lib.cell_of_heap X0.out 4).trans rfl)
        have HT := ht.grw HG.out
        have H1 := Lib.hid (fun n os => itoa_any 1 l0 l1 (grow (w2.drewN n) os) (HT.grw ⟨n, os, rfl⟩))
        have H2 := Lib.hid (fun n os => itoa_any hi h0 h1 (grow (w2.drewN n) os) (HT.grw ⟨n, os, rfl⟩))
        clear HT
        obtain ⟨a, ha⟩ : ∃ a, Lib.itoa 1 = a := ⟨_, rfl⟩
        obtain ⟨b, hb⟩ : ∃ b, Lib.itoa hi = b := ⟨_, rfl⟩
        rw [ha] at H1 HJ hi1
        rw [hb] at H2 HJ hi2
        clear ha hb
        have c1 := fun w => run_string_add_sum (P := Tryd.prog) (w := w) ⟨#[123]⟩ ⟨a.toArray⟩ (by show 1 + a.length ≤ _; omega)
        have c2 := fun w => run_string_add_sum (P := Tryd.prog) (w := w) (⟨#[123]⟩ ++ ⟨a.toArray⟩) ⟨#[44]⟩ (by rw [ByteArray.size_append]; show 1 + a.length + 1 ≤ _; omega)
        have c3 := fun w => run_string_add_sum (P := Tryd.prog) (w := w) (⟨#[123]⟩ ++ ⟨a.toArray⟩ ++ ⟨#[44]⟩) ⟨b.toArray⟩ (by rw [ByteArray.size_append, ByteArray.size_append]; show 1 + a.length + 1 + b.length ≤ _; omega)
        have c4 := fun w => run_string_add_sum (P := Tryd.prog) (w := w) (⟨#[123]⟩ ++ ⟨a.toArray⟩ ++ ⟨#[44]⟩ ++ ⟨b.toArray⟩) ⟨#[125]⟩ (by rw [ByteArray.size_append, ByteArray.size_append, ByteArray.size_append]; show 1 + a.length + 1 + b.length + 1 ≤ _; omega)
        have c5 := fun w => run_string_add_sum (P := Tryd.prog) (w := w) (⟨#[33]⟩ ++ ⟨#[UInt8.ofNat k.toNat, 32, UInt8.ofNat nm.toNat]⟩) (⟨#[123]⟩ ++ ⟨a.toArray⟩ ++ ⟨#[44]⟩ ++ ⟨b.toArray⟩ ++ ⟨#[125]⟩) (by simp only [ByteArray.size_append]; show (1 + 3) + (1 + a.length + 1 + b.length + 1) ≤ _; omega)
        go_quiet_grown (first | (go_at_call 21; exact Grw.grown (H1.out _ _)) | (go_at_call 21; exact Grw.grown (H2.out _ _)))
        change Exit.then _ _ Exit.normal _ (grow (w2.drewN nq) osq)
        have HGQ := Lib.hid (HG.out.trans (show Grw w2 (grow (w2.drewN nq) osq) from ⟨nq, osq, rfl⟩))
        clear s3 s4 H1 H2 c1 c2 c3 c4 c5
        generalize grow (w2.drewN nq) osq = w7 at *
        go_wp2_with fail
        go_ret
        exact ⟨by rw [HJ.out]; simp only [← mkapp]; rfl, HGQ.out⟩
    · have hlo' := ne_one hlo
      have HNE := Lib.hid (fun (h : lo = 1 ∧ hi = 1) => hlo h.1)
      clear hlo
      have HJ := Lib.hid (show R = ([33] ++ [UInt8.ofNat k.toNat, 32, UInt8.ofNat nm.toNat]) ++ (([123] ++ Lib.itoa lo ++ [44]) ++ Lib.itoa hi ++ [125]) by rw [HSH.out, if_neg HNE.out]; simp [byB])
      clear HSH
      go_wp2_with fail
      rw [← HW.out]
      have s3 := Grw.cellG (b := W.heap.size) (o := 3) hz2 ((Lib.cell_of_heap X0.out 3).trans rfl)
      have s4 := Grw.cellG (b := W.heap.size) (o := 4) hz2 ((Lib.cell_of_heap X0.out 4).trans rfl)
      have HT := ht.grw HG.out
      have H1 := Lib.hid (fun n os => itoa_any lo l0 l1 (grow (w2.drewN n) os) (HT.grw ⟨n, os, rfl⟩))
      have H2 := Lib.hid (fun n os => itoa_any hi h0 h1 (grow (w2.drewN n) os) (HT.grw ⟨n, os, rfl⟩))
      clear HT
      obtain ⟨a, ha⟩ : ∃ a, Lib.itoa lo = a := ⟨_, rfl⟩
      obtain ⟨b, hb⟩ : ∃ b, Lib.itoa hi = b := ⟨_, rfl⟩
      rw [ha] at H1 HJ hi1
      rw [hb] at H2 HJ hi2
      clear ha hb
      have c1 := fun w => run_string_add_sum (P := Tryd.prog) (w := w) ⟨#[123]⟩ ⟨a.toArray⟩ (by show 1 + a.length ≤ _; omega)
      have c2 := fun w => run_string_add_sum (P := Tryd.prog) (w := w) (⟨#[123]⟩ ++ ⟨a.toArray⟩) ⟨#[44]⟩ (by rw [ByteArray.size_append]; show 1 + a.length + 1 ≤ _; omega)
      have c3 := fun w => run_string_add_sum (P := Tryd.prog) (w := w) (⟨#[123]⟩ ++ ⟨a.toArray⟩ ++ ⟨#[44]⟩) ⟨b.toArray⟩ (by rw [ByteArray.size_append, ByteArray.size_append]; show 1 + a.length + 1 + b.length ≤ _; omega)
      have c4 := fun w => run_string_add_sum (P := Tryd.prog) (w := w) (⟨#[123]⟩ ++ ⟨a.toArray⟩ ++ ⟨#[44]⟩ ++ ⟨b.toArray⟩) ⟨#[125]⟩ (by rw [ByteArray.size_append, ByteArray.size_append, ByteArray.size_append]; show 1 + a.length + 1 + b.length + 1 ≤ _; omega)
      have c5 := fun w => run_string_add_sum (P := Tryd.prog) (w := w) (⟨#[33]⟩ ++ ⟨#[UInt8.ofNat k.toNat, 32, UInt8.ofNat nm.toNat]⟩) (⟨#[123]⟩ ++ ⟨a.toArray⟩ ++ ⟨#[44]⟩ ++ ⟨b.toArray⟩ ++ ⟨#[125]⟩) (by simp only [ByteArray.size_append]; show (1 + 3) + (1 + a.length + 1 + b.length + 1) ≤ _; omega)
      go_quiet_grown (first | (go_at_call 21; exact Grw.grown (H1.out _ _)) | (go_at_call 21; exact Grw.grown (H2.out _ _)))
      change Exit.then _ _ Exit.normal _ (grow (w2.drewN nq) osq)
      have HGQ := Lib.hid (HG.out.trans (show Grw w2 (grow (w2.drewN nq) osq) from ⟨nq, osq, rfl⟩))
      clear s3 s4 H1 H2 c1 c2 c3 c4 c5
      generalize grow (w2.drewN nq) osq = w7 at *
      go_wp2_with fail
      go_ret
      exact ⟨by rw [HJ.out]; simp only [← mkapp]; rfl, HGQ.out⟩
end Go.Proofs.YtcfimponmioneaaDoor.WS
