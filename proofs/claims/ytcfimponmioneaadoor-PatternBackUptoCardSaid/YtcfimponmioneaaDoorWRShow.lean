/- The walks of oxbowref19.sign, Show: the document's text of a pattern. -/
import Derived.Test.YtcfimponmioneaaDoorWShow
namespace Go.Proofs.YtcfimponmioneaaDoor.WS
open Go Go.RowKit Go.Sort Go.Proofs.YtcfimponmioneaaDoor Go.Proofs.YtcfimponmioneaaDoor.PL Go.Proofs.YtcfimponmioneaaDoor.PS Go.Proofs.YtcfimponmioneaaDoor.Mem Go.Proofs.YtcfimponmioneaaDoor.WL

set_option maxRecDepth 100000 in
theorem sign_any (op : Int) (W : World) : Calls Tryd.prog 17 #[.int .i64 op] W fun e w' => e = .returned (.string ⟨(signB op).toArray⟩) ∧ W = w' := by
  by_cases h0 : op = 0
  · subst h0; go_enter Tryd.func17, Tryd.ntmps17; go_wp2_with fail; go_ret; exact ⟨rfl, rfl⟩
  by_cases h1 : op = 1
  · subst h1; go_enter Tryd.func17, Tryd.ntmps17; go_wp2_with fail; go_ret; exact ⟨rfl, rfl⟩
  by_cases h2 : op = 2
  · subst h2; go_enter Tryd.func17, Tryd.ntmps17; go_wp2_with fail; go_ret; exact ⟨rfl, rfl⟩
  by_cases h3 : op = 3
  · subst h3; go_enter Tryd.func17, Tryd.ntmps17; go_wp2_with fail; go_ret; exact ⟨rfl, rfl⟩
  by_cases h4 : op = 4
  · subst h4; go_enter Tryd.func17, Tryd.ntmps17; go_wp2_with fail; go_ret; exact ⟨rfl, rfl⟩
  by_cases h5 : op = 5
  · subst h5; go_enter Tryd.func17, Tryd.ntmps17; go_wp2_with fail; go_ret; exact ⟨rfl, rfl⟩
  have HS := Lib.hid (show signB op = [63] by unfold signB; rw [if_neg h0, if_neg h1, if_neg h2, if_neg h3, if_neg h4, if_neg h5])
  have g0 : (op == 0) = false := by rw [beq_eq_false_iff_ne]; exact h0
  have g1 : (op == 1) = false := by rw [beq_eq_false_iff_ne]; exact h1
  have g2 : (op == 2) = false := by rw [beq_eq_false_iff_ne]; exact h2
  have g3 : (op == 3) = false := by rw [beq_eq_false_iff_ne]; exact h3
  have g4 : (op == 4) = false := by rw [beq_eq_false_iff_ne]; exact h4
  have g5 : (op == 5) = false := by rw [beq_eq_false_iff_ne]; exact h5
  clear h0 h1 h2 h3 h4 h5
  go_enter Tryd.func17, Tryd.ntmps17
  go_wp2_with fail
  go_ret
  exact ⟨by rw [HS.out]; rfl, rfl⟩

/-- The conditions' part. -/
def cpre (l : List GC) : List UInt8 := if l = [] then [] else whereB ++ Lib.join (l.map showC) andB
theorem cpre_take (l : List GC) (k : Nat) (h : k < l.length) : cpre (l.take (k + 1)) = cpre (l.take k) ++ ((if k = 0 then whereB else andB) ++ showC l[k]) := by
  have hj := join_take showC l andB k h
  have h1 : l.take (k + 1) ≠ [] := by intro e; have := congrArg List.length e; rw [List.length_take] at this; simp only [List.length_nil] at this; omega
  unfold cpre
  rw [if_neg h1, hj]
  by_cases hk : k = 0
  · subst hk; simp [Lib.join, List.intercalate]
  · have h2 : l.take k ≠ [] := by intro e; have := congrArg List.length e; rw [List.length_take] at this; simp only [List.length_nil] at this; omega
    rw [if_neg h2, if_neg hk, if_neg hk]; simp
theorem cpre_len (l : List GC) (h : ∀ c ∈ l, fitC c) : (cpre l).length ≤ 7 + l.length * 31 := by
  have hj := join_len showC andB 26 l fun c hc => showC_len (h c hc)
  have e : andB.length = 5 := rfl
  have e2 : whereB.length = 7 := rfl
  unfold cpre
  split
  · simp
  · rw [List.length_append]; rw [e] at hj; omega

set_option maxRecDepth 100000 in
set_option maxHeartbeats 12800000 in
theorem rshow_any (sv cv : Value) (wi : Int) (ss : List GS) (cs : List GC) (W : World) (h1 : Stps W W.heap.size sv ss) (h2 : Cnds W W.heap.size cv cs) (hn1 : ss.length ≤ 1048576) (hn2 : cs.length ≤ 1048576) (hf1 : ∀ s ∈ ss, fitS s) (hf2 : ∀ c ∈ cs, fitC c)
    (hw0 : -9223372036854775808 ≤ wi) (hw1 : wi ≤ 9223372036854775807) :
    Calls Tryd.prog 8 #[.agg #[sv, cv, .int .i64 wi]] W fun e w' => e = .returned (.string ⟨(showP ss cs wi).toArray⟩) ∧ Below W.heap.size W w' := by
  obtain ⟨sa, sc, rfl⟩ := Sl.shape h1
  obtain ⟨ca, cc, rfl⟩ := Sl.shape h2
  have H1 := Lib.hid h1; have H2 := Lib.hid h2; have HF1 := Lib.hid hf1; have HF2 := Lib.hid hf2
  have HJ1 := Lib.hid (fun k => join_len showS [44] 49 (ss.take k) fun s hs => showS_len (hf1 s (List.mem_of_mem_take hs)))
  have HJ2 := Lib.hid (fun k => cpre_len (cs.take k) fun c hc => hf2 c (List.mem_of_mem_take hc))
  have HSH := Lib.hid (show showP ss cs wi = seqB ++ Lib.join (ss.map showS) [44] ++ [41] ++ cpre cs ++ (withinB ++ Lib.itoa wi) from rfl)
  obtain ⟨R, hR⟩ : ∃ R, showP ss cs wi = R := ⟨_, rfl⟩
  rw [hR] at HSH ⊢
  have HX := Lib.hid (show (W.alloc (.cells #[.slice sa ss.length sc, .slice ca cs.length cc, .int .i64 wi] 33)).heap[W.heap.size]? = _ from heap_new rfl)
  have HB0 := Lib.hid (show Below W.heap.size W (W.alloc (.cells #[.slice sa ss.length sc, .slice ca cs.length cc, .int .i64 wi] 33)) from (Below.refl _ _).alloc (Nat.le_refl _) _)
  clear hR h1 h2 hf1 hf2
  obtain ⟨wa, hwa⟩ : ∃ wa, wa = W.alloc (.cells #[.slice sa ss.length sc, .slice ca cs.length cc, .int .i64 wi] 33) := ⟨_, rfl⟩
  have hza : W.heap.size < wa.heap.size := by rw [hwa]; simp
  rw [← hwa] at HX HB0
  have HWA := Lib.hid hwa
  clear hwa
  go_enter Tryd.func8, Tryd.ntmps8
  go_wp2_with fail
  rw [← HWA.out]
  go_loopw [3, 4] (fun v u wr => ∃ (k : Nat) (acc : List UInt8), k ≤ ss.length ∧ u = .int .i64 k ∧ v = .string ⟨acc.toArray⟩ ∧ acc = seqB ++ Lib.join ((ss.take k).map showS) [44] ∧ Below wa.heap.size wa wr) (fun _ u _ => ss.length - (intOf u).toNat)
  case atStart => exact ⟨0, seqB, by omega, rfl, rfl, by simp [Lib.join, List.intercalate], Below.refl _ _⟩
  case round =>
    obtain ⟨k, acc, hk, rfl, rfl, hacc, hbel⟩ := hrel
    have HACC := Lib.hid hacc
    have HBW := Lib.hid (HB0.out.trans (hbel.mono HB0.out.size))
    have HBEL := Lib.hid hbel
    have hx0 : wr.heap[W.heap.size]? = some (.cells #[.slice sa ss.length sc, .slice ca cs.length cc, .int .i64 wi] 33 (0, 0)) := (hbel.block _ hza).trans HX.out
    have hal : acc.length ≤ 60000000 := by
      have h := HJ1.out k
      have e1 : ([44] : List UInt8).length = 1 := rfl
      have e2 : seqB.length = 4 := rfl
      have e3 : (ss.take k).length = k := by rw [List.length_take]; omega
      rw [e1, e3] at h
      rw [hacc, List.length_append]
      omega
    have hsz := hbel.size
    have hzr : W.heap.size < wr.heap.size := by omega
    have HX0 := Lib.hid hx0
    have p0 := (Lib.cell_of_heap hx0 0).trans rfl
    clear hbel hacc hx0
    by_cases hlt : k < ss.length
    · have hlt' : (k : Int) < (ss.length : Int) := by omega
      have hk0 : (0 : Int) ≤ (k : Int) := by omega
      obtain ⟨b, o, c, hc, hb, x0, x1, x2, x3, x4⟩ := H1.out.at_ hlt
      obtain ⟨rfl, rfl⟩ : sa = some ⟨b, o, none⟩ ∧ sc = c := by simpa using hc
      have HTK := Lib.hid (join_take showS ss [44] k hlt)
      have hfit := HF1.out ss[k] (List.getElem_mem hlt)
      obtain ⟨x, hx⟩ : ∃ x, ss[k] = x := ⟨_, rfl⟩
      rw [hx] at x0 x1 x2 x3 x4 HTK hfit
      have hbl := HBW.out
      have y0 := (hbl.cell (p := ⟨b, o + k * 5, none⟩) hb).trans x0
      have y1 := (hbl.cell (p := ⟨b, o + k * 5 + 1, none⟩) hb).trans x1
      have y2 := (hbl.cell (p := ⟨b, o + k * 5 + 2, none⟩) hb).trans x2
      have y3 := (hbl.cell (p := ⟨b, o + k * 5 + 3, none⟩) hb).trans x3
      have y4 := (hbl.cell (p := ⟨b, o + k * 5 + 4, none⟩) hb).trans x4
      obtain ⟨⟨f1, f2⟩, ⟨f3, f4⟩, ⟨f5, f6⟩, ⟨f7, f8⟩⟩ := hfit
      have hi1 := Lib.itoa_length_le x.lo f5 f6
      have hi2 := Lib.itoa_length_le x.hi f7 f8
      have HSX := Lib.hid (show showS x = (if x.neg = true then [33] else []) ++ ([byB x.k, 32, byB x.nm] ++ (if x.lo = 1 ∧ x.hi = 1 then [] else 123 :: (Lib.itoa x.lo ++ 44 :: (Lib.itoa x.hi ++ [125])))) from rfl)
      obtain ⟨xt, hxt⟩ : ∃ xt, showS x = xt := ⟨_, rfl⟩
      rw [hxt] at HSX HTK
      obtain ⟨xk, xnm, neg, lo, hi⟩ := x
      simp only at y0 y1 y2 y3 y4 f1 f2 f3 f4 f5 f6 f7 f8 hi1 hi2 HSX HTK
      have hthree := three_str (wr.alloc (.cells #[.int .u8 xk, .int .u8 xnm, .bool neg, .int .i64 lo, .int .i64 hi] 49)) xk 32 xnm (by omega) (by omega) (by omega)
      rw [show (wr.alloc (.cells #[.int .u8 xk, .int .u8 xnm, .bool neg, .int .i64 lo, .int .i64 hi] 49)).heap.size = wr.heap.size + 1 by simp] at hthree
      obtain ⟨w2, hw2⟩ : ∃ w2, w2 = (wr.alloc (.cells #[.int .u8 xk, .int .u8 xnm, .bool neg, .int .i64 lo, .int .i64 hi] 49)).alloc (.cells #[.int .u8 xk, .int .u8 32, .int .u8 xnm] 5) := ⟨_, rfl⟩
      have X0 := Lib.hid (show w2.heap[wr.heap.size]? = some (.cells #[.int .u8 xk, .int .u8 xnm, .bool neg, .int .i64 lo, .int .i64 hi] 49 (0, 0)) by rw [hw2]; exact heap_alloc (heap_new rfl))
      have HG := Lib.hid (show Below wa.heap.size wa w2 by rw [hw2]; exact (HBEL.out.alloc hsz _).alloc (by simp; omega) _)
      have hz2 : wr.heap.size < w2.heap.size := by rw [hw2]; simp; omega
      have HW := Lib.hid hw2
      have HD1 := Lib.hid (dec_any lo f5 f6 w2)
      clear hw2 hxt x0 x1 x2 x3 x4 hc hx hbl
      by_cases hkz : k = 0
      · have hkn : ¬ (0 : Int) < (k : Int) := by omega
        have HKZ := Lib.hid hkz
        clear hkz
        cases neg with
        | false =>
          by_cases hlo : lo = 1
          · subst hlo
            by_cases hhi : hi = 1
            · subst hhi
              have HN := Lib.hid (show (acc ++ [UInt8.ofNat xk.toNat, 32, UInt8.ofNat xnm.toNat]) = seqB ++ Lib.join ((ss.take (k + 1)).map showS) [44] by
                rw [HTK.out, HSX.out, HACC.out]; simp [byB, HKZ.out])
              clear HSX HD1
              go_wp2_with fail
              rw [← HW.out]
              go_roundw
              case rel => exact ⟨k + 1, _, by omega, by go_num, by simp only [← mkapp], HN.out, HG.out⟩
              case measure => simp [intOf]; omega
            · have hhi' := ne_one hhi
              have HNE := Lib.hid (fun (h : (1 : Int) = 1 ∧ hi = 1) => hhi h.2)
              clear hhi
              obtain ⟨a, ha⟩ : ∃ a, Lib.itoa 1 = a := ⟨_, rfl⟩
              obtain ⟨b', hb'⟩ : ∃ b, Lib.itoa hi = b := ⟨_, rfl⟩
              have HN := Lib.hid (show (((((acc ++ [UInt8.ofNat xk.toNat, 32, UInt8.ofNat xnm.toNat]) ++ [123]) ++ a) ++ [44]) ++ b') ++ [125] = seqB ++ Lib.join ((ss.take (k + 1)).map showS) [44] by
                rw [HTK.out, HSX.out, HACC.out, if_neg HNE.out, ← ha, ← hb']; simp [byB, HKZ.out])
              rw [ha] at HD1 hi1
              have HB' := Lib.hid hb'
              rw [hb'] at hi2
              clear HSX ha hb'
              go_wp2_with fail
              rw [← HW.out]
              refine HD1.out.mono ?_
              rintro e w3 ⟨rfl, hg3⟩
              have HG3 := Lib.hid (HG.out.trans (hg3.below.mono HG.out.size))
              have q4 := (hg3.cell (b := wr.heap.size) (o := 4) hz2 ((Lib.cell_of_heap X0.out 4).trans rfl))
              have HD2 := dec_any hi f7 f8 w3
              rw [HB'.out] at HD2
              have HD3 := Lib.hid HD2
              clear hg3 HD2 HD1
              go_wp2_with fail
              refine HD3.out.mono ?_
              rintro e w4 ⟨rfl, hg4⟩
              have HG4 := Lib.hid (HG3.out.trans (hg4.below.mono HG3.out.size))
              clear hg4 HD3
              go_wp2_with fail
              go_roundw
              case rel => exact ⟨k + 1, _, by omega, by go_num, by simp only [← mkapp], HN.out, HG4.out⟩
              case measure => simp [intOf]; omega
          · have hlo' := ne_one hlo
            have HNE := Lib.hid (fun (h : lo = 1 ∧ hi = 1) => hlo h.1)
            clear hlo
            obtain ⟨a, ha⟩ : ∃ a, Lib.itoa lo = a := ⟨_, rfl⟩
            obtain ⟨b', hb'⟩ : ∃ b, Lib.itoa hi = b := ⟨_, rfl⟩
            have HN := Lib.hid (show (((((acc ++ [UInt8.ofNat xk.toNat, 32, UInt8.ofNat xnm.toNat]) ++ [123]) ++ a) ++ [44]) ++ b') ++ [125] = seqB ++ Lib.join ((ss.take (k + 1)).map showS) [44] by
              rw [HTK.out, HSX.out, HACC.out, if_neg HNE.out, ← ha, ← hb']; simp [byB, HKZ.out])
            rw [ha] at HD1 hi1
            have HB' := Lib.hid hb'
            rw [hb'] at hi2
            clear HSX ha hb'
            go_wp2_with fail
            rw [← HW.out]
            refine HD1.out.mono ?_
            rintro e w3 ⟨rfl, hg3⟩
            have HG3 := Lib.hid (HG.out.trans (hg3.below.mono HG.out.size))
            have q4 := (hg3.cell (b := wr.heap.size) (o := 4) hz2 ((Lib.cell_of_heap X0.out 4).trans rfl))
            have HD2 := dec_any hi f7 f8 w3
            rw [HB'.out] at HD2
            have HD3 := Lib.hid HD2
            clear hg3 HD2 HD1
            go_wp2_with fail
            refine HD3.out.mono ?_
            rintro e w4 ⟨rfl, hg4⟩
            have HG4 := Lib.hid (HG3.out.trans (hg4.below.mono HG3.out.size))
            clear hg4 HD3
            go_wp2_with fail
            go_roundw
            case rel => exact ⟨k + 1, _, by omega, by go_num, by simp only [← mkapp], HN.out, HG4.out⟩
            case measure => simp [intOf]; omega
        | true =>
          by_cases hlo : lo = 1
          · subst hlo
            by_cases hhi : hi = 1
            · subst hhi
              have HN := Lib.hid (show ((acc ++ [33]) ++ [UInt8.ofNat xk.toNat, 32, UInt8.ofNat xnm.toNat]) = seqB ++ Lib.join ((ss.take (k + 1)).map showS) [44] by
                rw [HTK.out, HSX.out, HACC.out]; simp [byB, HKZ.out])
              clear HSX HD1
              go_wp2_with fail
              rw [← HW.out]
              go_roundw
              case rel => exact ⟨k + 1, _, by omega, by go_num, by simp only [← mkapp], HN.out, HG.out⟩
              case measure => simp [intOf]; omega
            · have hhi' := ne_one hhi
              have HNE := Lib.hid (fun (h : (1 : Int) = 1 ∧ hi = 1) => hhi h.2)
              clear hhi
              obtain ⟨a, ha⟩ : ∃ a, Lib.itoa 1 = a := ⟨_, rfl⟩
              obtain ⟨b', hb'⟩ : ∃ b, Lib.itoa hi = b := ⟨_, rfl⟩
              have HN := Lib.hid (show ((((((acc ++ [33]) ++ [UInt8.ofNat xk.toNat, 32, UInt8.ofNat xnm.toNat]) ++ [123]) ++ a) ++ [44]) ++ b') ++ [125] = seqB ++ Lib.join ((ss.take (k + 1)).map showS) [44] by
                rw [HTK.out, HSX.out, HACC.out, if_neg HNE.out, ← ha, ← hb']; simp [byB, HKZ.out])
              rw [ha] at HD1 hi1
              have HB' := Lib.hid hb'
              rw [hb'] at hi2
              clear HSX ha hb'
              go_wp2_with fail
              rw [← HW.out]
              refine HD1.out.mono ?_
              rintro e w3 ⟨rfl, hg3⟩
              have HG3 := Lib.hid (HG.out.trans (hg3.below.mono HG.out.size))
              have q4 := (hg3.cell (b := wr.heap.size) (o := 4) hz2 ((Lib.cell_of_heap X0.out 4).trans rfl))
              have HD2 := dec_any hi f7 f8 w3
              rw [HB'.out] at HD2
              have HD3 := Lib.hid HD2
              clear hg3 HD2 HD1
              go_wp2_with fail
              refine HD3.out.mono ?_
              rintro e w4 ⟨rfl, hg4⟩
              have HG4 := Lib.hid (HG3.out.trans (hg4.below.mono HG3.out.size))
              clear hg4 HD3
              go_wp2_with fail
              go_roundw
              case rel => exact ⟨k + 1, _, by omega, by go_num, by simp only [← mkapp], HN.out, HG4.out⟩
              case measure => simp [intOf]; omega
          · have hlo' := ne_one hlo
            have HNE := Lib.hid (fun (h : lo = 1 ∧ hi = 1) => hlo h.1)
            clear hlo
            obtain ⟨a, ha⟩ : ∃ a, Lib.itoa lo = a := ⟨_, rfl⟩
            obtain ⟨b', hb'⟩ : ∃ b, Lib.itoa hi = b := ⟨_, rfl⟩
            have HN := Lib.hid (show ((((((acc ++ [33]) ++ [UInt8.ofNat xk.toNat, 32, UInt8.ofNat xnm.toNat]) ++ [123]) ++ a) ++ [44]) ++ b') ++ [125] = seqB ++ Lib.join ((ss.take (k + 1)).map showS) [44] by
              rw [HTK.out, HSX.out, HACC.out, if_neg HNE.out, ← ha, ← hb']; simp [byB, HKZ.out])
            rw [ha] at HD1 hi1
            have HB' := Lib.hid hb'
            rw [hb'] at hi2
            clear HSX ha hb'
            go_wp2_with fail
            rw [← HW.out]
            refine HD1.out.mono ?_
            rintro e w3 ⟨rfl, hg3⟩
            have HG3 := Lib.hid (HG.out.trans (hg3.below.mono HG.out.size))
            have q4 := (hg3.cell (b := wr.heap.size) (o := 4) hz2 ((Lib.cell_of_heap X0.out 4).trans rfl))
            have HD2 := dec_any hi f7 f8 w3
            rw [HB'.out] at HD2
            have HD3 := Lib.hid HD2
            clear hg3 HD2 HD1
            go_wp2_with fail
            refine HD3.out.mono ?_
            rintro e w4 ⟨rfl, hg4⟩
            have HG4 := Lib.hid (HG3.out.trans (hg4.below.mono HG3.out.size))
            clear hg4 HD3
            go_wp2_with fail
            go_roundw
            case rel => exact ⟨k + 1, _, by omega, by go_num, by simp only [← mkapp], HN.out, HG4.out⟩
            case measure => simp [intOf]; omega
      · have hkp : (0 : Int) < (k : Int) := by omega
        have HKZ := Lib.hid hkz
        clear hkz
        cases neg with
        | false =>
          by_cases hlo : lo = 1
          · subst hlo
            by_cases hhi : hi = 1
            · subst hhi
              have HN := Lib.hid (show ((acc ++ [44]) ++ [UInt8.ofNat xk.toNat, 32, UInt8.ofNat xnm.toNat]) = seqB ++ Lib.join ((ss.take (k + 1)).map showS) [44] by
                rw [HTK.out, HSX.out, HACC.out]; simp [byB, HKZ.out])
              clear HSX HD1
              go_wp2_with fail
              rw [← HW.out]
              go_roundw
              case rel => exact ⟨k + 1, _, by omega, by go_num, by simp only [← mkapp], HN.out, HG.out⟩
              case measure => simp [intOf]; omega
            · have hhi' := ne_one hhi
              have HNE := Lib.hid (fun (h : (1 : Int) = 1 ∧ hi = 1) => hhi h.2)
              clear hhi
              obtain ⟨a, ha⟩ : ∃ a, Lib.itoa 1 = a := ⟨_, rfl⟩
              obtain ⟨b', hb'⟩ : ∃ b, Lib.itoa hi = b := ⟨_, rfl⟩
              have HN := Lib.hid (show ((((((acc ++ [44]) ++ [UInt8.ofNat xk.toNat, 32, UInt8.ofNat xnm.toNat]) ++ [123]) ++ a) ++ [44]) ++ b') ++ [125] = seqB ++ Lib.join ((ss.take (k + 1)).map showS) [44] by
                rw [HTK.out, HSX.out, HACC.out, if_neg HNE.out, ← ha, ← hb']; simp [byB, HKZ.out])
              rw [ha] at HD1 hi1
              have HB' := Lib.hid hb'
              rw [hb'] at hi2
              clear HSX ha hb'
              go_wp2_with fail
              rw [← HW.out]
              refine HD1.out.mono ?_
              rintro e w3 ⟨rfl, hg3⟩
              have HG3 := Lib.hid (HG.out.trans (hg3.below.mono HG.out.size))
              have q4 := (hg3.cell (b := wr.heap.size) (o := 4) hz2 ((Lib.cell_of_heap X0.out 4).trans rfl))
              have HD2 := dec_any hi f7 f8 w3
              rw [HB'.out] at HD2
              have HD3 := Lib.hid HD2
              clear hg3 HD2 HD1
              go_wp2_with fail
              refine HD3.out.mono ?_
              rintro e w4 ⟨rfl, hg4⟩
              have HG4 := Lib.hid (HG3.out.trans (hg4.below.mono HG3.out.size))
              clear hg4 HD3
              go_wp2_with fail
              go_roundw
              case rel => exact ⟨k + 1, _, by omega, by go_num, by simp only [← mkapp], HN.out, HG4.out⟩
              case measure => simp [intOf]; omega
          · have hlo' := ne_one hlo
            have HNE := Lib.hid (fun (h : lo = 1 ∧ hi = 1) => hlo h.1)
            clear hlo
            obtain ⟨a, ha⟩ : ∃ a, Lib.itoa lo = a := ⟨_, rfl⟩
            obtain ⟨b', hb'⟩ : ∃ b, Lib.itoa hi = b := ⟨_, rfl⟩
            have HN := Lib.hid (show ((((((acc ++ [44]) ++ [UInt8.ofNat xk.toNat, 32, UInt8.ofNat xnm.toNat]) ++ [123]) ++ a) ++ [44]) ++ b') ++ [125] = seqB ++ Lib.join ((ss.take (k + 1)).map showS) [44] by
              rw [HTK.out, HSX.out, HACC.out, if_neg HNE.out, ← ha, ← hb']; simp [byB, HKZ.out])
            rw [ha] at HD1 hi1
            have HB' := Lib.hid hb'
            rw [hb'] at hi2
            clear HSX ha hb'
            go_wp2_with fail
            rw [← HW.out]
            refine HD1.out.mono ?_
            rintro e w3 ⟨rfl, hg3⟩
            have HG3 := Lib.hid (HG.out.trans (hg3.below.mono HG.out.size))
            have q4 := (hg3.cell (b := wr.heap.size) (o := 4) hz2 ((Lib.cell_of_heap X0.out 4).trans rfl))
            have HD2 := dec_any hi f7 f8 w3
            rw [HB'.out] at HD2
            have HD3 := Lib.hid HD2
            clear hg3 HD2 HD1
            go_wp2_with fail
            refine HD3.out.mono ?_
            rintro e w4 ⟨rfl, hg4⟩
            have HG4 := Lib.hid (HG3.out.trans (hg4.below.mono HG3.out.size))
            clear hg4 HD3
            go_wp2_with fail
            go_roundw
            case rel => exact ⟨k + 1, _, by omega, by go_num, by simp only [← mkapp], HN.out, HG4.out⟩
            case measure => simp [intOf]; omega
        | true =>
          by_cases hlo : lo = 1
          · subst hlo
            by_cases hhi : hi = 1
            · subst hhi
              have HN := Lib.hid (show (((acc ++ [44]) ++ [33]) ++ [UInt8.ofNat xk.toNat, 32, UInt8.ofNat xnm.toNat]) = seqB ++ Lib.join ((ss.take (k + 1)).map showS) [44] by
                rw [HTK.out, HSX.out, HACC.out]; simp [byB, HKZ.out])
              clear HSX HD1
              go_wp2_with fail
              rw [← HW.out]
              go_roundw
              case rel => exact ⟨k + 1, _, by omega, by go_num, by simp only [← mkapp], HN.out, HG.out⟩
              case measure => simp [intOf]; omega
            · have hhi' := ne_one hhi
              have HNE := Lib.hid (fun (h : (1 : Int) = 1 ∧ hi = 1) => hhi h.2)
              clear hhi
              obtain ⟨a, ha⟩ : ∃ a, Lib.itoa 1 = a := ⟨_, rfl⟩
              obtain ⟨b', hb'⟩ : ∃ b, Lib.itoa hi = b := ⟨_, rfl⟩
              have HN := Lib.hid (show (((((((acc ++ [44]) ++ [33]) ++ [UInt8.ofNat xk.toNat, 32, UInt8.ofNat xnm.toNat]) ++ [123]) ++ a) ++ [44]) ++ b') ++ [125] = seqB ++ Lib.join ((ss.take (k + 1)).map showS) [44] by
                rw [HTK.out, HSX.out, HACC.out, if_neg HNE.out, ← ha, ← hb']; simp [byB, HKZ.out])
              rw [ha] at HD1 hi1
              have HB' := Lib.hid hb'
              rw [hb'] at hi2
              clear HSX ha hb'
              go_wp2_with fail
              rw [← HW.out]
              refine HD1.out.mono ?_
              rintro e w3 ⟨rfl, hg3⟩
              have HG3 := Lib.hid (HG.out.trans (hg3.below.mono HG.out.size))
              have q4 := (hg3.cell (b := wr.heap.size) (o := 4) hz2 ((Lib.cell_of_heap X0.out 4).trans rfl))
              have HD2 := dec_any hi f7 f8 w3
              rw [HB'.out] at HD2
              have HD3 := Lib.hid HD2
              clear hg3 HD2 HD1
              go_wp2_with fail
              refine HD3.out.mono ?_
              rintro e w4 ⟨rfl, hg4⟩
              have HG4 := Lib.hid (HG3.out.trans (hg4.below.mono HG3.out.size))
              clear hg4 HD3
              go_wp2_with fail
              go_roundw
              case rel => exact ⟨k + 1, _, by omega, by go_num, by simp only [← mkapp], HN.out, HG4.out⟩
              case measure => simp [intOf]; omega
          · have hlo' := ne_one hlo
            have HNE := Lib.hid (fun (h : lo = 1 ∧ hi = 1) => hlo h.1)
            clear hlo
            obtain ⟨a, ha⟩ : ∃ a, Lib.itoa lo = a := ⟨_, rfl⟩
            obtain ⟨b', hb'⟩ : ∃ b, Lib.itoa hi = b := ⟨_, rfl⟩
            have HN := Lib.hid (show (((((((acc ++ [44]) ++ [33]) ++ [UInt8.ofNat xk.toNat, 32, UInt8.ofNat xnm.toNat]) ++ [123]) ++ a) ++ [44]) ++ b') ++ [125] = seqB ++ Lib.join ((ss.take (k + 1)).map showS) [44] by
              rw [HTK.out, HSX.out, HACC.out, if_neg HNE.out, ← ha, ← hb']; simp [byB, HKZ.out])
            rw [ha] at HD1 hi1
            have HB' := Lib.hid hb'
            rw [hb'] at hi2
            clear HSX ha hb'
            go_wp2_with fail
            rw [← HW.out]
            refine HD1.out.mono ?_
            rintro e w3 ⟨rfl, hg3⟩
            have HG3 := Lib.hid (HG.out.trans (hg3.below.mono HG.out.size))
            have q4 := (hg3.cell (b := wr.heap.size) (o := 4) hz2 ((Lib.cell_of_heap X0.out 4).trans rfl))
            have HD2 := dec_any hi f7 f8 w3
            rw [HB'.out] at HD2
            have HD3 := Lib.hid HD2
            clear hg3 HD2 HD1
            go_wp2_with fail
            refine HD3.out.mono ?_
            rintro e w4 ⟨rfl, hg4⟩
            have HG4 := Lib.hid (HG3.out.trans (hg4.below.mono HG3.out.size))
            clear hg4 HD3
            go_wp2_with fail
            go_roundw
            case rel => exact ⟨k + 1, _, by omega, by go_num, by simp only [← mkapp], HN.out, HG4.out⟩
            case measure => simp [intOf]; omega
    · obtain rfl : k = ss.length := by omega
      obtain ⟨w1, rfl⟩ : ∃ w1 : World, w1 = wr := ⟨_, rfl⟩
      have HA := Lib.hid (show acc = seqB ++ Lib.join (ss.map showS) [44] by have h := HACC.out; rwa [List.take_length] at h)
      clear HACC hlt hk
      go_wp2_with fail
      go_loopw [3, 8] (fun v u wq => ∃ (m : Nat) (acc2 : List UInt8), m ≤ cs.length ∧ u = .int .i64 m ∧ v = .string ⟨acc2.toArray⟩ ∧ acc2 = (acc ++ [41]) ++ cpre (cs.take m) ∧ Below w1.heap.size w1 wq) (fun _ u _ => cs.length - (intOf u).toNat)
      case atStart => exact ⟨0, acc ++ [41], by omega, rfl, by simp only [← mkapp], by simp [cpre], Below.refl _ _⟩
      case round =>
        obtain ⟨m, acc2, hm, rfl, rfl, hacc, hbel⟩ := hrel
        have HACC2 := Lib.hid hacc
        have HBW2 := Lib.hid (HBW.out.trans (hbel.mono HBW.out.size))
        have HBEL2 := Lib.hid hbel
        have hx0 : wr.heap[W.heap.size]? = some (.cells #[.slice sa ss.length sc, .slice ca cs.length cc, .int .i64 wi] 33 (0, 0)) := (hbel.block _ hzr).trans HX0.out
        have hal2 : acc2.length ≤ 120000000 := by
          have h := HJ2.out m
          have e3 : (cs.take m).length = m := by rw [List.length_take]; omega
          rw [e3] at h
          rw [hacc, List.length_append, List.length_append]
          simp only [List.length_cons, List.length_nil]
          omega
        have hszb := hbel.size
        have hzr2 : W.heap.size < wr.heap.size := by omega
        have HX2 := Lib.hid hx0
        have p1 := (Lib.cell_of_heap hx0 1).trans rfl
        clear hbel hacc hx0
        by_cases hlt : m < cs.length
        · have hlt' : (m : Int) < (cs.length : Int) := by omega
          have hk0 : (0 : Int) ≤ (m : Int) := by omega
          obtain ⟨b, o, c, hc, hb, x0, x1, x2, x3⟩ := H2.out.at_ hlt
          obtain ⟨rfl, rfl⟩ : ca = some ⟨b, o, none⟩ ∧ cc = c := by simpa using hc
          have HTK := Lib.hid (cpre_take cs m hlt)
          have hfit := HF2.out cs[m] (List.getElem_mem hlt)
          obtain ⟨x, hx⟩ : ∃ x, cs[m] = x := ⟨_, rfl⟩
          rw [hx] at x0 x1 x2 x3 HTK hfit
          have hbl := HBW2.out
          have y0 := (hbl.cell (p := ⟨b, o + m * 4, none⟩) hb).trans x0
          have y1 := (hbl.cell (p := ⟨b, o + m * 4 + 1, none⟩) hb).trans x1
          have y2 := (hbl.cell (p := ⟨b, o + m * 4 + 2, none⟩) hb).trans x2
          have y3 := (hbl.cell (p := ⟨b, o + m * 4 + 3, none⟩) hb).trans x3
          obtain ⟨⟨f1, f2⟩, ⟨f3, f4⟩, ⟨f5, f6⟩, ⟨f7, f8⟩⟩ := hfit
          have hi1 := Lib.itoa_length_le x.k f7 f8
          have hsl := signB_len x.op
          have HSX := Lib.hid (show showC x = byB x.l :: (signB x.op ++ (if x.r = 0 then Lib.itoa x.k else byB x.r :: (if 0 < x.k then 43 :: Lib.itoa x.k else if x.k = 0 then [] else Lib.itoa x.k))) from rfl)
          obtain ⟨xt, hxt⟩ : ∃ xt, showC x = xt := ⟨_, rfl⟩
          rw [hxt] at HSX HTK
          obtain ⟨l, op, r, k⟩ := x
          simp only at y0 y1 y2 y3 f1 f2 f3 f4 f5 f6 f7 f8 hi1 hsl HSX HTK
          obtain ⟨w2, hw2⟩ : ∃ w2, w2 = wr.alloc (.cells #[.int .u8 l, .int .i64 op, .int .u8 r, .int .i64 k] 55) := ⟨_, rfl⟩
          have X0 := Lib.hid (show w2.heap[wr.heap.size]? = some (.cells #[.int .u8 l, .int .i64 op, .int .u8 r, .int .i64 k] 55 (0, 0)) by rw [hw2]; exact heap_new rfl)
          have HG := Lib.hid (show Below w1.heap.size w1 w2 by rw [hw2]; exact HBEL2.out.alloc hszb _)
          have hz2 : wr.heap.size < w2.heap.size := by rw [hw2]; simp
          have HW := Lib.hid hw2
          have hd1 := dec_any k f7 f8 w2
          obtain ⟨a, ha⟩ : ∃ a, Lib.itoa k = a := ⟨_, rfl⟩
          obtain ⟨sg, hsg⟩ : ∃ sg, signB op = sg := ⟨_, rfl⟩
          rw [ha] at hd1 hi1
          rw [hsg] at hsl
          have HD1 := Lib.hid hd1
          have HIT := Lib.hid ha; have HSG := Lib.hid hsg
          clear hw2 hxt x0 x1 x2 x3 hc hx hbl ha hsg hd1
          by_cases hmz : m = 0
          · have hmn : ((m : Int) == 0) = true := by rw [beq_iff_eq]; omega
            have HWD := Lib.hid (show (if m = 0 then whereB else andB) = whereB by rw [if_pos hmz])
            have hwl : whereB.length = 7 := rfl
            clear hmz
            by_cases hr : r = 0
            · have HN := Lib.hid (show ((((acc2 ++ whereB) ++ [UInt8.ofNat l.toNat]) ++ sg) ++ a) = (acc ++ [41]) ++ cpre (cs.take (m + 1)) by
                rw [HTK.out, HSX.out, HACC2.out, if_pos hr, HSG.out, HIT.out, HWD.out]; simp [byB])
              clear HSX
              have hr1 : (r == 0) = true := by rw [beq_iff_eq]; exact hr
              clear hr
              go_wp2_with fail
              refine (sign_any op _).mono ?_
              rintro e w3 ⟨rfl, rfl⟩
              rw [HSG.out]
              go_wp2_with fail
              rw [← HW.out]
              refine HD1.out.mono ?_
              rintro e w4 ⟨rfl, hg4⟩
              have HG4 := Lib.hid (HG.out.trans (hg4.below.mono HG.out.size))
              have q0 := (hg4.cell (b := wr.heap.size) (o := 0) hz2 ((Lib.cell_of_heap X0.out 0).trans rfl))
              have q2 := (hg4.cell (b := wr.heap.size) (o := 2) hz2 ((Lib.cell_of_heap X0.out 2).trans rfl))
              have q3 := (hg4.cell (b := wr.heap.size) (o := 3) hz2 ((Lib.cell_of_heap X0.out 3).trans rfl))
              have hz4 : wr.heap.size < w4.heap.size := by have := hg4.below.size; omega
              have o1 := one_str w4 l (by omega) (by omega)
              clear hg4 HD1
              go_wp2_with fail
              go_roundw
              case rel => exact ⟨m + 1, _, by omega, by go_num, by simp only [← mkapp]; rfl, HN.out, HG4.out.alloc HG4.out.size _⟩
              case measure => simp [intOf]; omega
            · by_cases hk1 : 0 < k
              · have HN := Lib.hid (show ((((((acc2 ++ whereB) ++ [UInt8.ofNat l.toNat]) ++ sg) ++ [UInt8.ofNat r.toNat]) ++ [43]) ++ a) = (acc ++ [41]) ++ cpre (cs.take (m + 1)) by
                  rw [HTK.out, HSX.out, HACC2.out, if_neg hr, if_pos hk1, HSG.out, HIT.out, HWD.out]; simp [byB])
                clear HSX
                have hr1 : (r == 0) = false := by rw [beq_eq_false_iff_ne]; exact hr
                have hk3 : (k != 0) = true := by rw [bne_iff_ne]; omega
                clear hr
                go_wp2_with fail
                refine (sign_any op _).mono ?_
                rintro e w3 ⟨rfl, rfl⟩
                rw [HSG.out]
                go_wp2_with fail
                rw [← HW.out]
                refine HD1.out.mono ?_
                rintro e w4 ⟨rfl, hg4⟩
                have HG4 := Lib.hid (HG.out.trans (hg4.below.mono HG.out.size))
                have q0 := (hg4.cell (b := wr.heap.size) (o := 0) hz2 ((Lib.cell_of_heap X0.out 0).trans rfl))
                have q2 := (hg4.cell (b := wr.heap.size) (o := 2) hz2 ((Lib.cell_of_heap X0.out 2).trans rfl))
                have q3 := (hg4.cell (b := wr.heap.size) (o := 3) hz2 ((Lib.cell_of_heap X0.out 3).trans rfl))
                have hz4 : wr.heap.size < w4.heap.size := by have := hg4.below.size; omega
                have o1 := one_str w4 l (by omega) (by omega)
                clear hg4 HD1
                have o2 := one_str (w4.alloc (.cells #[.int .u8 l] 5)) r (by omega) (by omega)
                rw [show (w4.alloc (.cells #[.int .u8 l] 5)).heap.size = w4.heap.size + 1 by simp] at o2
                go_wp2_with fail
                go_roundw
                case rel => exact ⟨m + 1, _, by omega, by go_num, by simp only [← mkapp]; rfl, HN.out, (HG4.out.alloc HG4.out.size _).alloc (by have := HG4.out.size; simp; omega) _⟩
                case measure => simp [intOf]; omega
              · by_cases hk2 : k = 0
                · have HN := Lib.hid (show ((((acc2 ++ whereB) ++ [UInt8.ofNat l.toNat]) ++ sg) ++ [UInt8.ofNat r.toNat]) = (acc ++ [41]) ++ cpre (cs.take (m + 1)) by
                    rw [HTK.out, HSX.out, HACC2.out, if_neg hr, if_neg hk1, if_pos hk2, HSG.out, HWD.out]; simp [byB])
                  clear HSX
                  have hr1 : (r == 0) = false := by rw [beq_eq_false_iff_ne]; exact hr
                  have hk3 : (k != 0) = false := by rw [hk2]; rfl
                  have hk0' : ¬ 0 < k := by omega
                  clear hr hk2
                  go_wp2_with fail
                  refine (sign_any op _).mono ?_
                  rintro e w3 ⟨rfl, rfl⟩
                  rw [HSG.out]
                  go_wp2_with fail
                  rw [← HW.out]
                  refine HD1.out.mono ?_
                  rintro e w4 ⟨rfl, hg4⟩
                  have HG4 := Lib.hid (HG.out.trans (hg4.below.mono HG.out.size))
                  have q0 := (hg4.cell (b := wr.heap.size) (o := 0) hz2 ((Lib.cell_of_heap X0.out 0).trans rfl))
                  have q2 := (hg4.cell (b := wr.heap.size) (o := 2) hz2 ((Lib.cell_of_heap X0.out 2).trans rfl))
                  have q3 := (hg4.cell (b := wr.heap.size) (o := 3) hz2 ((Lib.cell_of_heap X0.out 3).trans rfl))
                  have hz4 : wr.heap.size < w4.heap.size := by have := hg4.below.size; omega
                  have o1 := one_str w4 l (by omega) (by omega)
                  clear hg4 HD1
                  have o2 := one_str (w4.alloc (.cells #[.int .u8 l] 5)) r (by omega) (by omega)
                  rw [show (w4.alloc (.cells #[.int .u8 l] 5)).heap.size = w4.heap.size + 1 by simp] at o2
                  go_wp2_with fail
                  go_roundw
                  case rel => exact ⟨m + 1, _, by omega, by go_num, by simp only [← mkapp]; rfl, HN.out, (HG4.out.alloc HG4.out.size _).alloc (by have := HG4.out.size; simp; omega) _⟩
                  case measure => simp [intOf]; omega
                · have HN := Lib.hid (show (((((acc2 ++ whereB) ++ [UInt8.ofNat l.toNat]) ++ sg) ++ [UInt8.ofNat r.toNat]) ++ a) = (acc ++ [41]) ++ cpre (cs.take (m + 1)) by
                    rw [HTK.out, HSX.out, HACC2.out, if_neg hr, if_neg hk1, if_neg hk2, HSG.out, HIT.out, HWD.out]; simp [byB])
                  clear HSX
                  have hr1 : (r == 0) = false := by rw [beq_eq_false_iff_ne]; exact hr
                  have hk3 : (k != 0) = true := by rw [bne_iff_ne]; exact hk2
                  have hk0' : ¬ 0 < k := by omega
                  clear hr hk2
                  go_wp2_with fail
                  refine (sign_any op _).mono ?_
                  rintro e w3 ⟨rfl, rfl⟩
                  rw [HSG.out]
                  go_wp2_with fail
                  rw [← HW.out]
                  refine HD1.out.mono ?_
                  rintro e w4 ⟨rfl, hg4⟩
                  have HG4 := Lib.hid (HG.out.trans (hg4.below.mono HG.out.size))
                  have q0 := (hg4.cell (b := wr.heap.size) (o := 0) hz2 ((Lib.cell_of_heap X0.out 0).trans rfl))
                  have q2 := (hg4.cell (b := wr.heap.size) (o := 2) hz2 ((Lib.cell_of_heap X0.out 2).trans rfl))
                  have q3 := (hg4.cell (b := wr.heap.size) (o := 3) hz2 ((Lib.cell_of_heap X0.out 3).trans rfl))
                  have hz4 : wr.heap.size < w4.heap.size := by have := hg4.below.size; omega
                  have o1 := one_str w4 l (by omega) (by omega)
                  clear hg4 HD1
                  have o2 := one_str (w4.alloc (.cells #[.int .u8 l] 5)) r (by omega) (by omega)
                  rw [show (w4.alloc (.cells #[.int .u8 l] 5)).heap.size = w4.heap.size + 1 by simp] at o2
                  go_wp2_with fail
                  go_roundw
                  case rel => exact ⟨m + 1, _, by omega, by go_num, by simp only [← mkapp]; rfl, HN.out, (HG4.out.alloc HG4.out.size _).alloc (by have := HG4.out.size; simp; omega) _⟩
                  case measure => simp [intOf]; omega
          · have hmn : ((m : Int) == 0) = false := by rw [beq_eq_false_iff_ne]; omega
            have HWD := Lib.hid (show (if m = 0 then whereB else andB) = andB by rw [if_neg hmz])
            have hwl : andB.length = 5 := rfl
            clear hmz
            by_cases hr : r = 0
            · have HN := Lib.hid (show ((((acc2 ++ andB) ++ [UInt8.ofNat l.toNat]) ++ sg) ++ a) = (acc ++ [41]) ++ cpre (cs.take (m + 1)) by
                rw [HTK.out, HSX.out, HACC2.out, if_pos hr, HSG.out, HIT.out, HWD.out]; simp [byB])
              clear HSX
              have hr1 : (r == 0) = true := by rw [beq_iff_eq]; exact hr
              clear hr
              go_wp2_with fail
              refine (sign_any op _).mono ?_
              rintro e w3 ⟨rfl, rfl⟩
              rw [HSG.out]
              go_wp2_with fail
              rw [← HW.out]
              refine HD1.out.mono ?_
              rintro e w4 ⟨rfl, hg4⟩
              have HG4 := Lib.hid (HG.out.trans (hg4.below.mono HG.out.size))
              have q0 := (hg4.cell (b := wr.heap.size) (o := 0) hz2 ((Lib.cell_of_heap X0.out 0).trans rfl))
              have q2 := (hg4.cell (b := wr.heap.size) (o := 2) hz2 ((Lib.cell_of_heap X0.out 2).trans rfl))
              have q3 := (hg4.cell (b := wr.heap.size) (o := 3) hz2 ((Lib.cell_of_heap X0.out 3).trans rfl))
              have hz4 : wr.heap.size < w4.heap.size := by have := hg4.below.size; omega
              have o1 := one_str w4 l (by omega) (by omega)
              clear hg4 HD1
              go_wp2_with fail
              go_roundw
              case rel => exact ⟨m + 1, _, by omega, by go_num, by simp only [← mkapp]; rfl, HN.out, HG4.out.alloc HG4.out.size _⟩
              case measure => simp [intOf]; omega
            · by_cases hk1 : 0 < k
              · have HN := Lib.hid (show ((((((acc2 ++ andB) ++ [UInt8.ofNat l.toNat]) ++ sg) ++ [UInt8.ofNat r.toNat]) ++ [43]) ++ a) = (acc ++ [41]) ++ cpre (cs.take (m + 1)) by
                  rw [HTK.out, HSX.out, HACC2.out, if_neg hr, if_pos hk1, HSG.out, HIT.out, HWD.out]; simp [byB])
                clear HSX
                have hr1 : (r == 0) = false := by rw [beq_eq_false_iff_ne]; exact hr
                have hk3 : (k != 0) = true := by rw [bne_iff_ne]; omega
                clear hr
                go_wp2_with fail
                refine (sign_any op _).mono ?_
                rintro e w3 ⟨rfl, rfl⟩
                rw [HSG.out]
                go_wp2_with fail
                rw [← HW.out]
                refine HD1.out.mono ?_
                rintro e w4 ⟨rfl, hg4⟩
                have HG4 := Lib.hid (HG.out.trans (hg4.below.mono HG.out.size))
                have q0 := (hg4.cell (b := wr.heap.size) (o := 0) hz2 ((Lib.cell_of_heap X0.out 0).trans rfl))
                have q2 := (hg4.cell (b := wr.heap.size) (o := 2) hz2 ((Lib.cell_of_heap X0.out 2).trans rfl))
                have q3 := (hg4.cell (b := wr.heap.size) (o := 3) hz2 ((Lib.cell_of_heap X0.out 3).trans rfl))
                have hz4 : wr.heap.size < w4.heap.size := by have := hg4.below.size; omega
                have o1 := one_str w4 l (by omega) (by omega)
                clear hg4 HD1
                have o2 := one_str (w4.alloc (.cells #[.int .u8 l] 5)) r (by omega) (by omega)
                rw [show (w4.alloc (.cells #[.int .u8 l] 5)).heap.size = w4.heap.size + 1 by simp] at o2
                go_wp2_with fail
                go_roundw
                case rel => exact ⟨m + 1, _, by omega, by go_num, by simp only [← mkapp]; rfl, HN.out, (HG4.out.alloc HG4.out.size _).alloc (by have := HG4.out.size; simp; omega) _⟩
                case measure => simp [intOf]; omega
              · by_cases hk2 : k = 0
                · have HN := Lib.hid (show ((((acc2 ++ andB) ++ [UInt8.ofNat l.toNat]) ++ sg) ++ [UInt8.ofNat r.toNat]) = (acc ++ [41]) ++ cpre (cs.take (m + 1)) by
                    rw [HTK.out, HSX.out, HACC2.out, if_neg hr, if_neg hk1, if_pos hk2, HSG.out, HWD.out]; simp [byB])
                  clear HSX
                  have hr1 : (r == 0) = false := by rw [beq_eq_false_iff_ne]; exact hr
                  have hk3 : (k != 0) = false := by rw [hk2]; rfl
                  have hk0' : ¬ 0 < k := by omega
                  clear hr hk2
                  go_wp2_with fail
                  refine (sign_any op _).mono ?_
                  rintro e w3 ⟨rfl, rfl⟩
                  rw [HSG.out]
                  go_wp2_with fail
                  rw [← HW.out]
                  refine HD1.out.mono ?_
                  rintro e w4 ⟨rfl, hg4⟩
                  have HG4 := Lib.hid (HG.out.trans (hg4.below.mono HG.out.size))
                  have q0 := (hg4.cell (b := wr.heap.size) (o := 0) hz2 ((Lib.cell_of_heap X0.out 0).trans rfl))
                  have q2 := (hg4.cell (b := wr.heap.size) (o := 2) hz2 ((Lib.cell_of_heap X0.out 2).trans rfl))
                  have q3 := (hg4.cell (b := wr.heap.size) (o := 3) hz2 ((Lib.cell_of_heap X0.out 3).trans rfl))
                  have hz4 : wr.heap.size < w4.heap.size := by have := hg4.below.size; omega
                  have o1 := one_str w4 l (by omega) (by omega)
                  clear hg4 HD1
                  have o2 := one_str (w4.alloc (.cells #[.int .u8 l] 5)) r (by omega) (by omega)
                  rw [show (w4.alloc (.cells #[.int .u8 l] 5)).heap.size = w4.heap.size + 1 by simp] at o2
                  go_wp2_with fail
                  go_roundw
                  case rel => exact ⟨m + 1, _, by omega, by go_num, by simp only [← mkapp]; rfl, HN.out, (HG4.out.alloc HG4.out.size _).alloc (by have := HG4.out.size; simp; omega) _⟩
                  case measure => simp [intOf]; omega
                · have HN := Lib.hid (show (((((acc2 ++ andB) ++ [UInt8.ofNat l.toNat]) ++ sg) ++ [UInt8.ofNat r.toNat]) ++ a) = (acc ++ [41]) ++ cpre (cs.take (m + 1)) by
                    rw [HTK.out, HSX.out, HACC2.out, if_neg hr, if_neg hk1, if_neg hk2, HSG.out, HIT.out, HWD.out]; simp [byB])
                  clear HSX
                  have hr1 : (r == 0) = false := by rw [beq_eq_false_iff_ne]; exact hr
                  have hk3 : (k != 0) = true := by rw [bne_iff_ne]; exact hk2
                  have hk0' : ¬ 0 < k := by omega
                  clear hr hk2
                  go_wp2_with fail
                  refine (sign_any op _).mono ?_
                  rintro e w3 ⟨rfl, rfl⟩
                  rw [HSG.out]
                  go_wp2_with fail
                  rw [← HW.out]
                  refine HD1.out.mono ?_
                  rintro e w4 ⟨rfl, hg4⟩
                  have HG4 := Lib.hid (HG.out.trans (hg4.below.mono HG.out.size))
                  have q0 := (hg4.cell (b := wr.heap.size) (o := 0) hz2 ((Lib.cell_of_heap X0.out 0).trans rfl))
                  have q2 := (hg4.cell (b := wr.heap.size) (o := 2) hz2 ((Lib.cell_of_heap X0.out 2).trans rfl))
                  have q3 := (hg4.cell (b := wr.heap.size) (o := 3) hz2 ((Lib.cell_of_heap X0.out 3).trans rfl))
                  have hz4 : wr.heap.size < w4.heap.size := by have := hg4.below.size; omega
                  have o1 := one_str w4 l (by omega) (by omega)
                  clear hg4 HD1
                  have o2 := one_str (w4.alloc (.cells #[.int .u8 l] 5)) r (by omega) (by omega)
                  rw [show (w4.alloc (.cells #[.int .u8 l] 5)).heap.size = w4.heap.size + 1 by simp] at o2
                  go_wp2_with fail
                  go_roundw
                  case rel => exact ⟨m + 1, _, by omega, by go_num, by simp only [← mkapp]; rfl, HN.out, (HG4.out.alloc HG4.out.size _).alloc (by have := HG4.out.size; simp; omega) _⟩
                  case measure => simp [intOf]; omega
        · obtain rfl : m = cs.length := by omega
          have HA2 := Lib.hid (show acc2 = (acc ++ [41]) ++ cpre cs by have h := HACC2.out; rwa [List.take_length] at h)
          have q2 := (Lib.cell_of_heap HX2.out 2).trans rfl
          have hwl := Lib.itoa_length_le wi hw0 hw1
          have HDW := Lib.hid (dec_any wi hw0 hw1 wr)
          have HJF := Lib.hid (show R = (acc2 ++ withinB) ++ Lib.itoa wi by rw [HSH.out, HA2.out, HA.out]; simp)
          clear hlt hm
          go_wp2_with fail
          refine HDW.out.mono ?_
          rintro e w7 ⟨rfl, hg7⟩
          have HB7 := Lib.hid (HBW2.out.trans (hg7.below.mono HBW2.out.size))
          clear hg7
          go_wp2_with fail
          go_ret
          exact ⟨by rw [HJF.out]; simp only [← mkapp]; rfl, HB7.out⟩
end Go.Proofs.YtcfimponmioneaaDoor.WS
