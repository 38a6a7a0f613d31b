/- The walk of oxbowlaw19.plain: are kinds and names letters? -/
import Derived.Test.YtcfimponmioneaaDoorGS
import Derived.Test.YtcfimponmioneaaDoorPInj
namespace Go.Proofs.YtcfimponmioneaaDoor.WS
open Go Go.RowKit Go.Sort Go.Proofs.YtcfimponmioneaaDoor Go.Proofs.YtcfimponmioneaaDoor.PL Go.Proofs.YtcfimponmioneaaDoor.PS Go.Proofs.YtcfimponmioneaaDoor.Mem Go.Proofs.YtcfimponmioneaaDoor.WL

instance (s : GS) : Decidable (LetS s) := by unfold LetS; infer_instance
instance (c : GC) : Decidable (LetC c) := by unfold LetC; infer_instance
def plainB (ss : List GS) (cs : List GC) : Bool := decide ((∀ s ∈ ss, LetS s) ∧ ∀ c ∈ cs, LetC c)
theorem plain_bad1 {ss : List GS} {cs : List GC} {s : GS} (h : s ∈ ss) (hn : ¬ LetS s) : plainB ss cs = false := by
  unfold plainB; exact decide_eq_false fun h' => hn (h'.1 s h)
theorem plain_bad2 {ss : List GS} {cs : List GC} {c : GC} (h : c ∈ cs) (hn : ¬ LetC c) : plainB ss cs = false := by
  unfold plainB; exact decide_eq_false fun h' => hn (h'.2 c h)

set_option maxRecDepth 100000 in
set_option maxHeartbeats 6400000 in
theorem plain_any (sv cv : Value) (wi : Int) (ss : List GS) (cs : List GC) (W : World) (h1 : Stps W W.heap.size sv ss) (h2 : Cnds W W.heap.size cv cs) (hn1 : ss.length ≤ 1048576) (hn2 : cs.length ≤ 1048576) :
    Calls Tryd.prog 10 #[.agg #[sv, cv, .int .i64 wi]] W fun e w' => e = .returned (.bool (plainB ss cs)) ∧ Below W.heap.size W w' := by
  obtain ⟨sa, sc, rfl⟩ := Sl.shape h1
  obtain ⟨ca, cc, rfl⟩ := Sl.shape h2
  have H1 := Lib.hid h1; have H2 := Lib.hid h2
  clear h1 h2
  obtain ⟨R, hR⟩ : ∃ R, plainB ss cs = R := ⟨_, rfl⟩
  rw [hR]
  have HRR := Lib.hid hR
  clear hR
  have HX := Lib.hid (show (W.alloc (.cells #[.slice sa ss.length sc, .slice ca cs.length cc, .int .i64 wi] 29)).heap[W.heap.size]? = _ from heap_new rfl)
  have HB0 := Lib.hid (show Below W.heap.size W (W.alloc (.cells #[.slice sa ss.length sc, .slice ca cs.length cc, .int .i64 wi] 29)) from (Below.refl _ _).alloc (Nat.le_refl _) _)
  obtain ⟨wa, hwa⟩ : ∃ wa, wa = W.alloc (.cells #[.slice sa ss.length sc, .slice ca cs.length cc, .int .i64 wi] 29) := ⟨_, rfl⟩
  have hza : W.heap.size < wa.heap.size := by rw [hwa]; simp
  rw [← hwa] at HX HB0
  have HWA := Lib.hid hwa
  clear hwa
  go_enter Tryd.func10, Tryd.ntmps10
  go_wp2_with fail
  rw [← HWA.out]
  go_loopw [10] (fun u wr => ∃ k : Nat, k ≤ ss.length ∧ u = .int .i64 k ∧ (∀ s ∈ ss.take k, LetS s) ∧ Below wa.heap.size wa wr) (fun u _ => ss.length - (intOf u).toNat)
  case atStart => exact ⟨0, by omega, rfl, by simp, Below.refl _ _⟩
  case round =>
    obtain ⟨k, hk, rfl, hall, hbel⟩ := hrel
    have HALL := Lib.hid hall
    have HBW := Lib.hid (HB0.out.trans (hbel.mono HB0.out.size))
    have HBEL := Lib.hid hbel
    have hsz := hbel.size
    clear hbel hall
    by_cases hlt : k < ss.length
    · have hlt' : (k : Int) < (ss.length : Int) := by omega
      have hk0 : (0 : Int) ≤ (k : Int) := by omega
      obtain ⟨b, o, c, hc, hb, x0, x1, x2, x3, x4⟩ := H1.out.at_ hlt
      obtain ⟨rfl, rfl⟩ : sa = some ⟨b, o, none⟩ ∧ sc = c := by simpa using hc
      have HTK := Lib.hid (List.take_succ_eq_append_getElem (l := ss) (i := k) hlt)
      have HMEM := Lib.hid (List.getElem_mem hlt)
      obtain ⟨x, hx⟩ : ∃ x, ss[k] = x := ⟨_, rfl⟩
      rw [hx] at x0 x1 x2 x3 x4 HTK HMEM
      have hbl := HBW.out
      have y0 := (hbl.cell (p := ⟨b, o + k * 5, none⟩) hb).trans x0
      have y1 := (hbl.cell (p := ⟨b, o + k * 5 + 1, none⟩) hb).trans x1
      have y2 := (hbl.cell (p := ⟨b, o + k * 5 + 2, none⟩) hb).trans x2
      have y3 := (hbl.cell (p := ⟨b, o + k * 5 + 3, none⟩) hb).trans x3
      have y4 := (hbl.cell (p := ⟨b, o + k * 5 + 4, none⟩) hb).trans x4
      clear x0 x1 x2 x3 x4 hc hx hbl
      by_cases p1 : x.k < 65
      · have HE := Lib.hid (show R = false by rw [← HRR.out]; exact plain_bad1 HMEM.out (by unfold LetS; omega))
        go_wp2_with fail
        go_ret
        exact ⟨by rw [HE.out]; rfl, HBW.out.alloc HBW.out.size _⟩
      · by_cases p2 : 90 < x.k
        · have HE := Lib.hid (show R = false by rw [← HRR.out]; exact plain_bad1 HMEM.out (by unfold LetS; omega))
          go_wp2_with fail
          go_ret
          exact ⟨by rw [HE.out]; rfl, HBW.out.alloc HBW.out.size _⟩
        · by_cases p3 : x.nm < 97
          · have HE := Lib.hid (show R = false by rw [← HRR.out]; exact plain_bad1 HMEM.out (by unfold LetS; omega))
            go_wp2_with fail
            go_ret
            exact ⟨by rw [HE.out]; rfl, HBW.out.alloc HBW.out.size _⟩
          · by_cases p4 : 122 < x.nm
            · have HE := Lib.hid (show R = false by rw [← HRR.out]; exact plain_bad1 HMEM.out (by unfold LetS; omega))
              go_wp2_with fail
              go_ret
              exact ⟨by rw [HE.out]; rfl, HBW.out.alloc HBW.out.size _⟩
            · have HN := Lib.hid (show ∀ s ∈ ss.take (k + 1), LetS s by
                rw [HTK.out]
                intro s hs
                rcases List.mem_append.1 hs with hs | hs
                · exact HALL.out s hs
                · simp only [List.mem_cons, List.not_mem_nil, or_false] at hs
                  subst hs
                  unfold LetS
                  omega)
              go_wp2_with fail
              go_roundw
              case rel => exact ⟨k + 1, by omega, by go_num, HN.out, HBEL.out.alloc hsz _⟩
              case measure => simp [intOf]; omega
    · obtain rfl : k = ss.length := by omega
      obtain ⟨w1, rfl⟩ : ∃ w1 : World, w1 = wr := ⟨_, rfl⟩
      have HALS := Lib.hid (show ∀ s ∈ ss, LetS s by have h := HALL.out; rwa [List.take_length] at h)
      have hx1 := (HBEL.out.block _ hza).trans HX.out
      have hz1w : W.heap.size < w1.heap.size := by omega
      have q1 := (Lib.cell_of_heap hx1 1).trans rfl
      clear hx1 HALL
      go_wp2_with fail
      clear q1
      go_loopw [36] (fun u wq => ∃ m : Nat, m ≤ cs.length ∧ u = .int .i64 m ∧ (∀ c ∈ cs.take m, LetC c) ∧ Below w1.heap.size w1 wq) (fun u _ => cs.length - (intOf u).toNat)
      case atStart => exact ⟨0, by omega, rfl, by simp, Below.refl _ _⟩
      case round =>
        clear hlt hk
        obtain ⟨m, hm, rfl, hall, hbel⟩ := hrel
        have HALL := Lib.hid hall
        have HBEL2 := Lib.hid hbel
        have HBW2 := Lib.hid (HBW.out.trans (hbel.mono HBW.out.size))
        have hsz2 := hbel.size
        clear hbel hall
        by_cases hlt : m < cs.length
        · have hlt' : (m : Int) < (cs.length : Int) := by omega
          have hk0 : (0 : Int) ≤ (m : Int) := by omega
          obtain ⟨b, o, c, hc, hb, x0, x1, x2, x3⟩ := H2.out.at_ hlt
          obtain ⟨rfl, rfl⟩ : ca = some ⟨b, o, none⟩ ∧ cc = c := by simpa using hc
          have HTK := Lib.hid (List.take_succ_eq_append_getElem (l := cs) (i := m) hlt)
          have HMEM := Lib.hid (List.getElem_mem hlt)
          obtain ⟨x, hx⟩ : ∃ x, cs[m] = x := ⟨_, rfl⟩
          rw [hx] at x0 x1 x2 x3 HTK HMEM
          have hbl := HBW2.out
          have y0 := (hbl.cell (p := ⟨b, o + m * 4, none⟩) hb).trans x0
          have y1 := (hbl.cell (p := ⟨b, o + m * 4 + 1, none⟩) hb).trans x1
          have y2 := (hbl.cell (p := ⟨b, o + m * 4 + 2, none⟩) hb).trans x2
          have y3 := (hbl.cell (p := ⟨b, o + m * 4 + 3, none⟩) hb).trans x3
          clear x0 x1 x2 x3 hc hx hbl
          by_cases p1 : x.l < 97
          · have HE := Lib.hid (show R = false by rw [← HRR.out]; exact plain_bad2 HMEM.out (by unfold LetC; omega))
            go_wp2_with fail
            go_ret
            exact ⟨by rw [HE.out]; rfl, HBW2.out.alloc HBW2.out.size _⟩
          · by_cases p2 : 122 < x.l
            · have HE := Lib.hid (show R = false by rw [← HRR.out]; exact plain_bad2 HMEM.out (by unfold LetC; omega))
              go_wp2_with fail
              go_ret
              exact ⟨by rw [HE.out]; rfl, HBW2.out.alloc HBW2.out.size _⟩
            · by_cases p3 : x.r = 0
              · have hr0 : (x.r != 0) = false := by rw [p3]; rfl
                have HN := Lib.hid (show ∀ s ∈ cs.take (m + 1), LetC s by
                  rw [HTK.out]
                  intro s hs
                  rcases List.mem_append.1 hs with hs | hs
                  · exact HALL.out s hs
                  · simp only [List.mem_cons, List.not_mem_nil, or_false] at hs
                    subst hs
                    unfold LetC
                    omega)
                go_wp2_with fail
                go_roundw
                case rel => exact ⟨m + 1, by omega, by go_num, HN.out, HBEL2.out.alloc hsz2 _⟩
                case measure => simp [intOf]; omega
              · have hr0 : (x.r != 0) = true := by rw [bne_iff_ne]; exact p3
                by_cases p4 : x.r < 97
                · have HE := Lib.hid (show R = false by rw [← HRR.out]; exact plain_bad2 HMEM.out (by unfold LetC; omega))
                  go_wp2_with fail
                  go_ret
                  exact ⟨by rw [HE.out]; rfl, HBW2.out.alloc HBW2.out.size _⟩
                · by_cases p5 : 122 < x.r
                  · have HE := Lib.hid (show R = false by rw [← HRR.out]; exact plain_bad2 HMEM.out (by unfold LetC; omega))
                    go_wp2_with fail
                    go_ret
                    exact ⟨by rw [HE.out]; rfl, HBW2.out.alloc HBW2.out.size _⟩
                  · have HN := Lib.hid (show ∀ s ∈ cs.take (m + 1), LetC s by
                      rw [HTK.out]
                      intro s hs
                      rcases List.mem_append.1 hs with hs | hs
                      · exact HALL.out s hs
                      · simp only [List.mem_cons, List.not_mem_nil, or_false] at hs
                        subst hs
                        unfold LetC
                        omega)
                    go_wp2_with fail
                    go_roundw
                    case rel => exact ⟨m + 1, by omega, by go_num, HN.out, HBEL2.out.alloc hsz2 _⟩
                    case measure => simp [intOf]; omega
        · obtain rfl : m = cs.length := by omega
          have HE := Lib.hid (show R = true by
            rw [← HRR.out]
            unfold plainB
            refine decide_eq_true ⟨HALS.out, ?_⟩
            have h := HALL.out
            rwa [List.take_length] at h)
          go_wp2_with fail
          go_ret
          exact ⟨by rw [HE.out]; rfl, HBW2.out⟩
end Go.Proofs.YtcfimponmioneaaDoor.WS
