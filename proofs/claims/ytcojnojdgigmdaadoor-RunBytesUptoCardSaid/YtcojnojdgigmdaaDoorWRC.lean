/- The walk of oxbowref21.Get. -/
import Derived.Test.YtcojnojdgigmdaaDoorB01
import Derived.Test.YtcojnojdgigmdaaDoorWRB
import Derived.Test.YtcojnojdgigmdaaDoorWRGet
set_option maxHeartbeats 12800000
set_option maxRecDepth 100000
namespace Go.Proofs.YtcojnojdgigmdaaDoor.WB2
open Go Go.RowKit Go.Proofs.YtcojnojdgigmdaaDoor Go.Proofs.YtcojnojdgigmdaaDoor.Mem Go.Proofs.YtcojnojdgigmdaaDoor.PE

theorem res_run21 {w : World} {B : Nat} {c0 c1 c2 v3 : Value} {t : TypeId} {tmps : Array Value} (h2 : tmps[2]? = some (.pointer (some ⟨B, 0, none⟩))) (h3 : tmps[3]? = some v3) (h : w.heap[B]? = some (.cells #[c0, c1, c2] t (0, 0))) :
  (results Tryd.f18 tmps).run Tryd.prog w = .ok (.tuple #[.agg #[c0, c1, c2], v3]) w := by
 obtain ⟨e0, e1, e2, _⟩ := cells3 h
 simp [results, Tryd.results18, go_sem, h2, h3, e0, e1, e2]
theorem rget21_any (s : ByteArray) (W : World) (hs : s.size <= 100000000) : Calls Tryd.prog 18 #[.string s] W (GetPost W (getRun s.data.toList)) := by
 have hdl : s.data.toList.length = s.size := Array.length_toList
 obtain ⟨PO, hPO⟩ : ∃ PO, GetPost W (getRun s.data.toList) = PO := ⟨_, rfl⟩
 rw [hPO]; have HPO := Hyd hPO; have HDL := Hyd hdl; have HG1 := Hyd (fun h => getRun_1 (s := s.data.toList) h); have HG2 := Hyd (fun h e => getRun_2 (s := s.data.toList) h (e := e)); have HG3 := Hyd (fun h l k => getRun_3 (s := s.data.toList) h (l := l) (k := k)); have HX0 := Hyd (show (W.alloc (.cells #[.slice none 0 0, .slice none 0 0, .bool false] 58)).heap[W.heap.size]? = some (.cells #[.slice none 0 0, .slice none 0 0, .bool false] 58 (0, 0)) from heap_new rfl); have HA0 := Hyd (heap_alloc (o' := .cells #[.slice none 0 0, .slice none 0 0, .bool false] 58) HX0.out); have HA1 := Hyd (show ((W.alloc (.cells #[.slice none 0 0, .slice none 0 0, .bool false] 58)).alloc (.cells #[.slice none 0 0, .slice none 0 0, .bool false] 58)).heap[W.heap.size + 1]? = some (.cells #[.slice none 0 0, .slice none 0 0, .bool false] 58 (0, 0)) from heap_new (by simp))
 have HAB := Hyd (below_alloc0 (o := .cells #[.slice none 0 0, .slice none 0 0, .bool false] 58) (below_alloc0 (o := .cells #[.slice none 0 0, .slice none 0 0, .bool false] 58) (Below.refl W.heap.size W))); have HAZ := Hyd (show ((W.alloc (.cells #[.slice none 0 0, .slice none 0 0, .bool false] 58)).alloc (.cells #[.slice none 0 0, .slice none 0 0, .bool false] 58)).heap.size = W.heap.size + 2 by simp); clear hPO hdl HX0; have HV := Hyd (fun w => WR01.get_any s (0 : Nat) w (by omega) (by omega) (by omega)); have HE := Hyd (fun h => blw_err (s := s.data.toList) (k := (0 : Nat)) (most := 8) h); have HO := Hyd (fun h h2 => blw_out (s := s.data.toList) (k := (0 : Nat)) (most := 8) h h2); have HK := Hyd (fun h h2 => blw_ok (s := s.data.toList) (k := (0 : Nat)) (most := 8) h h2); have hbd := PV.getB_bounds (s := s.data.toList) (k := 0)
 rw [HDL.out] at hbd; have hz00 : ((0 : Nat) : Int) = 0 := rfl; rw [hz00] at HE HO HK HV hbd; generalize blw s.data.toList 0 8 = g0 at *; generalize PV.getB s.data.toList 0 = r at *; obtain ⟨x, y, z⟩ := r; unfold WV.getV at HV
 simp only at hbd HE HO HK HV
 obtain ⟨hy0, hys⟩ := hbd; obtain ⟨k, rfl⟩ := Int.eq_ofNat_of_zero_le hy0; clear hz00 hy0
 go_enter Tryd.func18, Tryd.ntmps18
 go_wp2_with fail
 obtain ⟨NB, hNB⟩ : ∃ NB, W.heap.size + 1 = NB := ⟨_, rfl⟩
 rw [hNB] at HA1 ⊢
 have hNB1 : W.heap.size < NB := by omega
 have HNB := Hyd hNB; clear hNB; generalize (W.alloc (.cells #[.slice none 0 0, .slice none 0 0, .bool false] 58)).alloc (.cells #[.slice none 0 0, .slice none 0 0, .bool false] 58) = W2 at *; refine (HV.out W2).mono ?_; rintro e w' ⟨rfl, rfl⟩; have HN := HA1; have HR := HA0; have HB := HAB
 obtain ⟨w', rfl⟩ : ∃ w' : World, w' = W2 := ⟨_, rfl⟩
 by_cases hz : z = 0
 ·subst hz
  by_cases hx : x < 0
  ·obtain rfl := HO.out (by trivial) (.inl hx); clear HE HO HK
   have HP := Hyd (fun w (hb : Below W.heap.size W w) => (show PO (.returned (.tuple #[.agg #[.slice none 0 0, .slice none 0 0, .bool false], .int .i64 4])) w by
    rw [<- HPO.out]; exact getPost_err (HG1.out (by first | exact hz | decide)) hb))
   obtain ⟨n0, n1, n2, m0, m1, m2⟩ := cells3 HN.out; obtain ⟨y0, y1, y2, f0, f1, f2⟩ := cells3 HR.out; have HZ := Hyd (box_zero HR.out (.slice none 0 0) (.slice none 0 0) (.bool false)); have HBZ := Hyd (below_zero HB.out W.heap.size (Nat.le_refl _) (.slice none 0 0) (.slice none 0 0) (.bool false)); go_wp2_with fail; exact bodyPost_ret (res_run21 rfl rfl HZ.out) rfl (HP.out _ HBZ.out)
  ·have hx' : 0 <= x := by omega
   by_cases hx2 : 8 < x
   ·obtain rfl := HO.out (by trivial) (.inr hx2); clear HE HO HK
    have HP := Hyd (fun w (hb : Below W.heap.size W w) => (show PO (.returned (.tuple #[.agg #[.slice none 0 0, .slice none 0 0, .bool false], .int .i64 4])) w by
     rw [<- HPO.out]; exact getPost_err (HG1.out (by first | exact hz | decide)) hb))
    obtain ⟨n0, n1, n2, m0, m1, m2⟩ := cells3 HN.out; obtain ⟨y0, y1, y2, f0, f1, f2⟩ := cells3 HR.out; have HZ := Hyd (box_zero HR.out (.slice none 0 0) (.slice none 0 0) (.bool false)); have HBZ := Hyd (below_zero HB.out W.heap.size (Nat.le_refl _) (.slice none 0 0) (.slice none 0 0) (.bool false)); go_wp2_with fail; exact bodyPost_ret (res_run21 rfl rfl HZ.out) rfl (HP.out _ HBZ.out)
   ·have hx2' : x <= 8 := by omega
    obtain rfl := HK.out (by trivial) (by omega); clear HE HO HK; obtain ⟨n, rfl⟩ := Int.eq_ofNat_of_zero_le hx'
    simp only [Int.toNat_natCast] at HG2 HG3
    clear HG1 HV; obtain ⟨n0, n1, n2, m0, m1, m2⟩ := cells3 HN.out; go_wp2_with fail; have HX3 := Hyd (show (w'.alloc (.cells #[.slice none 0 0, .slice none 0 0, .bool false] 58)).heap[w'.heap.size]? = some (.cells #[.slice none 0 0, .slice none 0 0, .bool false] 58 (0, 0)) from heap_new rfl); have HR3 := Hyd (heap_alloc (o' := .cells #[.slice none 0 0, .slice none 0 0, .bool false] 58) HR.out); have HN3 := Hyd (heap_alloc (o' := .cells #[.slice none 0 0, .slice none 0 0, .bool false] 58) HN.out); have HB3 := Hyd (HB.out.alloc HB.out.size (.cells #[.slice none 0 0, .slice none 0 0, .bool false] 58)); have hNBX := heap_lt HN.out
    obtain ⟨X, hX⟩ : ∃ X, w'.heap.size = X := ⟨_, rfl⟩
    rw [hX] at HX3 hNBX ⊢; clear hX HN HR HB n0 n1 n2 m0 m1 m2 HA0 HA1 HAB HAZ HNB; generalize w'.alloc (.cells #[.slice none 0 0, .slice none 0 0, .bool false] 58) = W3 at *
    go_loopw [6, 9, 10] (fun a b c wr => ∃ (cs : List Int) (i m : Nat) (v : Value), cs.length = i /\ i <= n /\ m <= s.size /\ a = .int .i64 m /\ b = .int .i64 (sumI cs) /\ c = .int .i64 i /\ Hid (cnts s.data.toList n k = preC cs (cnts s.data.toList (n - i) m)) /\ (0 <= sumI cs /\ sumI cs <= 4 * i) /\
     Hid (wr.heap[W.heap.size]? = some (.cells #[.slice none 0 0, .slice none 0 0, .bool false] 58 (0, 0))) /\ Hid (wr.heap[NB]? = some (.cells #[.slice none 0 0, .slice none 0 0, .bool false] 58 (0, 0))) /\ Hid (wr.heap[X]? = some (.cells #[v, .slice none 0 0, .bool false] 58 (0, 0))) /\ Hid (wr.ownsRow W.heap.size 3 1 v i (cs.map (Value.int .i64))) /\ Hid (Below W.heap.size W wr)) (fun _ _ c _ => n - (intOf c).toNat)
    case atStart => exact ⟨[], 0, k, .slice none 0 0, rfl, Nat.zero_le _, by omega, rfl, rfl, rfl, Hyd (preC_nil _).symm, ⟨by simp [sumI], by simp [sumI]⟩, HR3, HN3, HX3, Hyd (World.ownsRow_nil _ _ _ _), HB3⟩
    case round =>
     clear HR3 HN3 HX3 HB3 W3; obtain ⟨cs, i, m, v, hcl, hin, hms, rfl, rfl, rfl, HC, ⟨hs0, hs4⟩, HR, HN, HX, HO, HB⟩ := hrel; have HCL := Hyd hcl; clear hcl
     obtain ⟨S, hS⟩ : ∃ S, sumI cs = S := ⟨_, rfl⟩
     rw [hS] at hs0 hs4 ⊢; have HS := Hyd hS; clear hS; obtain ⟨va, vc, rfl⟩ := (Sl.of_own HO.out).shape; have hbz := HB.out.size; have hXl := heap_lt HX.out
     by_cases hlt : i < n
     ·have hlti : (i : Int) < (n : Int) := by omega
      have HV := Hyd (fun w => WR01.get_any s (m : Nat) w (by omega) (by omega) (by omega)); have HE := Hyd (fun h => blw_err (s := s.data.toList) (k := (m : Nat)) (most := 4) h); have HO' := Hyd (fun h h2 => blw_out (s := s.data.toList) (k := (m : Nat)) (most := 4) h h2); have HK := Hyd (fun h h2 => blw_ok (s := s.data.toList) (k := (m : Nat)) (most := 4) h h2); have hbd := PV.getB_bounds (s := s.data.toList) (k := m); rw [HDL.out] at hbd; have HBAD := Hyd (fun h => cnts_bad (s := s.data.toList) (n := n - (i + 1)) (k := m) h); have HOKC := Hyd (fun h => cnts_ok (s := s.data.toList) (n := n - (i + 1)) (k := m) h cs); rw [show n - (i + 1) + 1 = n - i by omega] at HBAD HOKC; generalize blw s.data.toList m 4 = g1 at *; generalize PV.getB s.data.toList m = r at *; obtain ⟨x, y, z⟩ := r; unfold WV.getV at HV
      simp only at hbd HE HO' HK HV
      obtain ⟨hy0, hys⟩ := hbd; obtain ⟨q, rfl⟩ := Int.eq_ofNat_of_zero_le hy0; clear hy0; go_wp2_with fail; refine (HV.out _).mono ?_; rintro e w' ⟨rfl, rfl⟩
      obtain ⟨w', rfl⟩ : ∃ w' : World, w' = wr := ⟨_, rfl⟩
      by_cases hz : z = 0
      ·subst hz
       by_cases hx : x < 0
       ·obtain rfl := HO'.out (by trivial) (.inl hx); clear HE HO' HK
        have HP := Hyd (fun w (hb : Below W.heap.size W w) => (show PO (.returned (.tuple #[.agg #[.slice none 0 0, .slice none 0 0, .bool false], .int .i64 4])) w by
         rw [<- HPO.out]; exact getPost_err (HG2.out (by trivial) _ (HC.out.trans (by rw [HBAD.out (by first | exact hz | decide)]; rfl))) hb))
        obtain ⟨n0, n1, n2, m0, m1, m2⟩ := cells3 HN.out; obtain ⟨y0, y1, y2, f0, f1, f2⟩ := cells3 HR.out; have HZ := Hyd (box_zero HR.out (.slice none 0 0) (.slice none 0 0) (.bool false)); have HBZ := Hyd (below_zero HB.out W.heap.size (Nat.le_refl _) (.slice none 0 0) (.slice none 0 0) (.bool false)); go_wp2_with fail; exact bodyPost_ret (res_run21 rfl rfl HZ.out) rfl (HP.out _ HBZ.out)
       ·have hx' : 0 <= x := (by omega)
        by_cases hx2 : 4 < x
        ·obtain rfl := HO'.out (by trivial) (.inr hx2); clear HE HO' HK
         have HP := Hyd (fun w (hb : Below W.heap.size W w) => (show PO (.returned (.tuple #[.agg #[.slice none 0 0, .slice none 0 0, .bool false], .int .i64 4])) w by
          rw [<- HPO.out]; exact getPost_err (HG2.out (by trivial) _ (HC.out.trans (by rw [HBAD.out (by first | exact hz | decide)]; rfl))) hb))
         obtain ⟨n0, n1, n2, m0, m1, m2⟩ := cells3 HN.out; obtain ⟨y0, y1, y2, f0, f1, f2⟩ := cells3 HR.out; have HZ := Hyd (box_zero HR.out (.slice none 0 0) (.slice none 0 0) (.bool false)); have HBZ := Hyd (below_zero HB.out W.heap.size (Nat.le_refl _) (.slice none 0 0) (.slice none 0 0) (.bool false)); go_wp2_with fail; exact bodyPost_ret (res_run21 rfl rfl HZ.out) rfl (HP.out _ HBZ.out)
        ·have hx2' : x <= 4 := (by omega); obtain rfl := HK.out (by trivial) (by omega); clear HE HO' HK; obtain ⟨y0, y1, y2, f0, f1, f2⟩ := cells3 HX.out; clear HBAD HV
         simp only at HOKC
         obtain ⟨i0, hi, hq0, hq1, hq2⟩ := info_parts infoInt; have HOA := Hyd (own_below HO.out (show Below w'.heap.size w' (w'.alloc (.cells #[.int .i64 x] 3)) from (Below.refl _ _).alloc (Nat.le_refl _) _)); have HXA := Hyd (heap_alloc (o' := .cells #[.int .i64 x] 3) HX.out); have HRA := Hyd (heap_alloc (o' := .cells #[.int .i64 x] 3) HR.out); have HNA := Hyd (heap_alloc (o' := .cells #[.int .i64 x] 3) HN.out); have HBA := Hyd (HB.out.alloc HB.out.size (.cells #[.int .i64 x] 3))
         go_wp2_with (at_builtin; refine wpList_append_own _ rfl (.tmp 62) (.tmp 64) 54 rfl W.heap.size 3 i0 _ 1 8 Tryd.underlying54 hi hq0 hq1 hq2 rfl (by decide) _ _ _ rfl HOA.out ⟨w'.heap.size, 0, none⟩ 1 1 [.int .i64 x] rfl rfl ?c1 ?c2 ?c3 ?c4 ?c5 ?_)
         case c1 => exact fun j u hu => new_cell _ _ _ j u hu
         case c2 => intro u hu; rw [List.mem_singleton.1 hu]; rfl
         case c3 => unfold maxLen; omega
         case c4 => omega
         case c5 => have := HBA.out.size; exact this
         intro v' w5 ho5 hg5 _; obtain ⟨va', vc', rfl⟩ := (Sl.of_own ho5).shape; have HO5 := Hyd ho5; have HX5 := Hyd (heap_kept HXA.out HOA.out (by decide) hg5); have HR5 := Hyd (heap_kept HRA.out HOA.out (by decide) hg5); have HN5 := Hyd (heap_kept HNA.out HOA.out (by decide) hg5); have HB5 := Hyd (below_grown HBA.out HOA.out hg5 (Nat.le_trans HB.out.size (by simp)) (Nat.le_refl _)); clear y0 y1 y2 f0 f1 f2 ho5 hg5 hi hq0 hq1 hq2; obtain ⟨y0, y1, y2, f0, f1, f2⟩ := cells3 HX5.out; have HX6 := Hyd (bset HX5.out 0 (.slice va' (i + 1) vc')); have HR6 := Hyd (bother HR5.out X 0 (.slice va' (i + 1) vc') (by omega)); have HN6 := Hyd (bother HN5.out X 0 (.slice va' (i + 1) vc') (by omega)); have HO6 := Hyd (own_set (B := X) (i := 0) (u := .slice va' (i + 1) vc') HO5.out HX5.out (by decide)); have HB6 := Hyd (HB5.out.setCell (p := ⟨X, 0, none⟩) (by show W.heap.size <= X; omega) (.slice va' (i + 1) vc'))
         have HS2 := Hyd (show sumI (cs ++ [x]) = S + x by rw [sumI_snoc, HS.out]); have HC2 := Hyd (HC.out.trans (HOKC.out (by trivial))); have HM2 := Hyd (show (cs ++ [x]).map (Value.int .i64) = cs.map (Value.int .i64) ++ [.int .i64 x] by simp); go_wp2_with fail; go_roundw
         case rel => exact ⟨cs ++ [x], i + 1, q, .slice va' (i + 1) vc', by rw [List.length_append, HCL.out]; rfl, by omega, by omega, by trivial, by rw [HS2.out], by go_num, HC2, ⟨by rw [HS2.out]; omega, by rw [HS2.out]; push_cast; omega⟩, HR6, HN6, HX6, Hyd (by rw [HM2.out]; exact HO6.out), HB6⟩
         case measure => simp [intOf]; omega
      ·have hz' : (z != 0) = true := by simp [hz]
       obtain rfl := HE.out hz; clear HE HO' HK
       have HP := Hyd (fun w (hb : Below W.heap.size W w) => (show PO (.returned (.tuple #[.agg #[.slice none 0 0, .slice none 0 0, .bool false], .int .i64 z])) w by
        rw [<- HPO.out]; exact getPost_err (HG2.out (by trivial) _ (HC.out.trans (by rw [HBAD.out (by first | exact hz | decide)]; rfl))) hb))
       obtain ⟨n0, n1, n2, m0, m1, m2⟩ := cells3 HN.out; obtain ⟨y0, y1, y2, f0, f1, f2⟩ := cells3 HR.out; have HZ := Hyd (box_zero HR.out (.slice none 0 0) (.slice none 0 0) (.bool false)); have HBZ := Hyd (below_zero HB.out W.heap.size (Nat.le_refl _) (.slice none 0 0) (.slice none 0 0) (.bool false)); go_wp2_with fail; exact bodyPost_ret (res_run21 rfl rfl HZ.out) rfl (HP.out _ HBZ.out)
     ·obtain rfl : i = n := by omega
      have hcn : cnts s.data.toList i k = .inr (cs, (m : Int)) := HC.out.trans (by rw [Nat.sub_self, cnts, preC, List.append_nil]); have HG4 := Hyd (HG3.out (by trivial) cs m hcn); have HV := Hyd (fun w => WR01.get_any s (m : Nat) w (by omega) (by omega) (by omega)); have HE := Hyd (fun h => blw_err (s := s.data.toList) (k := (m : Nat)) (most := 1) h); have HO' := Hyd (fun h h2 => blw_out (s := s.data.toList) (k := (m : Nat)) (most := 1) h h2); have HK := Hyd (fun h h2 => blw_ok (s := s.data.toList) (k := (m : Nat)) (most := 1) h h2); have hbd := PV.getB_bounds (s := s.data.toList) (k := m); rw [HDL.out] at hbd; clear hcn HG3 HG2 HC; generalize blw s.data.toList m 1 = g1 at *; generalize PV.getB s.data.toList m = r at *; obtain ⟨x, y, z⟩ := r; unfold WV.getV at HV
      simp only at hbd HE HO' HK HV
      obtain ⟨hy0, hys⟩ := hbd; obtain ⟨q, rfl⟩ := Int.eq_ofNat_of_zero_le hy0; clear hy0; go_wp2_with fail; refine (HV.out _).mono ?_; rintro e w' ⟨rfl, rfl⟩
      obtain ⟨w', rfl⟩ : ∃ w' : World, w' = wr := ⟨_, rfl⟩
      by_cases hz : z = 0
      ·subst hz
       by_cases hx : x < 0
       ·obtain rfl := HO'.out (by trivial) (.inl hx); clear HE HO' HK
        have HP := Hyd (fun w (hb : Below W.heap.size W w) => (show PO (.returned (.tuple #[.agg #[.slice none 0 0, .slice none 0 0, .bool false], .int .i64 4])) w by
         rw [<- HPO.out]; exact getPost_err (by rw [HG4.out, if_pos (by first | exact hz | decide)]) hb))
        obtain ⟨n0, n1, n2, m0, m1, m2⟩ := cells3 HN.out; obtain ⟨y0, y1, y2, f0, f1, f2⟩ := cells3 HR.out; have HZ := Hyd (box_zero HR.out (.slice none 0 0) (.slice none 0 0) (.bool false)); have HBZ := Hyd (below_zero HB.out W.heap.size (Nat.le_refl _) (.slice none 0 0) (.slice none 0 0) (.bool false)); go_wp2_with fail; exact bodyPost_ret (res_run21 rfl rfl HZ.out) rfl (HP.out _ HBZ.out)
       ·have hx' : 0 <= x := (by omega)
        by_cases hx2 : 1 < x
        ·obtain rfl := HO'.out (by trivial) (.inr hx2); clear HE HO' HK
         have HP := Hyd (fun w (hb : Below W.heap.size W w) => (show PO (.returned (.tuple #[.agg #[.slice none 0 0, .slice none 0 0, .bool false], .int .i64 4])) w by
          rw [<- HPO.out]; exact getPost_err (by rw [HG4.out, if_pos (by first | exact hz | decide)]) hb))
         obtain ⟨n0, n1, n2, m0, m1, m2⟩ := cells3 HN.out; obtain ⟨y0, y1, y2, f0, f1, f2⟩ := cells3 HR.out; have HZ := Hyd (box_zero HR.out (.slice none 0 0) (.slice none 0 0) (.bool false)); have HBZ := Hyd (below_zero HB.out W.heap.size (Nat.le_refl _) (.slice none 0 0) (.slice none 0 0) (.bool false)); go_wp2_with fail; exact bodyPost_ret (res_run21 rfl rfl HZ.out) rfl (HP.out _ HBZ.out)
        ·have hx2' : x <= 1 := (by omega); obtain rfl := HK.out (by trivial) (by omega); clear HE HO' HK; obtain ⟨y0, y1, y2, f0, f1, f2⟩ := cells3 HX.out; clear HV
         simp only at HG4
         obtain ⟨bq, hbq⟩ : ∃ bq, (x == 1) = bq := ⟨_, rfl⟩
         obtain ⟨sd, hsd⟩ : ∃ sd, s.extract q s.size = sd := ⟨_, rfl⟩
         have hsl : sd.data.toList = s.data.toList.drop q := by rw [<- hsd]; exact ext_list s q
         have hsz : sd.size = (s.data.toList.drop q).length := by rw [<- hsl]; exact Array.length_toList.symm
         have hsm : sd.size <= 100000000 := by rw [hsz, List.length_drop, HDL.out]; omega
         have HX6 := Hyd (bset HX.out 2 (.bool bq)); have HR6 := Hyd (bother HR.out X 2 (.bool bq) (by omega)); have HN6 := Hyd (bother HN.out X 2 (.bool bq) (by omega)); have HO6 := Hyd (own_set (B := X) (i := 2) (u := .bool bq) HO.out HX.out (by decide)); have HB6 := Hyd (HB.out.setCell (p := ⟨X, 2, none⟩) (by show W.heap.size <= X; omega) (.bool bq)); have HEG := Hyd (fun w => WG.rget_own sd w (by omega)); rw [hsl, hsz] at HEG
         have HG5 := Hyd (show getRun s.data.toList = match getEs (s.data.toList.drop q) (s.data.toList.drop q).length 0 with
          | .inl e => .inl e
          | .inr es => if (es.length : Int) ≠ S then .inl 4 else .inr (cs, es, bq) by
           rw [HG4.out, if_neg (by simp), Int.toNat_natCast, HS.out, hbq]; rfl)
         have HNE := Hyd (fun e h => getEs_err_ne (s := s.data.toList.drop q) (s.data.toList.drop q).length 0 e h); have HLEN := Hyd (fun l h => (getEs_len (s := s.data.toList.drop q) (l := l) (Nat.le_refl _) h).2.2)
         have hdl : (s.data.toList.drop q).length <= 100000000 := by rw [List.length_drop, HDL.out]; omega
         generalize s.data.toList.drop q = D at *; have HSD := Hyd hsd; clear hsl hsz HG4 hsd HR HX HO HB HN; go_wp2_with fail; clear hbq; rw [HSD.out]; generalize w'.setCell ⟨X, 2, none⟩ (.bool bq) = w7 at *; refine (HEG.out w7).mono ?_; rintro e w8 ⟨v, rfl, hv, hb8⟩; have HX8 := Hyd ((hb8.block _ (heap_lt HX6.out)).trans HX6.out); have HR8 := Hyd ((hb8.block _ (heap_lt HR6.out)).trans HR6.out); have HN8 := Hyd ((hb8.block _ (heap_lt HN6.out)).trans HN6.out); have HO8 := Hyd (own_below HO6.out hb8); have HB8 := Hyd (HB6.out.trans (hb8.mono HB6.out.size)); obtain ⟨ea, ec, rfl⟩ := (Sl.of_own hv).shape; have HV := Hyd hv; have h7z := HB6.out.size; clear hv hb8 y0 y1 y2 f0 f1 f2 HEG HX6 HR6 HO6 HB6 HN6; obtain ⟨z0, z1, z2, g0, g1, g2⟩ := cells3 HR8.out; obtain ⟨n0, n1, n2, m0, m1, m2⟩ := cells3 HN8.out
         cases hge : getEs D D.length 0 with
         | inl er =>
          have her := HNE.out er hge
          have her' : (er != 0) = true := by simp [her]
          rw [hge] at HG5 HV
          have HP := Hyd (fun w (hb : Below W.heap.size W w) => (show PO (.returned (.tuple #[.agg #[.slice none 0 0, .slice none 0 0, .bool false], .int .i64 er])) w by
           rw [<- HPO.out]; exact getPost_err HG5.out hb))
          unfold errOf
          simp only []
          have HZ := Hyd (box_zero HR8.out (.slice none 0 0) (.slice none 0 0) (.bool false)); have HBZ := Hyd (below_zero HB8.out W.heap.size (Nat.le_refl _) (.slice none 0 0) (.slice none 0 0) (.bool false)); go_wp2_with fail; exact bodyPost_ret (res_run21 rfl rfl HZ.out) rfl (HP.out _ HBZ.out)
         | inr es =>
          have hel := HLEN.out es hge; rw [hge] at HG5 HV; have hlst : lstOf (.inr es) = es := rfl; rw [hlst] at HV ⊢; clear hlst; unfold errOf
          simp only []
          by_cases hes : (es.length : Int) = S
          ·have hesb : ((es.length : Int) != S) = false := by simp [hes]
           have HGG := Hyd (show getRun s.data.toList = .inr (cs, es, bq) by rw [HG5.out]; simp only []; rw [if_neg (by simp [hes])]); have HX9 := Hyd (bset HX8.out 1 (.slice ea es.length ec)); have HR9 := Hyd (bother HR8.out X 1 (.slice ea es.length ec) (by omega)); have HO9 := Hyd (own_set (B := X) (i := 1) (u := .slice ea es.length ec) HO8.out HX8.out (by decide)); have HB9 := Hyd (HB8.out.setCell (p := ⟨X, 1, none⟩) (by show W.heap.size <= X; omega) (.slice ea es.length ec)); have HZ := Hyd (box_zero HR9.out (.slice va i vc) (.slice ea es.length ec) (.bool bq)); have HBZ := Hyd (below_zero HB9.out W.heap.size (Nat.le_refl _) (.slice va i vc) (.slice ea es.length ec) (.bool bq))
           have HFO := Hyd (fun w (h : w = (((w8.setCell ⟨X, 1, none⟩ (.slice ea es.length ec)).setCell ⟨W.heap.size, 0, none⟩ (.slice va i vc)).setCell ⟨W.heap.size, 1, none⟩ (.slice ea es.length ec)).setCell ⟨W.heap.size, 2, none⟩ (.bool bq)) => (show PO (.returned (.tuple #[.agg #[.slice va i vc, .slice ea es.length ec, .bool bq], .int .i64 0])) w by
            subst h; rw [<- HPO.out, HGG.out]; have o1 := own_set (i := 0) (u := .slice va i vc) HO9.out HR9.out (by decide); have o2 := own_set (i := 1) (u := .slice ea es.length ec) o1 (bset HR9.out 0 (.slice va i vc)) (by decide); have o3 := own_set (i := 2) (u := .bool bq) o2 (bset (bset HR9.out 0 (.slice va i vc)) 1 (.slice ea es.length ec)) (by decide); refine ⟨_, _, rfl, ?_, ?_, HBZ.out⟩
            ·have := Sl.of_own o3; unfold Ints runR; rw [HCL.out]; exact this
            ·have q0 := own_set (i := 1) (u := .slice ea es.length ec) HV.out HX8.out (by decide); have q1 := own_set (i := 0) (u := .slice va i vc) q0 HR9.out (by decide); have q2 := own_set (i := 1) (u := .slice ea es.length ec) q1 (bset HR9.out 0 (.slice va i vc)) (by decide)
             exact Sl.of_own (own_set (i := 2) (u := .bool bq) q2 (bset (bset HR9.out 0 (.slice va i vc)) 1 (.slice ea es.length ec)) (by decide))))
           obtain ⟨y0, y1, y2, f0, f1, f2⟩ := cells3 HX8.out; clear hel HG5 HLEN HNE; go_wp2_with fail; exact bodyPost_ret (res_run21 rfl rfl HZ.out) rfl (HFO.out _ rfl)
          ·have hesb : ((es.length : Int) != S) = true := by simp [hes]
           have HP := Hyd (fun w (hb : Below W.heap.size W w) => (show PO (.returned (.tuple #[.agg #[.slice none 0 0, .slice none 0 0, .bool false], .int .i64 4])) w by
            rw [<- HPO.out]; exact getPost_err (by rw [HG5.out]; simp only []; rw [if_pos hes]) hb))
           have HZ := Hyd (box_zero HR8.out (.slice none 0 0) (.slice none 0 0) (.bool false)); have HBZ := Hyd (below_zero HB8.out W.heap.size (Nat.le_refl _) (.slice none 0 0) (.slice none 0 0) (.bool false)); go_wp2_with fail; exact bodyPost_ret (res_run21 rfl rfl HZ.out) rfl (HP.out _ HBZ.out)
      ·have hz' : (z != 0) = true := by simp [hz]
       obtain rfl := HE.out hz; clear HE HO' HK
       have HP := Hyd (fun w (hb : Below W.heap.size W w) => (show PO (.returned (.tuple #[.agg #[.slice none 0 0, .slice none 0 0, .bool false], .int .i64 z])) w by
        rw [<- HPO.out]; exact getPost_err (by rw [HG4.out, if_pos (by first | exact hz | decide)]) hb))
       obtain ⟨n0, n1, n2, m0, m1, m2⟩ := cells3 HN.out; obtain ⟨y0, y1, y2, f0, f1, f2⟩ := cells3 HR.out; have HZ := Hyd (box_zero HR.out (.slice none 0 0) (.slice none 0 0) (.bool false)); have HBZ := Hyd (below_zero HB.out W.heap.size (Nat.le_refl _) (.slice none 0 0) (.slice none 0 0) (.bool false)); go_wp2_with fail; exact bodyPost_ret (res_run21 rfl rfl HZ.out) rfl (HP.out _ HBZ.out)
 ·have hz' : (z != 0) = true := by simp [hz]
  obtain rfl := HE.out hz; clear HE HO HK
  have HP := Hyd (fun w (hb : Below W.heap.size W w) => (show PO (.returned (.tuple #[.agg #[.slice none 0 0, .slice none 0 0, .bool false], .int .i64 z])) w by
   rw [<- HPO.out]; exact getPost_err (HG1.out (by first | exact hz | decide)) hb))
  obtain ⟨n0, n1, n2, m0, m1, m2⟩ := cells3 HN.out; obtain ⟨y0, y1, y2, f0, f1, f2⟩ := cells3 HR.out; have HZ := Hyd (box_zero HR.out (.slice none 0 0) (.slice none 0 0) (.bool false)); have HBZ := Hyd (below_zero HB.out W.heap.size (Nat.le_refl _) (.slice none 0 0) (.slice none 0 0) (.bool false)); go_wp2_with fail; exact bodyPost_ret (res_run21 rfl rfl HZ.out) rfl (HP.out _ HBZ.out)
end Go.Proofs.YtcojnojdgigmdaaDoor.WB2
