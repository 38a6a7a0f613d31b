/- The walks of run.below, run.Get. -/
import Derived.Test.YtcojnojdgigmdaaGreatDoorB01
import Derived.Test.YtcojnojdgigmdaaGreatDoorWGet
import Derived.Test.YtcojnojdgigmdaaGreatDoorPRB
set_option maxHeartbeats 6400000
set_option maxRecDepth 100000
namespace Go.Proofs.YtcojnojdgigmdaaGreatDoor.WB2
open Go Go.RowKit Go.Proofs.YtcojnojdgigmdaaGreatDoor Go.Proofs.YtcojnojdgigmdaaGreatDoor.Mem Go.Proofs.YtcojnojdgigmdaaGreatDoor.PE

def trip (g : Int × Int × Int) : Value := .tuple #[.int .i64 g.1, .int .i64 g.2.1, .int .i64 g.2.2]
theorem below_any (s : ByteArray) (k : Nat) (most : Int) (W : World) (hs : s.size <= 1000000000) (hk : k <= s.size) (hm : 0 <= most /\ most <= 1000000) :
  Calls Tryz.prog 48 #[.string s, .int .i64 (k : Nat), .int .i64 most] W fun e w' => e = .returned (trip (blw s.data.toList k most)) /\ w' = W := by
 obtain ⟨hm0, hm1⟩ := hm; have HG := Hyd (WV.get_any s k W (by omega) (by omega) (by omega)); have HE := Hyd (fun h => blw_err (s := s.data.toList) (k := k) (most := most) h); have HO := Hyd (fun h h2 => blw_out (s := s.data.toList) (k := k) (most := most) h h2); have HK := Hyd (fun h h2 => blw_ok (s := s.data.toList) (k := k) (most := most) h h2); generalize blw s.data.toList k most = r at *; have hbd := PV.getB_bounds (s := s.data.toList) (k := k); generalize PV.getB s.data.toList k = g at *; obtain ⟨x, y, z⟩ := g; unfold WV.getV at HG; clear hbd
 go_enter Tryz.func48, Tryz.ntmps48
 go_wp2_with fail; refine HG.out.mono ?_; rintro e w' ⟨rfl, rfl⟩
 by_cases hz : z = 0
 ·subst hz
  by_cases h2 : x < 0
  ·have HR := Hyd (HO.out rfl (.inl h2)); clear HE HO HK; go_wp2_with fail; refine bodyPost_ret (v := .tuple #[.int .i64 0, .int .i64 0, .int .i64 4]) (by simp [results, Tryz.results48, go_sem]) rfl ⟨?_, by trivial⟩; rw [HR.out]; rfl
  ·have h2' : 0 <= x := by omega
   by_cases h3 : most < x
   ·have HR := Hyd (HO.out rfl (.inr h3)); clear HE HO HK; go_wp2_with fail; refine bodyPost_ret (v := .tuple #[.int .i64 0, .int .i64 0, .int .i64 4]) (by simp [results, Tryz.results48, go_sem]) rfl ⟨?_, by trivial⟩; rw [HR.out]; rfl
   ·have HR := Hyd (HK.out rfl (by simp; omega)); clear HE HO HK; go_wp2_with fail; refine bodyPost_ret (v := .tuple #[.int .i64 x, .int .i64 y, .int .i64 0]) (by simp [results, Tryz.results48, go_sem]) rfl ⟨?_, by trivial⟩; rw [HR.out]; rfl
 ·have hz' : (z != 0) = true := by simp [hz]
  have HR := Hyd (HE.out hz); clear HE HO HK; go_wp2_with fail; refine bodyPost_ret (v := .tuple #[.int .i64 0, .int .i64 0, .int .i64 z]) (by simp [results, Tryz.results48, go_sem]) rfl ⟨?_, by trivial⟩; rw [HR.out]; rfl
/-! ### run.Get -/
theorem bset {w : World} {g : Nat} {cs : Array Value} {t : TypeId} (h : w.heap[g]? = some (.cells cs t (0, 0))) (i : Nat) (v : Value) : (w.setCell ⟨g, i, none⟩ v).heap[g]? = some (.cells (cs.setIfInBounds i v) t (0, 0)) := by
 simp [World.setCell, Array.getElem?_modify, h]
theorem bother {w : World} {g : Nat} {o : Obj} (h : w.heap[g]? = some o) (g' i : Nat) (v : Value) (hne : g ≠ g') : (w.setCell ⟨g', i, none⟩ v).heap[g]? = some o := (Below.heap_setCell w ⟨g', i, none⟩ v g hne).trans h
theorem grown_set0 (w : World) (R i : Nat) (v : Value) : w.grownBy (w.setCell ⟨R, i, none⟩ v) (some R) :=
 ⟨rfl, rfl, rfl, by simp [World.setCell], fun k _ h => Below.heap_setCell _ _ _ _ (by simpa using h)⟩
theorem own_ne_blk {w : World} {b B : Nat} {e t : TypeId} {s n : Nat} {v : Value} {xs : List Value} {cs : Array Value} (h : w.ownsRow b e s v n xs) (hB : w.heap[B]? = some (.cells cs t (0, 0))) (hne : e ≠ t) : v.ownBlock = none \/ v.ownBlock ≠ some B := by
 rcases h.2 with ⟨rfl, _⟩ | ⟨g, cap, cur, rfl, _, hh, _⟩
 ·exact .inl rfl
 ·refine .inr fun he => ?_
  have : g = B := by simpa [Value.ownBlock] using he
  subst this; rw [hh] at hB
  injection hB with hB
  injection hB with _ ht
  exact hne ht
theorem own_set {w : World} {b B i : Nat} {e t : TypeId} {s n : Nat} {v u : Value} {xs : List Value} {cs : Array Value} (h : w.ownsRow b e s v n xs) (hB : w.heap[B]? = some (.cells cs t (0, 0))) (hne : e ≠ t) : (w.setCell ⟨B, i, none⟩ u).ownsRow b e s v n xs :=
 h.kept (grown_set0 _ _ _ _) (own_ne_blk h hB hne)
theorem cells3 {w : World} {g : Nat} {t : TypeId} {c0 c1 c2 : Value} (h : w.heap[g]? = some (.cells #[c0, c1, c2] t (0, 0))) :
  w.cell? ⟨g, 0, none⟩ = some c0 /\ w.cell? ⟨g, 1, none⟩ = some c1 /\ w.cell? ⟨g, 2, none⟩ = some c2 /\ w.frozen? ⟨g, 0, none⟩ = false /\ w.frozen? ⟨g, 1, none⟩ = false /\ w.frozen? ⟨g, 2, none⟩ = false :=
 ⟨by rw [Lib.cell_of_heap h]; rfl, by rw [Lib.cell_of_heap h]; rfl, by rw [Lib.cell_of_heap h]; rfl, Lib.frozen_of_heap h 0, Lib.frozen_of_heap h 1, Lib.frozen_of_heap h 2⟩
theorem res_run {w : World} {B : Nat} {c0 c1 c2 v3 : Value} {t : TypeId} {tmps : Array Value} (h2 : tmps[2]? = some (.pointer (some ⟨B, 0, none⟩))) (h3 : tmps[3]? = some v3) (h : w.heap[B]? = some (.cells #[c0, c1, c2] t (0, 0))) :
  (results Tryz.f19 tmps).run Tryz.prog w = .ok (.tuple #[.agg #[c0, c1, c2], v3]) w := by
 obtain ⟨e0, e1, e2, _⟩ := cells3 h
 simp [results, Tryz.results19, go_sem, h2, h3, e0, e1, e2]
theorem infoInt : (Tryz.prog.info? 3).map (fun i => (i.zero, i.size, i.bytes)) = some (some (.int .i64 0), 1, 8) := by kernel_rfl
theorem ext_list (s : ByteArray) (q : Nat) : (s.extract q s.size).data.toList = s.data.toList.drop q := by
 rw [ByteArray.data_extract, Array.toList_extract]
 simp only [List.extract_eq_take_drop]
 rw [List.take_of_length_le]; rw [List.length_drop, Array.length_toList]; exact Nat.le_refl _
def GetPost (W : World) (g : Sum Int (List Int × List Ev × Bool)) (e : Ending) (w' : World) : Prop :=
 ∃ cv ev, e = .returned (.tuple #[.agg #[cv, ev, .bool (runR g).2.2], .int .i64 (errR g)]) /\ Ints w' w'.heap.size cv (runR g).1 /\ Evs w' w'.heap.size ev (runR g).2.1 /\ Below W.heap.size W w'
theorem getPost_err {W w : World} {g : Sum Int (List Int × List Ev × Bool)} {er : Int} (hg : g = .inl er) (hb : Below W.heap.size W w) : GetPost W g (.returned (.tuple #[.agg #[.slice none 0 0, .slice none 0 0, .bool false], .int .i64 er])) w := by
 subst hg; exact ⟨_, _, rfl, Sl.nil_ _ _ _, Sl.nil_ _ _ _, hb⟩
theorem below_zero {W w : World} (hb : Below W.heap.size W w) (X : Nat) (hX : W.heap.size <= X) (c0 c1 c2 : Value) : Below W.heap.size W (((w.setCell ⟨X, 0, none⟩ c0).setCell ⟨X, 1, none⟩ c1).setCell ⟨X, 2, none⟩ c2) :=
 ((hb.setCell (p := ⟨X, 0, none⟩) hX _).setCell (p := ⟨X, 1, none⟩) hX _).setCell (p := ⟨X, 2, none⟩) hX _
theorem box_zero {w : World} {X : Nat} {t : TypeId} {a b c : Value} (h : w.heap[X]? = some (.cells #[a, b, c] t (0, 0))) (c0 c1 c2 : Value) : (((w.setCell ⟨X, 0, none⟩ c0).setCell ⟨X, 1, none⟩ c1).setCell ⟨X, 2, none⟩ c2).heap[X]? = some (.cells #[c0, c1, c2] t (0, 0)) := bset (bset (bset h 0 c0) 1 c1) 2 c2
theorem rget_any (s : ByteArray) (W : World) (hs : s.size <= 100000000) : Calls Tryz.prog 19 #[.string s] W (GetPost W (getRun s.data.toList)) := by
 have hdl : s.data.toList.length = s.size := Array.length_toList
 obtain ⟨PO, hPO⟩ : ∃ PO, GetPost W (getRun s.data.toList) = PO := ⟨_, rfl⟩
 rw [hPO]; have HPO := Hyd hPO; have HDL := Hyd hdl; have HB0 := Hyd (fun w => below_any s 0 8 w (by omega) (by omega) (by omega)); have hin := blw_in (s := s.data.toList) (k := 0) (most := 8) (by omega); rw [HDL.out] at hin; have HG1 := Hyd (fun h => getRun_1 (s := s.data.toList) h); have HG2 := Hyd (fun h e => getRun_2 (s := s.data.toList) h (e := e)); have HG3 := Hyd (fun h l k => getRun_3 (s := s.data.toList) h (l := l) (k := k)); have hz : ((0 : Nat) : Int) = 0 := rfl; rw [hz] at hin HB0; generalize blw s.data.toList 0 8 = g0 at *; obtain ⟨n0, k0, z0⟩ := g0
 simp only at hin HG1 HG2 HG3
 obtain ⟨hn0, hn8, hk0, hks⟩ := hin; obtain ⟨n, rfl⟩ := Int.eq_ofNat_of_zero_le hn0; obtain ⟨k, rfl⟩ := Int.eq_ofNat_of_zero_le hk0
 simp only [Int.toNat_natCast] at HG2 HG3
 unfold trip at HB0
 simp only at HB0
 have HX0 := Hyd (show (W.alloc (.cells #[.slice none 0 0, .slice none 0 0, .bool false] 47)).heap[W.heap.size]? = some (.cells #[.slice none 0 0, .slice none 0 0, .bool false] 47 (0, 0)) from heap_new rfl); clear hPO hdl hz hn0 hk0
 go_enter Tryz.func19, Tryz.ntmps19
 go_wp2_with fail; refine (HB0.out _).mono ?_; rintro e w' ⟨rfl, rfl⟩
 by_cases hz0 : z0 = 0
 ·subst hz0; clear HG1 HB0; go_wp2_with fail; have HA0 := Hyd (heap_alloc (o' := .cells #[.slice none 0 0, .slice none 0 0, .bool false] 47) HX0.out); have HA1 := Hyd (show ((W.alloc (.cells #[.slice none 0 0, .slice none 0 0, .bool false] 47)).alloc (.cells #[.slice none 0 0, .slice none 0 0, .bool false] 47)).heap[W.heap.size + 1]? = some (.cells #[.slice none 0 0, .slice none 0 0, .bool false] 47 (0, 0)) from heap_new (by simp)); have HAB := Hyd (below_alloc0 (o := .cells #[.slice none 0 0, .slice none 0 0, .bool false] 47) (below_alloc0 (o := .cells #[.slice none 0 0, .slice none 0 0, .bool false] 47) (Below.refl W.heap.size W)))
  obtain ⟨X, hX⟩ : ∃ X, W.heap.size + 1 = X := ⟨_, rfl⟩
  rw [hX] at HA1 ⊢
  have hX1 : W.heap.size < X := by omega
  clear hX; generalize (W.alloc (.cells #[.slice none 0 0, .slice none 0 0, .bool false] 47)).alloc (.cells #[.slice none 0 0, .slice none 0 0, .bool false] 47) = W2 at *; clear HX0
  go_loopw [5, 8, 22] (fun a b c wr => ∃ (cs : List Int) (i m : Nat) (v : Value), cs.length = i /\ i <= n /\ m <= s.size /\ a = .int .i64 m /\ b = .int .i64 (sumI cs) /\ c = .int .i64 i /\ Hid (cnts s.data.toList n k = preC cs (cnts s.data.toList (n - i) m)) /\ (0 <= sumI cs /\ sumI cs <= 4 * i) /\
   Hid (wr.heap[W.heap.size]? = some (.cells #[.slice none 0 0, .slice none 0 0, .bool false] 47 (0, 0))) /\ Hid (wr.heap[X]? = some (.cells #[v, .slice none 0 0, .bool false] 47 (0, 0))) /\ Hid (wr.ownsRow W.heap.size 3 1 v i (cs.map (Value.int .i64))) /\ Hid (Below W.heap.size W wr)) (fun _ _ c _ => n - (intOf c).toNat)
  case atStart => exact ⟨[], 0, k, .slice none 0 0, rfl, Nat.zero_le _, by omega, rfl, rfl, rfl, Hyd (preC_nil _).symm, ⟨by simp [sumI], by simp [sumI]⟩, HA0, HA1, Hyd (World.ownsRow_nil _ _ _ _), HAB⟩
  case round =>
   clear HA0 HA1 HAB; obtain ⟨cs, i, m, v, hcl, hin, hms, rfl, rfl, rfl, HC, ⟨hs0, hs4⟩, HR, HX, HO, HB⟩ := hrel; have HCL := Hyd hcl; clear hcl
   obtain ⟨S, hS⟩ : ∃ S, sumI cs = S := ⟨_, rfl⟩
   rw [hS] at hs0 hs4 ⊢; have HS := Hyd hS; clear hS; obtain ⟨va, vc, rfl⟩ := (Sl.of_own HO.out).shape; have hbz := HB.out.size; have hXl := heap_lt HX.out; obtain ⟨y0, y1, y2, f0, f1, f2⟩ := cells3 HX.out
   by_cases hlt : i < n
   ·have hlti : (i : Int) < (n : Int) := by omega
    have HBL := Hyd (below_any s m 4 wr (by omega) hms (by omega)); have hbi := blw_in (s := s.data.toList) (k := m) (most := 4) (by omega); rw [HDL.out] at hbi; have HBAD := Hyd (fun h => cnts_bad (s := s.data.toList) (n := n - (i + 1)) (k := m) h); have HOKC := Hyd (fun h => cnts_ok (s := s.data.toList) (n := n - (i + 1)) (k := m) h cs); rw [show n - (i + 1) + 1 = n - i by omega] at HBAD HOKC; unfold trip at HBL; generalize blw s.data.toList m 4 = g1 at *; obtain ⟨x, y, z⟩ := g1
    simp only at hbi HBAD HOKC HBL
    obtain ⟨hx0, hx4, hyy, hys⟩ := hbi; obtain ⟨q, rfl⟩ := Int.eq_ofNat_of_zero_le hyy; clear hyy; go_wp2_with fail; refine HBL.out.mono ?_; rintro e w' ⟨rfl, rfl⟩
    by_cases hz1 : z = 0
    ·subst hz1; clear HBAD HBL; obtain ⟨i0, hi, hq0, hq1, hq2⟩ := info_parts infoInt; have HOA := Hyd (own_below HO.out (show Below w'.heap.size w' (w'.alloc (.cells #[.int .i64 x] 3)) from (Below.refl _ _).alloc (Nat.le_refl _) _)); have HXA := Hyd (heap_alloc (o' := .cells #[.int .i64 x] 3) HX.out); have HRA := Hyd (heap_alloc (o' := .cells #[.int .i64 x] 3) HR.out); have HBA := Hyd (HB.out.alloc HB.out.size (.cells #[.int .i64 x] 3))
     go_wp2_with (at_builtin; refine wpList_append_own _ rfl (.tmp 36) (.tmp 38) 45 rfl W.heap.size 3 i0 _ 1 8 Tryz.underlying45 hi hq0 hq1 hq2 rfl (by decide) _ _ _ rfl HOA.out ⟨w'.heap.size, 0, none⟩ 1 1 [.int .i64 x] rfl rfl ?c1 ?c2 ?c3 ?c4 ?c5 ?_)
     case c1 => exact fun j u hu => new_cell _ _ _ j u hu
     case c2 => intro u hu; rw [List.mem_singleton.1 hu]; rfl
     case c3 => unfold maxLen; omega
     case c4 => omega
     case c5 => have := HBA.out.size; exact this
     intro v' w5 ho5 hg5 _; obtain ⟨va', vc', rfl⟩ := (Sl.of_own ho5).shape; have HO5 := Hyd ho5; have HX5 := Hyd (heap_kept HXA.out HOA.out (by decide) hg5); have HR5 := Hyd (heap_kept HRA.out HOA.out (by decide) hg5); have HB5 := Hyd (below_grown HBA.out HOA.out hg5 (Nat.le_trans HB.out.size (by simp)) (Nat.le_refl _)); clear y0 y1 y2 f0 f1 f2 ho5 hg5 hi hq0 hq1 hq2; obtain ⟨y0, y1, y2, f0, f1, f2⟩ := cells3 HX5.out; have HX6 := Hyd (bset HX5.out 0 (.slice va' (i + 1) vc')); have HR6 := Hyd (bother HR5.out X 0 (.slice va' (i + 1) vc') (by omega)); have HO6 := Hyd (own_set (B := X) (i := 0) (u := .slice va' (i + 1) vc') HO5.out HX5.out (by decide)); have HB6 := Hyd (HB5.out.setCell (p := ⟨X, 0, none⟩) (by show W.heap.size <= X; omega) (.slice va' (i + 1) vc')); have HS2 := Hyd (show sumI (cs ++ [x]) = S + x by rw [sumI_snoc, HS.out]); have HC2 := Hyd (HC.out.trans (HOKC.out (by trivial)))
     have HM2 := Hyd (show (cs ++ [x]).map (Value.int .i64) = cs.map (Value.int .i64) ++ [.int .i64 x] by simp); go_wp2_with fail; go_roundw
     case rel => exact ⟨cs ++ [x], i + 1, q, .slice va' (i + 1) vc', by rw [List.length_append, HCL.out]; rfl, by omega, by omega, by trivial, by rw [HS2.out], by go_num, HC2, ⟨by rw [HS2.out]; omega, by rw [HS2.out]; push_cast; omega⟩, HR6, HX6, Hyd (by rw [HM2.out]; exact HO6.out), HB6⟩
     case measure => simp [intOf]; omega
    ·have hz1' : (z != 0) = true := by simp [hz1]
     have HP := Hyd (fun w (hb : Below W.heap.size W w) => (show PO (.returned (.tuple #[.agg #[.slice none 0 0, .slice none 0 0, .bool false], .int .i64 z])) w by
      rw [<- HPO.out]; exact getPost_err (HG2.out (by trivial) z (HC.out.trans (by rw [HBAD.out hz1]; rfl))) hb))
     clear y0 y1 y2 f0 f1 f2; obtain ⟨y0, y1, y2, f0, f1, f2⟩ := cells3 HR.out; have HZ := Hyd (box_zero HR.out (.slice none 0 0) (.slice none 0 0) (.bool false)); have HBZ := Hyd (below_zero HB.out W.heap.size (Nat.le_refl _) (.slice none 0 0) (.slice none 0 0) (.bool false)); go_wp2_with fail; exact bodyPost_ret (res_run rfl rfl HZ.out) rfl (HP.out _ HBZ.out)
   ·obtain rfl : i = n := by omega
    have hcn : cnts s.data.toList i k = .inr (cs, (m : Int)) := HC.out.trans (by rw [Nat.sub_self, cnts, preC, List.append_nil]); have HG4 := Hyd (HG3.out (by trivial) cs m hcn); have HBL := Hyd (below_any s m 1 wr (by omega) hms (by omega)); have hbi := blw_in (s := s.data.toList) (k := m) (most := 1) (by omega); rw [HDL.out] at hbi; clear hcn HG3 HG2 HC; unfold trip at HBL; generalize blw s.data.toList m 1 = g1 at *; obtain ⟨x, y, z⟩ := g1
    simp only at hbi HBL HG4
    obtain ⟨hx0, hx1, hyy, hys⟩ := hbi; obtain ⟨q, rfl⟩ := Int.eq_ofNat_of_zero_le hyy; clear hyy; go_wp2_with fail; refine HBL.out.mono ?_; rintro e w' ⟨rfl, rfl⟩
    by_cases hz1 : z = 0
    ·subst hz1; clear HBL
     obtain ⟨bq, hbq⟩ : ∃ bq, (x == 1) = bq := ⟨_, rfl⟩
     have hql : q <= s.size := by omega
     obtain ⟨sd, hsd⟩ : ∃ sd, s.extract q s.size = sd := ⟨_, rfl⟩
     have hsl : sd.data.toList = s.data.toList.drop q := by rw [<- hsd]; exact ext_list s q
     have hsz : sd.size = (s.data.toList.drop q).length := by rw [<- hsl]; exact Array.length_toList.symm
     have hsm : sd.size <= 100000000 := by rw [hsz, List.length_drop, HDL.out]; omega
     have HX6 := Hyd (bset HX.out 2 (.bool bq)); have HR6 := Hyd (bother HR.out X 2 (.bool bq) (by omega)); have HO6 := Hyd (own_set (B := X) (i := 2) (u := .bool bq) HO.out HX.out (by decide)); have HB6 := Hyd (HB.out.setCell (p := ⟨X, 2, none⟩) (by show W.heap.size <= X; omega) (.bool bq)); have HEG := Hyd (fun w => WG.get_own sd w (by omega)); rw [hsl, hsz] at HEG
     have HG5 := Hyd (show getRun s.data.toList = match getEs (s.data.toList.drop q) (s.data.toList.drop q).length 0 with
      | .inl e => .inl e
      | .inr es => if (es.length : Int) ≠ S then .inl 4 else .inr (cs, es, bq) by
       rw [HG4.out, if_neg (by simp), Int.toNat_natCast, HS.out, hbq]; rfl)
     have HNE := Hyd (fun e h => getEs_err_ne (s := s.data.toList.drop q) (s.data.toList.drop q).length 0 e h); have HLEN := Hyd (fun l h => (getEs_len (s := s.data.toList.drop q) (l := l) (Nat.le_refl _) h).2.2)
     have hdl : (s.data.toList.drop q).length <= 100000000 := by rw [List.length_drop, HDL.out]; omega
     generalize s.data.toList.drop q = D at *; have HSD := Hyd hsd; have HBQ := Hyd hbq; clear hsl hsz HG4 hsd HR HX HO HB; go_wp2_with fail; clear hbq; rw [HSD.out]; generalize w'.setCell ⟨X, 2, none⟩ (.bool bq) = w7 at *; refine (HEG.out w7).mono ?_; rintro e w8 ⟨v, rfl, hv, hb8⟩; have HX8 := Hyd ((hb8.block _ (heap_lt HX6.out)).trans HX6.out); have HR8 := Hyd ((hb8.block _ (heap_lt HR6.out)).trans HR6.out); have HO8 := Hyd (own_below HO6.out hb8); have HB8 := Hyd (HB6.out.trans (hb8.mono HB6.out.size)); obtain ⟨ea, ec, rfl⟩ := (Sl.of_own hv).shape; have HV := Hyd hv; have h7z := HB6.out.size; clear hv hb8 y0 y1 y2 f0 f1 f2 HEG HX6 HR6 HO6 HB6; obtain ⟨y0, y1, y2, f0, f1, f2⟩ := cells3 HX8.out; obtain ⟨z0, z1, z2, g0, g1, g2⟩ := cells3 HR8.out
     cases hge : getEs D D.length 0 with
     | inl er =>
      have her := HNE.out er hge
      have her' : (er != 0) = true := by simp [her]
      rw [hge] at HG5 HV
      have HP := Hyd (fun w (hb : Below W.heap.size W w) => (show PO (.returned (.tuple #[.agg #[.slice none 0 0, .slice none 0 0, .bool false], .int .i64 er])) w by
       rw [<- HPO.out]; exact getPost_err HG5.out hb))
      have HR9 := Hyd (bother HR8.out X 1 (.slice ea (lstOf (.inl er)).length ec) (by omega)); have HB9 := Hyd (HB8.out.setCell (p := ⟨X, 1, none⟩) (by show W.heap.size <= X; omega) (.slice ea (lstOf (.inl er)).length ec)); unfold errOf
      simp only []
      have HZ := Hyd (box_zero HR9.out (.slice none 0 0) (.slice none 0 0) (.bool false)); have HBZ := Hyd (below_zero HB9.out W.heap.size (Nat.le_refl _) (.slice none 0 0) (.slice none 0 0) (.bool false)); go_wp2_with fail; exact bodyPost_ret (res_run rfl rfl HZ.out) rfl (HP.out _ HBZ.out)
     | inr es =>
      have hel := HLEN.out es hge; rw [hge] at HG5 HV; have hlst : lstOf (.inr es) = es := rfl; rw [hlst] at HV ⊢; clear hlst; have HX9 := Hyd (bset HX8.out 1 (.slice ea es.length ec)); have HR9 := Hyd (bother HR8.out X 1 (.slice ea es.length ec) (by omega)); have HO9 := Hyd (own_set (B := X) (i := 1) (u := .slice ea es.length ec) HO8.out HX8.out (by decide)); have HB9 := Hyd (HB8.out.setCell (p := ⟨X, 1, none⟩) (by show W.heap.size <= X; omega) (.slice ea es.length ec)); unfold errOf
      simp only []
      by_cases hes : (es.length : Int) = S
      ·have hesb : ((es.length : Int) != S) = false := by simp [hes]
       have HGG := Hyd (show getRun s.data.toList = .inr (cs, es, bq) by rw [HG5.out]; simp only []; rw [if_neg (by simp [hes])]); have HZ := Hyd (box_zero HR9.out (.slice va i vc) (.slice ea es.length ec) (.bool bq)); have HBZ := Hyd (below_zero HB9.out W.heap.size (Nat.le_refl _) (.slice va i vc) (.slice ea es.length ec) (.bool bq))
       have HFO := Hyd (fun w (h : w = (((w8.setCell ⟨X, 1, none⟩ (.slice ea es.length ec)).setCell ⟨W.heap.size, 0, none⟩ (.slice va i vc)).setCell ⟨W.heap.size, 1, none⟩ (.slice ea es.length ec)).setCell ⟨W.heap.size, 2, none⟩ (.bool bq)) => (show PO (.returned (.tuple #[.agg #[.slice va i vc, .slice ea es.length ec, .bool bq], .int .i64 0])) w by
        subst h; rw [<- HPO.out, HGG.out]; have o1 := own_set (i := 0) (u := .slice va i vc) HO9.out HR9.out (by decide); have o2 := own_set (i := 1) (u := .slice ea es.length ec) o1 (bset HR9.out 0 (.slice va i vc)) (by decide); have o3 := own_set (i := 2) (u := .bool bq) o2 (bset (bset HR9.out 0 (.slice va i vc)) 1 (.slice ea es.length ec)) (by decide); refine ⟨_, _, rfl, ?_, ?_, HBZ.out⟩
        ·have := Sl.of_own o3; unfold Ints runR; rw [HCL.out]; exact this
        ·have q0 := own_set (i := 1) (u := .slice ea es.length ec) HV.out HX8.out (by decide); have q1 := own_set (i := 0) (u := .slice va i vc) q0 HR9.out (by decide); have q2 := own_set (i := 1) (u := .slice ea es.length ec) q1 (bset HR9.out 0 (.slice va i vc)) (by decide)
         exact Sl.of_own (own_set (i := 2) (u := .bool bq) q2 (bset (bset HR9.out 0 (.slice va i vc)) 1 (.slice ea es.length ec)) (by decide))))
       clear hel HG5 HLEN HNE; go_wp2_with fail; exact bodyPost_ret (res_run rfl rfl HZ.out) rfl (HFO.out _ rfl)
      ·have hesb : ((es.length : Int) != S) = true := by simp [hes]
       have HP := Hyd (fun w (hb : Below W.heap.size W w) => (show PO (.returned (.tuple #[.agg #[.slice none 0 0, .slice none 0 0, .bool false], .int .i64 4])) w by
        rw [<- HPO.out]; exact getPost_err (by rw [HG5.out]; simp only []; rw [if_pos hes]) hb))
       have HZ := Hyd (box_zero HR9.out (.slice none 0 0) (.slice none 0 0) (.bool false)); have HBZ := Hyd (below_zero HB9.out W.heap.size (Nat.le_refl _) (.slice none 0 0) (.slice none 0 0) (.bool false)); go_wp2_with fail; exact bodyPost_ret (res_run rfl rfl HZ.out) rfl (HP.out _ HBZ.out)
    ·have hz1' : (z != 0) = true := by simp [hz1]
     have HP := Hyd (fun w (hb : Below W.heap.size W w) => (show PO (.returned (.tuple #[.agg #[.slice none 0 0, .slice none 0 0, .bool false], .int .i64 z])) w by
      rw [<- HPO.out]; exact getPost_err (by rw [HG4.out, if_pos hz1]) hb))
     clear y0 y1 y2 f0 f1 f2; obtain ⟨y0, y1, y2, f0, f1, f2⟩ := cells3 HR.out; have HZ := Hyd (box_zero HR.out (.slice none 0 0) (.slice none 0 0) (.bool false)); have HBZ := Hyd (below_zero HB.out W.heap.size (Nat.le_refl _) (.slice none 0 0) (.slice none 0 0) (.bool false)); go_wp2_with fail; exact bodyPost_ret (res_run rfl rfl HZ.out) rfl (HP.out _ HBZ.out)
 ·have hz0' : (z0 != 0) = true := by simp [hz0]
  have HP := Hyd (fun w (hb : Below W.heap.size W w) => (show PO (.returned (.tuple #[.agg #[.slice none 0 0, .slice none 0 0, .bool false], .int .i64 z0])) w by
   rw [<- HPO.out]; exact getPost_err (HG1.out hz0) hb))
  have HBZ := Hyd (below_alloc0 (o := .cells #[.slice none 0 0, .slice none 0 0, .bool false] 47) (Below.refl W.heap.size W)); go_wp2_with fail; exact bodyPost_ret (res_run rfl rfl HX0.out) rfl (HP.out _ HBZ.out)
end Go.Proofs.YtcojnojdgigmdaaGreatDoor.WB2
