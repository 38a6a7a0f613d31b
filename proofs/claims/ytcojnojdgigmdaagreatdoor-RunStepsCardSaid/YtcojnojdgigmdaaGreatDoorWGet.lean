/- The walks of layer 18's reading: event.Get and the document's Get. -/
import Derived.Test.YtcojnojdgigmdaaGreatDoorB01
import Derived.Test.YtcojnojdgigmdaaGreatDoorWE18
import Derived.Test.YtcojnojdgigmdaaGreatDoorWGood
set_option maxHeartbeats 1000000
set_option maxRecDepth 100000
namespace Go.Proofs.YtcojnojdgigmdaaGreatDoor.WG
open Go.RowKit Go.Proofs.YtcojnojdgigmdaaGreatDoor Go.Proofs.YtcojnojdgigmdaaGreatDoor.Mem Go.Proofs.YtcojnojdgigmdaaGreatDoor.PE

def arrC (vs : List Int) : Array Value := (vs.map (fun x => Value.int .i64 x) ++ List.replicate (4 - vs.length) (Value.int .i64 0)).toArray
theorem arrC_end (vs : List Int) (h : vs.length <= 3) : (arrC vs)[vs.length]? = some (.int .i64 0) := by
 simp [arrC, List.getElem?_append, List.getElem?_replicate]; omega
theorem arrC_put (vs : List Int) (x : Int) (h : vs.length <= 3) : (arrC vs).setIfInBounds vs.length (.int .i64 x) = arrC (vs ++ [x]) := by
 unfold arrC; rw [List.setIfInBounds_toArray]
 congr 1
 apply List.ext_getElem?
 intro i
 simp only [List.getElem?_set, List.getElem?_append, List.getElem?_map, List.getElem?_replicate, List.length_append, List.length_map, List.length_replicate, List.length_cons, List.length_nil]
 rcases Nat.lt_trichotomy i vs.length with hi | hi | hi
 ·simp [hi, show vs.length ≠ i by omega, show i < vs.length + 1 by omega]
 ·subst hi; simp; omega
 ·simp only [show ¬ i < vs.length by omega, show vs.length ≠ i by omega, show ¬ i < vs.length + 1 by omega, if_false, show (i - vs.length < 4 - vs.length) ↔ (i - (vs.length + 1) < 4 - (vs.length + 1)) by omega]
theorem arrC_four (a b c d : Int) : arrC [a, b, c, d] = #[.int .i64 a, .int .i64 b, .int .i64 c, .int .i64 d] := rfl

theorem infoE : (Tryz.prog.info? 44).map (fun i => (i.zero, i.size, i.bytes)) = some (some (.agg #[.int .i64 0, .int .i64 0, .int .u8 0, .int .i64 0]), 4, 32) := by kernel_rfl

theorem get_own (s : ByteArray) (W : World) (hs : s.size <= 1000000000) :
  Calls Tryz.prog 49 #[.string s] W fun e w' => ∃ v, e = .returned (.tuple #[v, .int .i64 (errOf (getEs s.data.toList s.size 0))]) /\ w'.ownsRow W.heap.size 44 4 v (lstOf (getEs s.data.toList s.size 0)).length (cellsOf encE (lstOf (getEs s.data.toList s.size 0))) /\ Below W.heap.size W w' := by
 obtain ⟨i0, hi, hz0, hz1, hz2⟩ := info_parts infoE; have hdl : s.data.toList.length = s.size := Array.length_toList; have Hdl := Hyd hdl; clear hdl
 go_enter Tryz.func49, Tryz.ntmps49
 go_wp2
 go_loopw [4, 5] (fun v a wr => ∃ (l : List Ev) (k f : Nat), k <= s.size /\ l.length <= k /\ s.size - k <= f /\ a = .int .i64 k /\ getEs s.data.toList s.size 0 = app l (getEs s.data.toList f k) /\ wr.ownsRow W.heap.size 44 4 v l.length (cellsOf encE l) /\ Below W.heap.size W wr) (fun _ a _ => s.size - (intOf a).toNat)
 case atStart => exact ⟨[], 0, s.size, by omega, by simp, by omega, rfl, (app_nil _).symm, World.ownsRow_nil _ _ _ _, Below.refl _ _⟩
 case round =>
  obtain ⟨l, k, f, hk, hlk, hf, rfl, he, hown, hb⟩ := hrel; have He := Hyd he; have Hown := Hyd hown; clear he hown; have hsz := hb.size
  by_cases hlt : k < s.size
  ·obtain ⟨f, rfl⟩ : ∃ g, f = g + 1 := ⟨f - 1, by omega⟩
   go_wp2
   go_loopw [5, 14] (fun a c wq => ∃ (vals : List Int) (m : Nat), vals.length <= 4 /\ m <= s.size /\ a = .int .i64 m /\ c = .int .i64 vals.length /\ rds s.data.toList 4 k = pre vals (rds s.data.toList (4 - vals.length) m) /\ wq = wr.alloc (.cells (arrC vals) 168)) (fun _ c _ => 4 - (intOf c).toNat)
   case atStart => exact ⟨[], k, by simp, by omega, rfl, rfl, (pre_nil _).symm, rfl⟩
   case round =>
    obtain ⟨vals, m, hv4, hm, rfl, rfl, hr, rfl⟩ := hrel; have Hr := Hyd hr; clear hr
    by_cases h4 : vals.length < 4
    ·have hend := arrC_end vals (by omega); go_wp2_with fail; refine (WV.get_any s m _ (by omega) (by omega) (by omega)).mono ?_; rintro e w1 ⟨rfl, rfl⟩; have hbd := PV.getB_bounds (s := s.data.toList) (k := m)
     have hok : (PV.getB s.data.toList m).2.2 = 0 -> pre vals (rds s.data.toList (4 - vals.length) m) = pre (vals ++ [(PV.getB s.data.toList m).1]) (rds s.data.toList (4 - (vals.length + 1)) (PV.getB s.data.toList m).2.1) := by
      intro h; rw [show 4 - vals.length = (4 - (vals.length + 1)) + 1 by omega, rds_ok h]
     have hno : (PV.getB s.data.toList m).2.2 ≠ 0 -> pre vals (rds s.data.toList (4 - vals.length) m) = .inl (PV.getB s.data.toList m).2.2 := by
      intro h; rw [show 4 - vals.length = (4 - (vals.length + 1)) + 1 by omega, rds_bad h]; rfl
     have Hok := Hyd hok; have Hno := Hyd hno; clear hok hno; rw [Hdl.out] at hbd; generalize PV.getB s.data.toList m = g at *; obtain ⟨x, y, z⟩ := g
     simp only at hbd
     obtain ⟨q, rfl⟩ := Int.eq_ofNat_of_zero_le hbd.1; unfold WV.getV
     by_cases hz : z = 0
     ·subst hz; go_wp2_with fail; go_roundw
      case rel => exact ⟨vals ++ [x], q, by simp; omega, by omega, rfl, by simp, by rw [Hr.out, Hok.out trivial, List.length_append]; rfl, by rw [arrC_put _ _ (by omega)]⟩
      case measure => simp [intOf]; omega
     ·have hz' : (z == 0) = false := by rw [beq_eq_false_iff_ne]; exact hz
      go_wp2_with fail
      go_ret2
      have hfin : getEs s.data.toList s.size 0 = .inl z := by
       rw [He.out, getEs_err (by rw [Hdl.out]; exact hlt) (Hr.out.trans (Hno.out hz))]; rfl
      rw [hfin]; exact ⟨_, rfl, World.ownsRow_nil _ _ _ _, hb.alloc hb.size _⟩
    ·obtain ⟨x0, x1, x2, x3, rfl⟩ : ∃ a b c d, vals = [a, b, c, d] := by
      match vals, (by omega : vals.length = 4) with
      | [a, b, c, d], _ => exact ⟨a, b, c, d, rfl⟩
     rw [arrC_four]; have hr4 : rds s.data.toList 4 k = .inr ([x0, x1, x2, x3], (m : Int)) := Hr.out.trans rfl; have Hr4 := Hyd hr4; clear hr4 Hr
     by_cases hk2 : 0 <= x2 /\ x2 <= 255
     ·go_wp2_with fail; refine (WE.good_any ⟨x0, x1, x2, x3⟩ _).mono ?_; rintro e w1 ⟨rfl, hb1⟩
      by_cases hg : good ⟨x0, x1, x2, x3⟩
      ·have hgn : (WE.goodN ⟨x0, x1, x2, x3⟩ == 0) = true := by rw [WE.goodN_ok hg]; rfl
       have hown1 := own_below Hown.out ((((Below.refl _ _).alloc (Nat.le_refl _) _).alloc (by simp) _).trans (hb1.mono (by simp; omega))); have hbw : Below W.heap.size W w1 := ((hb.alloc hb.size _).alloc (by simp; omega) _).trans (hb1.mono (by simp; omega)); have c0 : w1.cell? ⟨wr.heap.size + 1, 0, none⟩ = some (.int .i64 x0) := (hb1.cell (p := ⟨wr.heap.size + 1, 0, none⟩) (by simp)).trans (by simp [go_sem]); have c1 : w1.cell? ⟨wr.heap.size + 1, 1, none⟩ = some (.int .i64 x1) := (hb1.cell (p := ⟨wr.heap.size + 1, 1, none⟩) (by simp)).trans (by simp [go_sem]); have c2 : w1.cell? ⟨wr.heap.size + 1, 2, none⟩ = some (.int .u8 x2) := (hb1.cell (p := ⟨wr.heap.size + 1, 2, none⟩) (by simp)).trans (by simp [go_sem]); have c3 : w1.cell? ⟨wr.heap.size + 1, 3, none⟩ = some (.int .i64 x3) := (hb1.cell (p := ⟨wr.heap.size + 1, 3, none⟩) (by simp)).trans (by simp [go_sem])
       go_wp2_with (at_builtin; refine wpList_append_own _ rfl (.tmp 51) (.tmp 53) 32 rfl W.heap.size 44 i0 _ 4 32 Tryz.underlying32 hi hz0 hz1 hz2 rfl (by decide) _ _ _ rfl (hown1.alloc _) ⟨w1.heap.size, 0, none⟩ 1 1 (encE ⟨x0, x1, x2, x3⟩) rfl rfl ?c1 ?c2 ?c3 ?c4 ?c5 ?_)
       case c1 => exact fun j u hu => new_cell _ _ _ j u hu
       case c2 => exact encE_one _
       case c3 => unfold maxLen; omega
       case c4 => omega
       case c5 => have := hbw.size; simp; omega
       intro v' w2 hown2 hgrow _; have hbw2 : Below W.heap.size W w2 := below_grown (hbw.alloc hbw.size _) (hown1.alloc _) hgrow (by have := hbw.size; simp; omega) (Nat.le_refl _); have hlist : cellsOf encE l ++ encE ⟨x0, x1, x2, x3⟩ = cellsOf encE (l ++ [⟨x0, x1, x2, x3⟩]) := (cellsOf_snoc l _).symm; rw [hlist] at hown2; have Hown2 := Hyd hown2; obtain ⟨_, _, mm, hmm, hmm4, hmms, _⟩ := rds_back 4 k _ _ (by rw [Hdl.out]; omega) Hr4.out; have Hgrow := Hyd hgrow; have Hown1 := Hyd hown1; clear hown2 hgrow hown1 hlist hb1 c0 c1 c2 c3 hgn; rw [Hdl.out] at hmms; go_wp2_with fail; go_roundw
       case rel => exact ⟨l ++ [⟨x0, x1, x2, x3⟩], m, f, by omega, by simp; omega, by omega, rfl, by rw [He.out, getEs_ok (by rw [Hdl.out]; exact hlt) Hr4.out hg], by rw [List.length_append]; exact Hown2.out, hbw2⟩
       case measure => simp [intOf]; omega
      ·have hgn : (WE.goodN ⟨x0, x1, x2, x3⟩ == 0) = false := by rw [WE.goodN_no hg]; rfl
       have hfin : getEs s.data.toList s.size 0 = .inl 4 := by
        rw [He.out, getEs_bad (by rw [Hdl.out]; exact hlt) Hr4.out hg]; rfl
       have Hfin := Hyd hfin; clear hfin; go_wp2_with fail
       go_ret2
       rw [Hfin.out]; refine ⟨_, rfl, World.ownsRow_nil _ _ _ _, ?_⟩; exact ((hb.alloc hb.size _).alloc (by simp; omega) _).trans (hb1.mono (by simp; omega))
     ·have hne : (x2 == IntKind.u8.wrap x2) = false := by rw [beq_eq_false_iff_ne, IntKind.wrap_u8']; omega
      have hfin : getEs s.data.toList s.size 0 = .inl 4 := by
       rw [He.out, getEs_bad (by rw [Hdl.out]; exact hlt) Hr4.out (by unfold good; simp only; omega)]; rfl
      have Hfin := Hyd hfin; clear hfin; go_wp2_with fail
      go_ret2
      rw [Hfin.out]; exact ⟨_, rfl, World.ownsRow_nil _ _ _ _, (hb.alloc hb.size _).alloc (by simp; omega) _⟩
  ·obtain rfl : k = s.size := by omega
   have hfin : getEs s.data.toList s.size 0 = .inr l := by
    rw [He.out, getEs_end (by rw [Hdl.out]; omega)]; simp [app]
   have Hfin := Hyd hfin; clear hfin; go_wp2_with fail
   go_ret2
   rw [Hfin.out]; exact ⟨_, rfl, Hown.out, hb⟩
theorem get_any (s : ByteArray) (W : World) (hs : s.size <= 1000000000) :
  Calls Tryz.prog 49 #[.string s] W fun e w' => ∃ v, e = .returned (.tuple #[v, .int .i64 (errOf (getEs s.data.toList s.size 0))]) /\ Evs w' w'.heap.size v (lstOf (getEs s.data.toList s.size 0)) /\ Below W.heap.size W w' := by
 refine (get_own s W hs).mono ?_; rintro e w' ⟨v, h1, h2, h3⟩; exact ⟨v, h1, Sl.of_own h2, h3⟩
end Go.Proofs.YtcojnojdgigmdaaGreatDoor.WG
