/- The walks of oxbowref18.Less and Sort: the document's order of events. -/
import Derived.Test.YtcojnojdgigmdaaGreatDoorB11
import Derived.Test.YtcojnojdgigmdaaGreatDoorB13
import Derived.Test.YtcojnojdgigmdaaGreatDoorWW21
import Derived.Deep.CutBlock
set_option maxHeartbeats 3200000
set_option maxRecDepth 100000
namespace Go.Proofs.YtcojnojdgigmdaaGreatDoor.WR
open Go Go.RowKit Go.Sort Go.Proofs.YtcojnojdgigmdaaGreatDoor Go.Proofs.YtcojnojdgigmdaaGreatDoor.PL Go.Proofs.YtcojnojdgigmdaaGreatDoor.PR Go.Proofs.YtcojnojdgigmdaaGreatDoor.Mem

theorem less18 (x y : Ev) (w : World) : Calls Tryz.prog 68 #[evV x, evV y] w fun e w' => e = .returned (.bool (ltE x y)) /\ Grw w w' := by
 obtain ⟨q, hq⟩ : ∃ q, ltE x y = q := ⟨_, rfl⟩
 rw [hq]
 by_cases h : x.time = y.time
 ·have h1 : (x.time != y.time) = false := by simp [h]
  have hl := Hyd (show decide (x.id < y.id) = q by rw [<- hq]; unfold ltE; simp [h]); clear hq
  go_enter Tryz.func68, Tryz.ntmps68
  go_wp2_with fail; go_ret; exact ⟨by rw [<- hl.out]; rfl, ((Grw.refl _).alloc _).alloc _⟩
 ·have h1 : (x.time != y.time) = true := by simp [h]
  have hl := Hyd (show decide (x.time < y.time) = q by rw [<- hq]; unfold ltE; simp [h]); clear hq
  go_enter Tryz.func68, Tryz.ntmps68
  go_wp2_with fail; go_ret; exact ⟨by rw [<- hl.out]; rfl, ((Grw.refl _).alloc _).alloc _⟩
theorem ins_sorted {out : List Ev} {x : Ev} {a : Nat} (hs : SortedE out) (ha : a <= out.length) (h1 : ∀ j (h : j < out.length), a <= j -> ltE x out[j] = true) (h2 : a = 0 \/ ∃ h : a - 1 < out.length, ltE x out[a - 1] = false) : SortedE (out.take a ++ x :: out.drop a) := by
 unfold SortedE at hs ⊢; rw [List.pairwise_append, List.pairwise_cons]; refine ⟨hs.sublist (List.take_sublist _ _), ⟨?_, hs.sublist (List.drop_sublist _ _)⟩, ?_⟩
 ·intro y hy; obtain ⟨j, hj, rfl⟩ := List.mem_iff_getElem.1 hy; rw [List.getElem_drop]; have h3 := h1 (a + j) (by rw [List.length_drop] at hj; omega) (by omega); exact ltE_asym h3
 ·intro y hy z hz; have hy2 := List.mem_of_mem_take hy
  rcases List.mem_cons.1 hz with rfl | hz
  ·rcases h2 with rfl | ⟨h4, h2⟩
   ·simp at hy
   · -- y stands at or ahead of the one that x is not ahead of
    obtain ⟨j, hj, rfl⟩ := List.mem_iff_getElem.1 hy
    have hja : j < a := by rw [List.length_take] at hj; omega
    rw [List.getElem_take]
    by_cases hje : j = a - 1
    ·subst hje; exact h2
    ·have h5 := List.pairwise_iff_getElem.1 hs j (a - 1) (by omega) h4 (by omega); unfold ltE at h2 h5 ⊢
     simp only [decide_eq_false_iff_not] at h2 h5 ⊢
     omega
  ·obtain ⟨i, hi, rfl⟩ := List.mem_iff_getElem.1 hy; obtain ⟨j, hj, rfl⟩ := List.mem_iff_getElem.1 hz; rw [List.getElem_take, List.getElem_drop]; exact List.pairwise_iff_getElem.1 hs i (a + j) _ _ (by rw [List.length_take] at hi; omega)
theorem ins_perm {out : List Ev} {x : Ev} (a : Nat) : (out.take a ++ x :: out.drop a).Perm (out ++ [x]) := by
 have h : (out.take a ++ x :: out.drop a).Perm (x :: (out.take a ++ out.drop a)) := List.perm_middle; rw [List.take_append_drop] at h; exact h.trans (List.perm_append_singleton x out).symm
theorem evs_at18 {w : World} {H n : Nat} {v : Value} {ls : List Ev} (h : w.ownsRow H 59 4 v n (cellsOf encE ls)) (hn : ls.length = n) {k : Nat} (hk : k < ls.length) :
  ∃ g c, v = .slice (some ⟨g, 0, none⟩) n c /\ g < w.heap.size /\ w.cell? ⟨g, k * 4, none⟩ = some (.int .i64 ls[k].id) /\ w.cell? ⟨g, k * 4 + 1, none⟩ = some (.int .i64 ls[k].time) /\ w.cell? ⟨g, k * 4 + 2, none⟩ = some (.int .u8 ls[k].kind) /\ w.cell? ⟨g, k * 4 + 3, none⟩ = some (.int .i64 ls[k].val) := by
 subst hn; obtain ⟨b, o, c, hv, hb, x0, x1, x2, x3⟩ := Evs.at_ (Sl.of_own h) hk
 rcases h.2 with ⟨rfl, _⟩ | ⟨g, cap, cur, rfl, _⟩
 ·cases hv
 ·obtain ⟨⟨rfl, rfl⟩, rfl⟩ : (g = b /\ 0 = o) /\ cap = c := by simpa using hv
  rw [Nat.zero_add] at x0 x1 x2 x3; exact ⟨g, cap, rfl, hb, x0, x1, x2, x3⟩
def CopR (we : World) (ls : List Ev) (nx : Value) (wr : World) : Prop := wr.ownsRow we.heap.size 59 4 nx ls.length (cellsOf encE ls) /\ Below we.heap.size we wr
theorem CopR.snoc {we wr w5 : World} {ls : List Ev} {x : Ev} {nx nx' : Value} (h : CopR we ls nx wr) (ho : w5.ownsRow we.heap.size 59 4 nx' (ls.length + 1) (cellsOf encE ls ++ encE x)) (hg : (wr.alloc (.cells (encE x).toArray 59)).grownBy w5 nx.ownBlock) : CopR we (ls ++ [x]) nx' w5 := by
 have hb : Below wr.heap.size wr (wr.alloc (.cells (encE x).toArray 59)) := (Below.refl _ _).alloc (Nat.le_refl _) _; exact ⟨by rw [List.length_append, List.length_singleton, cellsOf_snoc]; exact ho, below_grown (h.2.trans (hb.mono h.2.size)) (own_below h.1 hb) hg (by have := h.2.size; simp; omega) (Nat.le_refl _)⟩
theorem infoEv18 : (Tryz.prog.info? 59).map (fun i => (i.zero, i.size, i.bytes)) = some (some (.agg #[.int .i64 0, .int .i64 0, .int .u8 0, .int .i64 0]), 4, 32) := by kernel_rfl
theorem sort18 (lv : Value) (l : List Ev) (w : World) (hl : Evs w w.heap.size lv l) (hn : l.length <= 1000000) :
  Calls Tryz.prog 28 #[lv] w fun e w' => ∃ v ls, e = .returned v /\ ls.Perm l /\ SortedE ls /\ w'.ownsRow w.heap.size 59 4 v ls.length (cellsOf encE ls) /\ Below w.heap.size w w' := by
 have mixed : Tryz.prog.follows .mixedOrders = true := by kernel_rfl
 have HL := Hyd hl; obtain ⟨la, lc, rfl⟩ := Sl.shape hl; clear hl
 go_enter Tryz.func28, Tryz.ntmps28
 go_wp2_with fail
 go_loopw [3, 4] (fun ov u wr => ∃ i out, i <= l.length /\ u = .int .i64 (i : Nat) /\ out.Perm (l.take i) /\ SortedE out /\ wr.ownsRow w.heap.size 59 4 ov out.length (cellsOf encE out) /\ Below w.heap.size w wr) (fun _ u _ => l.length - (intOf u).toNat)
 case atStart => exact ⟨0, [], Nat.zero_le _, rfl, List.Perm.refl _, .nil, World.ownsRow_nil _ _ _ _, Below.refl _ _⟩
 case round =>
  obtain ⟨i, out, hi, rfl, hp, hs, ho, hb⟩ := hrel
  have hol : out.length <= 1000000 := by have := hp.length_eq; rw [List.length_take] at this; omega
  obtain ⟨oa, oc, rfl⟩ := (Sl.of_own ho).shape; have HP := Hyd hp; have HSO := Hyd hs; have HO := Hyd ho; have HB := Hyd hb; have hsz := hb.size
  by_cases hlt : i < l.length
  ·have hii : (i : Int) < (l.length : Int) := by omega
   have hi0 : (0 : Int) <= (i : Int) := by omega
   obtain ⟨b, o, c, hv, hbl, x0, x1, x2, x3⟩ := Evs.at_ HL.out hlt
   obtain ⟨rfl, rfl⟩ : la = some ⟨b, o, none⟩ /\ lc = c := by simpa using hv
   have HTK := Hyd (List.take_succ_eq_append_getElem (l := l) (i := i) hlt)
   obtain ⟨x, hx⟩ : ∃ x, l[i] = x := ⟨_, rfl⟩
   rw [hx] at x0 x1 x2 x3 HTK; have e0 := (hb.cell (p := ⟨b, o + i * 4, none⟩) hbl).trans x0; have e1 := (hb.cell (p := ⟨b, o + i * 4 + 1, none⟩) hbl).trans x1; have e2 := (hb.cell (p := ⟨b, o + i * 4 + 2, none⟩) hbl).trans x2; have e3 := (hb.cell (p := ⟨b, o + i * 4 + 3, none⟩) hbl).trans x3
   have hbw : b < wr.heap.size := by omega
   have HE0 := Hyd e0; have HE1 := Hyd e1; have HE2 := Hyd e2; have HE3 := Hyd e3
   obtain ⟨we, rfl⟩ : ∃ w' : World, w' = wr := ⟨_, rfl⟩
   clear hv x0 x1 x2 x3 hx hp hs ho hb e0 e1 e2 e3
   go_upto_block 2 with fail
   go_cut [5, 6] (fun s5 s6 wx => ∃ a, a <= out.length /\ s5 = .int .i64 (a : Nat) /\ (∀ j (h : j < out.length), a <= j -> ltE x out[j] = true) /\ (a = 0 \/ ∃ h : a - 1 < out.length, ltE x out[a - 1] = false) /\ Grw we wx)
   case first =>
    go_wp2_with fail
    go_loopw [5] (fun u wr => ∃ a, a <= out.length /\ u = .int .i64 (a : Nat) /\ (∀ j (h : j < out.length), a <= j -> ltE x out[j] = true) /\ Grw we wr) (fun u _ => (intOf u).toNat)
    case atStart => exact ⟨out.length, Nat.le_refl _, rfl, fun j h1 h2 => absurd h1 (by omega), Grw.refl _⟩
    case round =>
     obtain ⟨a, ha, rfl, hall, hg⟩ := hrel; have HG := Hyd hg; have HA := Hyd hall; have hgs := hg.size; clear hg hall
     by_cases h0 : a = 0
     ·subst h0; go_wp2_with fail; go_meet; exact ⟨0, Nat.zero_le _, rfl, HA.out, .inl rfl, HG.out⟩
     ·obtain ⟨a1, rfl⟩ : ∃ a1, a = a1 + 1 := ⟨a - 1, by omega⟩
      have hc1 : ((a1 + 1 : Nat) : Int) = (a1 : Int) + 1 := (by omega); rw [hc1]; have ha0 : (0 : Int) < (a1 : Int) + 1 := (by omega); have ha1 : a1 < out.length := (by omega); clear hc1 h0; obtain ⟨g, c2, hv2, hg2, y0, y1, y2, y3⟩ := evs_at18 HO.out rfl ha1
      obtain ⟨rfl, rfl⟩ : oa = some ⟨g, 0, none⟩ /\ oc = c2 := by simpa using hv2
      obtain ⟨y, hy⟩ : ∃ y, out[a1] = y := ⟨_, rfl⟩
      have HY := Hyd hy; rw [hy] at y0 y1 y2 y3; have hjm : (a1 : Int) + 1 - 1 = (a1 : Int) := (by omega)
      have hwj : IntKind.i64.wrap ((a1 : Int) + 1 - 1) = (a1 : Int) := by rw [hjm]; exact IntWalk.i64_in _ (by omega)
      have hwj2 : IntKind.i64.wrap (a1 : Int) = (a1 : Int) := IntWalk.i64_in _ (by omega); have hj0 : (0 : Int) <= (a1 : Int) := (by omega); have hj1 : (a1 : Int) < (out.length : Int) := (by omega); have hgr : g < wr.heap.size := (by omega); have hbr : b < wr.heap.size := (by omega)
      have u0 : ∀ n os, (grow (wr.drewN n) os).cell? ⟨b, o + i * 4, none⟩ = some (.int .i64 x.id) := cell_grown hbr (HG.out.cell hbw HE0.out)
      have u1 : ∀ n os, (grow (wr.drewN n) os).cell? ⟨b, o + i * 4 + 1, none⟩ = some (.int .i64 x.time) := cell_grown hbr (HG.out.cell hbw HE1.out)
      have u2 : ∀ n os, (grow (wr.drewN n) os).cell? ⟨b, o + i * 4 + 2, none⟩ = some (.int .u8 x.kind) := cell_grown hbr (HG.out.cell hbw HE2.out)
      have u3 : ∀ n os, (grow (wr.drewN n) os).cell? ⟨b, o + i * 4 + 3, none⟩ = some (.int .i64 x.val) := cell_grown hbr (HG.out.cell hbw HE3.out)
      have v0 : ∀ n os, (grow (wr.drewN n) os).cell? ⟨g, a1 * 4, none⟩ = some (.int .i64 y.id) := cell_grown hgr (HG.out.cell hg2 y0)
      have v1 : ∀ n os, (grow (wr.drewN n) os).cell? ⟨g, a1 * 4 + 1, none⟩ = some (.int .i64 y.time) := cell_grown hgr (HG.out.cell hg2 y1)
      have v2 : ∀ n os, (grow (wr.drewN n) os).cell? ⟨g, a1 * 4 + 2, none⟩ = some (.int .u8 y.kind) := cell_grown hgr (HG.out.cell hg2 y2)
      have v3 : ∀ n os, (grow (wr.drewN n) os).cell? ⟨g, a1 * 4 + 3, none⟩ = some (.int .i64 y.val) := cell_grown hgr (HG.out.cell hg2 y3)
      obtain ⟨q, hq⟩ : ∃ q, ltE x y = q := ⟨_, rfl⟩
      have HQ := Hyd (fun n os => less18 x y (grow (wr.drewN n) os)); rw [hq] at HQ; have HQV := Hyd hq; clear hv2 y0 y1 y2 y3 hy hq; go_wp2_with fail
      go_quiet_grown (first | (go_at_call 68; exact Grw.grown (HQ.out _ _)) | exact Grw.grown (HQ.out _ _))
      have HGQ := Hyd (HG.out.trans (show Grw wr (grow (wr.drewN nq) osq) from ⟨nq, osq, rfl⟩)); change Exit.then _ _ Exit.normal _ (grow (wr.drewN nq) osq); clear u0 u1 u2 u3 v0 v1 v2 v3 HQ; generalize grow (wr.drewN nq) osq = w5 at *
      cases q with
      | false =>
       go_wp2_with fail; go_meet; exact ⟨a1 + 1, ha, by first | rfl | go_num, HA.out, .inr ⟨by simpa using ha1, by simp only [Nat.add_sub_cancel]; rw [HY.out]; exact HQV.out⟩, HGQ.out⟩
      | true =>
       go_wp2_with fail; go_roundw
       case rel => exact ⟨a1, by omega, by go_num, fun j h1 h2 => by
        by_cases hj : j = a1
        ·subst hj; rw [HY.out]; exact HQV.out
        ·exact HA.out j h1 (by omega), HGQ.out⟩
       case measure => simp [intOf] <;> omega
   case rest =>
    obtain ⟨wx, rfl⟩ : ∃ w' : World, w' = wc := ⟨_, rfl⟩
    obtain ⟨a, ha, rfl, hall, hor, hg⟩ := hcut; have HA := Hyd hall; have HOR := Hyd hor; have HG := Hyd hg; have HCB := Hyd (HB.out.trans (hg.below.mono hsz)); have HOX := Hyd (own_below HO.out hg.below)
    have ze : ∀ (w' : World), Below wx.heap.size wx w' -> w'.cell? ⟨b, o + i * 4, none⟩ = some (.int .i64 x.id) /\ w'.cell? ⟨b, o + i * 4 + 1, none⟩ = some (.int .i64 x.time) /\ w'.cell? ⟨b, o + i * 4 + 2, none⟩ = some (.int .u8 x.kind) /\ w'.cell? ⟨b, o + i * 4 + 3, none⟩ = some (.int .i64 x.val) := fun w' hb' =>
     ⟨(hb'.cell (p := ⟨b, o + i * 4, none⟩) (Nat.lt_of_lt_of_le hbw hg.size)).trans (hg.cell hbw HE0.out), (hb'.cell (p := ⟨b, o + i * 4 + 1, none⟩) (Nat.lt_of_lt_of_le hbw hg.size)).trans (hg.cell hbw HE1.out), (hb'.cell (p := ⟨b, o + i * 4 + 2, none⟩) (Nat.lt_of_lt_of_le hbw hg.size)).trans (hg.cell hbw HE2.out), (hb'.cell (p := ⟨b, o + i * 4 + 3, none⟩) (Nat.lt_of_lt_of_le hbw hg.size)).trans (hg.cell hbw HE3.out)⟩
    have ZE := Hyd ze; clear hall hor hg ze; go_wp2_with fail
    go_loopw [7, 8] (fun nx u wr => ∃ k, k <= a /\ u = .int .i64 (k : Nat) /\ CopR wx (out.take k) nx wr) (fun _ u _ => a - (intOf u).toNat)
    case atStart => exact ⟨0, Nat.zero_le _, rfl, World.ownsRow_nil _ _ _ _, Below.refl _ _⟩
    case round =>
     obtain ⟨k, hk, rfl, hcop⟩ := hrel
     have hkl : (out.take k).length = k := by rw [List.length_take]; omega
     have HC := Hyd hcop; have hwz := hcop.2.size; obtain ⟨na, nc, rfl⟩ := (Sl.of_own hcop.1).shape; rw [hkl]
     by_cases hka : k < a
     ·have hki : (k : Int) < (a : Int) := by omega
      have hk0 : (0 : Int) <= (k : Int) := (by omega); have hko : k < out.length := (by omega); have hkoi : (k : Int) < (out.length : Int) := (by omega); obtain ⟨g, c2, hv2, hg2, y0, y1, y2, y3⟩ := evs_at18 (own_below HOX.out HC.out.2) rfl hko
      obtain ⟨rfl, rfl⟩ : oa = some ⟨g, 0, none⟩ /\ oc = c2 := by simpa using hv2
      have HTK2 := Hyd (List.take_succ_eq_append_getElem (l := out) (i := k) hko)
      obtain ⟨y, hy⟩ : ∃ y, out[k] = y := ⟨_, rfl⟩
      rw [hy] at y0 y1 y2 y3 HTK2; obtain ⟨i0, hi9, hz0, hz1, hz2⟩ := info_parts infoEv18; have HNA := Hyd (Reg.own_new (w := wr) (b := 0) (e := 59) (sz := 4) (n := 1) (cs := (encE y).toArray) rfl (Nat.zero_le _) rfl (by decide)); have HNB := Hyd (show Below wr.heap.size wr (wr.alloc (.cells (encE y).toArray 59)) from (Below.refl _ _).alloc (Nat.le_refl _) _); have hown := own_below HC.out.1 HNB.out; rw [hkl] at hown; have HOWN := Hyd hown; clear hown hcop hv2 hy
      go_wp2_with (at_builtin; refine Reg.wpList_append_src _ rfl (.tmp 39) (.tmp 44) 33 rfl wx.heap.size 0 59 i0 _ 4 32 Tryz.underlying33 hi9 hz0 hz1 hz2 rfl (by decide) _ _ k 1 _ _ rfl HOWN.out rfl HNA.out ?d1 ?d2 ?d3 ?d4 ?_)
      case d1 => exact encE_one y
      case d2 => unfold maxLen; omega
      case d3 => omega
      case d4 => omega
      intro nx' w5 ho5 hg5 _; clear hi9 hz0 hz1 hz2 HOWN HNA HNB
      have HRL := Hyd (show CopR wx (out.take (k + 1)) nx' w5 by
       rw [HTK2.out]
       exact HC.out.snoc (by rw [hkl]; exact ho5) (by rw [hkl]; exact hg5))
      clear ho5 hg5 hkl; go_wp2_with fail; go_roundw
      case rel => exact ⟨k + 1, by omega, by go_num, HRL.out⟩
      case measure => simp [intOf]; omega
     ·obtain rfl : k = a := by omega
      obtain ⟨y0, y1, y2, y3⟩ := ZE.out wr hcop.2; have hii2 : (i : Int) < (l.length : Int) := (by omega); obtain ⟨i0, hi9, hz0, hz1, hz2⟩ := info_parts infoEv18; have HNA := Hyd (Reg.own_new (w := wr) (b := 0) (e := 59) (sz := 4) (n := 1) (cs := (encE x).toArray) rfl (Nat.zero_le _) rfl (by decide)); have HNB := Hyd (show Below wr.heap.size wr (wr.alloc (.cells (encE x).toArray 59)) from (Below.refl _ _).alloc (Nat.le_refl _) _); have hown := own_below HC.out.1 HNB.out; rw [hkl] at hown; have HOWN := Hyd hown; clear hown hcop
      go_wp2_with (at_builtin; refine Reg.wpList_append_src _ rfl (.tmp 46) (.tmp 51) 33 rfl wx.heap.size 0 59 i0 _ 4 32 Tryz.underlying33 hi9 hz0 hz1 hz2 rfl (by decide) _ _ k 1 _ _ rfl HOWN.out rfl HNA.out ?d1 ?d2 ?d3 ?d4 ?_)
      case d1 => exact encE_one x
      case d2 => unfold maxLen; omega
      case d3 => omega
      case d4 => omega
      intro nx' w5 ho5 hg5 _; clear hi9 hz0 hz1 hz2 HOWN HNA HNB; have HRL := Hyd (show CopR wx (out.take k ++ [x]) nx' w5 from HC.out.snoc (by rw [hkl]; exact ho5) (by rw [hkl]; exact hg5)); have HN0 := Hyd (show (out.take k ++ [x]).length = k + 1 by rw [List.length_append, hkl]; rfl); clear ho5 hg5 hkl; go_wp2_with fail
      go_loopw [7, 9] (fun nx u wr => ∃ j, k <= j /\ j <= out.length /\ u = .int .i64 (j : Nat) /\ CopR wx (out.take k ++ [x] ++ (out.drop k).take (j - k)) nx wr) (fun _ u _ => out.length - (intOf u).toNat)
      case atStart => exact ⟨k, Nat.le_refl _, ha, rfl, by rw [Nat.sub_self, List.take_zero, List.append_nil]; exact HRL.out⟩
      case round =>
       clear HRL; obtain ⟨j, hkj, hj, rfl, hcop⟩ := hrel
       have hjl : (out.take k ++ [x] ++ (out.drop k).take (j - k)).length = j + 1 := by rw [List.length_append, HN0.out, List.length_take, List.length_drop]; omega
       have HC := Hyd hcop; have hwz := hcop.2.size; obtain ⟨na, nc, rfl⟩ := (Sl.of_own hcop.1).shape; rw [hjl]
       by_cases hja : j < out.length
       ·have hji : (j : Int) < (out.length : Int) := (by omega); have hj0 : (0 : Int) <= (j : Int) := (by omega); obtain ⟨g, c2, hv2, hg2, y0, y1, y2, y3⟩ := evs_at18 (own_below HOX.out HC.out.2) rfl hja
        obtain ⟨rfl, rfl⟩ : oa = some ⟨g, 0, none⟩ /\ oc = c2 := by simpa using hv2
        have HTK2 := Hyd (show (out.drop k).take (j + 1 - k) = (out.drop k).take (j - k) ++ [out[j]] by
         rw [show j + 1 - k = (j - k) + 1 by omega, List.take_succ_eq_append_getElem (by rw [List.length_drop]; omega), List.getElem_drop]
         congr 3
         omega)
        obtain ⟨y, hy⟩ : ∃ y, out[j] = y := ⟨_, rfl⟩
        rw [hy] at y0 y1 y2 y3 HTK2
        obtain ⟨k9, hk9⟩ : ∃ k9, j + 1 = k9 := ⟨_, rfl⟩
        rw [hk9] at hjl ⊢; have hk9b : k9 <= 1000001 := (by omega); obtain ⟨i0, hi9, hz0, hz1, hz2⟩ := info_parts infoEv18; have HNA := Hyd (Reg.own_new (w := wr) (b := 0) (e := 59) (sz := 4) (n := 1) (cs := (encE y).toArray) rfl (Nat.zero_le _) rfl (by decide)); have HNB := Hyd (show Below wr.heap.size wr (wr.alloc (.cells (encE y).toArray 59)) from (Below.refl _ _).alloc (Nat.le_refl _) _); have hown := own_below HC.out.1 HNB.out; rw [hjl] at hown; have HOWN := Hyd hown; clear hown hcop hv2 hy
        go_wp2_with (at_builtin; refine Reg.wpList_append_src _ rfl (.tmp 60) (.tmp 65) 33 rfl wx.heap.size 0 59 i0 _ 4 32 Tryz.underlying33 hi9 hz0 hz1 hz2 rfl (by decide) _ _ k9 1 _ _ rfl HOWN.out rfl HNA.out ?d1 ?d2 ?d3 ?d4 ?_)
        case d1 => exact encE_one y
        case d2 => unfold maxLen; omega
        case d3 => omega
        case d4 => omega
        intro nx' w5 ho5 hg5 _; clear hi9 hz0 hz1 hz2 HOWN HNA HNB
        have HRL := Hyd (show CopR wx (out.take k ++ [x] ++ (out.drop k).take (j + 1 - k)) nx' w5 by
         rw [HTK2.out, <- List.append_assoc]
         exact HC.out.snoc (by rw [hjl, show out.take k ++ [x] ++ (out.drop k).take (j - k) = out.take k ++ x :: (out.drop k).take (j - k) by simp]; exact ho5) (by rw [hjl]; exact hg5))
        clear ho5 hg5 hjl hk9 hk9b; go_wp2_with fail; go_roundw
        case rel => exact ⟨j + 1, by omega, by omega, by go_num, HRL.out⟩
        case measure => simp [intOf]; omega
       ·obtain rfl : j = out.length := by omega
        have hdr : (out.drop k).take (out.length - k) = out.drop k := List.take_of_length_le (by rw [List.length_drop]; omega); rw [hdr] at hcop hjl; have hapn : out.take k ++ [x] ++ out.drop k = out.take k ++ x :: out.drop k := (by simp); rw [hapn] at hcop hjl
        have HRL := Hyd (show ∃ i' out', i' <= l.length /\ Value.int .i64 ((i : Int) + 1) = .int .i64 (i' : Nat) /\ out'.Perm (l.take i') /\ SortedE out' /\ wr.ownsRow w.heap.size 59 4 (.slice na (out.length + 1) nc) out'.length (cellsOf encE out') /\ Below w.heap.size w wr from
         ⟨i + 1, out.take k ++ x :: out.drop k, by omega, by go_num, by rw [HTK.out]; exact (ins_perm k).trans (HP.out.append_right _), ins_sorted HSO.out ha HA.out HOR.out, by
          have h1 := hcop.1; rw [hjl] at h1 ⊢
          exact Joins.ownsRow_le h1 (Nat.le_trans hsz (by have := HG.out.size; omega)), HCB.out.trans (hcop.2.mono HCB.out.size)⟩)
        clear hcop hjl hdr hapn HC; go_wp2_with fail; go_roundw
        case rel => exact HRL.out
        case measure => simp [intOf]; omega
  ·obtain rfl : i = l.length := by omega
   rw [List.take_length] at hp; clear ho hb hs; have HP := Hyd hp; clear hp; go_wp2_with fail; go_ret; exact ⟨_, out, rfl, HP.out, HSO.out, HO.out, HB.out⟩
end Go.Proofs.YtcojnojdgigmdaaGreatDoor.WR
