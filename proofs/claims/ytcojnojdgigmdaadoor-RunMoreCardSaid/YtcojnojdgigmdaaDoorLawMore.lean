/- The walk of oxbowlaw21.RunMore: events of other kinds than the pattern's make no difference. -/
import Derived.Test.YtcojnojdgigmdaaDoorLawTurn
import Derived.Test.YtcojnojdgigmdaaDoorPMore
namespace Go.Proofs.YtcojnojdgigmdaaDoor.WR
open Go Go.RowKit Go.Sort Go.Proofs.YtcojnojdgigmdaaDoor Go.Proofs.YtcojnojdgigmdaaDoor.PL Go.Proofs.YtcojnojdgigmdaaDoor.PR Go.Proofs.YtcojnojdgigmdaaDoor.Mem Go.Proofs.YtcojnojdgigmdaaDoor.WS Go.Proofs.YtcojnojdgigmdaaDoor.WL

/-- The events of another kind. -/
def moreE (i : Nat) (e : Ev) : Ev := ⟨1000 + (i : Int), nearI e.time 60, 90, nearI e.val 9⟩
def moreK (l : List Ev) (k : Nat) : List Ev := (List.range k).map fun i => moreE i (l.getD i ⟨0, 0, 0, 0⟩)
theorem moreK_len (l : List Ev) (k : Nat) : (moreK l k).length = k := by simp [moreK]
theorem moreK_succ (l : List Ev) (k : Nat) (h : k < l.length) : moreK l (k + 1) = moreK l k ++ [moreE k l[k]] := by
  unfold moreK
  rw [List.range_succ, List.map_append, List.map_singleton, List.getD_eq_getElem?_getD, List.getElem?_eq_getElem h]; rfl
theorem moreK_ok (l : List Ev) (k : Nat) (hk : k ≤ 1000) : ∀ e ∈ moreK l k, OkEv e ∧ e.kind = 90 := by
  intro e he
  obtain ⟨i, hi, rfl⟩ := List.mem_map.1 he
  have hik := List.mem_range.1 hi
  unfold OkEv Sm moreE
  have h1 := nearI_in (l.getD i ⟨0, 0, 0, 0⟩).time 60 (by omega)
  have h2 := nearI_in (l.getD i ⟨0, 0, 0, 0⟩).val 9 (by omega)
  refine ⟨⟨⟨?_, ?_⟩, ⟨?_, ?_⟩, ?_, ?_⟩, rfl⟩ <;> simp only [] <;> omega
theorem evsK_kind (l : List Ev) (k : Nat) : ∀ e ∈ evsK l k, e.kind ≠ 90 := by
  intro e he
  obtain ⟨i, hi, rfl⟩ := List.mem_map.1 he
  unfold evE
  simp only []
  omega
/-- .. under way. -/
def MoR (E l2 : List Ev) (m : Nat) (w4 : World) (vb i : Value) (wr : World) : Prop := ∃ k, k ≤ m ∧ i = .int .i64 (k : Nat) ∧ wr.ownsRow w4.heap.size 37 4 vb (E.length + k) (cellsOf encE (E ++ moreK l2 k)) ∧ Below w4.heap.size w4 wr
def StR (ps : List RPos) (w4 : World) (i : Value) (wr : World) : Prop := ∃ k, k ≤ ps.length ∧ i = .int .i64 (k : Nat) ∧ Below w4.heap.size w4 wr ∧ ∀ q (h : q < ps.length), q < k → ps[q].kind ≠ 90 ∧ ∀ b ∈ ps[q].bars, b.kind ≠ 90
def BrR (bs : List RBar) (w4 : World) (i : Value) (wr : World) : Prop := ∃ k, k ≤ bs.length ∧ i = .int .i64 (k : Nat) ∧ Below w4.heap.size w4 wr ∧ ∀ q (h : q < bs.length), q < k → bs[q].kind ≠ 90
set_option maxRecDepth 100000 in
set_option maxHeartbeats 3200000 in
theorem more_law (s : ByteArray) (v : Value) (l : List Ev) (v2 : Value) (l2 : List Ev) (W : World) (hv : Evs W W.heap.size v l) (hf : ∀ x ∈ l, x.fits) (hv2 : Evs W W.heap.size v2 l2) (hf2 : ∀ x ∈ l2, x.fits) (ht : Tab W) (hg : 0 < W.heap.size) :
    Calls Tryd.prog 4 #[.string s, v, v2] W fun e w' => e = .returned (.bool true) ∧ Below W.heap.size W w' := by
  obtain ⟨A, c, rfl⟩ := Sl.shape hv
  obtain ⟨_, A2, c2, rfl, hlc2, _⟩ := id hv2
  have HP := Lib.hid (planned_any s W)
  have HV := Lib.hid hv; have HF := Lib.hid hf; have HT := Lib.hid ht
  have HV2 := Lib.hid hv2; have HF2 := Lib.hid hf2
  clear hv hf ht hv2 hf2
  go_enter Tryd.func4, Tryd.ntmps4
  go_wp2_with fail
  refine HP.out.mono ?_
  rintro e w1 ⟨hb1, pa, qa, n0, pc, qn, qc, wi, wj, ok, rfl, hok⟩
  obtain ⟨w2, hw2⟩ : ∃ w2, w2 = (w1.alloc (.cells #[.slice pa n0 pc, .int .i64 wi] 25)).alloc (.cells #[.slice qa qn qc, .int .i64 wj] 28) := ⟨_, rfl⟩
  have hb12 : Below w1.heap.size w1 w2 := by rw [hw2]; exact ((Below.refl _ _).alloc (Nat.le_refl _) _).alloc (by simp) _
  have hbW2 : Below W.heap.size W w2 := hb1.trans (hb12.mono hb1.size)
  have HB2 := Lib.hid (show w2.heap[w1.heap.size]? = some (.cells #[.slice pa n0 pc, .int .i64 wi] 25 (0, 0)) by rw [hw2]; exact heap_alloc (heap_new rfl))
  have hg2 : 0 < w2.heap.size := by have := hbW2.size; omega
  have HK2 := Lib.hid (wakes_any w2 (Tab.of_eq HT.out (hbW2.block _ hg)) hg2)
  have HBW2 := Lib.hid hbW2; have HB12 := Lib.hid hb12; have HW2 := Lib.hid hw2; have HOKK := Lib.hid hok
  obtain ⟨X, hX⟩ : ∃ X, w1.heap.size = X := ⟨_, rfl⟩
  rw [hX] at HB2
  have hWX : W.heap.size ≤ X := by rw [← hX]; exact hb1.size
  have HX := Lib.hid hX
  clear hb1 hb12 hbW2 hw2 hok hX
  go_upto_region 2 with (fail)
  rw [← HW2.out, HX.out]
  go_wp2_with fail
  refine HK2.out.mono ?_
  rintro e w3 ⟨rfl, hb3⟩
  have HBW3 := Lib.hid (HBW2.out.trans (hb3.mono HBW2.out.size))
  have HB23 := Lib.hid hb3
  have hg3 : 0 < w3.heap.size := by have := hb3.size; omega
  have HK3 := Lib.hid (wakes_any w3 (Tab.of_eq HT.out (HBW3.out.block _ hg)) hg3)
  clear hb3
  cases ok with
  | false =>
    go_wp2_with fail
    refine HK3.out.mono ?_
    rintro e w4 ⟨rfl, hb4⟩
    have HB4 := Lib.hid (HBW3.out.trans (hb4.mono HBW3.out.size))
    clear hb4
    go_wp2_with fail
    go_ret
    exact ⟨rfl, HB4.out⟩
  | true =>
    obtain ⟨ss, cs, hokp, _, hn0, hpl, _⟩ := HOKK.out rfl
    have HOK := Lib.hid hokp; have HN0 := Lib.hid hn0
    have HPL3 := Lib.hid (show PlnAt w3 w1.heap.size (.slice pa n0 pc) (planR ss cs wi).steps from PlnAt.keep (PlnAt.keep hpl fun a ha => HB12.out.cell ha) fun a ha => HB23.out.cell (Nat.lt_of_lt_of_le ha HB12.out.size))
    have HB3X := Lib.hid ((HB23.out.block _ (heap_lt HB2.out)).trans HB2.out)
    have hz13 : w1.heap.size ≤ w3.heap.size := Nat.le_trans HB12.out.size HB23.out.size
    have HEV := Lib.hid (events_any (.slice A l.length c) l w3 ((Sl.below HV.out HBW3.out).more HBW3.out.size) HF.out)
    clear hokp hn0 hpl
    go_wp2_with fail
    refine HEV.out.mono ?_
    rintro e w4 ⟨va, vb, rfl, hoa, _, hb4⟩
    obtain ⟨n, hn⟩ : ∃ n, min l.length 8 = n := ⟨_, rfl⟩
    rw [hn] at hoa
    have hn8 : n ≤ 8 := by omega
    have hnl : n ≤ l.length := by omega
    obtain ⟨aa, ac, rfl⟩ := (Sl.of_own hoa).shape
    obtain ⟨E, hE⟩ : ∃ E, evsK l n = E := ⟨_, rfl⟩
    have hEl : E.length = n := by rw [← hE, evsK_len]
    have HEO := Lib.hid (show ∀ e ∈ E, OkEv e by rw [← hE]; exact evsK_ok l n (by omega))
    have HED := Lib.hid (show DistE E by rw [← hE]; exact evsK_dist l n)
    rw [hE, ← hEl] at hoa
    rw [← hEl] at hn8 ⊢
    have HOA := Lib.hid hoa
    have HB4 := Lib.hid (HBW3.out.trans (hb4.mono HBW3.out.size))
    have HB34 := Lib.hid hb4
    have HPL4 := Lib.hid (PlnAt.keep HPL3.out fun a ha => hb4.cell (Nat.lt_of_lt_of_le ha hz13))
    have HB4X := Lib.hid ((hb4.block _ (heap_lt HB3X.out)).trans HB3X.out)
    have hz14 : w1.heap.size ≤ w4.heap.size := Nat.le_trans hz13 hb4.size
    have HEK := Lib.hid (show ∀ e ∈ E, e.kind ≠ 90 by rw [← hE]; exact evsK_kind l n)
    clear hb4 hoa hE hEl hn hnl
    have hg4 : 0 < w4.heap.size := by have := HB34.out.size; omega
    have HT4 := Lib.hid (show Tab w4 from Tab.of_eq HT.out (HB4.out.block _ hg))
    obtain ⟨m, hm⟩ : ∃ m, min l2.length 10 = m := ⟨_, rfl⟩
    have hml : m ≤ l2.length := by omega
    have hm10 : m ≤ 10 := by omega
    have hmi : min (l2.length : Int) 10 = (m : Int) := by omega
    have hm0 : (0 : Int) ≤ (m : Int) := by omega
    have hmc : (m : Int) ≤ (c2 : Int) := by omega
    clear hm
    obtain ⟨i0, hi, hz0, hz1, hz2⟩ := info_parts infoEv
    go_wp2_with (at_builtin; refine Reg.wpList_append_src _ rfl (.const (.slice none 0 0)) (.tmp 37) 32 rfl w4.heap.size w3.heap.size 37 i0 _ 4 32 Tryd.underlying32 hi hz0 hz1 hz2 rfl (by decide) _ _ 0 E.length _ _ rfl (World.ownsRow_nil w4 w4.heap.size 37 4) rfl HOA.out ?d1 ?d2 ?d3 ?d4 ?_)
    case d1 => exact cellsE_one E
    case d2 => unfold maxLen; omega
    case d3 => omega
    case d4 => omega
    intro vb0 w5 ho5 hg5 _
    have HRL := Lib.hid (show MoR E l2 m w4 vb0 (.int .i64 0) w5 from ⟨0, Nat.zero_le _, rfl, by rw [show E ++ moreK l2 0 = E from List.append_nil E, Nat.add_zero]; simpa using ho5, below_grown (Below.refl _ _) (World.ownsRow_nil w4 w4.heap.size 37 4) hg5 (Nat.le_refl _) (Nat.le_refl _)⟩)
    clear ho5 hg5 hi hz0 hz1 hz2
    go_wp2_with fail
    go_loopw [12, 45] (fun vb i wr => MoR E l2 m w4 vb i wr) (fun _ i _ => m - (intOf i).toNat)
    case atStart => exact HRL.out
    case round =>
      obtain ⟨k, hk, rfl, hob, hb⟩ := hrel
      obtain ⟨ba, bc, rfl⟩ := (Sl.of_own hob).shape
      have hbW : Below W.heap.size W wr := HB4.out.trans (hb.mono HB4.out.size)
      by_cases hlt : k < m
      · have hki : (k : Int) < (m : Int) := by omega
        have hk0 : (0 : Int) ≤ (k : Int) := by omega
        have hkl : k < l2.length := by omega
        obtain ⟨b, o, c', hc', hbl, g0, g1, g2, g3⟩ := HV2.out.at_ hkl
        obtain ⟨rfl, rfl⟩ : A2 = some ⟨b, o, none⟩ ∧ c2 = c' := by simpa using hc'
        have HFE := Lib.hid (HF2.out _ (List.getElem_mem hkl))
        have HSU := Lib.hid (moreK_succ l2 k hkl)
        obtain ⟨e, he⟩ : ∃ e, l2[k] = e := ⟨_, rfl⟩
        rw [he] at g0 g1 g2 g3 HFE HSU
        have hc0 := (hbW.cell (p := ⟨b, o + k * 4, none⟩) hbl).trans g0
        have hc1 := (hbW.cell (p := ⟨b, o + k * 4 + 1, none⟩) hbl).trans g1
        have hc2 := (hbW.cell (p := ⟨b, o + k * 4 + 2, none⟩) hbl).trans g2
        have hc3 := (hbW.cell (p := ⟨b, o + k * 4 + 3, none⟩) hbl).trans g3
        have HOB := Lib.hid hob; have HB := Lib.hid hb
        have hWr := hb.size
        obtain ⟨wx, hwx⟩ : ∃ wx, wx = wr.alloc (.cells #[.int .i64 e.id, .int .i64 e.time, .int .u8 e.kind, .int .i64 e.val] 42) := ⟨_, rfl⟩
        have HBX := Lib.hid (show wx.heap[wr.heap.size]? = some (.cells #[.int .i64 e.id, .int .i64 e.time, .int .u8 e.kind, .int .i64 e.val] 42 (0, 0)) by rw [hwx]; exact heap_new rfl)
        have hGX : Below wr.heap.size wr wx := by rw [hwx]; exact (Below.refl _ _).alloc (Nat.le_refl _) _
        have HOX := Lib.hid (own_below hob hGX)
        have HB4X := Lib.hid (hb.trans (hGX.mono hWr))
        have HWX := Lib.hid hwx
        clear hc' g0 g1 g2 g3 he hob hb hwx hGX hbW
        go_upto_region 9 with (fail)
        rw [← HWX.out]
        clear hc0 hc1 hc2 hc3
        have HW1 := Lib.hid (show IntKind.i64.wrap (1000 + (k : Int)) = 1000 + (k : Int) from IntWalk.i64_in _ (by omega))
        obtain ⟨bx, hbx⟩ : ∃ bx, wr.heap.size = bx := ⟨_, rfl⟩
        rw [hbx] at HBX ⊢
        have hWx : w4.heap.size ≤ bx := by omega
        obtain ⟨i0, hi, hz0, hz1, hz2⟩ := info_parts infoEv
        refine Reg.stand_order (W := w4) (h := 12) (t := 1)
          [⟨0, 50, [], 99, [], none, fun v _ => v = .slice ba (E.length + k) bc⟩,
           ⟨1, 51, [], 99, [], none, fun v _ => v = .int .i64 (k : Int)⟩,
           ⟨2, 52, [], 99, [], none, fun v _ => v = .int .i64 (1000 + (k : Int))⟩,
           ⟨3, 53, [], 99, [], none, fun v _ => v = .pointer (some ⟨bx, 1, none⟩)⟩,
           ⟨4, 54, [], 99, [], none, fun v _ => v = .int .i64 e.time⟩,
           ⟨5, 55, [], 99, [], none, fun v _ => v = .int .i64 (nearI e.time 60)⟩,
           ⟨6, 56, [], 99, [], none, fun v _ => v = .pointer (some ⟨bx, 3, none⟩)⟩,
           ⟨7, 57, [], 99, [], none, fun v _ => v = .int .i64 e.val⟩,
           ⟨8, 58, [], 99, [], none, fun v _ => v = .int .i64 (nearI e.val 9)⟩,
           ⟨9, 59, [], 99, [], none, fun v _ => v = evV (moreE k e)⟩,
           ⟨10, 60, [37], 11, [], none, fun v w' => ∃ q, v = .slice (some ⟨q, 0, none⟩) 1 1 ∧ w'.heap[q]? = some (.cells (encE (moreE k e)).toArray 37 (0, 0))⟩,
           ⟨11, 61, [37], 99, [], some 37, fun v w' => w'.ownsRow w4.heap.size 37 4 v (E.length + k + 1) (cellsOf encE (E ++ moreK l2 k) ++ encE (moreE k e))⟩]
          [⟨[42], 99, fun w' => w'.heap[bx]? = some (.cells #[.int .i64 e.id, .int .i64 e.time, .int .u8 e.kind, .int .i64 e.val] 42 (0, 0))⟩,
           ⟨[37], 11, fun w' => w'.ownsRow w4.heap.size 37 4 (.slice ba (E.length + k) bc) (E.length + k) (cellsOf encE (E ++ moreK l2 k))⟩]
          (by kernel_rfl) rfl (by kernel_rfl) (by kernel_rfl) (by kernel_rfl) (show [0, 1, 2, 3, 4, 5, 6, 7, 8, 9, 10, 11].Nodup by decide) (show ∀ i, i < 12 → i ∈ [0, 1, 2, 3, 4, 5, 6, 7, 8, 9, 10, 11] by decide) ?_ (show [50, 51, 52, 53, 54, 55, 56, 57, 58, 59, 60, 61].Nodup by decide) (show ∀ s ∈ [50, 51, 52, 53, 54, 55, 56, 57, 58, 59, 60, 61], s < 92 by decide) (by kernel_rfl) ?_ ?_ HB4X.out ?_ ?_ ?_
        · intro f hf
          simp only [List.mem_cons, List.not_mem_nil, or_false] at hf
          rcases hf with rfl | rfl | rfl | rfl | rfl | rfl | rfl | rfl | rfl | rfl | rfl | rfl <;> simp
        · intro f hf v w1 w2 hk hF
          simp only [List.mem_cons, List.not_mem_nil, or_false] at hf
          rcases hf with rfl | rfl | rfl | rfl | rfl | rfl | rfl | rfl | rfl | rfl | rfl | rfl
          · exact hF
          · exact hF
          · exact hF
          · exact hF
          · exact hF
          · exact hF
          · exact hF
          · exact hF
          · exact hF
          · exact hF
          · obtain ⟨q, e1, e2⟩ := hF
            exact ⟨q, e1, (hk 37 (by simp)).2 _ _ e2⟩
          · exact (hk 37 (by simp)).1 _ _ _ _ _ hF
        · intro f hf w1 w2 hk hG
          simp only [List.mem_cons, List.not_mem_nil, or_false] at hf
          rcases hf with rfl | rfl
          · exact (hk 42 (by simp)).2 _ _ hG
          · exact (hk 37 (by simp)).1 _ _ _ _ _ hG
        · intro f hf
          simp only [List.mem_cons, List.not_mem_nil, or_false] at hf
          rcases hf with rfl | rfl
          · exact HBX.out
          · exact HOX.out.drew
        · intro f hf a w1 hs hg' hst
          have t12 : a.eval (.tmp 12) = .slice ba (E.length + k) bc := Reg.eval_tmp ((hs.out 12 (show 12 ∉ [50, 51, 52, 53, 54, 55, 56, 57, 58, 59, 60, 61] by decide)).trans rfl)
          have t13 : a.eval (.tmp 13) = .int .i64 (k : Int) := Reg.eval_tmp ((hs.out 13 (show 13 ∉ [50, 51, 52, 53, 54, 55, 56, 57, 58, 59, 60, 61] by decide)).trans rfl)
          have t14 : a.eval (.tmp 14) = .pointer (some ⟨bx, 0, none⟩) := Reg.eval_tmp ((hs.out 14 (show 14 ∉ [50, 51, 52, 53, 54, 55, 56, 57, 58, 59, 60, 61] by decide)).trans rfl)
          simp only [List.mem_cons, List.not_mem_nil, or_false] at hf
          rcases hf with rfl | rfl | rfl | rfl | rfl | rfl | rfl | rfl | rfl | rfl | rfl | rfl
          · have u1 := t12
            exact Reg.step_val rfl rfl rfl (Reg.run_move u1) rfl hs.below (fun e => Reg.Keeps.refl e _)
          · have u1 := t13
            exact Reg.step_val rfl rfl rfl (Reg.run_move u1) rfl hs.below (fun e => Reg.Keeps.refl e _)
          · obtain ⟨v1, hv1, rfl⟩ : ∃ v, a.tmps[51]? = some v ∧ v = .int .i64 (k : Int) := hg' _ (Reg.at_fact 1 rfl) (by kernel_rfl) (by simp [Reg.okTil])
            have u1 := Reg.eval_tmp hv1
            have hw1 := HW1.out
            exact Reg.step_val rfl rfl rfl (w' := w1) (v := .int .i64 (1000 + (k : Int))) (by go_simp) rfl hs.below (fun e => Reg.Keeps.refl e _)
          · have u1 := t14
            exact Reg.step_val (w' := w1) (v := .pointer (some ⟨bx, 1, none⟩)) rfl rfl rfl (Ord.run_fld u1 (by go_simp)) rfl hs.below (fun e => Reg.Keeps.refl e _)
          · obtain ⟨v1, hv1, rfl⟩ : ∃ v, a.tmps[53]? = some v ∧ v = .pointer (some ⟨bx, 1, none⟩) := hg' _ (Reg.at_fact 3 rfl) (by kernel_rfl) (by simp [Reg.okTil])
            have u1 := Reg.eval_tmp hv1
            exact Reg.step_val rfl rfl rfl (Reg.run_load u1 (load_i64 ((Lib.cell_of_heap (hst _ (Reg.at_stand 0 rfl) (by simp [Reg.okTil])) 1).trans rfl))) rfl hs.below (fun e => Reg.Keeps.refl e _)
          · obtain ⟨v1, hv1, rfl⟩ : ∃ v, a.tmps[54]? = some v ∧ v = .int .i64 e.time := hg' _ (Reg.at_fact 4 rfl) (by kernel_rfl) (by simp [Reg.okTil])
            have u1 := Reg.eval_tmp hv1
            refine Reg.step_call (f := 15) (args := #[.int .i64 e.time, .int .i64 60]) rfl rfl rfl (by go_simp) hs.below ((near_any e.time 60 w1 HFE.out.2.1 (by omega)).mono ?_)
            rintro en w2 ⟨rfl, rfl⟩
            exact ⟨_, rfl, rfl, Below.refl _ _⟩
          · have u1 := t14
            exact Reg.step_val (w' := w1) (v := .pointer (some ⟨bx, 3, none⟩)) rfl rfl rfl (Ord.run_fld u1 (by go_simp)) rfl hs.below (fun e => Reg.Keeps.refl e _)
          · obtain ⟨v1, hv1, rfl⟩ : ∃ v, a.tmps[56]? = some v ∧ v = .pointer (some ⟨bx, 3, none⟩) := hg' _ (Reg.at_fact 6 rfl) (by kernel_rfl) (by simp [Reg.okTil])
            have u1 := Reg.eval_tmp hv1
            exact Reg.step_val rfl rfl rfl (Reg.run_load u1 (load_i64 ((Lib.cell_of_heap (hst _ (Reg.at_stand 0 rfl) (by simp [Reg.okTil])) 3).trans rfl))) rfl hs.below (fun e => Reg.Keeps.refl e _)
          · obtain ⟨v1, hv1, rfl⟩ : ∃ v, a.tmps[57]? = some v ∧ v = .int .i64 e.val := hg' _ (Reg.at_fact 7 rfl) (by kernel_rfl) (by simp [Reg.okTil])
            have u1 := Reg.eval_tmp hv1
            refine Reg.step_call (f := 15) (args := #[.int .i64 e.val, .int .i64 9]) rfl rfl rfl (by go_simp) hs.below ((near_any e.val 9 w1 HFE.out.2.2.2 (by omega)).mono ?_)
            rintro en w2 ⟨rfl, rfl⟩
            exact ⟨_, rfl, rfl, Below.refl _ _⟩
          · obtain ⟨v1, hv1, rfl⟩ : ∃ v, a.tmps[52]? = some v ∧ v = .int .i64 (1000 + (k : Int)) := hg' _ (Reg.at_fact 2 rfl) (by kernel_rfl) (by simp [Reg.okTil])
            obtain ⟨v2, hv2, rfl⟩ : ∃ v, a.tmps[55]? = some v ∧ v = .int .i64 (nearI e.time 60) := hg' _ (Reg.at_fact 5 rfl) (by kernel_rfl) (by simp [Reg.okTil])
            obtain ⟨v3, hv3, rfl⟩ : ∃ v, a.tmps[58]? = some v ∧ v = .int .i64 (nearI e.val 9) := hg' _ (Reg.at_fact 8 rfl) (by kernel_rfl) (by simp [Reg.okTil])
            exact Reg.step_val rfl rfl rfl (run_build4 (Reg.eval_tmp hv1) (Reg.eval_tmp hv2) rfl (Reg.eval_tmp hv3)) rfl hs.below (fun e => Reg.Keeps.refl e _)
          · obtain ⟨v1, hv1, rfl⟩ : ∃ v, a.tmps[59]? = some v ∧ v = evV (moreE k e) := hg' _ (Reg.at_fact 9 rfl) (by kernel_rfl) (by simp [Reg.okTil])
            exact Reg.step_val rfl rfl rfl (Reg.run_build (Reg.eval_tmp hv1) (build_evE w1 (moreE k e))) ⟨_, rfl, heap_new rfl⟩ (hs.below.alloc hs.below.size _) (fun e => Reg.Keeps.alloc e _ _)
          · obtain ⟨v1, hv1, rfl⟩ : ∃ v, a.tmps[50]? = some v ∧ v = .slice ba (E.length + k) bc := hg' _ (Reg.at_fact 0 rfl) (by kernel_rfl) (by simp [Reg.okTil])
            obtain ⟨v2, hv2, q, rfl, hh⟩ : ∃ v, a.tmps[60]? = some v ∧ ∃ q, v = .slice (some ⟨q, 0, none⟩) 1 1 ∧ w1.heap[q]? = some (.cells (encE (moreE k e)).toArray 37 (0, 0)) := hg' _ (Reg.at_fact 10 rfl) (by kernel_rfl) (by simp [Reg.okTil])
            have hown := hst _ (Reg.at_stand 1 rfl) (by simp [Reg.okTil])
            exact Reg.step_append rfl rfl rfl rfl hs.below Tryd.underlying32 hi hz0 hz1 hz2 rfl (by decide) hv1 hown hv2 (by rw [encE_len]) (fun j u hu => World.news_of_block hh j u (by simpa using hu)) (encE_one _) (by decide) (by unfold maxLen; omega) (by omega) (fun v' w' h => h)
        · intro vals w1 hF hfx hb1
          have h61 : w1.ownsRow w4.heap.size 37 4 (vals 61) (E.length + k + 1) (cellsOf encE (E ++ moreK l2 k) ++ encE (moreE k e)) := hF _ (Reg.at_fact 11 rfl) (show (12 + 1 : Nat) ≤ 99 by decide)
          have HREL := Lib.hid (show MoR E l2 m w4 (vals 61) (.int .i64 ((k : Int) + 1)) w1 from ⟨k + 1, by omega, by go_num, by rw [HSU.out, ← List.append_assoc, cellsOf_snoc]; exact h61, hb1⟩)
          simp only [List.map_cons, List.map_nil]
          generalize vals 50 = p50 at HREL ⊢
          generalize vals 51 = p51 at HREL ⊢
          generalize vals 52 = p52 at HREL ⊢
          generalize vals 53 = p53 at HREL ⊢
          generalize vals 54 = p54 at HREL ⊢
          generalize vals 55 = p55 at HREL ⊢
          generalize vals 56 = p56 at HREL ⊢
          generalize vals 57 = p57 at HREL ⊢
          generalize vals 58 = p58 at HREL ⊢
          generalize vals 59 = p59 at HREL ⊢
          generalize vals 60 = p60 at HREL ⊢
          generalize vals 61 = p61 at HREL ⊢
          clear hF hfx h61 hb1
          unfold Reg.puts Reg.puts Reg.puts Reg.puts Reg.puts Reg.puts Reg.puts Reg.puts Reg.puts Reg.puts Reg.puts Reg.puts Reg.puts
          go_wp2_with fail
          go_roundw
          case rel => exact HREL.out
          case measure => simp [intOf]; omega
      · obtain rfl : k = m := by omega
        obtain ⟨wq, rfl⟩ : ∃ w' : World, w' = wr := ⟨_, rfl⟩
        have HBq := Lib.hid hb; have HOB := Lib.hid hob
        have HBXq := Lib.hid ((hb.block _ (heap_lt HB4X.out)).trans HB4X.out)
        have hzX : X < wq.heap.size := heap_lt HBXq.out
        have HPLq := Lib.hid (show PlnAt wq X (.slice pa n0 pc) (planR ss cs wi).steps by rw [← HX.out]; exact PlnAt.keep HPL4.out fun a ha => hb.cell (Nat.lt_of_lt_of_le ha hz14))
        have p0 : wq.cell? ⟨X, 0, none⟩ = some (.slice pa n0 pc) := (Lib.cell_of_heap HBXq.out 0).trans rfl
        obtain ⟨ps, hps⟩ : ∃ ps, (planR ss cs wi).steps = ps := ⟨_, rfl⟩
        have HPS := Lib.hid hps
        have hn0' : n0 = ps.length := by rw [← hps]; exact HN0.out
        have HP8 := Lib.hid (planR_ok HOK.out)
        have hps8 : ps.length ≤ 8 := by rw [← hps]; exact HP8.out.2
        rw [hps] at HPLq
        subst hn0'
        clear hb hob hps
        go_wp2_with fail
        go_loopw [66] (fun i wr => StR ps wq i wr) (fun i _ => ps.length - (intOf i).toNat)
        case atStart => exact ⟨0, Nat.zero_le _, rfl, Below.refl _ _, fun q h hq => absurd hq (Nat.not_lt_zero _)⟩
        case round =>
          obtain ⟨q, hq, rfl, hb, hno⟩ := hrel
          by_cases hlq : q < ps.length
          · have hqi : (q : Int) < (ps.length : Int) := by omega
            have hq0 : (0 : Int) ≤ (q : Int) := by omega
            obtain ⟨ad, pc', e0, hcell⟩ := PlnAt.keep HPLq.out fun a ha => hb.cell (Nat.lt_trans ha hzX)
            obtain ⟨rfl, rfl⟩ : pa = ad ∧ pc = pc' := by simpa using e0
            obtain ⟨b, o, rfl, hbX, x0, x1, x2, ⟨vt, x3, hvt⟩, vbb, x4, hvb⟩ := hcell q hlq
            obtain ⟨s9, hs9⟩ : ∃ s9, ps[q] = s9 := ⟨_, rfl⟩
            have HS9 := Lib.hid hs9
            rw [hs9] at x0 x1 x2 hvt hvb
            obtain ⟨kd, lo, hi', ts, bs⟩ := s9
            simp only at x0 x1 x2 hvt hvb
            obtain ⟨ta, tc, rfl⟩ := Sl.shape hvt
            obtain ⟨ba', bc', rfl, hbar⟩ := hvb
            have hbs : bs.length ≤ 1000000 := by
              have := (HP8.out.1.bar ps[q] (by rw [HPS.out]; exact List.getElem_mem hlq)).1
              rw [HS9.out] at this
              exact this
            have HB := Lib.hid hb; have HNO := Lib.hid hno; have HBAR := Lib.hid hbar
            have hqr := hb.size
            obtain ⟨wx, hwx⟩ : ∃ wx, wx = wr.alloc (.cells #[.int .u8 kd, .int .i64 lo, .int .i64 hi', .slice ta ts.length tc, .slice ba' bs.length bc'] 47) := ⟨_, rfl⟩
            have HBP := Lib.hid (show wx.heap[wr.heap.size]? = some (.cells #[.int .u8 kd, .int .i64 lo, .int .i64 hi', .slice ta ts.length tc, .slice ba' bs.length bc'] 47 (0, 0)) by rw [hwx]; exact heap_new rfl)
            have hGX : Below wr.heap.size wr wx := by rw [hwx]; exact (Below.refl _ _).alloc (Nat.le_refl _) _
            have HGX := Lib.hid (hb.trans (hGX.mono hqr))
            have HGR := Lib.hid hGX
            have HWX := Lib.hid hwx
            clear hvt hcell e0 hb hno hbar hwx hGX hs9
            go_upto_region 14 with (fail)
            rw [← HWX.out]
            clear x0 x1 x2 x3 x4
            obtain ⟨bx, hbx⟩ : ∃ bx, wr.heap.size = bx := ⟨_, rfl⟩
            rw [hbx] at HBP ⊢
            have y4 := (Lib.cell_of_heap HBP.out 4).trans rfl
            go_wp2_with fail
            clear y4
            go_loopw [73] (fun i wr => BrR bs wx i wr) (fun i _ => bs.length - (intOf i).toNat)
            case atStart => exact ⟨0, Nat.zero_le _, rfl, Below.refl _ _, fun q h hq => absurd hq (Nat.not_lt_zero _)⟩
            case round =>
              obtain ⟨r, hr, rfl, hb, hno⟩ := hrel
              by_cases hlr : r < bs.length
              · have hri : (r : Int) < (bs.length : Int) := by omega
                have hr0 : (0 : Int) ≤ (r : Int) := by omega
                obtain ⟨b2, o2, rfl, hb2X, y0, vt2, y1, hvt2⟩ := HBAR.out r hlr
                obtain ⟨ta2, tc2, rfl⟩ := Sl.shape hvt2
                obtain ⟨kb, hkb⟩ : ∃ kb, bs[r].kind = kb := ⟨_, rfl⟩
                have HKB := Lib.hid hkb
                rw [hkb] at y0
                have hzr := HGR.out.size
                have k0 := (hb.cell (p := ⟨b2, o2 + r * 2, none⟩) (by show b2 < _; omega)).trans ((HGR.out.cell (p := ⟨b2, o2 + r * 2, none⟩) (by show b2 < _; omega)).trans y0)
                have k1 := (hb.cell (p := ⟨b2, o2 + r * 2 + 1, none⟩) (by show b2 < _; omega)).trans ((HGR.out.cell (p := ⟨b2, o2 + r * 2 + 1, none⟩) (by show b2 < _; omega)).trans y1)
                have HB2 := Lib.hid hb; have HNO2 := Lib.hid hno
                clear y0 y1 hvt2 hb hno hkb
                by_cases h90 : kb = 90
                · subst h90
                  go_wp2_with fail
                  go_ret
                  refine ⟨rfl, ?_⟩
                  have h1 := HB2.out.alloc HB2.out.size (.cells #[.int .u8 90, .slice ta2 bs[r].tests.length tc2] 49)
                  exact HB4.out.trans ((HBq.out.trans ((HGX.out.trans (h1.mono HGX.out.size)).mono HBq.out.size)).mono HB4.out.size)
                · have HRL := Lib.hid (show BrR bs wx (.int .i64 ((r : Int) + 1)) (wr.alloc (.cells #[.int .u8 kb, .slice ta2 bs[r].tests.length tc2] 49)) from ⟨r + 1, by omega, by go_num, HB2.out.alloc HB2.out.size _, fun j hj hjr => by
                    by_cases hjr2 : j < r
                    · exact HNO2.out j hj hjr2
                    · have : j = r := by omega
                      subst this
                      rw [HKB.out]; exact h90⟩)
                  go_wp2_with fail
                  go_roundw
                  case rel => exact HRL.out
                  case measure => simp [intOf]; omega
              · obtain rfl : r = bs.length := by omega
                have x0 := (Lib.cell_of_heap ((hb.block _ (heap_lt HBP.out)).trans HBP.out) 0).trans rfl
                have HB2 := Lib.hid hb; have HNO2 := Lib.hid hno
                obtain ⟨wy, rfl⟩ : ∃ w' : World, w' = wr := ⟨_, rfl⟩
                clear hb hno
                by_cases h90 : kd = 90
                · subst h90
                  go_wp2_with fail
                  go_ret
                  exact ⟨rfl, HB4.out.trans ((HBq.out.trans ((HGX.out.trans (HB2.out.mono HGX.out.size)).mono HBq.out.size)).mono HB4.out.size)⟩
                · have HRL := Lib.hid (show StR ps wq (.int .i64 ((q : Int) + 1)) wy from ⟨q + 1, by omega, by go_num, HGX.out.trans (HB2.out.mono HGX.out.size), fun j hj hjq => by
                    by_cases hjq2 : j < q
                    · exact HNO.out j hj hjq2
                    · have : j = q := by omega
                      subst this
                      rw [HS9.out]
                      refine ⟨h90, fun b' hb' => ?_⟩
                      obtain ⟨r, hr', rfl⟩ := List.mem_iff_getElem.1 hb'
                      exact HNO2.out r hr' hr'⟩)
                  go_wp2_with fail
                  go_roundw
                  case rel => exact HRL.out
                  case measure => simp [intOf]; omega
          · obtain rfl : q = ps.length := by omega
            obtain ⟨wz, rfl⟩ : ∃ w' : World, w' = wr := ⟨_, rfl⟩
            have HNK := Lib.hid (show NoKind (planR ss cs wi) 90 from fun s hs => by
              rw [HPS.out] at hs
              obtain ⟨j, hj, rfl⟩ := List.mem_iff_getElem.1 hs
              exact hno j hj hj)
            have HBz := Lib.hid hb
            have HB4z := Lib.hid (HBq.out.trans (hb.mono HBq.out.size))
            have HBX := Lib.hid ((hb.block _ (heap_lt HBXq.out)).trans HBXq.out)
            have hgz : 0 < wz.heap.size := by have := HB4z.out.size; omega
            have HTz := Lib.hid (show Tab wz from Tab.of_eq HT4.out (HB4z.out.block _ hg4))
            have HPLz := Lib.hid (show PlnAt wz X (.slice pa ps.length pc) (planR ss cs wi).steps by rw [HPS.out]; exact PlnAt.keep HPLq.out fun a ha => hb.cell (Nat.lt_trans ha hzX))
            have hzz : X ≤ wz.heap.size := Nat.le_trans (Nat.le_of_lt hzX) hb.size
            have hnl : ps.length = (planR ss cs wi).steps.length := by rw [HPS.out]
            have HMK := Lib.hid (moreK_ok l2 k (by omega))
            have hrl : (E ++ moreK l2 k).length = E.length + k := by rw [List.length_append, moreK_len]
            have HOK2 := Lib.hid (show ∀ e ∈ E ++ moreK l2 k, OkEv e from fun e he => by
              rcases List.mem_append.1 he with h | h
              · exact HEO.out e h
              · exact (HMK.out e h).1)
            have HCA := Lib.hid (fun w1' (hbb : Below wz.heap.size wz w1') => all_call HOK.out hnl (.slice aa E.length ac) E wz w1' HPLz.out hzz (own_below HOA.out HB4z.out) HEO.out (by omega) HTz.out hgz hbb)
            have HCB := Lib.hid (fun w1' (hbb : Below wz.heap.size wz w1') => all_call HOK.out hnl (.slice ba (E.length + k) bc) (E ++ moreK l2 k) wz w1' HPLz.out hzz (by rw [hrl]; exact own_below HOB.out hb) HOK2.out (by omega) HTz.out hgz hbb)
            have HEQ := Lib.hid (fun (ls1 ls2 : List Ev) (h1 : ls1.Perm E) (s1 : SortedE ls1) (h2 : ls2.Perm (E ++ moreK l2 k)) (s2 : SortedE ls2) => (show (runA (planR ss cs wi) ls1).2 = (runA (planR ss cs wi) ls2).2 from more_plain HNK.out HEK.out (fun e he => (HMK.out e he).2) HED.out h1 s1 h2 s2))
            have HLN := Lib.hid (fun (ls : List Ev) (h : ls.Perm E) => runA_len ss cs wi E ls HEO.out (by omega) h)
            have HLN2 := Lib.hid (fun (ls : List Ev) (h : ls.Perm (E ++ moreK l2 k)) => runA_len ss cs wi (E ++ moreK l2 k) ls HOK2.out (by omega) h)
            clear hb hno hrl
            go_wp2_with fail
            refine Reg.stand_order (W := wz) (h := 7) (t := 1)
              [⟨0, 85, [], 99, [], none, fun v _ => v = .agg #[.slice pa ps.length pc, .int .i64 wi]⟩,
               ⟨1, 86, [], 99, [], none, fun v _ => v = .slice aa E.length ac⟩,
               ⟨2, 87, [9], 99, [], none, fun v w' => ∃ ls, ls.Perm (E) ∧ SortedE ls ∧ w'.ownsRow wz.heap.size 9 1 v (runA (planR ss cs wi) ls).2.length ((runA (planR ss cs wi) ls).2.map strV)⟩,
               ⟨3, 88, [], 99, [], none, fun v _ => v = .agg #[.slice pa ps.length pc, .int .i64 wi]⟩,
               ⟨4, 89, [], 99, [], none, fun v _ => v = .slice ba (E.length + k) bc⟩,
               ⟨5, 90, [9], 99, [], none, fun v w' => ∃ ls, ls.Perm (E ++ moreK l2 k) ∧ SortedE ls ∧ w'.ownsRow wz.heap.size 9 1 v (runA (planR ss cs wi) ls).2.length ((runA (planR ss cs wi) ls).2.map strV)⟩,
               ⟨6, 91, [], 99, [], none, fun v _ => v = .bool true⟩]
              []
              (by kernel_rfl) rfl (by kernel_rfl) (by kernel_rfl) (by kernel_rfl) (show [0, 1, 2, 3, 4, 5, 6].Nodup by decide) (show ∀ i, i < 7 → i ∈ [0, 1, 2, 3, 4, 5, 6] by decide) ?_ (show [85, 86, 87, 88, 89, 90, 91].Nodup by decide) (show ∀ s ∈ [85, 86, 87, 88, 89, 90, 91], s < 92 by decide) (by kernel_rfl) ?_ ?_ (Below.refl _ _) ?_ ?_ ?_
            · intro f hf
              simp only [List.mem_cons, List.not_mem_nil, or_false] at hf
              rcases hf with rfl | rfl | rfl | rfl | rfl | rfl | rfl <;> simp
            · intro f hf v w1 w2 hk hF
              simp only [List.mem_cons, List.not_mem_nil, or_false] at hf
              rcases hf with rfl | rfl | rfl | rfl | rfl | rfl | rfl
              · exact hF
              · exact hF
              · obtain ⟨ls, h1, h2, h3⟩ := hF
                exact ⟨ls, h1, h2, (hk 9 (by simp)).1 _ _ _ _ _ h3⟩
              · exact hF
              · exact hF
              · obtain ⟨ls, h1, h2, h3⟩ := hF
                exact ⟨ls, h1, h2, (hk 9 (by simp)).1 _ _ _ _ _ h3⟩
              · exact hF
            · intro f hf; cases hf
            · intro f hf; cases hf
            · intro f hf a w1 hs hg' hst
              have tbox : a.eval (.tmp 7) = .pointer (some ⟨X, 0, none⟩) := Reg.eval_tmp ((hs.out 7 (show 7 ∉ [85, 86, 87, 88, 89, 90, 91] by decide)).trans rfl)
              have ta : a.eval (.tmp 10) = .slice aa E.length ac := Reg.eval_tmp ((hs.out 10 (show 10 ∉ [85, 86, 87, 88, 89, 90, 91] by decide)).trans rfl)
              have tb : a.eval (.tmp 12) = .slice ba (E.length + k) bc := Reg.eval_tmp ((hs.out 12 (show 12 ∉ [85, 86, 87, 88, 89, 90, 91] by decide)).trans rfl)
              simp only [List.mem_cons, List.not_mem_nil, or_false] at hf
              rcases hf with rfl | rfl | rfl | rfl | rfl | rfl | rfl
              · exact Reg.step_val rfl rfl rfl (Reg.run_load tbox (load_plan ((hs.below.block _ (heap_lt HBX.out)).trans HBX.out))) rfl hs.below (fun e => Reg.Keeps.refl e _)
              · exact Reg.step_val rfl rfl rfl (Reg.run_move ta) rfl hs.below (fun e => Reg.Keeps.refl e _)
              · obtain ⟨v1, hv1, rfl⟩ : ∃ v, a.tmps[85]? = some v ∧ v = .agg #[.slice pa ps.length pc, .int .i64 wi] := hg' _ (Reg.at_fact 0 rfl) (by kernel_rfl) (by simp [Reg.okTil])
                obtain ⟨v2, hv2, rfl⟩ : ∃ v, a.tmps[86]? = some v ∧ v = .slice aa E.length ac := hg' _ (Reg.at_fact 1 rfl) (by kernel_rfl) (by simp [Reg.okTil])
                have u1 := Reg.eval_tmp hv1; have u2 := Reg.eval_tmp hv2
                refine Reg.step_call (f := 14) (args := #[.agg #[.slice pa ps.length pc, .int .i64 wi], .slice aa E.length ac]) rfl rfl rfl (by go_simp) hs.below ((HCA.out w1 hs.below).mono ?_)
                rintro en w2 ⟨v', ls, rfl, h1, h2, h3, h4⟩
                exact ⟨v', rfl, ⟨ls, h1, h2, Joins.ownsRow_le h3 hs.below.size⟩, h4⟩
              · exact Reg.step_val rfl rfl rfl (Reg.run_load tbox (load_plan ((hs.below.block _ (heap_lt HBX.out)).trans HBX.out))) rfl hs.below (fun e => Reg.Keeps.refl e _)
              · exact Reg.step_val rfl rfl rfl (Reg.run_move tb) rfl hs.below (fun e => Reg.Keeps.refl e _)
              · obtain ⟨v1, hv1, rfl⟩ : ∃ v, a.tmps[88]? = some v ∧ v = .agg #[.slice pa ps.length pc, .int .i64 wi] := hg' _ (Reg.at_fact 3 rfl) (by kernel_rfl) (by simp [Reg.okTil])
                obtain ⟨v2, hv2, rfl⟩ : ∃ v, a.tmps[89]? = some v ∧ v = .slice ba (E.length + k) bc := hg' _ (Reg.at_fact 4 rfl) (by kernel_rfl) (by simp [Reg.okTil])
                have u1 := Reg.eval_tmp hv1; have u2 := Reg.eval_tmp hv2
                refine Reg.step_call (f := 14) (args := #[.agg #[.slice pa ps.length pc, .int .i64 wi], .slice ba (E.length + k) bc]) rfl rfl rfl (by go_simp) hs.below ((HCB.out w1 hs.below).mono ?_)
                rintro en w2 ⟨v', ls, rfl, h1, h2, h3, h4⟩
                exact ⟨v', rfl, ⟨ls, h1, h2, Joins.ownsRow_le h3 hs.below.size⟩, h4⟩
              · obtain ⟨v1, hv1, ls1, hp1, hs1, ho1⟩ : ∃ v, a.tmps[87]? = some v ∧ ∃ ls, ls.Perm (E) ∧ SortedE ls ∧ w1.ownsRow wz.heap.size 9 1 v (runA (planR ss cs wi) ls).2.length ((runA (planR ss cs wi) ls).2.map strV) := hg' _ (Reg.at_fact 2 rfl) (by kernel_rfl) (by simp [Reg.okTil])
                obtain ⟨v2, hv2, ls2, hp2, hs2, ho2⟩ : ∃ v, a.tmps[90]? = some v ∧ ∃ ls, ls.Perm (E ++ moreK l2 k) ∧ SortedE ls ∧ w1.ownsRow wz.heap.size 9 1 v (runA (planR ss cs wi) ls).2.length ((runA (planR ss cs wi) ls).2.map strV) := hg' _ (Reg.at_fact 5 rfl) (by kernel_rfl) (by simp [Reg.okTil])
                have HQ := HEQ.out ls1 ls2 hp1 hs1 hp2 hs2
                obtain ⟨x1, y1, rfl⟩ := (Sl.of_own ho1).shape
                obtain ⟨x2, y2, rfl⟩ := (Sl.of_own ho2).shape
                have u1 := Reg.eval_tmp hv1; have u2 := Reg.eval_tmp hv2
                have hl1 := HLN.out ls1 hp1; have hl2 := HLN2.out ls2 hp2
                refine Reg.step_call (f := 13) (args := #[.slice x1 (runA (planR ss cs wi) ls1).2.length y1, .slice x2 (runA (planR ss cs wi) ls2).2.length y2]) rfl rfl rfl (by go_simp) hs.below ((equal_any _ _ _ _ w1 (Sl.of_own ho1) (Sl.of_own ho2) (by omega) (by omega)).mono ?_)
                rintro en w2 ⟨rfl, hg⟩
                exact ⟨_, rfl, by rw [decide_eq_true HQ], hg.below⟩
            · intro vals w1 hF hfx hb1
              have e60 : vals 91 = .bool true := hF _ (Reg.at_fact 6 rfl) (show (7 + 1 : Nat) ≤ 99 by decide)
              simp only [List.map_cons, List.map_nil, e60]
              generalize vals 85 = q85
              generalize vals 86 = q86
              generalize vals 87 = q87
              generalize vals 88 = q88
              generalize vals 89 = q89
              generalize vals 90 = q90
              have HB1 := Lib.hid hb1
              clear hF hfx e60 hb1
              unfold Reg.puts Reg.puts Reg.puts Reg.puts Reg.puts Reg.puts Reg.puts Reg.puts
              go_wp2_with fail
              go_ret
              exact ⟨rfl, HB4.out.trans ((HB4z.out.trans (HB1.out.mono HB4z.out.size)).mono HB4.out.size)⟩
end Go.Proofs.YtcojnojdgigmdaaDoor.WR
