/- The walk of oxbowlaw21.RunTurned: events in another order, as they are handed in, have the same matches. -/
import Derived.Test.YtcojnojdgigmdaaDoorB12
import Derived.Test.YtcojnojdgigmdaaDoorB13
namespace Go.Proofs.YtcojnojdgigmdaaDoor.WR
open Go Go.RowKit Go.Sort Go.Proofs.YtcojnojdgigmdaaDoor Go.Proofs.YtcojnojdgigmdaaDoor.PL Go.Proofs.YtcojnojdgigmdaaDoor.PR Go.Proofs.YtcojnojdgigmdaaDoor.Mem Go.Proofs.YtcojnojdgigmdaaDoor.WS Go.Proofs.YtcojnojdgigmdaaDoor.WL

theorem evsK_ok (l : List Ev) (k : Nat) (hk : k ≤ 1000) : ∀ e ∈ evsK l k, OkEv e := by
  intro e he
  obtain ⟨i, hi, rfl⟩ := List.mem_map.1 he
  have hik := List.mem_range.1 hi
  unfold OkEv Sm evE
  have h1 := nearI_in (l.getD i ⟨0, 0, 0, 0⟩).time 60 (by omega)
  have h2 := nearI_in (l.getD i ⟨0, 0, 0, 0⟩).val 9 (by omega)
  refine ⟨⟨?_, ?_⟩, ⟨?_, ?_⟩, ?_, ?_⟩ <;> simp only [] <;> omega
theorem evsK_get (l : List Ev) (k i : Nat) (h : i < (evsK l k).length) : (evsK l k)[i] = evE i (l.getD i ⟨0, 0, 0, 0⟩) := by
  have h2 : i < k := by rwa [evsK_len] at h
  have e : (evsK l k)[i]? = some (evE i (l.getD i ⟨0, 0, 0, 0⟩)) := by
    unfold evsK
    rw [List.getElem?_map, List.getElem?_range h2]; rfl
  rw [List.getElem?_eq_getElem h] at e
  injection e
theorem evsK_dist (l : List Ev) (k : Nat) : DistE (evsK l k) := by
  unfold DistE
  rw [List.pairwise_iff_getElem]
  intro i j hi hj hij
  rw [evsK_get, evsK_get]
  show ((i : Int) + 1) ≠ (j : Int) + 1
  omega
/-- The events, turned. -/
def rotK (E : List Ev) (R k : Nat) : List Ev := (List.range k).map fun i => E.getD ((i + R) % E.length) ⟨0, 0, 0, 0⟩
theorem rotK_succ (E : List Ev) (R k : Nat) (J : Nat) (hJ : (k + R) % E.length = J) (h : J < E.length) : rotK E R (k + 1) = rotK E R k ++ [E[J]] := by
  unfold rotK
  rw [List.range_succ, List.map_append, List.map_singleton, hJ, List.getD_eq_getElem?_getD, List.getElem?_eq_getElem h]; rfl
theorem rotK_perm (E : List Ev) (R : Nat) (hR : R < E.length ∨ E = []) : (rotK E R E.length).Perm E := by
  rcases hR with hR | rfl
  · have e : rotK E R E.length = E.drop R ++ E.take R := by
      apply List.ext_getElem?
      intro i
      unfold rotK
      by_cases hi : i < E.length
      · rw [List.getElem?_map, List.getElem?_range hi, Option.map_some, List.getElem?_append]
        by_cases h2 : i < E.length - R
        · rw [if_pos (by rw [List.length_drop]; exact h2), List.getElem?_drop, List.getD_eq_getElem?_getD, Nat.mod_eq_of_lt (by omega), Nat.add_comm i R, List.getElem?_eq_getElem (by omega)]; rfl
        · rw [if_neg (by rw [List.length_drop]; exact h2), List.length_drop]
          have e2 : (i + R) % E.length = i - (E.length - R) := by
            rw [Nat.mod_eq_sub_mod (by omega), Nat.mod_eq_of_lt (by omega)]; omega
          rw [List.getElem?_take_of_lt (by omega), List.getD_eq_getElem?_getD, e2, List.getElem?_eq_getElem (by omega)]; rfl
      · rw [List.getElem?_eq_none (by simp; omega), List.getElem?_eq_none (by simp; omega)]
    rw [e]
    exact List.perm_append_comm.trans (by rw [List.take_append_drop])
  · exact List.Perm.refl _
theorem runA_len (ss : List GS) (cs : List GC) (wi : Int) (E ls : List Ev) (hE : ∀ e ∈ E, OkEv e) (hn : E.length ≤ 18) (h : ls.Perm E) : (runA (planR ss cs wi) ls).2.length ≤ 9223372036854775807 := by
  have h1 := (runA_ok (planR ss cs wi) OkEv ls (fun e he => hE e (h.mem_iff.1 he))).2.2
  have h2 : ls.length ≤ 18 := by rw [h.length_eq]; exact hn
  have h3 : 4 ^ ls.length ≤ 4 ^ 18 := Nat.pow_le_pow_right (by omega) h2
  have h4 : 4 ^ 18 = 68719476736 := by decide
  omega
/-- All, at a plan that planned made. -/
theorem all_call {ss : List GS} {cs : List GC} {wi : Int} {pa : Option Addr} {n pc B : Nat} (hok : OKP ss cs wi) (hn : n = (planR ss cs wi).steps.length) (v : Value) (E : List Ev) (w0 W : World) (hpl : PlnAt w0 B (.slice pa n pc) (planR ss cs wi).steps) (hB : B ≤ w0.heap.size) {b : Nat} (ho : w0.ownsRow b 37 4 v E.length (cellsOf encE E)) (hE : ∀ e ∈ E, OkEv e) (hn19 : E.length ≤ 19) (ht : Tab w0) (hg : 0 < w0.heap.size) (hb : Below w0.heap.size w0 W) :
    Calls Tryd.prog 14 #[.agg #[.slice pa n pc, .int .i64 wi], v] W fun en w' => ∃ v ls, en = .returned v ∧ ls.Perm E ∧ SortedE ls ∧ w'.ownsRow W.heap.size 9 1 v (runA (planR ss cs wi) ls).2.length ((runA (planR ss cs wi) ls).2.map strV) ∧ Below W.heap.size W w' := by
  subst hn
  have hbs := hb.size
  have ho2 := own_below ho hb
  exact runAll_any (planR ss cs wi) _ v E B W (planR_ok hok).1 (by have := (planR_ok hok).2; omega) (PlnAt.keep hpl fun a ha => hb.cell (Nat.lt_of_lt_of_le ha hB)) (by omega) (Sl.of_own ho2) (Lit.of_own ho2) hn19 hE (Tab.of_eq ht (hb.block _ hg)) (by omega)
def RotR (E : List Ev) (R : Nat) (w4 : World) (vb i : Value) (wr : World) : Prop := ∃ k, k ≤ E.length ∧ i = .int .i64 (k : Nat) ∧ wr.ownsRow w4.heap.size 37 4 vb k (cellsOf encE (rotK E R k)) ∧ Below w4.heap.size w4 wr
set_option maxRecDepth 100000 in
set_option maxHeartbeats 3200000 in
theorem turned_law (s : ByteArray) (v : Value) (l : List Ev) (by' : Int) (W : World) (hv : Evs W W.heap.size v l) (hf : ∀ x ∈ l, x.fits) (hby : -9223372036854775808 ≤ by' ∧ by' ≤ 9223372036854775807) (ht : Tab W) (hg : 0 < W.heap.size) :
    Calls Tryd.prog 3 #[.string s, v, .int .i64 by'] W fun e w' => e = .returned (.bool true) ∧ Below W.heap.size W w' := by
  obtain ⟨A, c, rfl⟩ := Sl.shape hv
  have HP := Lib.hid (planned_any s W)
  have HV := Lib.hid hv; have HF := Lib.hid hf; have HT := Lib.hid ht
  obtain ⟨hby0, hby1⟩ := hby
  clear hv hf ht
  go_enter Tryd.func3, Tryd.ntmps3
  go_wp2_with fail
  refine HP.out.mono ?_
  rintro e w1 ⟨hb1, pa, qa, n0, pc, qn, qc, wi, wj, ok, rfl, hok⟩
  obtain ⟨w2, hw2⟩ : ∃ w2, w2 = (w1.alloc (.cells #[.slice pa n0 pc, .int .i64 wi] 25)).alloc (.cells #[.slice qa qn qc, .int .i64 wj] 28) := ⟨_, rfl⟩
  have hb12 : Below w1.heap.size w1 w2 := by rw [hw2]; exact ((Below.refl _ _).alloc (Nat.le_refl _) _).alloc (by simp) _
  have hbW2 : Below W.heap.size W w2 := hb1.trans (hb12.mono hb1.size)
  have HB2 := Lib.hid (show w2.heap[w1.heap.size]? = some (.cells #[.slice pa n0 pc, .int .i64 wi] 25 (0, 0)) by rw [hw2]; exact heap_alloc (heap_new rfl))
  have hg2 : 0 < w2.heap.size := by have := hbW2.size; omega
  have HK2 := Lib.hid (wakes_any w2 (Tab.of_eq HT.out (hbW2.block _ hg)) hg2)
  have HBW2 := Lib.hid hbW2; have HB12 := Lib.hid hb12; have HW2 := Lib.hid hw2; have HOKK := Lib.hid hok
  obtain ⟨X, hX⟩ : ∃ X, w1.heap.size = X := ⟨_, rfl⟩
  rw [hX] at HB2
  have HX := Lib.hid hX
  clear hb1 hb12 hbW2 hw2 hok hX
  go_upto_region 2 with (fail)
  rw [← HW2.out, HX.out]
  go_wp2_with fail
  refine HK2.out.mono ?_
  rintro e w3 ⟨rfl, hb3⟩
  have HBW3 := Lib.hid (HBW2.out.trans (hb3.mono HBW2.out.size))
  have HB23 := Lib.hid hb3
  have hg3 : 0 < w3.heap.size := by have := hb3.size; omega
  have HK3 := Lib.hid (wakes_any w3 (Tab.of_eq HT.out (HBW3.out.block _ hg)) hg3)
  clear hb3
  cases ok with
  | false =>
    go_wp2_with fail
    refine HK3.out.mono ?_
    rintro e w4 ⟨rfl, hb4⟩
    have HB4 := Lib.hid (HBW3.out.trans (hb4.mono HBW3.out.size))
    clear hb4
    go_wp2_with fail
    go_ret
    exact ⟨rfl, HB4.out⟩
  | true =>
    obtain ⟨ss, cs, hokp, _, hn0, hpl, _⟩ := HOKK.out rfl
    have HOK := Lib.hid hokp; have HN0 := Lib.hid hn0
    have HPL3 := Lib.hid (show PlnAt w3 w1.heap.size (.slice pa n0 pc) (planR ss cs wi).steps from PlnAt.keep (PlnAt.keep hpl fun a ha => HB12.out.cell ha) fun a ha => HB23.out.cell (Nat.lt_of_lt_of_le ha HB12.out.size))
    have HB3X := Lib.hid ((HB23.out.block _ (heap_lt HB2.out)).trans HB2.out)
    have hz13 : w1.heap.size ≤ w3.heap.size := Nat.le_trans HB12.out.size HB23.out.size
    have HEV := Lib.hid (events_any (.slice A l.length c) l w3 ((Sl.below HV.out HBW3.out).more HBW3.out.size) HF.out)
    clear hokp hn0 hpl
    go_wp2_with fail
    refine HEV.out.mono ?_
    rintro e w4 ⟨va, vb, rfl, hoa, _, hb4⟩
    obtain ⟨n, hn⟩ : ∃ n, min l.length 8 = n := ⟨_, rfl⟩
    rw [hn] at hoa
    have hn8 : n ≤ 8 := by omega
    have hnl : n ≤ l.length := by omega
    obtain ⟨aa, ac, rfl⟩ := (Sl.of_own hoa).shape
    obtain ⟨E, hE⟩ : ∃ E, evsK l n = E := ⟨_, rfl⟩
    have hEl : E.length = n := by rw [← hE, evsK_len]
    have HEO := Lib.hid (show ∀ e ∈ E, OkEv e by rw [← hE]; exact evsK_ok l n (by omega))
    have HED := Lib.hid (show DistE E by rw [← hE]; exact evsK_dist l n)
    rw [hE, ← hEl] at hoa
    rw [← hEl] at hn8 ⊢
    have HOA := Lib.hid hoa
    have HB4 := Lib.hid (HBW3.out.trans (hb4.mono HBW3.out.size))
    have HB34 := Lib.hid hb4
    have HPL4 := Lib.hid (PlnAt.keep HPL3.out fun a ha => hb4.cell (Nat.lt_of_lt_of_le ha hz13))
    have HB4X := Lib.hid ((hb4.block _ (heap_lt HB3X.out)).trans HB3X.out)
    have hz14 : w1.heap.size ≤ w4.heap.size := Nat.le_trans hz13 hb4.size
    obtain ⟨R, hR⟩ : ∃ R : Nat, ((max 0 by') % (E.length : Int)).toNat = R := ⟨_, rfl⟩
    have HR := Lib.hid hR
    clear hb4 hoa hE hEl hn hnl hR
    go_wp2_with fail
    go_loopw [12, 34] (fun vb i wr => RotR E R w4 vb i wr) (fun _ i _ => E.length - (intOf i).toNat)
    case atStart => exact ⟨0, Nat.zero_le _, rfl, World.ownsRow_nil _ _ _ _, Below.refl _ _⟩
    case round =>
      obtain ⟨k, hk, rfl, hob, hb⟩ := hrel
      obtain ⟨ba, bc, rfl⟩ := (Sl.of_own hob).shape
      by_cases hlt : k < E.length
      · have hki : (k : Int) < (E.length : Int) := by omega
        have hk0 : (0 : Int) ≤ (k : Int) := by omega
        have hn0' : (E.length : Int) ≠ 0 := by omega
        have hm0 : 0 ≤ (max 0 by') := by omega
        have hRm : (max 0 by') % (E.length : Int) = (R : Int) := by
          rw [← HR.out, Int.toNat_of_nonneg (Int.emod_nonneg _ hn0')]
        have hRl : R < E.length := by
          have := Int.emod_lt_of_pos (max 0 by') (show 0 < (E.length : Int) by omega)
          omega
        obtain ⟨J, hJ⟩ : ∃ J, (k + R) % E.length = J := ⟨_, rfl⟩
        have hJl : J < E.length := by rw [← hJ]; exact Nat.mod_lt _ (by omega)
        have hJi : ((k : Int) + (R : Int)) % (E.length : Int) = (J : Int) := by rw [← hJ]; push_cast; rfl
        have HSU := Lib.hid (rotK_succ E R k J hJ hJl)
        obtain ⟨g, c', hg', x0, x1, x2, x3⟩ := evs_at (own_below HOA.out hb) rfl hJl
        obtain ⟨rfl, rfl⟩ : aa = some ⟨g, 0, none⟩ ∧ ac = c' := by simpa using hg'
        obtain ⟨e, he⟩ : ∃ e, E[J] = e := ⟨_, rfl⟩
        rw [he] at x0 x1 x2 x3 HSU
        have hJi0 : (0 : Int) ≤ (J : Int) := by omega
        have hJi1 : (J : Int) < (E.length : Int) := by omega
        have HOB := Lib.hid hob; have HB := Lib.hid hb
        have hb44 := hb.size
        obtain ⟨i0, hi, hz0, hz1, hz2⟩ := info_parts infoEv
        have HO4 := Lib.hid (Reg.own_new (w := wr) (b := 0) (e := 37) (sz := 4) (n := 1) (cs := (encE e).toArray) rfl (Nat.zero_le _) rfl (by decide))
        have HNB := Lib.hid (show Below wr.heap.size wr (wr.alloc (.cells (encE e).toArray 37)) from (Below.refl _ _).alloc (Nat.le_refl _) _)
        clear hob hb hg' he hJ
        go_wp2_with (at_builtin; refine Reg.wpList_append_src _ rfl (.tmp 37) (.tmp 51) 32 rfl w4.heap.size 0 37 i0 _ 4 32 Tryd.underlying32 hi hz0 hz1 hz2 rfl (by decide) _ _ k 1 _ _ rfl (HOB.out.alloc _) rfl HO4.out ?d1 ?d2 ?d3 ?d4 ?_)
        case d1 => exact encE_one e
        case d2 => unfold maxLen; omega
        case d3 => omega
        case d4 => omega
        intro v' w5 ho5 hg5 _
        have HRL := Lib.hid (show RotR E R w4 v' (.int .i64 ((k : Int) + 1)) w5 from ⟨k + 1, by omega, by go_num, by rw [HSU.out, cellsOf_snoc]; exact ho5, below_grown (HB.out.trans (HNB.out.mono hb44)) (HOB.out.alloc _) hg5 (by simp; omega) (Nat.le_refl _)⟩)
        clear ho5 hg5 hi hz0 hz1 hz2 x0 x1 x2 x3 hJi hRm
        go_wp2_with fail
        go_roundw
        case rel => exact HRL.out
        case measure => simp [intOf]; omega
      · obtain rfl : k = E.length := by omega
        obtain ⟨wq, rfl⟩ : ∃ w' : World, w' = wr := ⟨_, rfl⟩
        have hRE : R < E.length ∨ E = [] := by
          by_cases h0 : E.length = 0
          · exact .inr (List.eq_nil_of_length_eq_zero h0)
          · left
            have h1 := Int.emod_lt_of_pos (max 0 by') (show 0 < (E.length : Int) by omega)
            have h2 := Int.emod_nonneg (max 0 by') (show (E.length : Int) ≠ 0 by omega)
            have := HR.out
            omega
        have HPM := Lib.hid (rotK_perm E R hRE)
        have hrl : (rotK E R E.length).length = E.length := by simp [rotK]
        have HBq := Lib.hid hb
        have HBX := Lib.hid ((hb.block _ (heap_lt HB4X.out)).trans HB4X.out)
        have hgq : 0 < wq.heap.size := by have := hb.size; have := HB34.out.size; omega
        have HTq := Lib.hid (show Tab wq from Tab.of_eq HT.out ((HB4.out.trans (hb.mono HB4.out.size)).block _ hg))
        have HPLq := Lib.hid (PlnAt.keep HPL4.out fun a ha => hb.cell (Nat.lt_of_lt_of_le ha hz14))
        have hzq : w1.heap.size ≤ wq.heap.size := Nat.le_trans hz14 hb.size
        have HCA := Lib.hid (fun w1' (hbb : Below wq.heap.size wq w1') => all_call HOK.out HN0.out (.slice aa E.length ac) E wq w1' HPLq.out hzq (own_below HOA.out hb) HEO.out (by omega) HTq.out hgq hbb)
        have HCB := Lib.hid (fun w1' (hbb : Below wq.heap.size wq w1') => all_call HOK.out HN0.out (.slice ba E.length bc) (rotK E R E.length) wq w1' HPLq.out hzq (by rw [hrl]; exact hob) (fun e he => HEO.out e (HPM.out.mem_iff.1 he)) (by omega) HTq.out hgq hbb)
        have HEQ := Lib.hid (fun (ls1 ls2 : List Ev) (h1 : ls1.Perm E) (s1 : SortedE ls1) (h2 : ls2.Perm (rotK E R E.length)) (s2 : SortedE ls2) => (show (runA (planR ss cs wi) ls1).2 = (runA (planR ss cs wi) ls2).2 by
          rw [sort_eq h1 (h2.trans HPM.out) s1 s2 HED.out]))
        have HLN := Lib.hid (fun (ls : List Ev) (h : ls.Perm E) => runA_len ss cs wi E ls HEO.out (by omega) h)
        have HLN2 := Lib.hid (fun (ls : List Ev) (h : ls.Perm (rotK E R E.length)) => runA_len ss cs wi E ls HEO.out (by omega) (h.trans HPM.out))
        clear hob hb hRE hrl
        go_wp2_with fail
        refine Reg.stand_order (W := wq) (h := 7) (t := 1)
          [⟨0, 54, [], 99, [], none, fun v _ => v = .agg #[.slice pa n0 pc, .int .i64 wi]⟩,
           ⟨1, 55, [], 99, [], none, fun v _ => v = .slice aa E.length ac⟩,
           ⟨2, 56, [9], 99, [], none, fun v w' => ∃ ls, ls.Perm (E) ∧ SortedE ls ∧ w'.ownsRow wq.heap.size 9 1 v (runA (planR ss cs wi) ls).2.length ((runA (planR ss cs wi) ls).2.map strV)⟩,
           ⟨3, 57, [], 99, [], none, fun v _ => v = .agg #[.slice pa n0 pc, .int .i64 wi]⟩,
           ⟨4, 58, [], 99, [], none, fun v _ => v = .slice ba E.length bc⟩,
           ⟨5, 59, [9], 99, [], none, fun v w' => ∃ ls, ls.Perm (rotK E R E.length) ∧ SortedE ls ∧ w'.ownsRow wq.heap.size 9 1 v (runA (planR ss cs wi) ls).2.length ((runA (planR ss cs wi) ls).2.map strV)⟩,
           ⟨6, 60, [], 99, [], none, fun v _ => v = .bool true⟩]
          []
          (by kernel_rfl) rfl (by kernel_rfl) (by kernel_rfl) (by kernel_rfl) (show [0, 1, 2, 3, 4, 5, 6].Nodup by decide) (show ∀ i, i < 7 → i ∈ [0, 1, 2, 3, 4, 5, 6] by decide) ?_ (show [54, 55, 56, 57, 58, 59, 60].Nodup by decide) (show ∀ s ∈ [54, 55, 56, 57, 58, 59, 60], s < 61 by decide) (by kernel_rfl) ?_ ?_ (Below.refl _ _) ?_ ?_ ?_
        · intro f hf
          simp only [List.mem_cons, List.not_mem_nil, or_false] at hf
          rcases hf with rfl | rfl | rfl | rfl | rfl | rfl | rfl <;> simp
        · intro f hf v w1 w2 hk hF
          simp only [List.mem_cons, List.not_mem_nil, or_false] at hf
          rcases hf with rfl | rfl | rfl | rfl | rfl | rfl | rfl
          · exact hF
          · exact hF
          · obtain ⟨ls, h1, h2, h3⟩ := hF
            exact ⟨ls, h1, h2, (hk 9 (by simp)).1 _ _ _ _ _ h3⟩
          · exact hF
          · exact hF
          · obtain ⟨ls, h1, h2, h3⟩ := hF
            exact ⟨ls, h1, h2, (hk 9 (by simp)).1 _ _ _ _ _ h3⟩
          · exact hF
        · intro f hf; cases hf
        · intro f hf; cases hf
        · intro f hf a w1 hs hg' hst
          have tbox : a.eval (.tmp 7) = .pointer (some ⟨X, 0, none⟩) := Reg.eval_tmp ((hs.out 7 (show 7 ∉ [54, 55, 56, 57, 58, 59, 60] by decide)).trans rfl)
          have ta : a.eval (.tmp 10) = .slice aa E.length ac := Reg.eval_tmp ((hs.out 10 (show 10 ∉ [54, 55, 56, 57, 58, 59, 60] by decide)).trans rfl)
          have tb : a.eval (.tmp 12) = .slice ba E.length bc := Reg.eval_tmp ((hs.out 12 (show 12 ∉ [54, 55, 56, 57, 58, 59, 60] by decide)).trans rfl)
          simp only [List.mem_cons, List.not_mem_nil, or_false] at hf
          rcases hf with rfl | rfl | rfl | rfl | rfl | rfl | rfl
          · exact Reg.step_val rfl rfl rfl (Reg.run_load tbox (load_plan ((hs.below.block _ (heap_lt HBX.out)).trans HBX.out))) rfl hs.below (fun e => Reg.Keeps.refl e _)
          · exact Reg.step_val rfl rfl rfl (Reg.run_move ta) rfl hs.below (fun e => Reg.Keeps.refl e _)
          · obtain ⟨v1, hv1, rfl⟩ : ∃ v, a.tmps[54]? = some v ∧ v = .agg #[.slice pa n0 pc, .int .i64 wi] := hg' _ (Reg.at_fact 0 rfl) (by kernel_rfl) (by simp [Reg.okTil])
            obtain ⟨v2, hv2, rfl⟩ : ∃ v, a.tmps[55]? = some v ∧ v = .slice aa E.length ac := hg' _ (Reg.at_fact 1 rfl) (by kernel_rfl) (by simp [Reg.okTil])
            have u1 := Reg.eval_tmp hv1; have u2 := Reg.eval_tmp hv2
            refine Reg.step_call (f := 14) (args := #[.agg #[.slice pa n0 pc, .int .i64 wi], .slice aa E.length ac]) rfl rfl rfl (by go_simp) hs.below ((HCA.out w1 hs.below).mono ?_)
            rintro en w2 ⟨v', ls, rfl, h1, h2, h3, h4⟩
            exact ⟨v', rfl, ⟨ls, h1, h2, Joins.ownsRow_le h3 hs.below.size⟩, h4⟩
          · exact Reg.step_val rfl rfl rfl (Reg.run_load tbox (load_plan ((hs.below.block _ (heap_lt HBX.out)).trans HBX.out))) rfl hs.below (fun e => Reg.Keeps.refl e _)
          · exact Reg.step_val rfl rfl rfl (Reg.run_move tb) rfl hs.below (fun e => Reg.Keeps.refl e _)
          · obtain ⟨v1, hv1, rfl⟩ : ∃ v, a.tmps[57]? = some v ∧ v = .agg #[.slice pa n0 pc, .int .i64 wi] := hg' _ (Reg.at_fact 3 rfl) (by kernel_rfl) (by simp [Reg.okTil])
            obtain ⟨v2, hv2, rfl⟩ : ∃ v, a.tmps[58]? = some v ∧ v = .slice ba E.length bc := hg' _ (Reg.at_fact 4 rfl) (by kernel_rfl) (by simp [Reg.okTil])
            have u1 := Reg.eval_tmp hv1; have u2 := Reg.eval_tmp hv2
            refine Reg.step_call (f := 14) (args := #[.agg #[.slice pa n0 pc, .int .i64 wi], .slice ba E.length bc]) rfl rfl rfl (by go_simp) hs.below ((HCB.out w1 hs.below).mono ?_)
            rintro en w2 ⟨v', ls, rfl, h1, h2, h3, h4⟩
            exact ⟨v', rfl, ⟨ls, h1, h2, Joins.ownsRow_le h3 hs.below.size⟩, h4⟩
          · obtain ⟨v1, hv1, ls1, hp1, hs1, ho1⟩ : ∃ v, a.tmps[56]? = some v ∧ ∃ ls, ls.Perm (E) ∧ SortedE ls ∧ w1.ownsRow wq.heap.size 9 1 v (runA (planR ss cs wi) ls).2.length ((runA (planR ss cs wi) ls).2.map strV) := hg' _ (Reg.at_fact 2 rfl) (by kernel_rfl) (by simp [Reg.okTil])
            obtain ⟨v2, hv2, ls2, hp2, hs2, ho2⟩ : ∃ v, a.tmps[59]? = some v ∧ ∃ ls, ls.Perm (rotK E R E.length) ∧ SortedE ls ∧ w1.ownsRow wq.heap.size 9 1 v (runA (planR ss cs wi) ls).2.length ((runA (planR ss cs wi) ls).2.map strV) := hg' _ (Reg.at_fact 5 rfl) (by kernel_rfl) (by simp [Reg.okTil])
            have HQ := HEQ.out ls1 ls2 hp1 hs1 hp2 hs2
            obtain ⟨x1, y1, rfl⟩ := (Sl.of_own ho1).shape
            obtain ⟨x2, y2, rfl⟩ := (Sl.of_own ho2).shape
            have u1 := Reg.eval_tmp hv1; have u2 := Reg.eval_tmp hv2
            have hl1 := HLN.out ls1 hp1; have hl2 := HLN2.out ls2 hp2
            refine Reg.step_call (f := 13) (args := #[.slice x1 (runA (planR ss cs wi) ls1).2.length y1, .slice x2 (runA (planR ss cs wi) ls2).2.length y2]) rfl rfl rfl (by go_simp) hs.below ((equal_any _ _ _ _ w1 (Sl.of_own ho1) (Sl.of_own ho2) (by omega) (by omega)).mono ?_)
            rintro en w2 ⟨rfl, hg⟩
            exact ⟨_, rfl, by rw [decide_eq_true HQ], hg.below⟩
        · intro vals w1 hF hfx hb1
          have e60 : vals 60 = .bool true := hF _ (Reg.at_fact 6 rfl) (show (7 + 1 : Nat) ≤ 99 by decide)
          simp only [List.map_cons, List.map_nil, e60]
          generalize vals 54 = q54
          generalize vals 55 = q55
          generalize vals 56 = q56
          generalize vals 57 = q57
          generalize vals 58 = q58
          generalize vals 59 = q59
          have HB1 := Lib.hid hb1
          clear hF hfx e60 hb1
          unfold Reg.puts Reg.puts Reg.puts Reg.puts Reg.puts Reg.puts Reg.puts Reg.puts
          go_wp2_with fail
          go_ret
          exact ⟨rfl, HB4.out.trans ((HBq.out.trans (HB1.out.mono HBq.out.size)).mono HB4.out.size)⟩
end Go.Proofs.YtcojnojdgigmdaaDoor.WR
