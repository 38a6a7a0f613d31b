/- The walk of oxbowlaw21.RunTwice: no match is told twice; what is found among the first events is a beginning of what is found among all. -/
import Derived.Test.YtcojnojdgigmdaaDoorLawTurn
import Derived.Test.YtcojnojdgigmdaaDoorPTwice
import Derived.Maps.OwnOps
import Derived.Maps.OwnSet
namespace Go.Proofs.YtcojnojdgigmdaaDoor.WR
open Go Go.RowKit Go.Sort Go.WideMaps Go.Maps Go.Proofs.YtcojnojdgigmdaaDoor Go.Proofs.YtcojnojdgigmdaaDoor.PL Go.Proofs.YtcojnojdgigmdaaDoor.PR Go.Proofs.YtcojnojdgigmdaaDoor.Mem Go.Proofs.YtcojnojdgigmdaaDoor.WS Go.Proofs.YtcojnojdgigmdaaDoor.WL

theorem str_law : Keyed Tryd.prog 9 := string_keyed Tryd.underlying9
theorem zero_int (w : World) : (zeroValue 3).run Tryd.prog w = .ok (.int .i64 0) w := by kernel_rfl
theorem key_str {m : List UInt8} (h : m.length ≤ maxLen) : keyOf Tryd.prog 9 (.string ⟨m.toArray⟩) = some (.string m) := by
  have h2 := keyOf_string_mk (P := Tryd.prog) Tryd.underlying9 (s := ⟨m.toArray⟩) (by show m.toArray.size ≤ maxLen; rw [List.size_toArray]; exact h)
  rw [h2]
/-- All, at a plan that planned made; the events lie anywhere. -/
theorem all_callS {ss : List GS} {cs : List GC} {wi : Int} {pa : Option Addr} {n pc B : Nat} (hok : OKP ss cs wi) (hn : n = (planR ss cs wi).steps.length) (v : Value) (E : List Ev) (w0 W : World) (hpl : PlnAt w0 B (.slice pa n pc) (planR ss cs wi).steps) (hB : B ≤ w0.heap.size) (ho : Evs w0 w0.heap.size v E) (hlit : Lit v) (hE : ∀ e ∈ E, OkEv e) (hn19 : E.length ≤ 19) (ht : Tab w0) (hg : 0 < w0.heap.size) (hb : Below w0.heap.size w0 W) :
    Calls Tryd.prog 14 #[.agg #[.slice pa n pc, .int .i64 wi], v] W fun en w' => ∃ v ls, en = .returned v ∧ ls.Perm E ∧ SortedE ls ∧ w'.ownsRow W.heap.size 9 1 v (runA (planR ss cs wi) ls).2.length ((runA (planR ss cs wi) ls).2.map strV) ∧ Below W.heap.size W w' := by
  subst hn
  have hbs := hb.size
  exact runAll_any (planR ss cs wi) _ v E B W (planR_ok hok).1 (by have := (planR_ok hok).2; omega) (PlnAt.keep hpl fun a ha => hb.cell (Nat.lt_of_lt_of_le ha hB)) (by omega) ((Sl.below ho hb).more hbs) hlit hn19 hE (Tab.of_eq ht (hb.block _ hg)) (by omega)
/-- The first of a slice. -/
theorem Sl.first {w : World} {B size n c m : Nat} {A : Option Addr} {xs : List Value} (h : Sl w B size (.slice A n c) n xs) (hm : m ≤ n) : Sl w B size (.slice A m c) m (xs.take (m * size)) := by
  obtain ⟨h1, A', c', hv, hc, hr⟩ := h
  obtain ⟨rfl, rfl⟩ : A = A' ∧ c = c' := by simpa using hv
  refine ⟨?_, A, c, rfl, by omega, fun h0 => ?_⟩
  · rw [List.length_take, h1]
    exact Nat.min_eq_left (Nat.mul_le_mul_right _ hm)
  · obtain ⟨b, o, e, hb, hx⟩ := hr (by omega)
    refine ⟨b, o, e, hb, fun j u hu => ?_⟩
    rw [List.getElem?_take] at hu
    split at hu
    · exact hx j u hu
    · cases hu
theorem Lit.first {n m c : Nat} {A : Option Addr} (h : Lit (.slice A n c)) : Lit (.slice A m c) := by
  intro ad k c' hv
  have : A = ad := by injection hv
  exact h ad n c (by rw [this])
theorem cells_take (l : List Ev) : ∀ k, (cellsOf encE l).take (k * 4) = cellsOf encE (l.take k) := by
  induction l with
  | nil => intro k; simp [cellsOf]
  | cons e l ih =>
    intro k
    cases k with
    | zero => simp [cellsOf]
    | succ k =>
      have h := ih k
      unfold cellsOf at h ⊢
      rw [List.take_succ_cons, List.flatMap_cons, List.flatMap_cons, List.take_append, encE_len, show (k + 1) * 4 - 4 = k * 4 by omega, h, List.take_of_length_le (by rw [encE_len]; omega)]
theorem len_le_sum : ∀ {l : List Nat}, (∀ c ∈ l, 1 ≤ c) → l.length ≤ l.sum
  | [], _ => Nat.zero_le _
  | c :: l, h => by
    have h1 := h c (by simp)
    have h2 := len_le_sum (l := l) fun x hx => h x (List.mem_cons_of_mem _ hx)
    rw [List.length_cons, List.sum_cons]
    omega
/-- Which texts were met, under way. -/
def MetR (T : List (List UInt8)) (wq : World) (i : Value) (wr : World) : Prop := ∃ k, ∃ D : DataW Unit, k ≤ T.length ∧ i = .int .i64 (k : Nat) ∧ wr.ownsMap Tryd.prog 9 (plainElem Tryd.prog 3) wq.heap.size k D ∧ Below wq.heap.size wq wr ∧ ∀ m : List UInt8, D.atKey (.string m) (.lit (.int .i64 0)) = .lit (.int .i64 (if m ∈ T.take k then 1 else 0))
theorem met_zero {T : List (List UInt8)} {k : Nat} (hn : T.Nodup) (hk : k < T.length) : T[k] ∉ T.take k := by
  intro h
  have e : T.take (k + 1) = T.take k ++ [T[k]] := List.take_succ_eq_append_getElem hk
  have h2 := hn.sublist (List.take_sublist (k + 1) T)
  rw [e, List.nodup_append] at h2
  exact h2.2.2 _ h _ (by simp) rfl
set_option maxRecDepth 100000 in
set_option maxHeartbeats 3200000 in
theorem twice_law (s : ByteArray) (v : Value) (l : List Ev) (by' : Int) (W : World) (hv : Evs W W.heap.size v l) (hf : ∀ x ∈ l, x.fits) (hby : -9223372036854775808 ≤ by' ∧ by' ≤ 9223372036854775807) (ht : Tab W) (hg : 0 < W.heap.size) :
    Calls Tryd.prog 6 #[.string s, v, .int .i64 by'] W fun e w' => e = .returned (.bool true) ∧ Below W.heap.size W w' := by
  obtain ⟨A, c, rfl⟩ := Sl.shape hv
  have HP := Lib.hid (planned_any s W)
  have HV := Lib.hid hv; have HF := Lib.hid hf; have HT := Lib.hid ht
  obtain ⟨hby0, hby1⟩ := hby
  clear hv hf ht
  have hmm := @run_makeMap Tryd.prog
  go_enter Tryd.func6, Tryd.ntmps6
  go_wp2_with fail
  refine HP.out.mono ?_
  rintro e w1 ⟨hb1, pa, qa, n0, pc, qn, qc, wi, wj, ok, rfl, hok⟩
  obtain ⟨w2, hw2⟩ : ∃ w2, w2 = (w1.alloc (.cells #[.slice pa n0 pc, .int .i64 wi] 25)).alloc (.cells #[.slice qa qn qc, .int .i64 wj] 28) := ⟨_, rfl⟩
  have hb12 : Below w1.heap.size w1 w2 := by rw [hw2]; exact ((Below.refl _ _).alloc (Nat.le_refl _) _).alloc (by simp) _
  have hbW2 : Below W.heap.size W w2 := hb1.trans (hb12.mono hb1.size)
  have HB2 := Lib.hid (show w2.heap[w1.heap.size]? = some (.cells #[.slice pa n0 pc, .int .i64 wi] 25 (0, 0)) by rw [hw2]; exact heap_alloc (heap_new rfl))
  have hg2 : 0 < w2.heap.size := by have := hbW2.size; omega
  have HK2 := Lib.hid (wakes_any w2 (Tab.of_eq HT.out (hbW2.block _ hg)) hg2)
  have HBW2 := Lib.hid hbW2; have HB12 := Lib.hid hb12; have HW2 := Lib.hid hw2; have HOKK := Lib.hid hok
  obtain ⟨X, hX⟩ : ∃ X, w1.heap.size = X := ⟨_, rfl⟩
  rw [hX] at HB2
  have HX := Lib.hid hX
  clear hb1 hb12 hbW2 hw2 hok hX
  go_upto_region 2 with (fail)
  rw [← HW2.out, HX.out]
  go_wp2_with fail
  refine HK2.out.mono ?_
  rintro e w3 ⟨rfl, hb3⟩
  have HBW3 := Lib.hid (HBW2.out.trans (hb3.mono HBW2.out.size))
  have HB23 := Lib.hid hb3
  have hg3 : 0 < w3.heap.size := by have := hb3.size; omega
  have HK3 := Lib.hid (wakes_any w3 (Tab.of_eq HT.out (HBW3.out.block _ hg)) hg3)
  clear hb3
  cases ok with
  | false =>
    go_wp2_with fail
    refine HK3.out.mono ?_
    rintro e w4 ⟨rfl, hb4⟩
    have HB4 := Lib.hid (HBW3.out.trans (hb4.mono HBW3.out.size))
    clear hb4
    go_wp2_with fail
    go_ret
    exact ⟨rfl, HB4.out⟩
  | true =>
    obtain ⟨ss, cs, hokp, _, hn0, hpl, _⟩ := HOKK.out rfl
    have HOK := Lib.hid hokp; have HN0 := Lib.hid hn0
    have HPL3 := Lib.hid (show PlnAt w3 w1.heap.size (.slice pa n0 pc) (planR ss cs wi).steps from PlnAt.keep (PlnAt.keep hpl fun a ha => HB12.out.cell ha) fun a ha => HB23.out.cell (Nat.lt_of_lt_of_le ha HB12.out.size))
    have HB3X := Lib.hid ((HB23.out.block _ (heap_lt HB2.out)).trans HB2.out)
    have hz13 : w1.heap.size ≤ w3.heap.size := Nat.le_trans HB12.out.size HB23.out.size
    have HEV := Lib.hid (events_any (.slice A l.length c) l w3 ((Sl.below HV.out HBW3.out).more HBW3.out.size) HF.out)
    clear hokp hn0 hpl
    go_wp2_with fail
    refine HEV.out.mono ?_
    rintro e w4 ⟨va, vb, rfl, hoa, _, hb4⟩
    obtain ⟨n, hn⟩ : ∃ n, min l.length 8 = n := ⟨_, rfl⟩
    rw [hn] at hoa
    have hn8 : n ≤ 8 := by omega
    have hnl : n ≤ l.length := by omega
    obtain ⟨aa, ac, rfl⟩ := (Sl.of_own hoa).shape
    obtain ⟨E, hE⟩ : ∃ E, evsK l n = E := ⟨_, rfl⟩
    have hEl : E.length = n := by rw [← hE, evsK_len]
    have HEO := Lib.hid (show ∀ e ∈ E, OkEv e by rw [← hE]; exact evsK_ok l n (by omega))
    have HED := Lib.hid (show DistE E by rw [← hE]; exact evsK_dist l n)
    rw [hE, ← hEl] at hoa
    rw [← hEl] at hn8 ⊢
    have HOA := Lib.hid hoa
    have HB4 := Lib.hid (HBW3.out.trans (hb4.mono HBW3.out.size))
    have HB34 := Lib.hid hb4
    have HPL4 := Lib.hid (PlnAt.keep HPL3.out fun a ha => hb4.cell (Nat.lt_of_lt_of_le ha hz13))
    have HB4X := Lib.hid ((hb4.block _ (heap_lt HB3X.out)).trans HB3X.out)
    have hz14 : w1.heap.size ≤ w4.heap.size := Nat.le_trans hz13 hb4.size
    clear hb4 hoa hE hEl hn hnl
    have hg4 : 0 < w4.heap.size := by have := HB34.out.size; omega
    have HT4 := Lib.hid (show Tab w4 from Tab.of_eq HT.out (HB4.out.block _ hg))
    have HSO := Lib.hid (sort_any (.slice aa E.length ac) E w4 w4.heap.size (Sl.of_own HOA.out) (Lit.of_own HOA.out) (by omega))
    go_wp2_with fail
    refine HSO.out.mono ?_
    rintro e w5 ⟨sv, ls, rfl, hp, hs, ho, hb5⟩
    have hll : ls.length = E.length := hp.length_eq
    rw [← hll] at ho
    obtain ⟨sa, sc, rfl⟩ := (Sl.of_own ho).shape
    have hls8 : ls.length ≤ 8 := by omega
    have HLO := Lib.hid (fun (e : Ev) (he : e ∈ ls) => HEO.out e (hp.mem_iff.1 he))
    have HLD := Lib.hid (HED.out.perm hp)
    have HSR := Lib.hid hs
    have HS5 := Lib.hid ho; have HB5 := Lib.hid hb5
    have HB5X := Lib.hid ((hb5.block _ (heap_lt HB4X.out)).trans HB4X.out)
    have HPL5 := Lib.hid (PlnAt.keep HPL4.out fun a ha => hb5.cell (Nat.lt_of_lt_of_le ha hz14))
    have hz15 : w1.heap.size ≤ w5.heap.size := Nat.le_trans hz14 hb5.size
    have HT5 := Lib.hid (show Tab w5 from Tab.of_eq HT4.out (hb5.block _ hg4))
    have hg5 : 0 < w5.heap.size := by have := hb5.size; omega
    have HAL := Lib.hid (all_call HOK.out HN0.out (.slice sa ls.length sc) ls w5 w5 HPL5.out hz15 HS5.out HLO.out (by omega) HT5.out hg5 (Below.refl _ _))
    have p0 : w5.cell? ⟨X, 0, none⟩ = some (.slice pa n0 pc) := (Lib.cell_of_heap HB5X.out 0).trans rfl
    have p1 : w5.cell? ⟨X, 1, none⟩ = some (.int .i64 wi) := (Lib.cell_of_heap HB5X.out 1).trans rfl
    clear hp hs ho hb5 hll
    go_wp2_with fail
    refine HAL.out.mono ?_
    rintro e w6 ⟨tv, ls1, rfl, hp1, hs1, ho1, hb6⟩
    have e1 : ls1 = ls := sort_eq hp1 (List.Perm.refl _) hs1 HSR.out HLD.out
    rw [e1] at ho1
    have hT0 := runA_len ss cs wi ls ls HLO.out (by omega) (List.Perm.refl _)
    have HND := Lib.hid (run_once (planR ss cs wi) ls HLD.out)
    have HTX := Lib.hid (run_txt (planR ss cs wi) ls HLD.out)
    obtain ⟨kk, hkk⟩ : ∃ kk : Nat, ((max 0 by') % ((ls.length : Int) + 1)).toNat = kk := ⟨_, rfl⟩
    have hm0 : 0 ≤ max 0 by' := by omega
    have hmk : (max 0 by') % ((ls.length : Int) + 1) = (kk : Int) := by rw [← hkk, Int.toNat_of_nonneg (Int.emod_nonneg _ (by omega))]
    have hkl : kk ≤ ls.length := by
      have := Int.emod_lt_of_pos (max 0 by') (show 0 < (ls.length : Int) + 1 by omega)
      omega
    obtain ⟨tt, ht9⟩ := run_first (planR ss cs wi) ls kk
    obtain ⟨Tt, hT⟩ : ∃ T, (runA (planR ss cs wi) ls).2 = T := ⟨_, rfl⟩
    rw [hT] at ho1 hT0 HND HTX ht9
    have HTT := Lib.hid ht9
    obtain ⟨ta, tc, rfl⟩ := (Sl.of_own ho1).shape
    have hlc : ls.length ≤ sc := by
      obtain ⟨_, A', c'', hA, hle, _⟩ := Sl.of_own HS5.out
      have : sc = c'' := by simpa using congrArg (fun v => match v with | .slice _ _ c => c | _ => 0) hA
      omega
    have htc : Tt.length ≤ tc := by
      obtain ⟨_, A', c'', hA, hle, _⟩ := Sl.of_own ho1
      have : tc = c'' := by simpa using congrArg (fun v => match v with | .slice _ _ c => c | _ => 0) hA
      omega
    have HO1 := Lib.hid ho1; have HB6 := Lib.hid hb6
    have HB6X := Lib.hid ((hb6.block _ (heap_lt HB5X.out)).trans HB5X.out)
    have HPL6 := Lib.hid (PlnAt.keep HPL5.out fun a ha => hb6.cell (Nat.lt_of_lt_of_le ha hz15))
    have hz16 : w1.heap.size ≤ w6.heap.size := Nat.le_trans hz15 hb6.size
    have HT6 := Lib.hid (show Tab w6 from Tab.of_eq HT5.out (hb6.block _ hg5))
    have hg6 : 0 < w6.heap.size := by have := hb6.size; omega
    have HEF := Lib.hid (show Evs w6 w6.heap.size (.slice sa kk sc) (ls.take kk) by
      have h1 := Sl.first (m := kk) (Sl.of_own (own_below HS5.out hb6)) hkl
      rw [cells_take] at h1
      have h2 : (ls.take kk).length = kk := by rw [List.length_take]; omega
      unfold Evs
      rw [h2]
      exact h1)
    have HAS := Lib.hid (fun w1' (hbb : Below w6.heap.size w6 w1') => all_callS HOK.out HN0.out (.slice sa kk sc) (ls.take kk) w6 w1' HPL6.out hz16 HEF.out (Lit.first (n := ls.length) (Lit.of_own HS5.out)) (fun e he => HLO.out e (List.mem_of_mem_take he)) (by rw [List.length_take]; omega) HT6.out hg6 hbb)
    have HMK := Lib.hid (show (max 0 by').tmod ((ls.length : Int) + 1) = (kk : Int) by rw [Int.tmod_eq_emod_of_nonneg hm0]; exact hmk)
    have HW1 := Lib.hid (show IntKind.i64.wrap ((ls.length : Int) + 1) = (ls.length : Int) + 1 from IntWalk.i64_in _ (by omega))
    have HWK := Lib.hid (show IntKind.i64.wrap (kk : Int) = (kk : Int) from IntWalk.i64_in _ (by omega))
    have hks : (kk : Int) ≤ (sc : Int) := by omega
    clear hp1 hs1 ho1 hb6 e1 hT hkk hmk ht9 p0 p1 ls1
    go_wp2_with fail
    refine Reg.stand_order (W := w6) (h := 10) (t := 1)
      [⟨0, 41, [], 99, [], none, fun v _ => v = .agg #[.slice pa n0 pc, .int .i64 wi]⟩,
       ⟨1, 42, [], 99, [], none, fun v _ => v = .slice sa ls.length sc⟩,
       ⟨2, 43, [], 99, [], none, fun v _ => v = .int .i64 by'⟩,
       ⟨3, 44, [], 99, [], none, fun v _ => v = .int .i64 (max 0 by')⟩,
       ⟨4, 45, [], 99, [], none, fun v _ => v = .slice sa ls.length sc⟩,
       ⟨5, 46, [], 99, [], none, fun v _ => v = .int .i64 (ls.length : Int)⟩,
       ⟨6, 47, [], 99, [], none, fun v _ => v = .int .i64 ((ls.length : Int) + 1)⟩,
       ⟨7, 48, [], 99, [], none, fun v _ => v = .int .i64 (kk : Int)⟩,
       ⟨8, 49, [], 99, [], none, fun v _ => v = .slice sa kk sc⟩,
       ⟨9, 50, [9], 99, [], none, fun v w' => ∃ ls', ls'.Perm (ls.take kk) ∧ SortedE ls' ∧ w'.ownsRow w6.heap.size 9 1 v (runA (planR ss cs wi) ls').2.length ((runA (planR ss cs wi) ls').2.map strV)⟩]
      []
      (by kernel_rfl) rfl (by kernel_rfl) (by kernel_rfl) (by kernel_rfl) (show [0, 1, 2, 3, 4, 5, 6, 7, 8, 9].Nodup by decide) (show ∀ i, i < 10 → i ∈ [0, 1, 2, 3, 4, 5, 6, 7, 8, 9] by decide) ?_ (show [41, 42, 43, 44, 45, 46, 47, 48, 49, 50].Nodup by decide) (show ∀ s ∈ [41, 42, 43, 44, 45, 46, 47, 48, 49, 50], s < 80 by decide) (by kernel_rfl) ?_ ?_ (Below.refl _ _) ?_ ?_ ?_
    · intro f hf
      simp only [List.mem_cons, List.not_mem_nil, or_false] at hf
      rcases hf with rfl | rfl | rfl | rfl | rfl | rfl | rfl | rfl | rfl | rfl <;> simp
    · intro f hf v w1 w2 hk hF
      simp only [List.mem_cons, List.not_mem_nil, or_false] at hf
      rcases hf with rfl | rfl | rfl | rfl | rfl | rfl | rfl | rfl | rfl | rfl
      · exact hF
      · exact hF
      · exact hF
      · exact hF
      · exact hF
      · exact hF
      · exact hF
      · exact hF
      · exact hF
      · obtain ⟨ls', h1, h2, h3⟩ := hF
        exact ⟨ls', h1, h2, (hk 9 (by simp)).1 _ _ _ _ _ h3⟩
    · intro f hf; cases hf
    · intro f hf; cases hf
    · intro f hf a w1 hs hg' hst
      have t2 : a.eval (.tmp 2) = .int .i64 by' := Reg.eval_tmp ((hs.out 2 (show 2 ∉ [41, 42, 43, 44, 45, 46, 47, 48, 49, 50] by decide)).trans rfl)
      have t7 : a.eval (.tmp 7) = .pointer (some ⟨X, 0, none⟩) := Reg.eval_tmp ((hs.out 7 (show 7 ∉ [41, 42, 43, 44, 45, 46, 47, 48, 49, 50] by decide)).trans rfl)
      have t12 : a.eval (.tmp 12) = .slice sa ls.length sc := Reg.eval_tmp ((hs.out 12 (show 12 ∉ [41, 42, 43, 44, 45, 46, 47, 48, 49, 50] by decide)).trans rfl)
      simp only [List.mem_cons, List.not_mem_nil, or_false] at hf
      rcases hf with rfl | rfl | rfl | rfl | rfl | rfl | rfl | rfl | rfl | rfl
      · exact Reg.step_val rfl rfl rfl (Reg.run_load t7 (load_plan ((hs.below.block _ (heap_lt HB6X.out)).trans HB6X.out))) rfl hs.below (fun e => Reg.Keeps.refl e _)
      · have u1 := t12
        exact Reg.step_val rfl rfl rfl (Reg.run_move u1) rfl hs.below (fun e => Reg.Keeps.refl e _)
      · have u1 := t2
        exact Reg.step_val rfl rfl rfl (Reg.run_move u1) rfl hs.below (fun e => Reg.Keeps.refl e _)
      · obtain ⟨v1, hv1, rfl⟩ : ∃ v, a.tmps[43]? = some v ∧ v = .int .i64 by' := hg' _ (Reg.at_fact 2 rfl) (by kernel_rfl) (by simp [Reg.okTil])
        have u1 := Reg.eval_tmp hv1
        exact Reg.step_val rfl rfl rfl (w' := w1) (v := .int .i64 (max 0 by')) (by go_simp) rfl hs.below (fun e => Reg.Keeps.refl e _)
      · have u1 := t12
        exact Reg.step_val rfl rfl rfl (Reg.run_move u1) rfl hs.below (fun e => Reg.Keeps.refl e _)
      · obtain ⟨v1, hv1, rfl⟩ : ∃ v, a.tmps[45]? = some v ∧ v = .slice sa ls.length sc := hg' _ (Reg.at_fact 4 rfl) (by kernel_rfl) (by simp [Reg.okTil])
        have u1 := Reg.eval_tmp hv1
        exact Reg.step_val rfl rfl rfl (w' := w1) (v := .int .i64 (ls.length : Int)) (by go_simp) rfl hs.below (fun e => Reg.Keeps.refl e _)
      · obtain ⟨v1, hv1, rfl⟩ : ∃ v, a.tmps[46]? = some v ∧ v = .int .i64 (ls.length : Int) := hg' _ (Reg.at_fact 5 rfl) (by kernel_rfl) (by simp [Reg.okTil])
        have u1 := Reg.eval_tmp hv1
        have hw1 := HW1.out
        exact Reg.step_val rfl rfl rfl (w' := w1) (v := .int .i64 ((ls.length : Int) + 1)) (by go_simp) rfl hs.below (fun e => Reg.Keeps.refl e _)
      · obtain ⟨v1, hv1, rfl⟩ : ∃ v, a.tmps[44]? = some v ∧ v = .int .i64 (max 0 by') := hg' _ (Reg.at_fact 3 rfl) (by kernel_rfl) (by simp [Reg.okTil])
        obtain ⟨v2, hv2, rfl⟩ : ∃ v, a.tmps[47]? = some v ∧ v = .int .i64 ((ls.length : Int) + 1) := hg' _ (Reg.at_fact 6 rfl) (by kernel_rfl) (by simp [Reg.okTil])
        have u1 := Reg.eval_tmp hv1
        have u2 := Reg.eval_tmp hv2
        have hm := HMK.out
        have hw1 := HWK.out
        have hne : ((ls.length : Int) + 1 == 0) = false := by rw [beq_eq_false_iff_ne]; omega
        have hne2 : ¬ ((ls.length : Int) + 1 = 0) := by omega
        exact Reg.step_val rfl rfl rfl (w' := w1) (v := .int .i64 (kk : Int)) (by go_simp) rfl hs.below (fun e => Reg.Keeps.refl e _)
      · obtain ⟨v1, hv1, rfl⟩ : ∃ v, a.tmps[42]? = some v ∧ v = .slice sa ls.length sc := hg' _ (Reg.at_fact 1 rfl) (by kernel_rfl) (by simp [Reg.okTil])
        obtain ⟨v2, hv2, rfl⟩ : ∃ v, a.tmps[48]? = some v ∧ v = .int .i64 (kk : Int) := hg' _ (Reg.at_fact 7 rfl) (by kernel_rfl) (by simp [Reg.okTil])
        have u1 := Reg.eval_tmp hv1
        have u2 := Reg.eval_tmp hv2
        have hks := hks
        exact Reg.step_val rfl rfl rfl (w' := w1) (v := .slice sa kk sc) (by go_simp) rfl hs.below (fun e => Reg.Keeps.refl e _)
      · obtain ⟨v1, hv1, rfl⟩ : ∃ v, a.tmps[41]? = some v ∧ v = .agg #[.slice pa n0 pc, .int .i64 wi] := hg' _ (Reg.at_fact 0 rfl) (by kernel_rfl) (by simp [Reg.okTil])
        obtain ⟨v2, hv2, rfl⟩ : ∃ v, a.tmps[49]? = some v ∧ v = .slice sa kk sc := hg' _ (Reg.at_fact 8 rfl) (by kernel_rfl) (by simp [Reg.okTil])
        have u1 := Reg.eval_tmp hv1; have u2 := Reg.eval_tmp hv2
        refine Reg.step_call (f := 14) (args := #[.agg #[.slice pa n0 pc, .int .i64 wi], .slice sa kk sc]) rfl rfl rfl (by go_simp) hs.below ((HAS.out w1 hs.below).mono ?_)
        rintro en w2 ⟨v', ls', rfl, h1, h2, h3, h4⟩
        exact ⟨v', rfl, ⟨ls', h1, h2, Joins.ownsRow_le h3 hs.below.size⟩, h4⟩
    · intro vals w1 hF hfx hb1
      obtain ⟨ls', hp2, hs2, ho2⟩ : ∃ ls', ls'.Perm (ls.take kk) ∧ SortedE ls' ∧ w1.ownsRow w6.heap.size 9 1 (vals 50) (runA (planR ss cs wi) ls').2.length ((runA (planR ss cs wi) ls').2.map strV) := hF _ (Reg.at_fact 9 rfl) (show (10 + 1 : Nat) ≤ 99 by decide)
      have e2 : ls' = ls.take kk := sort_eq hp2 (List.Perm.refl _) hs2 (HSR.out.sublist (List.take_sublist _ _)) (HLD.out.sublist (List.take_sublist _ _))
      rw [e2] at ho2
      obtain ⟨Ss, hS⟩ : ∃ S, (runA (planR ss cs wi) (ls.take kk)).2 = S := ⟨_, rfl⟩
      rw [hS] at ho2 HTT
      simp only [List.map_cons, List.map_nil]
      generalize vals 41 = q41
      generalize vals 42 = q42
      generalize vals 43 = q43
      generalize vals 44 = q44
      generalize vals 45 = q45
      generalize vals 46 = q46
      generalize vals 47 = q47
      generalize vals 48 = q48
      generalize vals 49 = q49
      generalize vals 50 = sv2 at ho2 ⊢
      obtain ⟨fa, fc, rfl⟩ := (Sl.of_own ho2).shape
      have HB1 := Lib.hid hb1; have HO2 := Lib.hid ho2
      clear hF hfx hb1 hp2 hs2 e2 ho2 hS
      unfold Reg.puts Reg.puts Reg.puts Reg.puts Reg.puts Reg.puts Reg.puts Reg.puts Reg.puts Reg.puts Reg.puts
      obtain ⟨wq, rfl⟩ : ∃ w' : World, w' = w1 := ⟨_, rfl⟩
      have hSl : Ss.length ≤ Tt.length := by rw [HTT.out, List.length_append]; omega
      have HSlT := Lib.hid (show Sl wq wq.heap.size 1 (.slice ta Tt.length tc) Tt.length (Tt.map strV) from Sl.of_own (own_below HO1.out HB1.out))
      go_wp2_with fail
      go_loopw [54] (fun i wr => MetR Tt wq i wr) (fun i _ => Tt.length - (intOf i).toNat)
      case atStart => exact ⟨0, .map [], Nat.zero_le _, rfl, World.ownsMap_made _ _ _ _, (Below.refl _ _).alloc (Nat.le_refl _) _, fun m => by simp [WideAt.atKey_none]⟩
      case round =>
        obtain ⟨k, D, hk, rfl, hown, hb, hD⟩ := hrel
        by_cases hlt : k < Tt.length
        · have hki : (k : Int) < (Tt.length : Int) := by omega
          have hk0 : (0 : Int) ≤ (k : Int) := by omega
          obtain ⟨b, o, c', hc', hbl, x0⟩ := str_at (HSlT.out.below hb) hlt
          obtain ⟨rfl, rfl⟩ : ta = some ⟨b, o, none⟩ ∧ tc = c' := by simpa using hc'
          have hz := met_zero HND.out hlt
          have hlen : Tt[k].length ≤ maxLen := by
            obtain ⟨r, h1, h2, h3⟩ := HTX.out _ (List.getElem_mem hlt)
            rw [h3]
            have h4 := h2.2
            have h5 : r.counts.length ≤ r.counts.sum := len_le_sum h1.pos
            have h6 := h1.sum
            have h7 := textR_len (r := r) (fun y hy => (HLO.out y (h2.1 y hy)).2.2) ⟨h1.sum, by omega, by omega⟩
            unfold maxLen
            omega
          have htk : Tt.take (k + 1) = Tt.take k ++ [Tt[k]] := List.take_succ_eq_append_getElem hlt
          obtain ⟨mm, hmm⟩ : ∃ m, Tt[k] = m := ⟨_, rfl⟩
          rw [hmm] at x0 hz hlen htk
          have hkey := key_str hlen
          have hD1 := hD mm
          rw [if_neg hz] at hD1
          obtain ⟨c, hrun, hat, _⟩ := hown.lookup_int str_law Tryd.underlying53 Tryd.underlying3 (zero_int _) hkey
          have hc0 : c = 0 := by rw [hD1] at hat; injection hat with h; injection h with _ h; exact h.symm
          subst hc0
          have HD := Lib.hid hD; have HTK := Lib.hid htk; have HB := Lib.hid hb; have HZ := Lib.hid hz
          obtain ⟨sx, hsx⟩ : ∃ sx : ByteArray, (⟨mm.toArray⟩ : ByteArray) = sx := ⟨_, rfl⟩
          rw [hsx] at x0 hkey hrun
          clear hc' hmm hD htk hb hz hD1 hsx
          go_wp2_with (first
            | (at_mapUpdate; refine wpList_mapUpdate_own _ rfl _ _ _ 53 rfl 9 3 str_law Tryd.underlying53 _ wq.heap.size k _ rfl hown (by unfold maxLen; omega) _ _ _ rfl rfl hkey _ [] (plainElem_int (a := 1) Tryd.underlying3 (by decide)) ?_)
            | go_in)
          intro w2 hown1 hgrow1
          have hb2 := HB.out.grown hgrow1 HB.out.size (fun j hj => by cases hj; exact Nat.le_refl _)
          obtain ⟨c2, hrun2, hat2, _⟩ := hown1.lookup_int str_law Tryd.underlying53 Tryd.underlying3 (zero_int _) hkey
          have hc2 : c2 = 1 := by
            rw [atKey_put_same (k := .string mm) hown.isMap (show WideAt.IsKeyLit (.string mm) from trivial)] at hat2
            injection hat2 with h; injection h with _ h; exact h.symm
          subst hc2
          have HREL := Lib.hid (show MetR Tt wq (.int .i64 ((k : Int) + 1)) w2 from ⟨k + 1, _, by omega, by go_num, hown1, hb2, fun m => by
            by_cases hm : m = mm
            · subst hm
              rw [atKey_put_same (k := .string m) hown.isMap (show WideAt.IsKeyLit (.string m) from trivial), if_pos (by rw [HTK.out]; simp)]
            · rw [atKey_put_other (by intro h; injection h with h; exact hm h), HD.out m, HTK.out]
              simp [hm]⟩)
          clear hown1 hgrow1 hown hrun hat hb2 hat2 x0
          go_wp2_with fail
          go_roundw
          case rel => exact HREL.out
          case measure => simp [intOf]; omega
        · obtain rfl : k = Tt.length := by omega
          have HB := Lib.hid hb
          obtain ⟨wz, rfl⟩ : ∃ w' : World, w' = wr := ⟨_, rfl⟩
          have hzz := hb.size
          have HEA := Lib.hid (equal_any (.slice fa Ss.length fc) (.slice ta Ss.length tc) Ss Ss wz ((Sl.of_own HO2.out).below hb |>.more hzz) (by
            have h1 := Sl.first (m := Ss.length) ((HSlT.out.below hb).more hzz) hSl
            rw [Nat.mul_one] at h1
            have h2 : (Tt.map strV).take Ss.length = Ss.map strV := by rw [HTT.out, List.map_append, List.take_left' (by simp)]
            rw [h2] at h1
            exact h1) (by omega) (by omega))
          have HBF := Lib.hid (show Below W.heap.size W wz from by
            have h1 := HB4.out.trans (HB5.out.mono HB4.out.size)
            have h2 := h1.trans (HB6.out.mono h1.size)
            have h3 := h2.trans (HB1.out.mono h2.size)
            exact h3.trans (hb.mono h3.size))
          have hsi : (Ss.length : Int) ≤ (Tt.length : Int) := by omega
          have hsc : (Ss.length : Int) ≤ (tc : Int) := by omega
          have hs0 : (0 : Int) ≤ (Ss.length : Int) := by omega
          clear hown hb hD
          go_wp2_with fail
          refine HEA.out.mono ?_
          rintro e w9 ⟨rfl, hg9⟩
          have HB9 := Lib.hid (HBF.out.trans (hg9.below.mono HBF.out.size))
          clear hg9
          go_wp2_with fail
          go_ret
          exact ⟨by simp, HB9.out⟩
end Go.Proofs.YtcojnojdgigmdaaDoor.WR
