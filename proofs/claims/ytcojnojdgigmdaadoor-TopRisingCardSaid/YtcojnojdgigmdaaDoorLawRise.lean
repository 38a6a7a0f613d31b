/- The walk of oxbowtop.TopRising: each row that three loops find, each once. -/
import Derived.Test.YtcojnojdgigmdaaDoorLawPairs
import Derived.Maps.OwnOps
import Derived.Maps.OwnSet
import Derived.Maps.Views
namespace Go.Proofs.YtcojnojdgigmdaaDoor.WR
open Go Go.RowKit Go.Sort Go.WideMaps Go.Maps Go.Proofs.YtcojnojdgigmdaaDoor Go.Proofs.YtcojnojdgigmdaaDoor.PL Go.Proofs.YtcojnojdgigmdaaDoor.PR Go.Proofs.YtcojnojdgigmdaaDoor.Mem Go.Proofs.YtcojnojdgigmdaaDoor.WS Go.Proofs.YtcojnojdgigmdaaDoor.WL Go.Proofs.YtcojnojdgigmdaaDoor.DG
set_option maxRecDepth 100000

theorem str_lawT : Keyed Tryd.prog 9 := string_keyed Tryd.underlying9
theorem zero_intT (w : World) : (zeroValue 3).run Tryd.prog w = .ok (.int .i64 0) w := by kernel_rfl
theorem key_strT {m : List UInt8} (h : m.length ≤ maxLen) : keyOf Tryd.prog 9 (.string ⟨m.toArray⟩) = some (.string m) := by
  have h2 := keyOf_string_mk (P := Tryd.prog) Tryd.underlying9 (s := ⟨m.toArray⟩) (by show m.toArray.size ≤ maxLen; rw [List.size_toArray]; exact h)
  rw [h2]
/-- The map of the first k texts. -/
def MetQ (T : List (List UInt8)) (g k : Nat) (w : World) : Prop := ∃ D : DataW Unit, w.ownsMap Tryd.prog 9 (plainElem Tryd.prog 3) g k D ∧ Maps.size D = k ∧ ∀ m : List UInt8, D.atKey (.string m) (.lit (.int .i64 0)) = .lit (.int .i64 (if m ∈ T.take k then 1 else 0)) ∧ Maps.has D (.string m) = decide (m ∈ T.take k)
theorem MetQ.below {T : List (List UInt8)} {g k B : Nat} {w w' : World} (h : MetQ T g k w) (hb : Below B w w') (hg : g < B) : MetQ T g k w' := by
  obtain ⟨D, ⟨es, cl, h1, h2⟩, h3⟩ := h
  exact ⟨D, ⟨es, cl, (hb.block _ hg).trans h1, h2⟩, h3⟩
theorem MetQ.look {T : List (List UInt8)} {g : Nat} {w : World} (h : MetQ T g T.length w) {t : List UInt8} {s : ByteArray} (hs : s = ⟨t.toArray⟩) (ht : t ∈ T) (hl : t.length ≤ maxLen) : (Instr.lookup 53 (.map (some g)) (.string s) false).run Tryd.prog w = .ok (.int .i64 1) w := by
  subst hs
  obtain ⟨D, hown, _, h3⟩ := h
  obtain ⟨c, hrun, hat, _⟩ := hown.lookup_int str_lawT Tryd.underlying53 Tryd.underlying3 (zero_intT _) (key_strT hl)
  rw [(h3 t).1, List.take_length, if_pos ht] at hat
  injection hat with hat; injection hat with _ hat
  rw [← hat] at hrun
  exact hrun
theorem MetQ.len {T : List (List UInt8)} {g k : Nat} {w : World} (h : MetQ T g k w) (ty : TypeId) : (Builtin.len_ #[53] ty #[.map (some g)]).run Tryd.prog w = .ok (.int .i64 (k : Nat)) w := by
  obtain ⟨D, hown, hz, _⟩ := h
  have := hown.len Tryd.underlying53 ty
  rw [hz] at this
  exact this
theorem fresh_at {T : List (List UInt8)} {k : Nat} (hn : T.Nodup) (hk : k < T.length) : T[k] ∉ T.take k := by
  intro h
  have e : T.take (k + 1) = T.take k ++ [T[k]] := List.take_succ_eq_append_getElem hk
  have h2 := hn.sublist (List.take_sublist (k + 1) T)
  rw [e, List.nodup_append] at h2
  exact h2.2.2 _ h _ (by simp) rfl
/-- One text more. -/
theorem MetQ.put {T : List (List UInt8)} {g k : Nat} {w' : World} (hn : T.Nodup) (hk : k < T.length) {D : DataW Unit} (hi : Maps.Tidy D) (hz : Maps.size D = k) (h3 : ∀ m : List UInt8, D.atKey (.string m) (.lit (.int .i64 0)) = .lit (.int .i64 (if m ∈ T.take k then 1 else 0)) ∧ Maps.has D (.string m) = decide (m ∈ T.take k))
    (ho : w'.ownsMap Tryd.prog 9 (plainElem Tryd.prog 3) g (k + 1) (D.put (.string T[k]) (.lit (.int .i64 1)))) : MetQ T g (k + 1) w' := by
  have hf := fresh_at hn hk
  have e : T.take (k + 1) = T.take k ++ [T[k]] := List.take_succ_eq_append_getElem hk
  refine ⟨_, ho, ?_, fun m => ?_⟩
  · rw [Maps.size_put hi, (h3 T[k]).2, hz]
    simp [hf]
  · by_cases hm : m = T[k]
    · subst hm
      rw [atKey_put_same (k := .string T[k]) hi.isMap (show WideAt.IsKeyLit (.string T[k]) from trivial), Maps.has_put_same hi.isMap (show WideAt.IsKeyLit (.string T[k]) from trivial)]
      have h1 : T[k] ∈ T.take (k + 1) := by rw [e]; exact List.mem_append_right _ (List.mem_singleton.2 rfl)
      simp only [h1, if_true, decide_true, and_self]
    · rw [atKey_put_other (by intro h; injection h with h; exact hm h), Maps.has_put_other (by intro h; injection h with h; exact hm h), (h3 m).1, (h3 m).2]
      have h2 : m ∈ T.take (k + 1) ↔ m ∈ T.take k := by
        rw [e, List.mem_append, List.mem_singleton]
        exact ⟨fun h => h.resolve_right hm, .inl⟩
      simp only [h2, and_self]
/-- All but one block stand. -/
def Oth (g : Nat) (w w' : World) : Prop := w.heap.size ≤ w'.heap.size ∧ ∀ i, i < w.heap.size → i ≠ g → w'.heap[i]? = w.heap[i]?
theorem Oth.cell {g : Nat} {w w' : World} (h : Oth g w w') {p : Addr} (hp : p.block < w.heap.size) (hg : p.block ≠ g) : w'.cell? p = w.cell? p := by
  have := h.2 _ hp hg
  unfold World.cell?
  rw [this]
theorem riseT_1 (l : List Ev) (i : Nat) : riseT l [i] = Lib.itoa (evAt l i).id := by
  show txtP [(evAt l i).id] = _
  rw [txtP_one]
theorem riseT_2 (l : List Ev) (i k : Nat) : riseT l [i, k] = Lib.itoa (evAt l i).id ++ 44 :: Lib.itoa (evAt l k).id := by
  show Lib.join [Lib.itoa (evAt l i).id, Lib.itoa (evAt l k).id] [44] = _
  rw [join_two, Lib.join_one]
theorem riseT_3 (l : List Ev) (i k j : Nat) : riseT l [i, k, j] = Lib.itoa (evAt l i).id ++ 44 :: (Lib.itoa (evAt l k).id ++ 44 :: Lib.itoa (evAt l j).id) := by
  show Lib.join [Lib.itoa (evAt l i).id, Lib.itoa (evAt l k).id, Lib.itoa (evAt l j).id] [44] = _
  rw [join_two, join_two, Lib.join_one]
/-- How many rows begin with one of the first so many; with one and then one of the next so many; .. -/
def cn1 (m : Int) (l : List Ev) (k : Nat) : Nat := ((List.range k).flatMap (rise1 m l)).length
def cn2 (m : Int) (l : List Ev) (i j : Nat) : Nat := ((List.range' (i + 1) j).flatMap (rise2 m l i)).length
def cn3 (m : Int) (l : List Ev) (i k j : Nat) : Nat := ((List.range' (k + 1) j).flatMap (rise3 m l i k)).length
theorem cn1_succ (m : Int) (l : List Ev) (k : Nat) : cn1 m l (k + 1) = cn1 m l k + (rise1 m l k).length := by unfold cn1; rw [List.range_succ, List.flatMap_append]; simp
theorem cn2_succ (m : Int) (l : List Ev) (i j : Nat) : cn2 m l i (j + 1) = cn2 m l i j + (rise2 m l i (i + 1 + j)).length := by unfold cn2; rw [List.range'_concat, List.flatMap_append]; simp
theorem cn3_succ (m : Int) (l : List Ev) (i k j : Nat) : cn3 m l i k (j + 1) = cn3 m l i k j + (rise3 m l i k (k + 1 + j)).length := by unfold cn3; rw [List.range'_concat, List.flatMap_append]; simp
theorem rise1_len (m : Int) (l : List Ev) (i : Nat) : (rise1 m l i).length = if okA l i then 1 + cn2 m l i (l.length - (i + 1)) else 0 := by unfold rise1 cn2; split <;> simp <;> omega
theorem rise2_len (m : Int) (l : List Ev) (i k : Nat) : (rise2 m l i k).length = if ok2 m l i k then 1 + cn3 m l i k (l.length - (k + 1)) else 0 := by unfold rise2 cn3; split <;> simp <;> omega
theorem rise3_len (m : Int) (l : List Ev) (i k j : Nat) : (rise3 m l i k j).length = if ok3 m l i k j then 1 else 0 := by unfold rise3; split <;> simp
theorem cn3_le (m : Int) (l : List Ev) (i k j : Nat) : cn3 m l i k j ≤ j := by
  induction j with
  | zero => simp [cn3]
  | succ j ih => rw [cn3_succ, rise3_len]; split <;> omega
theorem cn2_le (m : Int) (l : List Ev) (hl : l.length ≤ 24) (i j : Nat) : cn2 m l i j ≤ j * 25 := by
  induction j with
  | zero => simp [cn2]
  | succ j ih =>
    rw [cn2_succ, rise2_len]
    have := cn3_le m l i (i + 1 + j) (l.length - (i + 1 + j + 1))
    split <;> omega
theorem cn1_le (m : Int) (l : List Ev) (hl : l.length ≤ 24) (k : Nat) : cn1 m l k ≤ k * 601 := by
  induction k with
  | zero => simp [cn1]
  | succ k ih =>
    rw [cn1_succ, rise1_len]
    have := cn2_le m l hl k (l.length - (k + 1))
    split <;> omega
set_option maxRecDepth 100000 in
set_option maxHeartbeats 6400000 in
theorem rise_law (v : Value) (l : List Ev) (within : Int) (W : World) (hv : Tps W W.heap.size v l) (hf : ∀ x ∈ l, x.fits) (hwi : -9223372036854775808 ≤ within ∧ within ≤ 9223372036854775807) (ht : Tab W) (hg : 0 < W.heap.size) :
    Calls Tryd.prog 9 #[v, .int .i64 within] W fun e w' => e = .returned (.bool true) ∧ Below W.heap.size W w' := by
  have HV := Lib.hid hv; have HF := Lib.hid hf; have HT := Lib.hid ht
  have HN2 := Lib.hid (fun w => near_top within 40 w hwi (by omega))
  obtain ⟨m, hm⟩ : ∃ m, nearI within 40 = m := ⟨_, rfl⟩
  have hm2 := nearI_in within 40 (by omega)
  rw [hm] at HN2 hm2
  obtain ⟨hm0, hm1⟩ := hm2
  clear hv hf ht hwi hm
  go_enter Tryd.func9, Tryd.ntmps9
  go_wp2_with fail
  refine (HN2.out _).mono ?_
  rintro e w1 ⟨rfl, rfl⟩
  clear HN2
  have HDM := Lib.hid (fun w => dec_top m (by omega) (by omega) w)
  have hlm := Lib.itoa_length_le m (by omega) (by omega)
  have hmm := @run_makeMap Tryd.prog
  have mixed : Tryd.prog.follows .mixedOrders = true := by kernel_rfl
  go_wp2_with fail
  refine (HDM.out _).mono ?_
  rintro e w2 ⟨rfl, hg2⟩
  have HG2 := Lib.hid hg2.below
  clear hg2
  have HC := Lib.hid (comp_rise m ⟨hm0, hm1⟩ w2)
  unfold preS at HC
  go_wp2_with fail
  refine HC.out.mono ?_
  rintro e w3 ⟨hb3, pa, pn, pc, rfl, hokp, rfl, hpl⟩
  clear HC HDM
  have hbW3 := HG2.out.trans (hb3.mono HG2.out.size)
  obtain ⟨w4, hw4⟩ : ∃ w4, w4 = w3.alloc (.cells #[.slice pa 1 pc, .int .i64 m] 25) := ⟨_, rfl⟩
  have hb34 : Below w3.heap.size w3 w4 := by rw [hw4]; exact (Below.refl _ _).alloc (Nat.le_refl _) _
  have HX4 := Lib.hid (show w4.heap[w3.heap.size]? = some (.cells #[.slice pa 1 pc, .int .i64 m] 25 (0, 0)) by rw [hw4]; exact heap_new rfl)
  have HPL4 := Lib.hid (show PlnAt w4 w3.heap.size (.slice pa 1 pc) (riseP m).steps from PlnAt.keep hpl fun a ha => hb34.cell ha)
  have HBW4 := Lib.hid (hbW3.trans (hb34.mono hbW3.size)); have HW4 := Lib.hid hw4; have HOKP := Lib.hid hokp
  have hg4 : 0 < w4.heap.size := by have := HBW4.out.size; omega
  have HAL := Lib.hid (alive_any w4 (Tab.of_eq HT.out (HBW4.out.block _ hg)) hg4)
  obtain ⟨X, hX⟩ : ∃ X, w3.heap.size = X := ⟨_, rfl⟩
  rw [hX] at HX4 HPL4
  have HXX := Lib.hid hX
  have hX4 : X < w4.heap.size := heap_lt HX4.out
  clear hb3 hbW3 hb34 hpl hokp hw4 hX hlm
  go_upto_region 3 with (fail)
  rw [← HW4.out, HXX.out]
  go_wp2_with fail
  refine HAL.out.mono ?_
  rintro e w5 ⟨rfl, hb5⟩
  clear HAL
  have HBW5 := Lib.hid (HBW4.out.trans (hb5.mono HBW4.out.size))
  have HX5 := Lib.hid ((hb5.block _ hX4).trans HX4.out)
  have HPL5 := Lib.hid (PlnAt.keep HPL4.out fun a ha => hb5.cell (Nat.lt_trans ha hX4))
  have hX5 : X < w5.heap.size := heap_lt HX5.out
  have HEV := Lib.hid (events_top 24 v l w5 (by omega) ((Tps.below HV.out HBW5.out).resolve_right id) HF.out)
  clear hb5
  go_wp2_with fail
  refine HEV.out.mono ?_
  rintro e w6 ⟨va, rfl, hoa, hb6⟩
  clear HEV
  obtain ⟨k0, hk0⟩ : ∃ k0, min l.length 24 = k0 := ⟨_, rfl⟩
  rw [hk0] at hoa
  have hk60 : k0 ≤ 24 := by omega
  obtain ⟨E, hE⟩ : ∃ E, evsT l k0 = E := ⟨_, rfl⟩
  have hEl : E.length = k0 := by rw [← hE, evsT_len]
  have HEE := Lib.hid (fun e (he : e ∈ E) => evsT_ok (k := k0) (l := l) (by rw [hE]; exact he))
  have HED := Lib.hid (show DistE E by rw [← hE]; exact evsT_dist l k0)
  rw [hE, ← hEl] at hoa
  have HBW6 := Lib.hid (HBW5.out.trans (hb6.mono HBW5.out.size))
  have HX6 := Lib.hid ((hb6.block _ hX5).trans HX5.out)
  have HPL6 := Lib.hid (PlnAt.keep HPL5.out fun a ha => hb6.cell (Nat.lt_trans ha hX5))
  have hX6 : X < w6.heap.size := heap_lt HX6.out
  have HSO := Lib.hid (sortG va E w6 w6.heap.size (Sl.of_own hoa) (Lit.of_own hoa) (by omega))
  clear hb6 hoa hE hk0
  go_wp2_with fail
  refine HSO.out.mono ?_
  rintro e w7 ⟨v7, ls, rfl, hperm, hsort, how7, hb7⟩
  clear HSO
  have hlen := hperm.length_eq
  rw [← hlen] at how7
  have hl60 : ls.length ≤ 24 := by omega
  have HLE := Lib.hid (fun e (he : e ∈ ls) => HEE.out e (hperm.mem_iff.1 he))
  have HLD := Lib.hid (DistE.perm hperm HED.out); have HLS := Lib.hid hsort
  have HBW7 := Lib.hid (HBW6.out.trans (hb7.mono HBW6.out.size))
  have HX7 := Lib.hid ((hb7.block _ hX6).trans HX6.out)
  have HPL7 := Lib.hid (PlnAt.keep HPL6.out fun a ha => hb7.cell (Nat.lt_trans ha hX6))
  have hX7 : X < w7.heap.size := heap_lt HX7.out
  have hLIT := Lit.of_own how7
  have hEV7 := Sl.of_own how7
  obtain ⟨sa, sc, rfl⟩ := hEV7.shape
  obtain ⟨hlsc, _⟩ : ls.length ≤ sc ∧ True := by
    obtain ⟨_, A7, c7, e7, hx, _⟩ := id hEV7
    injection e7 with _ _ e7
    exact ⟨by omega, trivial⟩
  have HV7 := Lib.hid (show Evs w7 w7.heap.size (.slice sa ls.length sc) ls from hEV7); have HLI := Lib.hid hLIT
  have HK60 := Lib.hid hk60
  clear hperm hsort hlen how7 hb7 HEE HED hLIT hEV7 HV HF hEl hk60 HBW4 HBW5 HBW6 HX4 HX5 HX6 HPL4 HPL5 HPL6 HG2
  obtain ⟨T, hT⟩ : ∃ T, (runA (riseP m) ls).2 = T := ⟨_, rfl⟩
  have HSO := Lib.hid (show ∀ x y, x < y → y < ls.length → (evAt ls x).time ≤ (evAt ls y).time by
    intro x y hxy hy
    have hp := List.pairwise_iff_getElem.1 HLS.out x y (by omega) hy hxy
    rw [evAt_get ls (by omega), evAt_get ls hy]
    unfold ltE at hp
    simp only [decide_eq_false_iff_not] at hp
    omega)
  have HRR := Lib.hid (run_rise (m := m) HSO.out HLD.out)
  rw [hT] at HRR
  have HMEM := Lib.hid (show ∀ x ∈ riseAll m ls, riseT ls x ∈ T from fun x hx => HRR.out.1.mem_iff.2 (List.mem_map_of_mem hx))
  have HTL := Lib.hid (show T.length = cn1 m ls ls.length by rw [HRR.out.1.length_eq, List.length_map]; rfl)
  have hTn : T.length ≤ 20000 := by have := cn1_le m ls hl60 ls.length; have := HTL.out; omega
  have HID := Lib.hid (show ∀ i, i < ls.length → 0 ≤ (evAt ls i).id ∧ (evAt ls i).id ≤ 100 ∧ (Lib.itoa (evAt ls i).id).length ≤ 21 from fun i hi => by
    rw [evAt_get ls hi]
    have := HLE.out _ (List.getElem_mem hi)
    have := HK60.out
    exact ⟨by omega, by omega, Lib.itoa_length_le _ (by omega) (by omega)⟩)
  have HLT := Lib.hid (show ∀ t ∈ T, t.length ≤ 70 from by
    intro t ht
    obtain ⟨x, hx, rfl⟩ := List.mem_map.1 (HRR.out.1.mem_iff.1 ht)
    rcases mem_rise.1 hx with ⟨i, rfl, hi, _⟩ | ⟨i, k, rfl, h1, h2, _⟩ | ⟨i, k, j, rfl, h1, h2, h3, _⟩
    · rw [riseT_1]; have := HID.out i hi; omega
    · rw [riseT_2, List.length_append, List.length_cons]; have := HID.out i (by omega); have := HID.out k h2; omega
    · rw [riseT_3]; simp only [List.length_append, List.length_cons]; have := HID.out i (by omega); have := HID.out k (by omega); have := HID.out j h3; omega)
  have HTI := Lib.hid hT
  clear hT
  go_upto_region 7 with (fail)
  obtain ⟨wm, hwm⟩ : ∃ wm, wm = w7.alloc (.map #[] 0) := ⟨_, rfl⟩
  have HMM := Lib.hid (show MetQ T w7.heap.size 0 wm by
    rw [hwm]
    exact ⟨.map [], World.ownsMap_made _ _ _ _, rfl, fun m => ⟨by simp [WideAt.atKey_none], by simp [Maps.has]⟩⟩)
  have hb7m : Below w7.heap.size w7 wm := by rw [hwm]; exact (Below.refl _ _).alloc (Nat.le_refl _) _
  have hzm : wm.heap.size = w7.heap.size + 1 := by rw [hwm]; simp
  have HWM := Lib.hid hwm
  rw [← hwm]
  have HXM := Lib.hid ((hb7m.block _ hX7).trans HX7.out)
  have p0 : wm.cell? ⟨X, 0, none⟩ = some (.slice pa 1 pc) := (Lib.cell_of_heap HXM.out 0).trans rfl
  have p1 : wm.cell? ⟨X, 1, none⟩ = some (.int .i64 m) := (Lib.cell_of_heap HXM.out 1).trans rfl
  have HAL := Lib.hid (runAllG (riseP m) (.slice pa 1 pc) (.slice sa ls.length sc) ls X wm HOKP.out (by show 1 ≤ 1000; omega) (PlnAt.keep HPL7.out fun a ha => hb7m.cell (Nat.lt_trans ha hX7)) (by omega) ((Sl.below HV7.out hb7m).more hb7m.size) HLI.out (by omega)
    (by
      intro ls' hp' _ k hk
      have h1 := rise_few m (ls'.take k)
      have h2 : (ls'.take k).length ≤ 24 := by rw [List.length_take]; have := hp'.length_eq; omega
      have h3 : 2 ^ ((ls'.take k).length + 1) ≤ 2 ^ 25 := Nat.pow_le_pow_right (by omega) (by omega)
      omega)
    (by
      intro e he
      have := HLE.out e he
      have := HK60.out
      unfold OkEv Sm
      omega)
    (Tab.of_eq HT.out ((HBW7.out.trans (hb7m.mono HBW7.out.size)).block _ hg)) (by have := HBW7.out.size; omega))
  rw [show (riseP m).within = m from rfl] at HAL
  have HB7M := Lib.hid hb7m
  clear hb7m hwm
  go_wp2_with fail
  refine HAL.out.mono ?_
  rintro e w8 ⟨v8, ls', rfl, hp', hs', ho8, hb8⟩
  clear HAL p0 p1
  have hls : ls = ls' := (sort_eq hp' (List.Perm.refl _) hs' HLS.out HLD.out).symm
  subst hls
  rw [HTI.out] at ho8
  obtain ⟨ta, tc, rfl⟩ := (Sl.of_own ho8).shape
  obtain ⟨g, hgg⟩ : ∃ g, w7.heap.size = g := ⟨_, rfl⟩
  have hg8 : g < w8.heap.size := by have := hb8.size; omega
  have HM8 := Lib.hid (show MetQ T g 0 w8 by rw [← hgg]; exact HMM.out.below hb8 (by omega))
  have HB8 := Lib.hid (show Below g w7 w8 by rw [← hgg]; exact HB7M.out.trans (hb8.mono (by omega)))
  have HT8 := Lib.hid ho8
  have hgm : wm.heap.size = g + 1 := by omega
  have HGG := Lib.hid hgg
  rw [hgg]
  clear hp' hs' ho8 hb8
  go_wp2_with fail
  go_loopw [41] (fun i wr => ∃ k, k ≤ T.length ∧ i = .int .i64 (k : Nat) ∧ MetQ T g k wr ∧ Below g w7 wr ∧ Oth g w8 wr) (fun i _ => T.length - (intOf i).toNat)
  case atStart => exact ⟨0, Nat.zero_le _, rfl, HM8.out, HB8.out, Nat.le_refl _, fun _ _ _ => rfl⟩
  case round =>
    obtain ⟨k, hk, rfl, hmq, hb, hot⟩ := hrel
    by_cases hlt : k < T.length
    · have hki : (k : Int) < (T.length : Int) := by omega
      have hk0 : (0 : Int) ≤ (k : Int) := by omega
      obtain ⟨b, o, c', hc', hbl, x0⟩ := str_at (Sl.of_own HT8.out) hlt
      have hbg : g < b := by
        have h1 := own_lt HT8.out b (by rw [hc']; rfl)
        omega
      obtain ⟨rfl, rfl⟩ : ta = some ⟨b, o, none⟩ ∧ tc = c' := by simpa using hc'
      have x0 := (hot.cell (p := ⟨b, o + k, none⟩) hbl (by show b ≠ g; omega)).trans x0
      have hlen : T[k].length ≤ maxLen := Nat.le_trans (HLT.out _ (List.getElem_mem hlt)) (by unfold maxLen; omega)
      obtain ⟨D, hown, hz, h3⟩ := hmq
      have hfr := fresh_at HRR.out.2 hlt
      have hkey := key_strT hlen
      have hD1 := (h3 T[k]).1
      rw [if_neg hfr] at hD1
      obtain ⟨c, hrun, hat, _⟩ := hown.lookup_int str_lawT Tryd.underlying53 Tryd.underlying3 (zero_intT _) hkey
      have hc0 : c = 0 := by rw [hD1] at hat; injection hat with h; injection h with _ h; exact h.symm
      subst hc0
      have HPUT := Lib.hid (fun w' ho => MetQ.put (g := g) (w' := w') HRR.out.2 hlt (hown.tidy str_lawT) hz h3 ho)
      have HB := Lib.hid hb; have HOT := Lib.hid hot
      have hg9 : g ≤ wr.heap.size := by have := hot.1; omega
      obtain ⟨mm, hmm'⟩ : ∃ mm, T[k] = mm := ⟨_, rfl⟩
      rw [hmm'] at x0 hkey hrun HPUT
      obtain ⟨sx, hsx⟩ : ∃ sx : ByteArray, (⟨mm.toArray⟩ : ByteArray) = sx := ⟨_, rfl⟩
      rw [hsx] at x0 hkey hrun
      clear hc' hmm' hb hot h3 hz hD1 hat hfr hlen hsx hbl hbg
      go_wp2_with (first
        | (at_mapUpdate; refine wpList_mapUpdate_own _ rfl _ _ _ 53 rfl 9 3 str_lawT Tryd.underlying53 _ g k _ rfl hown (by unfold maxLen; omega) _ _ _ rfl rfl hkey _ [] (plainElem_int (a := 1) Tryd.underlying3 (by decide)) ?_)
        | go_in)
      intro w2 hown1 hgrow1
      have HREL := Lib.hid (show ∃ k', k' ≤ T.length ∧ Value.int .i64 (((k : Nat) : Int) + 1) = .int .i64 (k' : Nat) ∧ MetQ T g k' w2 ∧ Below g w7 w2 ∧ Oth g w8 w2 from ⟨k + 1, by omega, by go_num, HPUT.out _ hown1, HB.out.grown hgrow1 hg9 (fun j hj => by cases hj; exact Nat.le_refl _), by
        obtain ⟨_, _, _, h4, h5⟩ := hgrow1
        exact ⟨Nat.le_trans HOT.out.1 h4, fun i hi hne => (h5 i (Nat.lt_of_lt_of_le hi HOT.out.1) (fun e => hne (Option.some.inj e))).trans (HOT.out.2 i hi hne)⟩⟩)
      clear hown1 hgrow1 hown hrun x0
      go_wp2_with fail
      go_roundw
      case rel => exact HREL.out
      case measure => simp [intOf]; omega
    · obtain rfl : k = T.length := by omega
      have HMQ := Lib.hid hmq; have HB9 := Lib.hid hb
      obtain ⟨wq, rfl⟩ : ∃ w' : World, w' = wr := ⟨_, rfl⟩
      have hgq : g < wq.heap.size := by have := hot.1; omega
      have HVQ := Lib.hid (show Evs wq wq.heap.size (.slice sa ls.length sc) ls from (Sl.below (by rw [← HGG.out]; exact HV7.out) hb).more (by omega))
      have hWg : W.heap.size ≤ g := by have := HBW7.out.size; have := HGG.out; omega
      have hWq : W.heap.size ≤ wq.heap.size := by omega
      clear hmq hb hot hlt
      go_wp2_with fail
      go_loopw [11, 52] (fun c i wr => ∃ k, k ≤ ls.length ∧ i = .int .i64 (k : Nat) ∧ c = .int .i64 (cn1 m ls k : Nat) ∧ Below wq.heap.size wq wr) (fun _ i _ => ls.length - (intOf i).toNat)
      case atStart => exact ⟨0, Nat.zero_le _, rfl, rfl, Below.refl _ _⟩
      case round =>
        obtain ⟨i, hi, rfl, rfl, hb⟩ := hrel
        have hc1 := cn1_le m ls hl60 i
        by_cases hlt : i < ls.length
        · have hii : (i : Int) < (ls.length : Int) := by omega
          have hi0 : (0 : Int) ≤ (i : Int) := by omega
          obtain ⟨b, o, c', hc', hbl, g0, g1, g2, g3⟩ := HVQ.out.at_ hlt
          obtain ⟨rfl, rfl⟩ : sa = some ⟨b, o, none⟩ ∧ sc = c' := by simpa using hc'
          have HAF := Lib.hid (HLE.out _ (List.getElem_mem hlt))
          rw [← evAt_get ls hlt] at g0 g1 g2 g3 HAF
          have HSU := Lib.hid (cn1_succ m ls i); have HS1 := Lib.hid (rise1_len m ls i)
          have HIA := Lib.hid (HID.out i hlt)
          have HM1 := Lib.hid (fun h => HMEM.out [i] (mem_rise.2 (.inl ⟨i, rfl, hlt, h⟩)))
          rw [riseT_1] at HM1
          obtain ⟨a, hae⟩ : ∃ a, evAt ls i = a := ⟨_, rfl⟩
          have HAE := Lib.hid hae
          rw [hae] at g0 g1 g2 g3 HAF HIA HM1
          have hc0 := (hb.cell (p := ⟨b, o + i * 4, none⟩) hbl).trans g0
          have hc1 := (hb.cell (p := ⟨b, o + i * 4 + 1, none⟩) hbl).trans g1
          have hc2 := (hb.cell (p := ⟨b, o + i * 4 + 2, none⟩) hbl).trans g2
          have hc3 := (hb.cell (p := ⟨b, o + i * 4 + 3, none⟩) hbl).trans g3
          obtain ⟨wx, hwx⟩ : ∃ wx, wx = wr.alloc (.cells #[.int .i64 a.id, .int .i64 a.time, .int .u8 a.kind, .int .i64 a.val] 37) := ⟨_, rfl⟩
          have HBX := Lib.hid (show wx.heap[wr.heap.size]? = some (.cells (encE a).toArray 37 (0, 0)) by rw [hwx]; exact heap_new rfl)
          have hGX : Below wr.heap.size wr wx := by rw [hwx]; exact (Below.refl _ _).alloc (Nat.le_refl _) _
          have HBQ := Lib.hid (hb.trans (hGX.mono hb.size)); have HWX := Lib.hid hwx
          clear hc' g0 g1 g2 g3 hb hwx hGX hae
          go_upto_region 16 with (fail)
          rw [← HWX.out]
          clear hc0 hc1 hc2 hc3
          obtain ⟨bx, hbx⟩ : ∃ bx, wr.heap.size = bx := ⟨_, rfl⟩
          rw [hbx] at HBX ⊢
          clear hbx
          have x2 : wx.cell? ⟨bx, 2, none⟩ = some (.int .u8 a.kind) := (Lib.cell_of_heap HBX.out 2).trans rfl
          by_cases hk1 : a.kind = 65
          · have HOK := Lib.hid (show okA ls i = true by unfold okA; rw [HAE.out, hk1]; rfl)
            have e1 : (a.kind == 65) = true := by simp [hk1]
            have f1 : (a.kind != 65) = false := by simp [hk1]
            have x0 : wx.cell? ⟨bx, 0, none⟩ = some (.int .i64 a.id) := (Lib.cell_of_heap HBX.out 0).trans rfl
            clear hk1
            go_wp2_with fail
            refine (dec_top a.id HIA.out.1 (by have := HIA.out; omega) _).mono ?_
            rintro e w9 ⟨rfl, hg9⟩
            have HBQ9 := Lib.hid (HBQ.out.trans (hg9.below.mono HBQ.out.size))
            have hlk := (HMQ.out.below HBQ9.out hgq).look rfl (HM1.out HOK.out) (by have := HIA.out; unfold maxLen; omega)
            have HBX9 := Lib.hid ((hg9.below.block _ (heap_lt HBX.out)).trans HBX.out)
            clear hg9 x0 x2
            have hk1i : (i : Int) + 1 ≤ (ls.length : Int) := by omega
            have hk10 : (0 : Int) ≤ (i : Int) + 1 := by omega
            have hwk : IntKind.i64.wrap ((i : Int) + 1) = (i : Int) + 1 := IntWalk.i64_in _ (by omega)
            have hsc1 : (ls.length : Int) ≤ (sc : Int) := by omega
            obtain ⟨nb, hnb⟩ : ∃ nb, ls.length - (i + 1) = nb := ⟨_, rfl⟩
            have hnb1 : (ls.length : Int) - ((i : Int) + 1) = (nb : Int) := by omega
            have hik1 : ls.length ≤ i + 1 + nb := by omega
            have hik2 : i + 1 + nb ≤ ls.length := by omega
            have HR1 := Lib.hid (show cn1 m ls (i + 1) = cn1 m ls i + 1 + cn2 m ls i nb by rw [HSU.out, HS1.out, HOK.out, if_pos rfl, hnb]; omega)
            clear hnb
            by_cases hsq : sc = i + 1
            · have hnb0 : nb ≤ 0 := by omega
              subst hsq
              go_wp2_with fail
              go_loopw [11, 73] (fun c j wr => ∃ jn, jn ≤ nb ∧ j = .int .i64 (jn : Nat) ∧ c = .int .i64 ((cn1 m ls i + 1 + cn2 m ls i jn : Nat) : Int) ∧ Below w9.heap.size w9 wr) (fun _ j _ => nb - (intOf j).toNat)
              case atStart => exact ⟨0, Nat.zero_le _, rfl, by have h0 : cn2 m ls i 0 = 0 := rfl
                                                               rw [h0]; go_num, Below.refl _ _⟩
              case round =>
                obtain ⟨j, hj, rfl, rfl, hb⟩ := hrel
                obtain rfl : j = nb := by omega
                have HREL := Lib.hid (show ∃ k, k ≤ ls.length ∧ Value.int .i64 ((i : Int) + 1) = .int .i64 (k : Nat) ∧ Value.int .i64 ((cn1 m ls i + 1 + cn2 m ls i j : Nat) : Int) = .int .i64 (cn1 m ls k : Nat) ∧ Below wq.heap.size wq wr from ⟨i + 1, by omega, by go_num, by rw [HR1.out], HBQ9.out.trans (hb.mono HBQ9.out.size)⟩)
                clear hb
                go_wp2_with fail
                go_roundw
                case rel => exact HREL.out
                case measure => simp [intOf]; omega
            · go_wp2_with fail
              go_loopw [11, 73] (fun c j wr => ∃ jn, jn ≤ nb ∧ j = .int .i64 (jn : Nat) ∧ c = .int .i64 ((cn1 m ls i + 1 + cn2 m ls i jn : Nat) : Int) ∧ Below w9.heap.size w9 wr) (fun _ j _ => nb - (intOf j).toNat)
              case atStart => exact ⟨0, Nat.zero_le _, rfl, by have h0 : cn2 m ls i 0 = 0 := rfl
                                                               rw [h0]; go_num, Below.refl _ _⟩
              case round =>
                obtain ⟨j, hj, rfl, rfl, hb⟩ := hrel
                have hc2 := cn2_le m ls hl60 i j
                by_cases hlj : j < nb
                · have hji : (j : Int) < (nb : Int) := by omega
                  have hj0 : (0 : Int) ≤ (j : Int) := by omega
                  have hpl : i + 1 + j < ls.length := by omega
                  have HS2 := Lib.hid (cn2_succ m ls i j); have HL2 := Lib.hid (rise2_len m ls i (i + 1 + j))
                  have HM2 := Lib.hid (fun h h2 => HMEM.out [i, i + 1 + j] (mem_rise.2 (.inr (.inl ⟨i, i + 1 + j, rfl, by omega, hpl, h, h2⟩))))
                  rw [riseT_2] at HM2
                  obtain ⟨b', o', c', hc', hbl, g0, g1, g2, g3⟩ := HVQ.out.at_ hpl
                  obtain ⟨⟨rfl, rfl⟩, rfl⟩ : (b = b' ∧ o = o') ∧ sc = c' := by simpa using hc'
                  have HXF := Lib.hid (HLE.out _ (List.getElem_mem hpl))
                  have HIX := Lib.hid (HID.out _ hpl)
                  rw [← evAt_get ls hpl] at g0 g1 g2 g3 HXF
                  obtain ⟨d, hde⟩ : ∃ d, evAt ls (i + 1 + j) = d := ⟨_, rfl⟩
                  have HXE := Lib.hid hde
                  rw [hde] at g0 g1 g2 g3 HXF HIX
                  have ea : o + (i + 1 + j) * 4 = o + (i + 1) * 4 + j * 4 := by rw [Nat.add_mul (i + 1) j 4]; omega
                  rw [ea] at g0 g1 g2 g3
                  have hbq := HBQ9.out.trans (hb.mono HBQ9.out.size)
                  have hc0 := (hbq.cell (p := ⟨b, o + (i + 1) * 4 + j * 4, none⟩) hbl).trans g0
                  have hc1 := (hbq.cell (p := ⟨b, o + (i + 1) * 4 + j * 4 + 1, none⟩) hbl).trans g1
                  have hc2 := (hbq.cell (p := ⟨b, o + (i + 1) * 4 + j * 4 + 2, none⟩) hbl).trans g2
                  have hc3 := (hbq.cell (p := ⟨b, o + (i + 1) * 4 + j * 4 + 3, none⟩) hbl).trans g3
                  obtain ⟨wd, hwd⟩ : ∃ wd, wd = wr.alloc (.cells #[.int .i64 d.id, .int .i64 d.time, .int .u8 d.kind, .int .i64 d.val] 37) := ⟨_, rfl⟩
                  have HBN := Lib.hid (show wd.heap[wr.heap.size]? = some (.cells (encE d).toArray 37 (0, 0)) by rw [hwd]; exact heap_new rfl)
                  have hGD : Below wr.heap.size wr wd := by rw [hwd]; exact (Below.refl _ _).alloc (Nat.le_refl _) _
                  have HBZ := Lib.hid (hb.trans (hGD.mono hb.size)); have HWD := Lib.hid hwd
                  have HAN := Lib.hid ((HBZ.out.block _ (heap_lt HBX9.out)).trans HBX9.out)
                  have HLN := HAN; have HLE2 := HAE
                  rw [HAE.out, hde] at HM2
                  clear hc' g0 g1 g2 g3 hb hwd hGD hde hbq ea
                  go_upto_region 23 with (fail)
                  rw [← HWD.out]
                  clear hc0 hc1 hc2 hc3
                  obtain ⟨by', hby⟩ : ∃ by', wr.heap.size = by' := ⟨_, rfl⟩
                  rw [hby] at HBN ⊢
                  clear hby
                  have hcc := cn2_le m ls hl60 i j
                  have x1 : wd.cell? ⟨by', 1, none⟩ = some (.int .i64 d.time) := (Lib.cell_of_heap HBN.out 1).trans rfl
                  have x2 : wd.cell? ⟨by', 2, none⟩ = some (.int .u8 d.kind) := (Lib.cell_of_heap HBN.out 2).trans rfl
                  have x3 : wd.cell? ⟨by', 3, none⟩ = some (.int .i64 d.val) := (Lib.cell_of_heap HBN.out 3).trans rfl
                  have y1 : wd.cell? ⟨bx, 1, none⟩ = some (.int .i64 a.time) := (Lib.cell_of_heap HAN.out 1).trans rfl
                  have y3 : wd.cell? ⟨bx, 3, none⟩ = some (.int .i64 a.val) := (Lib.cell_of_heap HLN.out 3).trans rfl
                  obtain ⟨_, _, ⟨ct0, ct1⟩, _, cv0, cv1⟩ := HXF.out
                  obtain ⟨_, _, ⟨at0, at1⟩, _, av0, av1⟩ := HAF.out
                  have hwt : IntKind.i64.wrap (d.time - a.time) = d.time - a.time := IntWalk.i64_in _ (by omega)
                  obtain ⟨R, hR⟩ : ∃ R, (d.kind == 65 && (decide (a.val < d.val) && decide (d.time - a.time ≤ m))) = R := ⟨_, rfl⟩
                  have HPK := Lib.hid (show ok2 m ls i (i + 1 + j) = R by rw [← hR]; unfold ok2; simp only [HAE.out, HXE.out])
                  have HRQ := Lib.hid hR
                  go_cut [96] (fun s wq' => s = .bool (!R) ∧ wq' = wd)
                  case first =>
                    by_cases hk1 : d.kind = 65
                    · have e1 : (d.kind == 65) = true := by simp [hk1]
                      have f1 : (d.kind != 65) = false := by simp [hk1]
                      by_cases hk2 : a.val < d.val
                      · have e2 : decide (a.val < d.val) = true := decide_eq_true hk2
                        have f2 : decide (d.val ≤ a.val) = false := decide_eq_false (by omega)
                        by_cases hk3 : d.time - a.time ≤ m
                        · have e3 : decide (d.time - a.time ≤ m) = true := decide_eq_true hk3
                          have f3 : decide (m < d.time - a.time) = false := decide_eq_false (by omega)
                          have HRV := Lib.hid (show R = true by rw [← HRQ.out, e1, e2, e3]; rfl)
                          clear hR hk1 hk2 hk3
                          go_wp2_with fail
                          go_meet
                          exact ⟨by rw [HRV.out]; rfl, rfl⟩
                        · have e3 : decide (d.time - a.time ≤ m) = false := decide_eq_false hk3
                          have f3 : decide (m < d.time - a.time) = true := decide_eq_true (by omega)
                          have HRV := Lib.hid (show R = false by rw [← HRQ.out, e1, e2, e3]; rfl)
                          clear hR hk1 hk2 hk3
                          go_wp2_with fail
                          go_meet
                          exact ⟨by rw [HRV.out]; rfl, rfl⟩
                      · have e2 : decide (a.val < d.val) = false := decide_eq_false hk2
                        have f2 : decide (d.val ≤ a.val) = true := decide_eq_true (by omega)
                        have HRV := Lib.hid (show R = false by rw [← HRQ.out, e1, e2]; rfl)
                        clear hR hk1 hk2
                        go_wp2_with fail
                        go_meet
                        exact ⟨by rw [HRV.out]; rfl, rfl⟩
                    · have e1 : (d.kind == 65) = false := by simp [hk1]
                      have f1 : (d.kind != 65) = true := by simp [hk1]
                      have HRV := Lib.hid (show R = false by rw [← HRQ.out, e1]; rfl)
                      clear hR hk1
                      go_wp2_with fail
                      go_meet
                      exact ⟨by rw [HRV.out]; rfl, rfl⟩
                  case rest =>
                    obtain ⟨rfl, hwq⟩ := hcut
                    obtain ⟨wz, rfl⟩ : ∃ w' : World, w' = wc := ⟨_, rfl⟩
                    subst hwq
                    clear hR HRQ hwt x1 x2 x3 y1 y3
                    cases hRv : R with
                    | false =>
                      have HEQ := Lib.hid (show cn2 m ls i (j + 1) = cn2 m ls i j by rw [HS2.out, HL2.out, HPK.out, hRv]; simp)
                      have HREL := Lib.hid (show ∃ jn, jn ≤ nb ∧ Value.int .i64 ((j : Int) + 1) = .int .i64 (jn : Nat) ∧ Value.int .i64 ((cn1 m ls i + 1 + cn2 m ls i j : Nat) : Int) = .int .i64 ((cn1 m ls i + 1 + cn2 m ls i jn : Nat) : Int) ∧ Below w9.heap.size w9 wz from ⟨j + 1, by omega, by go_num, by rw [HEQ.out], HBZ.out⟩)
                      clear hRv
                      go_wp2_with fail
                      go_roundw
                      case rel => exact HREL.out
                      case measure => simp [intOf]; omega
                    | true =>
                      have HKT := Lib.hid (show ok2 m ls i (i + 1 + j) = true by rw [HPK.out, hRv])
                      have HMT := Lib.hid (HM2.out HOK.out HKT.out)
                      clear hRv
                      have hgz : g < wz.heap.size := by have := HBQ9.out.size; have := HBZ.out.size; omega
                      have HMZ := Lib.hid (show MetQ T g T.length wz from HMQ.out.below (HBQ9.out.trans (HBZ.out.mono HBQ9.out.size)) hgq)
                      have hcn1 := cn1_le m ls hl60 i
                      go_upto_region 25 with (fail)
                      refine Reg.stand_order (W := wz) (h := 11) (t := 0)
                        [⟨0, 99, [], 99, [], none, fun v _ => v = .map (some g)⟩,
                         ⟨1, 100, [], 99, [], none, fun v _ => v = .pointer (some ⟨bx, 0, none⟩)⟩,
                         ⟨2, 101, [], 99, [], none, fun v _ => v = .int .i64 a.id⟩,
                         ⟨3, 102, [], 99, [], none, fun v _ => v = .string ⟨(Lib.itoa a.id).toArray⟩⟩,
                         ⟨4, 103, [], 99, [], none, fun v _ => v = .string (⟨(Lib.itoa a.id).toArray⟩ ++ ⟨#[44]⟩)⟩,
                         ⟨5, 104, [], 99, [], none, fun v _ => v = .pointer (some ⟨by', 0, none⟩)⟩,
                         ⟨6, 105, [], 99, [], none, fun v _ => v = .int .i64 d.id⟩,
                         ⟨7, 106, [], 99, [], none, fun v _ => v = .string ⟨(Lib.itoa d.id).toArray⟩⟩,
                         ⟨8, 107, [], 99, [], none, fun v _ => v = .string (⟨(Lib.itoa a.id).toArray⟩ ++ ⟨#[44]⟩ ++ ⟨(Lib.itoa d.id).toArray⟩)⟩,
                         ⟨9, 108, [], 99, [], none, fun v _ => v = .int .i64 1⟩,
                         ⟨10, 109, [], 99, [], none, fun v _ => v = .bool false⟩]
                        []
                        (by kernel_rfl) rfl (by kernel_rfl) (by kernel_rfl) (by kernel_rfl) (show [0, 1, 2, 3, 4, 5, 6, 7, 8, 9, 10].Nodup by decide) (show ∀ i, i < 11 → i ∈ [0, 1, 2, 3, 4, 5, 6, 7, 8, 9, 10] by decide) ?_ (show [99, 100, 101, 102, 103, 104, 105, 106, 107, 108, 109].Nodup by decide) (show ∀ s ∈ [99, 100, 101, 102, 103, 104, 105, 106, 107, 108, 109], s < 165 by decide) (by kernel_rfl) ?_ ?_ (Below.refl _ _) ?_ ?_ ?_
                      · intro f hf
                        simp only [List.mem_cons, List.not_mem_nil, or_false] at hf
                        rcases hf with rfl | rfl | rfl | rfl | rfl | rfl | rfl | rfl | rfl | rfl | rfl <;> simp
                      · intro f hf v w1 w2 hk hF
                        simp only [List.mem_cons, List.not_mem_nil, or_false] at hf
                        rcases hf with rfl | rfl | rfl | rfl | rfl | rfl | rfl | rfl | rfl | rfl | rfl
                        · exact hF
                        · exact hF
                        · exact hF
                        · exact hF
                        · exact hF
                        · exact hF
                        · exact hF
                        · exact hF
                        · exact hF
                        · exact hF
                        · exact hF
                      · intro f hf; cases hf
                      · intro f hf; cases hf
                      · intro f hf a' w1 hs hg' hst
                        have t8 : a'.eval (.tmp 8) = .map (some g) := Reg.eval_tmp ((hs.out 8 (show 8 ∉ [99, 100, 101, 102, 103, 104, 105, 106, 107, 108, 109] by decide)).trans rfl)
                        have t13 : a'.eval (.tmp 13) = .pointer (some ⟨bx, 0, none⟩) := Reg.eval_tmp ((hs.out 13 (show 13 ∉ [99, 100, 101, 102, 103, 104, 105, 106, 107, 108, 109] by decide)).trans rfl)
                        have t15 : a'.eval (.tmp 15) = .pointer (some ⟨by', 0, none⟩) := Reg.eval_tmp ((hs.out 15 (show 15 ∉ [99, 100, 101, 102, 103, 104, 105, 106, 107, 108, 109] by decide)).trans rfl)
                        simp only [List.mem_cons, List.not_mem_nil, or_false] at hf
                        rcases hf with rfl | rfl | rfl | rfl | rfl | rfl | rfl | rfl | rfl | rfl | rfl
                        · have u1 := t8
                          exact Reg.step_val rfl rfl rfl (Reg.run_move u1) rfl hs.below (fun e => Reg.Keeps.refl e _)
                        · have u1 := t13
                          exact Reg.step_val (w' := w1) (v := .pointer (some ⟨bx, 0, none⟩)) rfl rfl rfl (Ord.run_fld u1 (by go_simp)) rfl hs.below (fun e => Reg.Keeps.refl e _)
                        · obtain ⟨v1, hv1, rfl⟩ : ∃ v, a'.tmps[100]? = some v ∧ v = .pointer (some ⟨bx, 0, none⟩) := hg' _ (Reg.at_fact 1 rfl) (by kernel_rfl) (by simp [Reg.okTil])
                          have u1 := Reg.eval_tmp hv1
                          exact Reg.step_val rfl rfl rfl (Reg.run_load u1 (load_i64 ((Lib.cell_of_heap ((hs.below.block _ (heap_lt HAN.out)).trans HAN.out) 0).trans rfl))) rfl hs.below (fun e => Reg.Keeps.refl e _)
                        · obtain ⟨v1, hv1, rfl⟩ : ∃ v, a'.tmps[101]? = some v ∧ v = .int .i64 a.id := hg' _ (Reg.at_fact 2 rfl) (by kernel_rfl) (by simp [Reg.okTil])
                          have u1 := Reg.eval_tmp hv1
                          refine Reg.step_call (f := 23) (args := #[.int .i64 a.id]) rfl rfl rfl (by go_simp) hs.below ((dec_top a.id HIA.out.1 (by have := HIA.out; omega) w1).mono ?_)
                          rintro en w2 ⟨rfl, hgr⟩
                          exact ⟨_, rfl, rfl, hgr.below⟩
                        · obtain ⟨v1, hv1, rfl⟩ : ∃ v, a'.tmps[102]? = some v ∧ v = .string ⟨(Lib.itoa a.id).toArray⟩ := hg' _ (Reg.at_fact 3 rfl) (by kernel_rfl) (by simp [Reg.okTil])
                          have u1 := Reg.eval_tmp hv1
                          have hla : (Lib.itoa a.id).length ≤ 9223372036854775806 := by have := HIA.out.2.2; omega
                          exact Reg.step_val rfl rfl rfl (w' := w1) (v := .string (⟨(Lib.itoa a.id).toArray⟩ ++ ⟨#[44]⟩)) (by go_simp) rfl hs.below (fun e => Reg.Keeps.refl e _)
                        · have u1 := t15
                          exact Reg.step_val (w' := w1) (v := .pointer (some ⟨by', 0, none⟩)) rfl rfl rfl (Ord.run_fld u1 (by go_simp)) rfl hs.below (fun e => Reg.Keeps.refl e _)
                        · obtain ⟨v1, hv1, rfl⟩ : ∃ v, a'.tmps[104]? = some v ∧ v = .pointer (some ⟨by', 0, none⟩) := hg' _ (Reg.at_fact 5 rfl) (by kernel_rfl) (by simp [Reg.okTil])
                          have u1 := Reg.eval_tmp hv1
                          exact Reg.step_val rfl rfl rfl (Reg.run_load u1 (load_i64 ((Lib.cell_of_heap ((hs.below.block _ (heap_lt HBN.out)).trans HBN.out) 0).trans rfl))) rfl hs.below (fun e => Reg.Keeps.refl e _)
                        · obtain ⟨v1, hv1, rfl⟩ : ∃ v, a'.tmps[105]? = some v ∧ v = .int .i64 d.id := hg' _ (Reg.at_fact 6 rfl) (by kernel_rfl) (by simp [Reg.okTil])
                          have u1 := Reg.eval_tmp hv1
                          refine Reg.step_call (f := 23) (args := #[.int .i64 d.id]) rfl rfl rfl (by go_simp) hs.below ((dec_top d.id HIX.out.1 (by have := HIX.out; omega) w1).mono ?_)
                          rintro en w2 ⟨rfl, hgr⟩
                          exact ⟨_, rfl, rfl, hgr.below⟩
                        · obtain ⟨v1, hv1, rfl⟩ : ∃ v, a'.tmps[103]? = some v ∧ v = .string (⟨(Lib.itoa a.id).toArray⟩ ++ ⟨#[44]⟩) := hg' _ (Reg.at_fact 4 rfl) (by kernel_rfl) (by simp [Reg.okTil])
                          obtain ⟨v2, hv2, rfl⟩ : ∃ v, a'.tmps[106]? = some v ∧ v = .string ⟨(Lib.itoa d.id).toArray⟩ := hg' _ (Reg.at_fact 7 rfl) (by kernel_rfl) (by simp [Reg.okTil])
                          have u1 := Reg.eval_tmp hv1
                          have u2 := Reg.eval_tmp hv2
                          have hla : (Lib.itoa a.id).length + 1 + (Lib.itoa d.id).length ≤ 9223372036854775807 := by have := HIA.out.2.2; have := HIX.out.2.2; omega
                          exact Reg.step_val rfl rfl rfl (w' := w1) (v := .string (⟨(Lib.itoa a.id).toArray⟩ ++ ⟨#[44]⟩ ++ ⟨(Lib.itoa d.id).toArray⟩)) (by go_simp) rfl hs.below (fun e => Reg.Keeps.refl e _)
                        · obtain ⟨v1, hv1, rfl⟩ : ∃ v, a'.tmps[99]? = some v ∧ v = .map (some g) := hg' _ (Reg.at_fact 0 rfl) (by kernel_rfl) (by simp [Reg.okTil])
                          obtain ⟨v2, hv2, rfl⟩ : ∃ v, a'.tmps[107]? = some v ∧ v = .string (⟨(Lib.itoa a.id).toArray⟩ ++ ⟨#[44]⟩ ++ ⟨(Lib.itoa d.id).toArray⟩) := hg' _ (Reg.at_fact 8 rfl) (by kernel_rfl) (by simp [Reg.okTil])
                          have u1 := Reg.eval_tmp hv1
                          have u2 := Reg.eval_tmp hv2
                          have l0 := HIA.out.2.2
                          have l1 := HIX.out.2.2
                          have hlk := (HMZ.out.below hs.below hgz).look (s := ⟨(Lib.itoa a.id).toArray⟩ ++ ⟨#[44]⟩ ++ ⟨(Lib.itoa d.id).toArray⟩) (t := Lib.itoa a.id ++ 44 :: (Lib.itoa d.id)) (by rw [show (⟨#[44]⟩ : ByteArray) = ⟨[44].toArray⟩ from rfl, joinT, joinT]; simp) HMT.out (by simp only [List.length_append, List.length_cons]; unfold maxLen; omega)
                          exact Reg.step_val rfl rfl rfl (w' := w1) (v := .int .i64 1) (by go_simp) rfl hs.below (fun e => Reg.Keeps.refl e _)
                        · obtain ⟨v1, hv1, rfl⟩ : ∃ v, a'.tmps[108]? = some v ∧ v = .int .i64 1 := hg' _ (Reg.at_fact 9 rfl) (by kernel_rfl) (by simp [Reg.okTil])
                          have u1 := Reg.eval_tmp hv1
                          exact Reg.step_val rfl rfl rfl (w' := w1) (v := .bool false) (by go_simp) rfl hs.below (fun e => Reg.Keeps.refl e _)
                      · intro vals w1 hF hfx hb1
                        have e109 : vals 109 = .bool false := hF _ (Reg.at_fact 10 rfl) (show (11 + 0 : Nat) ≤ 99 by decide)
                        simp only [List.map_cons, List.map_nil, e109]
                        generalize vals 99 = p99
                        generalize vals 100 = p100
                        generalize vals 101 = p101
                        generalize vals 102 = p102
                        generalize vals 103 = p103
                        generalize vals 104 = p104
                        generalize vals 105 = p105
                        generalize vals 106 = p106
                        generalize vals 107 = p107
                        generalize vals 108 = p108
                        clear hF hfx e109
                        have HZQ := Lib.hid hb1
                        clear hb1
                        unfold Reg.puts Reg.puts Reg.puts Reg.puts Reg.puts Reg.puts Reg.puts Reg.puts Reg.puts Reg.puts Reg.puts Reg.puts
                        go_simp
                        have hsc1 : (ls.length : Int) ≤ (sc : Int) := by omega
                        have hk2i : (i : Int) + (j : Int) + 2 ≤ (ls.length : Int) := by omega
                        have hk20 : (0 : Int) ≤ (i : Int) + (j : Int) + 2 := by omega
                        have hwk2 : IntKind.i64.wrap ((i : Int) + (j : Int)) = (i : Int) + (j : Int) := IntWalk.i64_in _ (by omega)
                        have hwk3 : IntKind.i64.wrap ((i : Int) + (j : Int) + 2) = (i : Int) + (j : Int) + 2 := IntWalk.i64_in _ (by omega)
                        obtain ⟨wy, rfl⟩ : ∃ w' : World, w' = w1 := ⟨_, rfl⟩
                        obtain ⟨nc, hnc⟩ : ∃ nc, ls.length - (i + 1 + j + 1) = nc := ⟨_, rfl⟩
                        have hnc1 : (ls.length : Int) - ((i : Int) + (j : Int) + 2) = (nc : Int) := by omega
                        have hnk1 : ls.length ≤ i + j + 2 + nc := by omega
                        have hnk2 : i + j + 2 + nc ≤ ls.length := by omega
                        have HR2 := Lib.hid (show cn2 m ls i (j + 1) = cn2 m ls i j + 1 + cn3 m ls i (i + 1 + j) nc by rw [HS2.out, HL2.out, HKT.out, if_pos rfl, hnc]; omega)
                        have HQW := Lib.hid (HBZ.out.trans (HZQ.out.mono HBZ.out.size))
                        have HQY := Lib.hid (HBQ9.out.trans (HQW.out.mono HBQ9.out.size))
                        have HAY := Lib.hid ((HZQ.out.block _ (heap_lt HAN.out)).trans HAN.out)
                        have HDY := Lib.hid ((HZQ.out.block _ (heap_lt HBN.out)).trans HBN.out)
                        have HMY := Lib.hid (HMZ.out.below HZQ.out hgz)
                        have hgy : g < wy.heap.size := by have := HZQ.out.size; omega
                        have HLE2 := HXE; have HIDD := HIX
                        clear hnc
                        by_cases hsq2 : sc = i + j + 2
                        · have hnc0 : nc ≤ 0 := by omega
                          subst hsq2
                          go_wp2_with fail
                          go_loopw [11, 117] (fun c jv wr => ∃ jn, jn ≤ nc ∧ jv = .int .i64 (jn : Nat) ∧ c = .int .i64 ((cn1 m ls i + 1 + cn2 m ls i j + 1 + cn3 m ls i (i + 1 + j) jn : Nat) : Int) ∧ Below wy.heap.size wy wr) (fun _ jv _ => nc - (intOf jv).toNat)
                          case atStart => exact ⟨0, Nat.zero_le _, rfl, by have h0 : cn3 m ls i (i + 1 + j) 0 = 0 := rfl
                                                                           rw [h0]; go_num, Below.refl _ _⟩
                          case round =>
                            obtain ⟨jj, hjj, rfl, rfl, hb⟩ := hrel
                            obtain rfl : jj = nc := by omega
                            have HREL := Lib.hid (show ∃ jn, jn ≤ nb ∧ Value.int .i64 ((j : Int) + 1) = .int .i64 (jn : Nat) ∧ Value.int .i64 ((cn1 m ls i + 1 + cn2 m ls i j + 1 + cn3 m ls i (i + 1 + j) jj : Nat) : Int) = .int .i64 ((cn1 m ls i + 1 + cn2 m ls i jn : Nat) : Int) ∧ Below w9.heap.size w9 wr from ⟨j + 1, by omega, by go_num, by
                              have e : cn1 m ls i + 1 + cn2 m ls i j + 1 + cn3 m ls i (i + 1 + j) jj = cn1 m ls i + 1 + cn2 m ls i (j + 1) := by rw [HR2.out]; omega
                              rw [e], HQW.out.trans (hb.mono HQW.out.size)⟩)
                            clear hb
                            go_wp2_with fail
                            go_roundw
                            case rel => exact HREL.out
                            case measure => simp [intOf]; omega
                        · go_wp2_with fail
                          go_loopw [11, 117] (fun c jv wr => ∃ jn, jn ≤ nc ∧ jv = .int .i64 (jn : Nat) ∧ c = .int .i64 ((cn1 m ls i + 1 + cn2 m ls i j + 1 + cn3 m ls i (i + 1 + j) jn : Nat) : Int) ∧ Below wy.heap.size wy wr) (fun _ jv _ => nc - (intOf jv).toNat)
                          case atStart => exact ⟨0, Nat.zero_le _, rfl, by have h0 : cn3 m ls i (i + 1 + j) 0 = 0 := rfl
                                                                           rw [h0]; go_num, Below.refl _ _⟩
                          case round =>
                            obtain ⟨jj, hjj, rfl, rfl, hb⟩ := hrel
                            have hc3 := cn3_le m ls i (i + 1 + j) jj
                            by_cases hlj3 : jj < nc
                            · have hji3 : (jj : Int) < (nc : Int) := by omega
                              have hj03 : (0 : Int) ≤ (jj : Int) := by omega
                              have hpl : i + j + 2 + jj < ls.length := by omega
                              have eix : i + 1 + j + 1 + jj = i + j + 2 + jj := by omega
                              have hs3 := cn3_succ m ls i (i + 1 + j) jj
                              rw [eix] at hs3
                              have HS3 := Lib.hid hs3; have HL3 := Lib.hid (rise3_len m ls i (i + 1 + j) (i + j + 2 + jj))
                              have HM3 := Lib.hid (fun h h2 h3 => HMEM.out [i, i + 1 + j, i + j + 2 + jj] (mem_rise.2 (.inr (.inr ⟨i, i + 1 + j, i + j + 2 + jj, rfl, by omega, by omega, hpl, h, h2, h3⟩))))
                              rw [riseT_3] at HM3
                              clear eix hs3
                              obtain ⟨b', o', c', hc', hbl, g0, g1, g2, g3⟩ := HVQ.out.at_ hpl
                              obtain ⟨⟨rfl, rfl⟩, rfl⟩ : (b = b' ∧ o = o') ∧ sc = c' := by simpa using hc'
                              have HXF := Lib.hid (HLE.out _ (List.getElem_mem hpl))
                              have HIX := Lib.hid (HID.out _ hpl)
                              rw [← evAt_get ls hpl] at g0 g1 g2 g3 HXF
                              obtain ⟨f, hde⟩ : ∃ d, evAt ls (i + j + 2 + jj) = d := ⟨_, rfl⟩
                              have HXE := Lib.hid hde
                              rw [hde] at g0 g1 g2 g3 HXF HIX
                              have ea : o + (i + j + 2 + jj) * 4 = o + (i + j + 2) * 4 + jj * 4 := by rw [Nat.add_mul (i + j + 2) jj 4]; omega
                              rw [ea] at g0 g1 g2 g3
                              have hbq := HQY.out.trans (hb.mono HQY.out.size)
                              have hc0 := (hbq.cell (p := ⟨b, o + (i + j + 2) * 4 + jj * 4, none⟩) hbl).trans g0
                              have hc1 := (hbq.cell (p := ⟨b, o + (i + j + 2) * 4 + jj * 4 + 1, none⟩) hbl).trans g1
                              have hc2 := (hbq.cell (p := ⟨b, o + (i + j + 2) * 4 + jj * 4 + 2, none⟩) hbl).trans g2
                              have hc3 := (hbq.cell (p := ⟨b, o + (i + j + 2) * 4 + jj * 4 + 3, none⟩) hbl).trans g3
                              obtain ⟨wd, hwd⟩ : ∃ wd, wd = wr.alloc (.cells #[.int .i64 f.id, .int .i64 f.time, .int .u8 f.kind, .int .i64 f.val] 37) := ⟨_, rfl⟩
                              have HBN := Lib.hid (show wd.heap[wr.heap.size]? = some (.cells (encE f).toArray 37 (0, 0)) by rw [hwd]; exact heap_new rfl)
                              have hGD : Below wr.heap.size wr wd := by rw [hwd]; exact (Below.refl _ _).alloc (Nat.le_refl _) _
                              have HBZ := Lib.hid (hb.trans (hGD.mono hb.size)); have HWD := Lib.hid hwd
                              have HAN := Lib.hid ((HBZ.out.block _ (heap_lt HAY.out)).trans HAY.out)
                              have HLN := Lib.hid ((HBZ.out.block _ (heap_lt HDY.out)).trans HDY.out)
                              rw [HAE.out, HLE2.out, hde] at HM3
                              clear hc' g0 g1 g2 g3 hb hwd hGD hde hbq ea
                              go_upto_region 30 with (fail)
                              rw [← HWD.out]
                              clear hc0 hc1 hc2 hc3
                              obtain ⟨bf, hbf⟩ : ∃ bf, wr.heap.size = bf := ⟨_, rfl⟩
                              rw [hbf] at HBN ⊢
                              clear hbf
                              have hcd := cn3_le m ls i (i + 1 + j) jj
                              have x1 : wd.cell? ⟨bf, 1, none⟩ = some (.int .i64 f.time) := (Lib.cell_of_heap HBN.out 1).trans rfl
                              have x2 : wd.cell? ⟨bf, 2, none⟩ = some (.int .u8 f.kind) := (Lib.cell_of_heap HBN.out 2).trans rfl
                              have x3 : wd.cell? ⟨bf, 3, none⟩ = some (.int .i64 f.val) := (Lib.cell_of_heap HBN.out 3).trans rfl
                              have y1 : wd.cell? ⟨bx, 1, none⟩ = some (.int .i64 a.time) := (Lib.cell_of_heap HAN.out 1).trans rfl
                              have y3 : wd.cell? ⟨by', 3, none⟩ = some (.int .i64 d.val) := (Lib.cell_of_heap HLN.out 3).trans rfl
                              obtain ⟨_, _, ⟨ct0, ct1⟩, _, cv0, cv1⟩ := HXF.out
                              obtain ⟨_, _, ⟨at0, at1⟩, _, av0, av1⟩ := HAF.out
                              have hwt : IntKind.i64.wrap (f.time - a.time) = f.time - a.time := IntWalk.i64_in _ (by omega)
                              obtain ⟨R, hR⟩ : ∃ R, (f.kind == 65 && (decide (d.val < f.val) && decide (f.time - a.time ≤ m))) = R := ⟨_, rfl⟩
                              have HPK := Lib.hid (show ok3 m ls i (i + 1 + j) (i + j + 2 + jj) = R by rw [← hR]; unfold ok3; simp only [HAE.out, HXE.out, HLE2.out])
                              have HRQ := Lib.hid hR
                              go_cut [139] (fun s wq' => s = .bool (!R) ∧ wq' = wd)
                              case first =>
                                by_cases hk1 : f.kind = 65
                                · have e1 : (f.kind == 65) = true := by simp [hk1]
                                  have f1 : (f.kind != 65) = false := by simp [hk1]
                                  by_cases hk2 : d.val < f.val
                                  · have e2 : decide (d.val < f.val) = true := decide_eq_true hk2
                                    have f2 : decide (f.val ≤ d.val) = false := decide_eq_false (by omega)
                                    by_cases hk3 : f.time - a.time ≤ m
                                    · have e3 : decide (f.time - a.time ≤ m) = true := decide_eq_true hk3
                                      have f3 : decide (m < f.time - a.time) = false := decide_eq_false (by omega)
                                      have HRV := Lib.hid (show R = true by rw [← HRQ.out, e1, e2, e3]; rfl)
                                      clear hR hk1 hk2 hk3
                                      go_wp2_with fail
                                      go_meet
                                      exact ⟨by rw [HRV.out]; rfl, rfl⟩
                                    · have e3 : decide (f.time - a.time ≤ m) = false := decide_eq_false hk3
                                      have f3 : decide (m < f.time - a.time) = true := decide_eq_true (by omega)
                                      have HRV := Lib.hid (show R = false by rw [← HRQ.out, e1, e2, e3]; rfl)
                                      clear hR hk1 hk2 hk3
                                      go_wp2_with fail
                                      go_meet
                                      exact ⟨by rw [HRV.out]; rfl, rfl⟩
                                  · have e2 : decide (d.val < f.val) = false := decide_eq_false hk2
                                    have f2 : decide (f.val ≤ d.val) = true := decide_eq_true (by omega)
                                    have HRV := Lib.hid (show R = false by rw [← HRQ.out, e1, e2]; rfl)
                                    clear hR hk1 hk2
                                    go_wp2_with fail
                                    go_meet
                                    exact ⟨by rw [HRV.out]; rfl, rfl⟩
                                · have e1 : (f.kind == 65) = false := by simp [hk1]
                                  have f1 : (f.kind != 65) = true := by simp [hk1]
                                  have HRV := Lib.hid (show R = false by rw [← HRQ.out, e1]; rfl)
                                  clear hR hk1
                                  go_wp2_with fail
                                  go_meet
                                  exact ⟨by rw [HRV.out]; rfl, rfl⟩
                              case rest =>
                                obtain ⟨rfl, hwq⟩ := hcut
                                obtain ⟨wz, rfl⟩ : ∃ w' : World, w' = wc := ⟨_, rfl⟩
                                subst hwq
                                clear hR HRQ hwt x1 x2 x3 y1 y3
                                cases hRv : R with
                                | false =>
                                  have HEQ := Lib.hid (show cn3 m ls i (i + 1 + j) (jj + 1) = cn3 m ls i (i + 1 + j) jj by rw [HS3.out, HL3.out, HPK.out, hRv]; simp)
                                  have HREL := Lib.hid (show ∃ jn, jn ≤ nc ∧ Value.int .i64 ((jj : Int) + 1) = .int .i64 (jn : Nat) ∧ Value.int .i64 ((cn1 m ls i + 1 + cn2 m ls i j + 1 + cn3 m ls i (i + 1 + j) jj : Nat) : Int) = .int .i64 ((cn1 m ls i + 1 + cn2 m ls i j + 1 + cn3 m ls i (i + 1 + j) jn : Nat) : Int) ∧ Below wy.heap.size wy wz from ⟨jj + 1, by omega, by go_num, by rw [HEQ.out], HBZ.out⟩)
                                  clear hRv
                                  go_wp2_with fail
                                  go_roundw
                                  case rel => exact HREL.out
                                  case measure => simp [intOf]; omega
                                | true =>
                                  have HK3 := Lib.hid (show ok3 m ls i (i + 1 + j) (i + j + 2 + jj) = true by rw [HPK.out, hRv])
                                  have HMT3 := Lib.hid (HM3.out HOK.out HKT.out HK3.out)
                                  have HEQ := Lib.hid (show cn3 m ls i (i + 1 + j) (jj + 1) = cn3 m ls i (i + 1 + j) jj + 1 by rw [HS3.out, HL3.out, HK3.out]; rfl)
                                  clear hRv
                                  have hgz : g < wz.heap.size := by have := HBZ.out.size; omega
                                  have HMZ := Lib.hid (show MetQ T g T.length wz from HMY.out.below HBZ.out hgy)
                                  go_upto_region 32 with (fail)
                                  refine Reg.stand_order (W := wz) (h := 16) (t := 0)
                                    [⟨0, 142, [], 99, [], none, fun v _ => v = .map (some g)⟩,
                                     ⟨1, 143, [], 99, [], none, fun v _ => v = .pointer (some ⟨bx, 0, none⟩)⟩,
                                     ⟨2, 144, [], 99, [], none, fun v _ => v = .int .i64 a.id⟩,
                                     ⟨3, 145, [], 99, [], none, fun v _ => v = .string ⟨(Lib.itoa a.id).toArray⟩⟩,
                                     ⟨4, 146, [], 99, [], none, fun v _ => v = .string (⟨(Lib.itoa a.id).toArray⟩ ++ ⟨#[44]⟩)⟩,
                                     ⟨5, 147, [], 99, [], none, fun v _ => v = .pointer (some ⟨by', 0, none⟩)⟩,
                                     ⟨6, 148, [], 99, [], none, fun v _ => v = .int .i64 d.id⟩,
                                     ⟨7, 149, [], 99, [], none, fun v _ => v = .string ⟨(Lib.itoa d.id).toArray⟩⟩,
                                     ⟨8, 150, [], 99, [], none, fun v _ => v = .string (⟨(Lib.itoa a.id).toArray⟩ ++ ⟨#[44]⟩ ++ ⟨(Lib.itoa d.id).toArray⟩)⟩,
                                     ⟨9, 151, [], 99, [], none, fun v _ => v = .string (⟨(Lib.itoa a.id).toArray⟩ ++ ⟨#[44]⟩ ++ ⟨(Lib.itoa d.id).toArray⟩ ++ ⟨#[44]⟩)⟩,
                                     ⟨10, 152, [], 99, [], none, fun v _ => v = .pointer (some ⟨bf, 0, none⟩)⟩,
                                     ⟨11, 153, [], 99, [], none, fun v _ => v = .int .i64 f.id⟩,
                                     ⟨12, 154, [], 99, [], none, fun v _ => v = .string ⟨(Lib.itoa f.id).toArray⟩⟩,
                                     ⟨13, 155, [], 99, [], none, fun v _ => v = .string (⟨(Lib.itoa a.id).toArray⟩ ++ ⟨#[44]⟩ ++ ⟨(Lib.itoa d.id).toArray⟩ ++ ⟨#[44]⟩ ++ ⟨(Lib.itoa f.id).toArray⟩)⟩,
                                     ⟨14, 156, [], 99, [], none, fun v _ => v = .int .i64 1⟩,
                                     ⟨15, 157, [], 99, [], none, fun v _ => v = .bool false⟩]
                                    []
                                    (by kernel_rfl) rfl (by kernel_rfl) (by kernel_rfl) (by kernel_rfl) (show [0, 1, 2, 3, 4, 5, 6, 7, 8, 9, 10, 11, 12, 13, 14, 15].Nodup by decide) (show ∀ i, i < 16 → i ∈ [0, 1, 2, 3, 4, 5, 6, 7, 8, 9, 10, 11, 12, 13, 14, 15] by decide) ?_ (show [142, 143, 144, 145, 146, 147, 148, 149, 150, 151, 152, 153, 154, 155, 156, 157].Nodup by decide) (show ∀ s ∈ [142, 143, 144, 145, 146, 147, 148, 149, 150, 151, 152, 153, 154, 155, 156, 157], s < 165 by decide) (by kernel_rfl) ?_ ?_ (Below.refl _ _) ?_ ?_ ?_
                                  · intro f hf
                                    simp only [List.mem_cons, List.not_mem_nil, or_false] at hf
                                    rcases hf with rfl | rfl | rfl | rfl | rfl | rfl | rfl | rfl | rfl | rfl | rfl | rfl | rfl | rfl | rfl | rfl <;> simp
                                  · intro f hf v w1 w2 hk hF
                                    simp only [List.mem_cons, List.not_mem_nil, or_false] at hf
                                    rcases hf with rfl | rfl | rfl | rfl | rfl | rfl | rfl | rfl | rfl | rfl | rfl | rfl | rfl | rfl | rfl | rfl
                                    · exact hF
                                    · exact hF
                                    · exact hF
                                    · exact hF
                                    · exact hF
                                    · exact hF
                                    · exact hF
                                    · exact hF
                                    · exact hF
                                    · exact hF
                                    · exact hF
                                    · exact hF
                                    · exact hF
                                    · exact hF
                                    · exact hF
                                    · exact hF
                                  · intro f hf; cases hf
                                  · intro f hf; cases hf
                                  · intro f hf a' w1 hs hg' hst
                                    have t8 : a'.eval (.tmp 8) = .map (some g) := Reg.eval_tmp ((hs.out 8 (show 8 ∉ [142, 143, 144, 145, 146, 147, 148, 149, 150, 151, 152, 153, 154, 155, 156, 157] by decide)).trans rfl)
                                    have t13 : a'.eval (.tmp 13) = .pointer (some ⟨bx, 0, none⟩) := Reg.eval_tmp ((hs.out 13 (show 13 ∉ [142, 143, 144, 145, 146, 147, 148, 149, 150, 151, 152, 153, 154, 155, 156, 157] by decide)).trans rfl)
                                    have t15 : a'.eval (.tmp 15) = .pointer (some ⟨by', 0, none⟩) := Reg.eval_tmp ((hs.out 15 (show 15 ∉ [142, 143, 144, 145, 146, 147, 148, 149, 150, 151, 152, 153, 154, 155, 156, 157] by decide)).trans rfl)
                                    have t17 : a'.eval (.tmp 17) = .pointer (some ⟨bf, 0, none⟩) := Reg.eval_tmp ((hs.out 17 (show 17 ∉ [142, 143, 144, 145, 146, 147, 148, 149, 150, 151, 152, 153, 154, 155, 156, 157] by decide)).trans rfl)
                                    simp only [List.mem_cons, List.not_mem_nil, or_false] at hf
                                    rcases hf with rfl | rfl | rfl | rfl | rfl | rfl | rfl | rfl | rfl | rfl | rfl | rfl | rfl | rfl | rfl | rfl
                                    · have u1 := t8
                                      exact Reg.step_val rfl rfl rfl (Reg.run_move u1) rfl hs.below (fun e => Reg.Keeps.refl e _)
                                    · have u1 := t13
                                      exact Reg.step_val (w' := w1) (v := .pointer (some ⟨bx, 0, none⟩)) rfl rfl rfl (Ord.run_fld u1 (by go_simp)) rfl hs.below (fun e => Reg.Keeps.refl e _)
                                    · obtain ⟨v1, hv1, rfl⟩ : ∃ v, a'.tmps[143]? = some v ∧ v = .pointer (some ⟨bx, 0, none⟩) := hg' _ (Reg.at_fact 1 rfl) (by kernel_rfl) (by simp [Reg.okTil])
                                      have u1 := Reg.eval_tmp hv1
                                      exact Reg.step_val rfl rfl rfl (Reg.run_load u1 (load_i64 ((Lib.cell_of_heap ((hs.below.block _ (heap_lt HAN.out)).trans HAN.out) 0).trans rfl))) rfl hs.below (fun e => Reg.Keeps.refl e _)
                                    · obtain ⟨v1, hv1, rfl⟩ : ∃ v, a'.tmps[144]? = some v ∧ v = .int .i64 a.id := hg' _ (Reg.at_fact 2 rfl) (by kernel_rfl) (by simp [Reg.okTil])
                                      have u1 := Reg.eval_tmp hv1
                                      refine Reg.step_call (f := 23) (args := #[.int .i64 a.id]) rfl rfl rfl (by go_simp) hs.below ((dec_top a.id HIA.out.1 (by have := HIA.out; omega) w1).mono ?_)
                                      rintro en w2 ⟨rfl, hgr⟩
                                      exact ⟨_, rfl, rfl, hgr.below⟩
                                    · obtain ⟨v1, hv1, rfl⟩ : ∃ v, a'.tmps[145]? = some v ∧ v = .string ⟨(Lib.itoa a.id).toArray⟩ := hg' _ (Reg.at_fact 3 rfl) (by kernel_rfl) (by simp [Reg.okTil])
                                      have u1 := Reg.eval_tmp hv1
                                      have hla : (Lib.itoa a.id).length ≤ 9223372036854775806 := by have := HIA.out.2.2; omega
                                      exact Reg.step_val rfl rfl rfl (w' := w1) (v := .string (⟨(Lib.itoa a.id).toArray⟩ ++ ⟨#[44]⟩)) (by go_simp) rfl hs.below (fun e => Reg.Keeps.refl e _)
                                    · have u1 := t15
                                      exact Reg.step_val (w' := w1) (v := .pointer (some ⟨by', 0, none⟩)) rfl rfl rfl (Ord.run_fld u1 (by go_simp)) rfl hs.below (fun e => Reg.Keeps.refl e _)
                                    · obtain ⟨v1, hv1, rfl⟩ : ∃ v, a'.tmps[147]? = some v ∧ v = .pointer (some ⟨by', 0, none⟩) := hg' _ (Reg.at_fact 5 rfl) (by kernel_rfl) (by simp [Reg.okTil])
                                      have u1 := Reg.eval_tmp hv1
                                      exact Reg.step_val rfl rfl rfl (Reg.run_load u1 (load_i64 ((Lib.cell_of_heap ((hs.below.block _ (heap_lt HLN.out)).trans HLN.out) 0).trans rfl))) rfl hs.below (fun e => Reg.Keeps.refl e _)
                                    · obtain ⟨v1, hv1, rfl⟩ : ∃ v, a'.tmps[148]? = some v ∧ v = .int .i64 d.id := hg' _ (Reg.at_fact 6 rfl) (by kernel_rfl) (by simp [Reg.okTil])
                                      have u1 := Reg.eval_tmp hv1
                                      refine Reg.step_call (f := 23) (args := #[.int .i64 d.id]) rfl rfl rfl (by go_simp) hs.below ((dec_top d.id HIDD.out.1 (by have := HIDD.out; omega) w1).mono ?_)
                                      rintro en w2 ⟨rfl, hgr⟩
                                      exact ⟨_, rfl, rfl, hgr.below⟩
                                    · obtain ⟨v1, hv1, rfl⟩ : ∃ v, a'.tmps[146]? = some v ∧ v = .string (⟨(Lib.itoa a.id).toArray⟩ ++ ⟨#[44]⟩) := hg' _ (Reg.at_fact 4 rfl) (by kernel_rfl) (by simp [Reg.okTil])
                                      obtain ⟨v2, hv2, rfl⟩ : ∃ v, a'.tmps[149]? = some v ∧ v = .string ⟨(Lib.itoa d.id).toArray⟩ := hg' _ (Reg.at_fact 7 rfl) (by kernel_rfl) (by simp [Reg.okTil])
                                      have u1 := Reg.eval_tmp hv1
                                      have u2 := Reg.eval_tmp hv2
                                      have hla : (Lib.itoa a.id).length + 1 + (Lib.itoa d.id).length ≤ 9223372036854775807 := by have := HIA.out.2.2; have := HIDD.out.2.2; omega
                                      exact Reg.step_val rfl rfl rfl (w' := w1) (v := .string (⟨(Lib.itoa a.id).toArray⟩ ++ ⟨#[44]⟩ ++ ⟨(Lib.itoa d.id).toArray⟩)) (by go_simp) rfl hs.below (fun e => Reg.Keeps.refl e _)
                                    · obtain ⟨v1, hv1, rfl⟩ : ∃ v, a'.tmps[150]? = some v ∧ v = .string (⟨(Lib.itoa a.id).toArray⟩ ++ ⟨#[44]⟩ ++ ⟨(Lib.itoa d.id).toArray⟩) := hg' _ (Reg.at_fact 8 rfl) (by kernel_rfl) (by simp [Reg.okTil])
                                      have u1 := Reg.eval_tmp hv1
                                      have hla : (Lib.itoa a.id).length + 1 + (Lib.itoa d.id).length ≤ 9223372036854775806 := by have := HIA.out.2.2; have := HIDD.out.2.2; omega
                                      exact Reg.step_val rfl rfl rfl (w' := w1) (v := .string (⟨(Lib.itoa a.id).toArray⟩ ++ ⟨#[44]⟩ ++ ⟨(Lib.itoa d.id).toArray⟩ ++ ⟨#[44]⟩)) (by go_simp) rfl hs.below (fun e => Reg.Keeps.refl e _)
                                    · have u1 := t17
                                      exact Reg.step_val (w' := w1) (v := .pointer (some ⟨bf, 0, none⟩)) rfl rfl rfl (Ord.run_fld u1 (by go_simp)) rfl hs.below (fun e => Reg.Keeps.refl e _)
                                    · obtain ⟨v1, hv1, rfl⟩ : ∃ v, a'.tmps[152]? = some v ∧ v = .pointer (some ⟨bf, 0, none⟩) := hg' _ (Reg.at_fact 10 rfl) (by kernel_rfl) (by simp [Reg.okTil])
                                      have u1 := Reg.eval_tmp hv1
                                      exact Reg.step_val rfl rfl rfl (Reg.run_load u1 (load_i64 ((Lib.cell_of_heap ((hs.below.block _ (heap_lt HBN.out)).trans HBN.out) 0).trans rfl))) rfl hs.below (fun e => Reg.Keeps.refl e _)
                                    · obtain ⟨v1, hv1, rfl⟩ : ∃ v, a'.tmps[153]? = some v ∧ v = .int .i64 f.id := hg' _ (Reg.at_fact 11 rfl) (by kernel_rfl) (by simp [Reg.okTil])
                                      have u1 := Reg.eval_tmp hv1
                                      refine Reg.step_call (f := 23) (args := #[.int .i64 f.id]) rfl rfl rfl (by go_simp) hs.below ((dec_top f.id HIX.out.1 (by have := HIX.out; omega) w1).mono ?_)
                                      rintro en w2 ⟨rfl, hgr⟩
                                      exact ⟨_, rfl, rfl, hgr.below⟩
                                    · obtain ⟨v1, hv1, rfl⟩ : ∃ v, a'.tmps[151]? = some v ∧ v = .string (⟨(Lib.itoa a.id).toArray⟩ ++ ⟨#[44]⟩ ++ ⟨(Lib.itoa d.id).toArray⟩ ++ ⟨#[44]⟩) := hg' _ (Reg.at_fact 9 rfl) (by kernel_rfl) (by simp [Reg.okTil])
                                      obtain ⟨v2, hv2, rfl⟩ : ∃ v, a'.tmps[154]? = some v ∧ v = .string ⟨(Lib.itoa f.id).toArray⟩ := hg' _ (Reg.at_fact 12 rfl) (by kernel_rfl) (by simp [Reg.okTil])
                                      have u1 := Reg.eval_tmp hv1
                                      have u2 := Reg.eval_tmp hv2
                                      have hla : (Lib.itoa a.id).length + 1 + (Lib.itoa d.id).length + 1 + (Lib.itoa f.id).length ≤ 9223372036854775807 := by have := HIA.out.2.2; have := HIDD.out.2.2; have := HIX.out.2.2; omega
                                      exact Reg.step_val rfl rfl rfl (w' := w1) (v := .string (⟨(Lib.itoa a.id).toArray⟩ ++ ⟨#[44]⟩ ++ ⟨(Lib.itoa d.id).toArray⟩ ++ ⟨#[44]⟩ ++ ⟨(Lib.itoa f.id).toArray⟩)) (by go_simp) rfl hs.below (fun e => Reg.Keeps.refl e _)
                                    · obtain ⟨v1, hv1, rfl⟩ : ∃ v, a'.tmps[142]? = some v ∧ v = .map (some g) := hg' _ (Reg.at_fact 0 rfl) (by kernel_rfl) (by simp [Reg.okTil])
                                      obtain ⟨v2, hv2, rfl⟩ : ∃ v, a'.tmps[155]? = some v ∧ v = .string (⟨(Lib.itoa a.id).toArray⟩ ++ ⟨#[44]⟩ ++ ⟨(Lib.itoa d.id).toArray⟩ ++ ⟨#[44]⟩ ++ ⟨(Lib.itoa f.id).toArray⟩) := hg' _ (Reg.at_fact 13 rfl) (by kernel_rfl) (by simp [Reg.okTil])
                                      have u1 := Reg.eval_tmp hv1
                                      have u2 := Reg.eval_tmp hv2
                                      have l0 := HIA.out.2.2
                                      have l1 := HIDD.out.2.2
                                      have l2 := HIX.out.2.2
                                      have hlk := (HMZ.out.below hs.below hgz).look (s := ⟨(Lib.itoa a.id).toArray⟩ ++ ⟨#[44]⟩ ++ ⟨(Lib.itoa d.id).toArray⟩ ++ ⟨#[44]⟩ ++ ⟨(Lib.itoa f.id).toArray⟩) (t := Lib.itoa a.id ++ 44 :: (Lib.itoa d.id ++ 44 :: (Lib.itoa f.id))) (by rw [show (⟨#[44]⟩ : ByteArray) = ⟨[44].toArray⟩ from rfl, joinT, joinT, joinT, joinT]; simp) HMT3.out (by simp only [List.length_append, List.length_cons]; unfold maxLen; omega)
                                      exact Reg.step_val rfl rfl rfl (w' := w1) (v := .int .i64 1) (by go_simp) rfl hs.below (fun e => Reg.Keeps.refl e _)
                                    · obtain ⟨v1, hv1, rfl⟩ : ∃ v, a'.tmps[156]? = some v ∧ v = .int .i64 1 := hg' _ (Reg.at_fact 14 rfl) (by kernel_rfl) (by simp [Reg.okTil])
                                      have u1 := Reg.eval_tmp hv1
                                      exact Reg.step_val rfl rfl rfl (w' := w1) (v := .bool false) (by go_simp) rfl hs.below (fun e => Reg.Keeps.refl e _)
                                  · intro vals w1 hF hfx hb1
                                    have e157 : vals 157 = .bool false := hF _ (Reg.at_fact 15 rfl) (show (16 + 0 : Nat) ≤ 99 by decide)
                                    simp only [List.map_cons, List.map_nil, e157]
                                    generalize vals 142 = p142
                                    generalize vals 143 = p143
                                    generalize vals 144 = p144
                                    generalize vals 145 = p145
                                    generalize vals 146 = p146
                                    generalize vals 147 = p147
                                    generalize vals 148 = p148
                                    generalize vals 149 = p149
                                    generalize vals 150 = p150
                                    generalize vals 151 = p151
                                    generalize vals 152 = p152
                                    generalize vals 153 = p153
                                    generalize vals 154 = p154
                                    generalize vals 155 = p155
                                    generalize vals 156 = p156
                                    clear hF hfx e157
                                    have HZQ := Lib.hid hb1
                                    clear hb1
                                    unfold Reg.puts Reg.puts Reg.puts Reg.puts Reg.puts Reg.puts Reg.puts Reg.puts Reg.puts Reg.puts Reg.puts Reg.puts Reg.puts Reg.puts Reg.puts Reg.puts Reg.puts
                                    go_simp
                                    have HREL := Lib.hid (show ∃ jn, jn ≤ nc ∧ Value.int .i64 ((jj : Int) + 1) = .int .i64 (jn : Nat) ∧ Value.int .i64 ((cn1 m ls i + 1 + cn2 m ls i j + 1 + cn3 m ls i (i + 1 + j) jj : Nat) + 1 : Int) = .int .i64 ((cn1 m ls i + 1 + cn2 m ls i j + 1 + cn3 m ls i (i + 1 + j) jn : Nat) : Int) ∧ Below wy.heap.size wy w1 from ⟨jj + 1, by omega, by go_num, by rw [HEQ.out]; go_num, HBZ.out.trans (HZQ.out.mono HBZ.out.size)⟩)
                                    go_wp2_with fail
                                    go_roundw
                                    case rel => first | exact HREL.out | (have h := HREL.out; push_cast at h ⊢; exact h)
                                    case measure => simp [intOf]; omega
                            · obtain rfl : jj = nc := by omega
                              have HREL := Lib.hid (show ∃ jn, jn ≤ nb ∧ Value.int .i64 ((j : Int) + 1) = .int .i64 (jn : Nat) ∧ Value.int .i64 ((cn1 m ls i + 1 + cn2 m ls i j + 1 + cn3 m ls i (i + 1 + j) jj : Nat) : Int) = .int .i64 ((cn1 m ls i + 1 + cn2 m ls i jn : Nat) : Int) ∧ Below w9.heap.size w9 wr from ⟨j + 1, by omega, by go_num, by
                                have e : cn1 m ls i + 1 + cn2 m ls i j + 1 + cn3 m ls i (i + 1 + j) jj = cn1 m ls i + 1 + cn2 m ls i (j + 1) := by rw [HR2.out]; omega
                                rw [e], HQW.out.trans (hb.mono HQW.out.size)⟩)
                              clear hb
                              go_wp2_with fail
                              go_roundw
                              case rel => exact HREL.out
                              case measure => simp [intOf]; omega
                · obtain rfl : j = nb := by omega
                  have HREL := Lib.hid (show ∃ k, k ≤ ls.length ∧ Value.int .i64 ((i : Int) + 1) = .int .i64 (k : Nat) ∧ Value.int .i64 ((cn1 m ls i + 1 + cn2 m ls i j : Nat) : Int) = .int .i64 (cn1 m ls k : Nat) ∧ Below wq.heap.size wq wr from ⟨i + 1, by omega, by go_num, by rw [HR1.out], HBQ9.out.trans (hb.mono HBQ9.out.size)⟩)
                  clear hb
                  go_wp2_with fail
                  go_roundw
                  case rel => exact HREL.out
                  case measure => simp [intOf]; omega
          · have e1 : (a.kind == 65) = false := by simp [hk1]
            have f1 : (a.kind != 65) = true := by simp [hk1]
            have HOK := Lib.hid (show cn1 m ls (i + 1) = cn1 m ls i by rw [HSU.out, HS1.out]; unfold okA; rw [HAE.out, e1]; rfl)
            have HREL := Lib.hid (show ∃ k, k ≤ ls.length ∧ Value.int .i64 ((i : Int) + 1) = .int .i64 (k : Nat) ∧ Value.int .i64 (cn1 m ls i : Nat) = .int .i64 (cn1 m ls k : Nat) ∧ Below wq.heap.size wq wx from ⟨i + 1, by omega, by go_num, by rw [HOK.out], HBQ.out⟩)
            clear hk1
            go_wp2_with fail
            go_roundw
            case rel => exact HREL.out
            case measure => simp [intOf]; omega
        · have HEQ := Lib.hid (show cn1 m ls i = T.length by rw [HTL.out]; congr 1; omega)
          have HBF := Lib.hid (HBW7.out.trans ((HB9.out.mono hWg).trans (hb.mono hWq)))
          have hlen := (HMQ.out.below hb hgq).len 3
          clear hb
          rw [HEQ.out]
          go_wp2_with fail
          go_ret
          exact ⟨by simp, HBF.out⟩
end Go.Proofs.YtcojnojdgigmdaaDoor.WR
