/- The matches of one to three rising As within a window: each row that three loops find, each once. No program in sight. -/
import Derived.Test.YtcojnojdgigmdaaDoorPGrow3
import Derived.Test.YtcojnojdgigmdaaDoorPPairs
namespace Go.Proofs.YtcojnojdgigmdaaDoor.PR
open Go Go.Proofs.YtcojnojdgigmdaaDoor.PL Go.Proofs.YtcojnojdgigmdaaDoor.Mem Go.Proofs.YtcojnojdgigmdaaDoor.DG

def riseP (m : Int) : RPlan := ⟨[⟨65, 1, 3, [⟨5, -2, 0, false⟩], []⟩], m⟩
theorem riseP_ok (m : Int) : ∀ s ∈ (riseP m).steps, 1 ≤ s.lo ∧ s.lo ≤ s.hi := by
  intro s hs
  rw [List.mem_singleton.1 hs]; decide
/-- Places as a row, all of the one step. -/
def rowL (x : List Nat) : Mt := x.map fun i => (i, 0)
theorem rowL_snoc (x : List Nat) (i : Nat) : rowL (x ++ [i]) = rowL x ++ [(i, 0)] := by simp [rowL]
theorem rowL_last (x : List Nat) : lastS (rowL x) = 0 := by
  unfold lastS rowL
  rw [List.getLast?_map]
  cases x.getLast? <;> rfl
theorem rowL_count (x : List Nat) : countM (rowL x) = x.length := by
  unfold countM
  rw [rowL_last, List.filter_eq_self.2, rowL, List.length_map]
  intro a ha
  obtain ⟨i, _, rfl⟩ := List.mem_map.1 ha
  rfl
theorem rowL_from (x : List Nat) (i : Nat) : fromM (rowL (x ++ [i])) = i + 1 := by rw [rowL_snoc, fromM_snoc]
theorem rowL_alive (m : Int) (l : List Ev) (a : Nat) (x : List Nat) (j : Nat) : aliveM (riseP m) l (rowL (a :: x)) j = !decide (m < (evAt l j).time - (evAt l a).time) := rfl
theorem rowL_inj {x y : List Nat} (h : rowL x = rowL y) : x = y := by
  have := congrArg (List.map (·.1)) h
  simpa [rowL, Function.comp_def] using this
/-- May a row go on so? -/
def riseK (l : List Ev) (x : List Nat) (i : Nat) : Bool := decide (x.length < 3) && ((evAt l i).kind == 65 && match x.getLast? with
  | none => true
  | some y => decide ((evAt l y).val < (evAt l i).val))
theorem rise_kid (m : Int) (l : List Ev) (x : List Nat) (i : Nat) : kidOk (riseP m) l (rowL x) i 0 = riseK l x i := by
  have h1 : kidOk (riseP m) l (rowL x) i 0 = ((if 0 = lastS (rowL x) then decide ((countM (rowL x) : Int) < 3) else (match (riseP m).steps[lastS (rowL x)]? with
      | none => false
      | some y => decide (y.lo ≤ (countM (rowL x) : Int))) && !barredM (riseP m) l (rowL x) (lastS (rowL x)) i) && (((evAt l i).kind == 65) && allP [⟨5, -2, 0, false⟩] (pmM l (rowL x)) 0 (evAt l i))) := rfl
  have h2 : allP [⟨5, -2, 0, false⟩] (pmM l (rowL x)) 0 (evAt l i) = match x.getLast? with
      | none => true
      | some y => decide ((evAt l y).val < (evAt l i).val) := by
    unfold allP testP pmM rowL
    simp only [List.all_cons, List.all_nil, Bool.and_true, List.map_map, List.getLast?_map]
    cases x.getLast? <;> simp [hB]
  rw [h1, h2, rowL_last, if_pos rfl, rowL_count]
  unfold riseK
  congr 1
  rw [decide_eq_decide]; omega
theorem rise_kid1 (m : Int) (l : List Ev) (r : Mt) (i : Nat) : kidOk (riseP m) l r i 1 = false := rfl
theorem rise_row {m : Int} {l : List Ev} {r : Mt} (h : Val (riseP m) l r) : ∃ x, r = rowL x := by
  induction h with
  | nil => exact ⟨[], rfl⟩
  | snoc i s _ hk ih =>
    obtain ⟨x, rfl⟩ := ih
    have h2 := hk.two
    rw [rowL_last] at h2
    rcases h2 with rfl | rfl
    · exact ⟨x ++ [i], (rowL_snoc x i).symm⟩
    · have := hk.ok
      rw [rise_kid1] at this; cases this
theorem rise_val {m : Int} {l : List Ev} {x : List Nat} {i : Nat} : Val (riseP m) l (rowL (x ++ [i])) ↔ Val (riseP m) l (rowL x) ∧ Kid (riseP m) l (rowL x) i 0 := by
  rw [rowL_snoc]
  constructor
  · intro h
    generalize hr : rowL x ++ [(i, 0)] = r at h
    cases h with
    | nil => exact absurd hr (snoc_ne _ _)
    | @snoc r' i' s' hv hk =>
      obtain ⟨e1, e2⟩ := List.append_inj' hr rfl
      injection e2 with e2
      injection e2 with e2 e3
      subst e1 e2 e3
      exact ⟨hv, hk⟩
  · rintro ⟨h1, h2⟩
    exact .snoc i 0 h1 h2
/-- The rows that three loops find. -/
def okA (l : List Ev) (i : Nat) : Bool := (evAt l i).kind == 65
def ok2 (m : Int) (l : List Ev) (i k : Nat) : Bool := (evAt l k).kind == 65 && (decide ((evAt l i).val < (evAt l k).val) && decide ((evAt l k).time - (evAt l i).time ≤ m))
def ok3 (m : Int) (l : List Ev) (i k j : Nat) : Bool := (evAt l j).kind == 65 && (decide ((evAt l k).val < (evAt l j).val) && decide ((evAt l j).time - (evAt l i).time ≤ m))
def rise3 (m : Int) (l : List Ev) (i k j : Nat) : List (List Nat) := if ok3 m l i k j then [[i, k, j]] else []
def rise2 (m : Int) (l : List Ev) (i k : Nat) : List (List Nat) := if ok2 m l i k then [i, k] :: (List.range' (k + 1) (l.length - (k + 1))).flatMap (rise3 m l i k) else []
def rise1 (m : Int) (l : List Ev) (i : Nat) : List (List Nat) := if okA l i then [i] :: (List.range' (i + 1) (l.length - (i + 1))).flatMap (rise2 m l i) else []
def riseAll (m : Int) (l : List Ev) : List (List Nat) := (List.range l.length).flatMap (rise1 m l)
theorem mem_rng {a n x : Nat} : x ∈ List.range' (a + 1) (n - (a + 1)) ↔ a < x ∧ x < n := by
  rw [List.mem_range']
  constructor
  · rintro ⟨d, hd, rfl⟩; omega
  · rintro ⟨h1, h2⟩; exact ⟨x - (a + 1), by omega, by omega⟩
theorem mem_rise {m : Int} {l : List Ev} {x : List Nat} : x ∈ riseAll m l ↔ (∃ i, x = [i] ∧ i < l.length ∧ okA l i = true) ∨ (∃ i k, x = [i, k] ∧ i < k ∧ k < l.length ∧ okA l i = true ∧ ok2 m l i k = true) ∨ ∃ i k j, x = [i, k, j] ∧ i < k ∧ k < j ∧ j < l.length ∧ okA l i = true ∧ ok2 m l i k = true ∧ ok3 m l i k j = true := by
  unfold riseAll rise1
  rw [List.mem_flatMap]
  constructor
  · rintro ⟨i, hi, hx⟩
    have hi' := List.mem_range.1 hi
    split at hx
    · rename_i hA
      rcases List.mem_cons.1 hx with rfl | hx
      · exact .inl ⟨i, rfl, hi', hA⟩
      · obtain ⟨k, hk, hx⟩ := List.mem_flatMap.1 hx
        obtain ⟨k1, k2⟩ := mem_rng.1 hk
        unfold rise2 at hx
        split at hx
        · rename_i h2
          rcases List.mem_cons.1 hx with rfl | hx
          · exact .inr (.inl ⟨i, k, rfl, k1, k2, hA, h2⟩)
          · obtain ⟨j, hj, hx⟩ := List.mem_flatMap.1 hx
            obtain ⟨j1, j2⟩ := mem_rng.1 hj
            unfold rise3 at hx
            split at hx
            · rename_i h3
              exact .inr (.inr ⟨i, k, j, List.mem_singleton.1 hx, k1, j1, j2, hA, h2, h3⟩)
            · cases hx
        · cases hx
    · cases hx
  · rintro (⟨i, rfl, hi, hA⟩ | ⟨i, k, rfl, h1, h2, hA, h3⟩ | ⟨i, k, j, rfl, h1, h2, h4, hA, h3, h5⟩)
    · exact ⟨i, List.mem_range.2 hi, by rw [if_pos hA]; exact List.mem_cons_self⟩
    · refine ⟨i, List.mem_range.2 (by omega), ?_⟩
      rw [if_pos hA]
      refine List.mem_cons_of_mem _ (List.mem_flatMap.2 ⟨k, mem_rng.2 ⟨h1, h2⟩, ?_⟩)
      unfold rise2
      rw [if_pos h3]; exact List.mem_cons_self
    · refine ⟨i, List.mem_range.2 (by omega), ?_⟩
      rw [if_pos hA]
      refine List.mem_cons_of_mem _ (List.mem_flatMap.2 ⟨k, mem_rng.2 ⟨h1, by omega⟩, ?_⟩)
      unfold rise2
      rw [if_pos h3]
      refine List.mem_cons_of_mem _ (List.mem_flatMap.2 ⟨j, mem_rng.2 ⟨h2, h4⟩, ?_⟩)
      unfold rise3
      rw [if_pos h5]; exact List.mem_cons_self
theorem nodup_flat {α β γ : Type} (key : β → γ) (ka : α → γ) (hka : ∀ a b, ka a = ka b → a = b) (f : α → List β) : ∀ (L : List α), L.Nodup → (∀ a ∈ L, (f a).Nodup) → (∀ a ∈ L, ∀ b ∈ f a, key b = ka a) → (L.flatMap f).Nodup := by
  intro L
  induction L with
  | nil => intro _ _ _; exact List.nodup_nil
  | cons a L ih =>
    intro h1 h2 h3
    obtain ⟨h4, h5⟩ := List.nodup_cons.1 h1
    rw [List.flatMap_cons, List.nodup_append]
    refine ⟨h2 a List.mem_cons_self, ih h5 (fun b hb => h2 b (List.mem_cons_of_mem _ hb)) (fun b hb => h3 b (List.mem_cons_of_mem _ hb)), ?_⟩
    intro b hb c hc hbc
    subst hbc
    obtain ⟨d, hd, hc⟩ := List.mem_flatMap.1 hc
    have e1 := h3 a List.mem_cons_self b hb
    have e2 := h3 d (List.mem_cons_of_mem _ hd) b hc
    have := hka a d (e1.symm.trans e2)
    rw [this] at h4
    exact h4 hd
theorem rise_nodup (m : Int) (l : List Ev) : (riseAll m l).Nodup := by
  refine nodup_flat (fun x : List Nat => x.getD 0 0) id (fun _ _ h => h) _ _ List.nodup_range (fun i _ => ?_) (fun i _ x hx => ?_)
  · unfold rise1
    split
    · rw [List.nodup_cons]
      refine ⟨fun h => ?_, nodup_flat (fun x : List Nat => x.getD 1 0) id (fun _ _ h => h) _ _ (List.nodup_range' (h := by decide)) (fun k _ => ?_) (fun k _ x hx => ?_)⟩
      · obtain ⟨k, _, h⟩ := List.mem_flatMap.1 h
        unfold rise2 at h
        split at h
        · rcases List.mem_cons.1 h with h | h
          · cases h
          · obtain ⟨j, _, h⟩ := List.mem_flatMap.1 h
            unfold rise3 at h
            split at h
            · cases List.mem_singleton.1 h
            · cases h
        · cases h
      · unfold rise2
        split
        · rw [List.nodup_cons]
          refine ⟨fun h => ?_, nodup_flat (fun x : List Nat => x.getD 2 0) id (fun _ _ h => h) _ _ (List.nodup_range' (h := by decide)) (fun j _ => ?_) (fun j _ x hx => ?_)⟩
          · obtain ⟨j, _, h⟩ := List.mem_flatMap.1 h
            unfold rise3 at h
            split at h
            · cases List.mem_singleton.1 h
            · cases h
          · unfold rise3; split <;> simp
          · unfold rise3 at hx
            split at hx
            · rw [List.mem_singleton.1 hx]; rfl
            · cases hx
        · exact List.nodup_nil
      · unfold rise2 at hx
        split at hx
        · rcases List.mem_cons.1 hx with rfl | hx
          · rfl
          · obtain ⟨j, _, hx⟩ := List.mem_flatMap.1 hx
            unfold rise3 at hx
            split at hx
            · rw [List.mem_singleton.1 hx]; rfl
            · cases hx
        · cases hx
    · exact List.nodup_nil
  · unfold rise1 at hx
    split at hx
    · rcases List.mem_cons.1 hx with rfl | hx
      · rfl
      · obtain ⟨k, _, hx⟩ := List.mem_flatMap.1 hx
        unfold rise2 at hx
        split at hx
        · rcases List.mem_cons.1 hx with rfl | hx
          · rfl
          · obtain ⟨j, _, hx⟩ := List.mem_flatMap.1 hx
            unfold rise3 at hx
            split at hx
            · rw [List.mem_singleton.1 hx]; rfl
            · cases hx
        · cases hx
    · cases hx
/-- The rows that may be, of sorted events. -/
theorem rise_vals {m : Int} {l : List Ev} (hs : ∀ x y, x < y → y < l.length → (evAt l x).time ≤ (evAt l y).time) (x : List Nat) : (Val (riseP m) l (rowL x) ∧ x ≠ []) ↔ x ∈ riseAll m l := by
  have v0 : Val (riseP m) l (rowL []) := .nil
  have v1 : ∀ i, Val (riseP m) l (rowL [i]) ↔ i < l.length ∧ okA l i = true := by
    intro i
    have h := rise_val (m := m) (l := l) (x := []) (i := i)
    rw [List.nil_append] at h
    rw [h]
    constructor
    · rintro ⟨_, hk⟩
      have := hk.ok
      rw [rise_kid] at this
      exact ⟨hk.lt, by unfold okA; simpa [riseK] using this⟩
    · rintro ⟨h1, h2⟩
      exact ⟨v0, ⟨Nat.zero_le _, h1, fun _ _ _ => rfl, .inl rfl, by rw [rise_kid]; unfold okA at h2; simp [riseK, h2]⟩⟩
  have v2 : ∀ i k, Val (riseP m) l (rowL [i, k]) ↔ i < k ∧ k < l.length ∧ okA l i = true ∧ ok2 m l i k = true := by
    intro i k
    have h := rise_val (m := m) (l := l) (x := [i]) (i := k)
    rw [show [i] ++ [k] = [i, k] from rfl] at h
    have hf : fromM (rowL [i]) = i + 1 := rowL_from [] i
    rw [h, v1]
    constructor
    · rintro ⟨⟨h1, h2⟩, hk⟩
      have h3 := hk.ok
      rw [rise_kid] at h3
      have h4 := hk.le
      rw [hf] at h4
      have h5 := hk.alive k (by rw [hf]; exact h4) (Nat.le_refl _)
      rw [rowL_alive] at h5
      refine ⟨h4, hk.lt, h2, ?_⟩
      unfold riseK at h3
      unfold ok2
      simp at h3 h5 ⊢
      exact ⟨h3.1, h3.2, h5⟩
    · rintro ⟨h1, h2, h3, h4⟩
      unfold ok2 at h4
      simp at h4
      refine ⟨⟨by omega, h3⟩, ⟨by rw [hf]; exact h1, h2, fun j h5 h6 => ?_, .inl (rowL_last _).symm, by rw [rise_kid]; unfold riseK; simp [h4.1, h4.2.1]⟩⟩
      rw [rowL_alive]
      rcases Nat.lt_or_ge j k with h7 | h7
      · have := hs j k h7 h2
        simp; omega
      · rw [show j = k by omega]; simp; exact h4.2.2
  have v3 : ∀ i k j, Val (riseP m) l (rowL [i, k, j]) ↔ i < k ∧ k < j ∧ j < l.length ∧ okA l i = true ∧ ok2 m l i k = true ∧ ok3 m l i k j = true := by
    intro i k j
    have h := rise_val (m := m) (l := l) (x := [i, k]) (i := j)
    rw [show [i, k] ++ [j] = [i, k, j] from rfl] at h
    have hf : fromM (rowL [i, k]) = k + 1 := rowL_from [i] k
    rw [h, v2]
    constructor
    · rintro ⟨⟨h1, h2, h2', h2''⟩, hk⟩
      have h3 := hk.ok
      rw [rise_kid] at h3
      have h4 := hk.le
      rw [hf] at h4
      have h5 := hk.alive j (by rw [hf]; exact h4) (Nat.le_refl _)
      rw [rowL_alive] at h5
      refine ⟨h1, h4, hk.lt, h2', h2'', ?_⟩
      unfold riseK at h3
      unfold ok3
      simp at h3 h5 ⊢
      exact ⟨h3.1, h3.2, h5⟩
    · rintro ⟨h1, h2, h2', h3, h4', h4⟩
      unfold ok3 at h4
      simp at h4
      refine ⟨⟨h1, by omega, h3, h4'⟩, ⟨by rw [hf]; exact h2, h2', fun j' h5 h6 => ?_, .inl (rowL_last _).symm, by rw [rise_kid]; unfold riseK; simp [h4.1, h4.2.1]⟩⟩
      rw [rowL_alive]
      rcases Nat.lt_or_ge j' j with h7 | h7
      · have := hs j' j h7 h2'
        simp; omega
      · rw [show j' = j by omega]; simp; exact h4.2.2
  rw [mem_rise]
  constructor
  · rintro ⟨hv, hne⟩
    match x, hv, hne with
    | [], _, h => exact absurd rfl h
    | [i], hv, _ => exact .inl ⟨i, rfl, (v1 i).1 hv⟩
    | [i, k], hv, _ => exact .inr (.inl ⟨i, k, rfl, (v2 i k).1 hv⟩)
    | [i, k, j], hv, _ => exact .inr (.inr ⟨i, k, j, rfl, (v3 i k j).1 hv⟩)
    | a :: b :: c :: d :: y, hv, _ =>
      exfalso
      obtain ⟨z, t, hz⟩ : ∃ z t, a :: b :: c :: d :: y = z ++ [t] := ⟨_, _, (List.dropLast_concat_getLast (l := a :: b :: c :: d :: y) (by simp)).symm⟩
      rw [hz] at hv
      have h := (rise_val.1 hv).2.ok
      rw [rise_kid] at h
      have hl := congrArg List.length hz
      simp only [List.length_cons, List.length_append, List.length_nil] at hl
      unfold riseK at h
      simp only [Bool.and_eq_true, decide_eq_true_eq] at h
      omega
  · rintro (⟨i, rfl, h⟩ | ⟨i, k, rfl, h⟩ | ⟨i, k, j, rfl, h⟩)
    · exact ⟨(v1 i).2 h, by simp⟩
    · exact ⟨(v2 i k).2 h, by simp⟩
    · exact ⟨(v3 i k j).2 h, by simp⟩
/-- The text of a row. -/
def riseT (l : List Ev) (x : List Nat) : List UInt8 := txtP (x.map fun i => (evAt l i).id)
theorem rise_text (l : List Ev) (x : List Nat) (hx : x ≠ []) : textM l (rowL x) = riseT l x := by
  have h0 : rowL x ≠ [] := fun h => hx (rowL_inj h)
  have h1 : cntM (rowL x) = [x.length] := by
    rw [cntM_ne h0, rowL_count]
    unfold cntI
    rw [rowL_last]; rfl
  have h2 : (rowL x).map (fun y => evAt l y.1) = x.map (evAt l) := by simp [rowL, Function.comp_def]
  unfold textM
  rw [h1, h2, textR_parts]
  show Lib.join ((parts [x.length] ((x.map (evAt l)).map (·.id))).map txtP) [124] = txtP (x.map fun i => (evAt l i).id)
  have h3 : parts [x.length] ((x.map (evAt l)).map (·.id)) = [x.map fun i => (evAt l i).id] := by
    rw [List.map_map]
    simp [parts, Function.comp_def, List.take_of_length_le]
  rw [h3]
  show Lib.join [txtP _] [124] = _
  rw [Lib.join_one]
/-- All matches: the rows' texts, each once. -/
theorem run_rise {m : Int} {l : List Ev} (hs : ∀ x y, x < y → y < l.length → (evAt l x).time ≤ (evAt l y).time) (hd : l.Pairwise fun x y => x.id ≠ y.id) : (runA (riseP m) l).2.Perm ((riseAll m l).map (riseT l)) ∧ (runA (riseP m) l).2.Nodup := by
  have hn := run_once (riseP m) l hd
  refine ⟨?_, hn⟩
  have h := sim (riseP_ok m) l l.length (Nat.le_refl _)
  rw [List.take_length] at h
  rw [h] at hn ⊢
  show List.Perm ((rowsM (riseP m) l l.length).2.map (textM l)) _
  have hn' : (rowsM (riseP m) l l.length).2.Nodup := (List.pairwise_map.1 hn).imp fun h e => h (by rw [e])
  have hp : (rowsM (riseP m) l l.length).2.Perm ((riseAll m l).map rowL) := by
    rw [List.perm_ext_iff_of_nodup hn' (List.pairwise_map.2 ((rise_nodup m l).imp fun h e => h (rowL_inj e)))]
    intro r
    rw [(mem_rows l l.length (Nat.le_refl _)).2 r, List.mem_map]
    constructor
    · rintro ⟨hv, hne, _, _⟩
      obtain ⟨x, rfl⟩ := rise_row hv
      exact ⟨x, (rise_vals hs x).1 ⟨hv, fun h0 => hne (by rw [h0]; rfl)⟩, rfl⟩
    · rintro ⟨x, hx, rfl⟩
      obtain ⟨hv, hne⟩ := (rise_vals hs x).2 hx
      refine ⟨hv, fun h0 => hne (rowL_inj h0), hv.le, ?_⟩
      unfold doneM
      rw [rowL_last, rowL_count]
      have : 0 < x.length := List.length_pos_iff.2 hne
      have h1 : (rowL x).isEmpty = false := by
        cases x with
        | nil => exact absurd rfl hne
        | cons a x => rfl
      rw [h1]
      simp [riseP]; omega
  have h2 : (riseAll m l).map (riseT l) = ((riseAll m l).map rowL).map (textM l) := by
    rw [List.map_map]
    refine List.map_congr_left fun x hx => ?_
    exact (rise_text l x ((rise_vals hs x).2 hx).2).symm
  rw [h2]
  exact hp.map _
/-- Not many runs, not many texts. -/
theorem rise_few (m : Int) (l : List Ev) : (runA (riseP m) l).1.length + 1 ≤ 2 ^ (l.length + 1) ∧ (runA (riseP m) l).2.length + 1 ≤ 2 ^ (l.length + 1) := by
  have hadv : ∀ r e, (advR (riseP m) r e).grown.length ≤ 1 ∧ (advR (riseP m) r e).done.length ≤ 1 := by
    intro r e
    unfold advR
    cases hN : r.counts.getLast? with
    | none => exact ⟨Nat.zero_le _, Nat.zero_le _⟩
    | some n =>
      simp only []
      cases hS : (riseP m).steps[r.counts.length - 1]? with
      | none => exact ⟨Nat.zero_le _, Nat.zero_le _⟩
      | some s =>
        simp only []
        split
        · exact ⟨Nat.zero_le _, Nat.zero_le _⟩
        · have hS2 : (riseP m).steps[r.counts.length - 1 + 1]? = none := by
            have := (List.getElem?_eq_some_iff.1 hS).1
            rw [List.getElem?_eq_none_iff]
            show 1 ≤ _
            omega
          rw [hS2]
          simp only []
          split
          · rw [addR_grown, addR_done]
            constructor <;> (show (([] : List _) ++ _).length ≤ 1) <;> split <;> simp
          · exact ⟨Nat.zero_le _, Nat.zero_le _⟩
  have hst : ∀ e, (startR (riseP m) e).grown.length ≤ 1 ∧ (startR (riseP m) e).done.length ≤ 1 := fun e =>
    have h := startR_ok (riseP m) (fun _ => True) e trivial
    ⟨h.2.1, h.2.2⟩
  induction l using snocInd with
  | nil => exact ⟨show 0 + 1 ≤ 2 ^ 1 by decide, show 0 + 1 ≤ 2 ^ 1 by decide⟩
  | snoc l e ih =>
    rw [runA_snoc]
    unfold stepA
    rw [turnR_inn, inn_flat]
    have h1 : ((runA (riseP m) l).1.flatMap fun r => if (advR (riseP m) r e).keep then [(advR (riseP m) r e).run] else []).length ≤ (runA (riseP m) l).1.length * 1 := flat_len_le fun r _ => by split <;> simp
    have h2 : ((runA (riseP m) l).1.flatMap fun r => (advR (riseP m) r e).grown).length ≤ (runA (riseP m) l).1.length * 1 := flat_len_le fun r _ => (hadv r e).1
    have h3 : ((runA (riseP m) l).1.flatMap fun r => (advR (riseP m) r e).done).length ≤ (runA (riseP m) l).1.length * 1 := flat_len_le fun r _ => (hadv r e).2
    have h4 := hst e
    have h5 : 2 ^ ((l ++ [e]).length + 1) = 2 * 2 ^ (l.length + 1) := by rw [List.length_append, List.length_singleton, Nat.pow_succ]; omega
    rw [h5]
    simp only [List.length_append]
    omega
end Go.Proofs.YtcojnojdgigmdaaDoor.PR
