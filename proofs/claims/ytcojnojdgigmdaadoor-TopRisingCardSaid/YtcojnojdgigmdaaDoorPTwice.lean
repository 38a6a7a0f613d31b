/- No match is told twice, in plain Lean: the runs' keys, the texts of distinct runs. No program in sight. -/
import Derived.Test.YtcojnojdgigmdaaDoorB01
import Derived.Test.YtcojnojdgigmdaaDoorPItoa
namespace Go.Proofs.YtcojnojdgigmdaaDoor.PR
open Go Go.Proofs.YtcojnojdgigmdaaDoor.PL Go.Proofs.YtcojnojdgigmdaaDoor.Mem Go.Proofs.YtcojnojdgigmdaaDoor.DG

/-- A list cut into pieces of given lengths. -/
def parts {α : Type} : List Nat → List α → List (List α)
  | [], _ => []
  | c :: cs, l => l.take c :: parts cs (l.drop c)
theorem parts_eq {α : Type} : ∀ (cs : List Nat) (l : List α), ((List.range cs.length).map fun i => (l.drop (cs.take i).sum).take (cs.getD i 0)) = parts cs l
  | [], _ => rfl
  | c :: cs, l => by
    rw [List.length_cons, List.range_succ_eq_map, List.map_cons, List.map_map, parts, ← parts_eq cs]
    simp only [List.take_zero, List.sum_nil, List.drop_zero, List.getD_cons_zero]
    congr 1
    apply List.map_congr_left
    intro i _
    simp only [Function.comp_apply, Nat.succ_eq_add_one, List.take_succ_cons, List.sum_cons, List.getD_cons_succ, List.drop_drop]
theorem ofR_parts (r : RRun) : ((List.range r.counts.length).map fun i => ofR r i) = parts r.counts r.evs := by
  rw [← parts_eq]
  apply List.map_congr_left
  intro i hi
  unfold ofR
  rw [if_pos (List.mem_range.1 hi)]
theorem parts_map {α β : Type} (f : α → β) : ∀ (cs : List Nat) (l : List α), (parts cs l).map (·.map f) = parts cs (l.map f)
  | [], _ => rfl
  | c :: cs, l => by
    rw [parts, parts, List.map_cons, parts_map f cs]
    simp
theorem parts_len {α : Type} : ∀ (cs : List Nat) (l : List α), cs.sum = l.length → (parts cs l).map (·.length) = cs
  | [], _, _ => rfl
  | c :: cs, l, h => by
    rw [List.sum_cons] at h
    rw [parts, List.map_cons, parts_len cs _ (by rw [List.length_drop]; omega), List.length_take, Nat.min_eq_left (by omega)]
theorem parts_flat {α : Type} : ∀ (cs : List Nat) (l : List α), cs.sum = l.length → (parts cs l).flatten = l
  | [], l, h => by
    have : l = [] := List.eq_nil_of_length_eq_zero h.symm
    rw [this]; rfl
  | c :: cs, l, h => by
    rw [List.sum_cons] at h
    rw [parts, List.flatten_cons, parts_flat cs _ (by rw [List.length_drop]; omega), List.take_append_drop]
theorem parts_pos {α : Type} : ∀ (cs : List Nat) (l : List α), cs.sum = l.length → (∀ c ∈ cs, 1 ≤ c) → ∀ x ∈ parts cs l, x ≠ []
  | [], _, _, _ => by intro x hx; cases hx
  | c :: cs, l, h, hp => by
    rw [List.sum_cons] at h
    intro x hx
    rcases List.mem_cons.1 hx with rfl | hx
    · have h1 := hp c List.mem_cons_self
      intro h2
      have h3 := congrArg List.length h2
      rw [List.length_take, List.length_nil] at h3
      omega
    · exact parts_pos cs _ (by rw [List.length_drop]; omega) (fun c hc => hp c (List.mem_cons_of_mem _ hc)) x hx
/-- What a run is known by. -/
def keyR (r : RRun) : List Nat × List Int := (r.counts, r.evs.map (·.id))
structure OkK (r : RRun) : Prop where
  ne : r.counts ≠ []
  pos : ∀ c ∈ r.counts, 1 ≤ c
  sum : r.counts.sum = r.evs.length
def txtP (x : List Int) : List UInt8 := Lib.join (x.map Lib.itoa) [44]
theorem textR_parts (r : RRun) : textR r = Lib.join ((parts r.counts (r.evs.map (·.id))).map txtP) [124] := by
  unfold textR
  rw [← parts_map, ← ofR_parts, List.map_map, List.map_map]
  congr 1
  apply List.map_congr_left
  intro i _
  simp [txtP, Function.comp_def]
theorem txtP_not (x : List Int) : (124 : UInt8) ∉ txtP x := by
  intro h
  rcases join_mem h with h | ⟨y, hy, h⟩
  · exact absurd h (by decide)
  · obtain ⟨n, _, rfl⟩ := List.mem_map.1 hy
    exact itoa_not (by decide) (by decide) h
theorem txtP_inj {x y : List Int} (hx : x ≠ []) (hy : y ≠ []) (h : txtP x = txtP y) : x = y := by
  refine map_inj' (fun a b => itoa_inj) (join_inj (c := 44) ?_ ?_ ?_ ?_ h)
  · intro z hz
    obtain ⟨n, _, rfl⟩ := List.mem_map.1 hz
    exact itoa_not (by decide) (by decide)
  · intro z hz
    obtain ⟨n, _, rfl⟩ := List.mem_map.1 hz
    exact itoa_not (by decide) (by decide)
  · simpa using hx
  · simpa using hy
theorem txts_inj : ∀ {x y : List (List Int)}, (∀ a ∈ x, a ≠ []) → (∀ a ∈ y, a ≠ []) → x.map txtP = y.map txtP → x = y
  | [], [], _, _, _ => rfl
  | [], _ :: _, _, _, h => by cases h
  | _ :: _, [], _, _, h => by cases h
  | a :: x, b :: y, hx, hy, h => by
    simp only [List.map_cons, List.cons.injEq] at h
    rw [txtP_inj (hx a (by simp)) (hy b (by simp)) h.1, txts_inj (fun z hz => hx z (List.mem_cons_of_mem _ hz)) (fun z hz => hy z (List.mem_cons_of_mem _ hz)) h.2]
/-- Two runs of one text have one key. -/
theorem text_inj {r q : RRun} (hr : OkK r) (hq : OkK q) (h : textR r = textR q) : keyR r = keyR q := by
  rw [textR_parts, textR_parts] at h
  have sr : r.counts.sum = (r.evs.map (·.id)).length := by rw [List.length_map]; exact hr.sum
  have sq : q.counts.sum = (q.evs.map (·.id)).length := by rw [List.length_map]; exact hq.sum
  have ne : ∀ {c : List Nat} {l : List Int}, c ≠ [] → (parts c l).map txtP ≠ [] := by
    intro c l hc
    cases c with
    | nil => exact absurd rfl hc
    | cons a c => rw [parts]; simp
  have h1 := join_inj (c := 124) (by intro x hx; obtain ⟨y, _, rfl⟩ := List.mem_map.1 hx; exact txtP_not y) (by intro x hx; obtain ⟨y, _, rfl⟩ := List.mem_map.1 hx; exact txtP_not y) (ne hr.ne) (ne hq.ne) h
  have h2 := txts_inj (parts_pos _ _ sr hr.pos) (parts_pos _ _ sq hq.pos) h1
  unfold keyR
  refine Prod.ext ?_ ?_
  · show r.counts = q.counts
    rw [← parts_len r.counts _ sr, ← parts_len q.counts _ sq, h2]
  · show r.evs.map (·.id) = q.evs.map (·.id)
    rw [← parts_flat r.counts _ sr, ← parts_flat q.counts _ sq, h2]
/-- What may come of a run with an event more: the runs that are grown. -/
def cands (p : RPlan) (r : RRun) (e : Ev) : List RRun :=
  match r.counts.getLast? with
  | none => []
  | some n =>
    match p.steps[r.counts.length - 1]? with
    | none => []
    | some s =>
      if untilR p r < e.time then [] else
      (if (n : Int) < s.hi ∧ fitsS s r (r.counts.length - 1) e = true then [withR r (r.counts.length - 1) e] else []) ++
      (match p.steps[r.counts.length - 1 + 1]? with
        | none => []
        | some s2 => if s.lo ≤ (n : Int) ∧ r.blocked = false ∧ fitsS s2 r (r.counts.length - 1 + 1) e = true then [withR r (r.counts.length - 1 + 1) e] else [])
def starts (p : RPlan) (e : Ev) : List RRun := match p.steps with
  | [] => []
  | s :: _ => if fitsS s noRun 0 e then [withR noRun 0 e] else []
theorem adv_cands (p : RPlan) (r : RRun) (e : Ev) : (advR p r e).grown = (cands p r e).filter (addGrown p) ∧ (advR p r e).done = ((cands p r e).filter (addDone p)).map textR := by
  unfold advR cands
  cases r.counts.getLast? with
  | none => exact ⟨rfl, rfl⟩
  | some n =>
    simp only []
    cases p.steps[r.counts.length - 1]? with
    | none => exact ⟨rfl, rfl⟩
    | some s =>
      simp only []
      split
      · exact ⟨rfl, rfl⟩
      · have one : ∀ (x : RRes) (w : RRun), (addR p x w).grown = x.grown ++ [w].filter (addGrown p) ∧ (addR p x w).done = x.done ++ ([w].filter (addDone p)).map textR := by
          intro x w
          rw [addR_grown, addR_done]
          constructor
          · cases h : addGrown p w <;> simp [h]
          · cases h : addDone p w <;> simp [h]
        rw [List.filter_append, List.filter_append, List.map_append]
        by_cases c1 : (n : Int) < s.hi ∧ fitsS s r (r.counts.length - 1) e = true
        · rw [if_pos c1, if_pos c1]
          cases p.steps[r.counts.length - 1 + 1]? with
          | none =>
            simp only []
            rw [(one _ _).1, (one _ _).2]
            simp [noRes]
          | some s2 =>
            simp only []
            split
            · rw [(one _ _).1, (one _ _).2, (one _ _).1, (one _ _).2]
              simp [noRes]
            · rw [(one _ _).1, (one _ _).2]
              simp [noRes]
        · rw [if_neg c1, if_neg c1]
          cases p.steps[r.counts.length - 1 + 1]? with
          | none => exact ⟨rfl, rfl⟩
          | some s2 =>
            simp only []
            split
            · rw [(one _ _).1, (one _ _).2]
              simp [noRes]
            · exact ⟨rfl, rfl⟩
theorem start_cands (p : RPlan) (e : Ev) : (startR p e).grown = (starts p e).filter (addGrown p) ∧ (startR p e).done = ((starts p e).filter (addDone p)).map textR := by
  unfold startR starts
  cases p.steps with
  | nil => exact ⟨rfl, rfl⟩
  | cons s l =>
    simp only []
    split
    · rw [addR_grown, addR_done]
      constructor
      · cases h : addGrown p (withR noRun 0 e) <;> simp [h, noRes]
      · cases h : addDone p (withR noRun 0 e) <;> simp [h, noRes]
    · exact ⟨rfl, rfl⟩
theorem with_same {r : RRun} {c : List Nat} {n : Nat} (h : r.counts = c ++ [n]) (e : Ev) : withR r (r.counts.length - 1) e = ⟨c ++ [n + 1], r.evs ++ [e], false⟩ := by
  unfold withR
  have h1 : r.counts.length = c.length + 1 := by rw [h]; simp
  rw [if_neg (by omega), h1, h]
  simp
theorem with_next {r : RRun} {c : List Nat} {n : Nat} (h : r.counts = c ++ [n]) (e : Ev) : withR r (r.counts.length - 1 + 1) e = ⟨c ++ [n, 1], r.evs ++ [e], false⟩ := by
  unfold withR
  have h1 : r.counts.length = c.length + 1 := by rw [h]; simp
  rw [if_pos (by omega), h1, h]
  simp
theorem with_start (e : Ev) : withR noRun 0 e = ⟨[1], [e], false⟩ := rfl
/-- The key of the run that a run has grown from. -/
def parK (k : List Nat × List Int) : List Nat × List Int := (if k.1.getLast? = some 1 then k.1.dropLast else k.1.dropLast ++ [k.1.getLastD 0 - 1], k.2.dropLast)
/-- All that may come of runs with an event more. -/
def candsAll (p : RPlan) (rs : List RRun) (e : Ev) : List RRun := rs.flatMap (fun r => cands p r e) ++ starts p e
theorem cands_mem {p : RPlan} {r : RRun} {e : Ev} (h : OkK r) {g : RRun} (hg : g ∈ cands p r e) : OkK g ∧ parK (keyR g) = keyR r ∧ g.evs = r.evs ++ [e] := by
  unfold cands at hg
  rcases List.eq_nil_or_concat r.counts with hc | ⟨c, n, hc⟩
  · exact absurd hc h.ne
  rw [List.concat_eq_append] at hc
  have hn : r.counts.getLast? = some n := by rw [hc]; simp
  rw [hn] at hg
  simp only [] at hg
  have hpos : 1 ≤ n := h.pos n (by rw [hc]; simp)
  have hsum := h.sum
  rw [hc, List.sum_append, List.sum_singleton] at hsum
  have hcp : ∀ x ∈ c, 1 ≤ x := fun x hx => h.pos x (by rw [hc]; exact List.mem_append_left _ hx)
  have a1 : OkK (withR r (r.counts.length - 1) e) ∧ parK (keyR (withR r (r.counts.length - 1) e)) = keyR r ∧ (withR r (r.counts.length - 1) e).evs = r.evs ++ [e] := by
    rw [with_same hc]
    refine ⟨⟨by simp, ?_, by simp; omega⟩, ?_, rfl⟩
    · intro x hx
      rcases List.mem_append.1 hx with hx | hx
      · exact hcp x hx
      · rw [List.mem_singleton.1 hx]; omega
    · unfold parK keyR
      rw [hc]
      simp
      try omega
  have a2 : OkK (withR r (r.counts.length - 1 + 1) e) ∧ parK (keyR (withR r (r.counts.length - 1 + 1) e)) = keyR r ∧ (withR r (r.counts.length - 1 + 1) e).evs = r.evs ++ [e] := by
    rw [with_next hc]
    refine ⟨⟨by simp, ?_, by simp; omega⟩, ?_, rfl⟩
    · intro x hx
      rcases List.mem_append.1 hx with hx | hx
      · exact hcp x hx
      · simp only [List.mem_cons, List.not_mem_nil, or_false] at hx
        rcases hx with rfl | rfl <;> omega
    · unfold parK keyR
      rw [hc]
      simp
      try (rw [List.dropLast_append_of_ne_nil (by simp)]; rfl)
  split at hg
  · cases hg
  · split at hg
    · cases hg
    · rcases List.mem_append.1 hg with hg | hg
      · split at hg
        · rw [List.mem_singleton.1 hg]; exact a1
        · cases hg
      · split at hg
        · cases hg
        · split at hg
          · rw [List.mem_singleton.1 hg]; exact a2
          · cases hg
theorem starts_mem {p : RPlan} {e : Ev} {g : RRun} (hg : g ∈ starts p e) : OkK g ∧ parK (keyR g) = ([], []) ∧ g.evs = [e] := by
  unfold starts at hg
  split at hg
  · cases hg
  · split at hg
    · rw [List.mem_singleton.1 hg, with_start]
      exact ⟨⟨by simp, by simp, rfl⟩, rfl, rfl⟩
    · cases hg
theorem cands_two {p : RPlan} {r : RRun} {e : Ev} (h : OkK r) : (cands p r e).Pairwise fun x y => keyR x ≠ keyR y := by
  unfold cands
  rcases List.eq_nil_or_concat r.counts with hc | ⟨c, n, hc⟩
  · exact absurd hc h.ne
  rw [List.concat_eq_append] at hc
  split
  · exact .nil
  · split
    · exact .nil
    · split
      · exact .nil
      · rw [List.pairwise_append]
        refine ⟨?_, ?_, ?_⟩
        · split <;> simp
        · split
          · simp
          · split <;> simp
        · intro x hx y hy
          split at hx
          · split at hy
            · cases hy
            · split at hy
              · rw [List.mem_singleton.1 hx, List.mem_singleton.1 hy, with_same hc, with_next hc]
                intro he
                have h1 := congrArg (fun k => k.1.length) he
                simp [keyR] at h1
              · cases hy
          · cases hx
theorem pair_flat {α β γ : Type} (key : β → γ) (par : γ → γ) (ka : α → γ) (f : α → List β) : ∀ (l : List α), (∀ a ∈ l, ∀ b ∈ f a, par (key b) = ka a) → (∀ a ∈ l, (f a).Pairwise fun x y => key x ≠ key y) → (l.Pairwise fun x y => ka x ≠ ka y) → (l.flatMap f).Pairwise fun x y => key x ≠ key y
  | [], _, _, _ => by rw [List.flatMap_nil]; exact .nil
  | a :: l, h1, h2, h3 => by
    rw [List.flatMap_cons, List.pairwise_append]
    have h3' := List.pairwise_cons.1 h3
    refine ⟨h2 a (by simp), pair_flat key par ka f l (fun b hb => h1 b (List.mem_cons_of_mem _ hb)) (fun b hb => h2 b (List.mem_cons_of_mem _ hb)) h3'.2, ?_⟩
    intro x hx y hy
    obtain ⟨b, hb, hy⟩ := List.mem_flatMap.1 hy
    intro he
    apply h3'.1 b hb
    rw [← h1 a (by simp) x hx, ← h1 b (List.mem_cons_of_mem _ hb) y hy, he]
/-- Some of the events, no more than there are. -/
def InE (l x : List Ev) : Prop := (∀ z ∈ x, z ∈ l) ∧ x.length ≤ l.length
theorem InE.more {l x : List Ev} {e : Ev} (h : InE l x) : InE (l ++ [e]) x := ⟨fun z hz => List.mem_append_left _ (h.1 z hz), by rw [List.length_append]; exact Nat.le_add_right_of_le h.2⟩
theorem InE.snoc {l x : List Ev} {e : Ev} (h : InE l x) : InE (l ++ [e]) (x ++ [e]) := ⟨fun z hz => by
  rcases List.mem_append.1 hz with hz | hz
  · exact List.mem_append_left _ (h.1 z hz)
  · exact List.mem_append_right _ hz, by rw [List.length_append, List.length_append]; exact Nat.add_le_add_right h.2 _⟩
/-- What holds of the runs and the texts behind some events. -/
structure Told (l : List Ev) (s : List RRun × List (List UInt8)) : Prop where
  ok : ∀ r ∈ s.1, OkK r ∧ InE l r.evs
  dist : s.1.Pairwise fun x y => keyR x ≠ keyR y
  txt : ∀ t ∈ s.2, ∃ r, OkK r ∧ InE l r.evs ∧ t = textR r
  once : s.2.Nodup
theorem turn_cands (p : RPlan) (rs : List RRun) (e : Ev) : turnR p rs e = ((innR p e rs).1 ++ (candsAll p rs e).filter (addGrown p), ((candsAll p rs e).filter (addDone p)).map textR) := by
  rw [turnR_inn]
  have h1 : (innR p e rs).2.1 = (rs.flatMap fun r => cands p r e).filter (addGrown p) ∧ (innR p e rs).2.2 = ((rs.flatMap fun r => cands p r e).filter (addDone p)).map textR := by
    induction rs with
    | nil => exact ⟨rfl, rfl⟩
    | cons r rs ih =>
      unfold innR at ih ⊢
      simp only [List.map_cons, List.flatMap_cons, List.filter_append, List.map_append]
      rw [(adv_cands p r e).1, (adv_cands p r e).2]
      exact ⟨by rw [← ih.1], by rw [← ih.2]⟩
  unfold candsAll
  rw [h1.1, h1.2, (start_cands p e).1, (start_cands p e).2, List.filter_append, List.filter_append, List.map_append, List.append_assoc]
theorem kept_sub (p : RPlan) (e : Ev) (rs : List RRun) : ((innR p e rs).1.map keyR).Sublist (rs.map keyR) ∧ ∀ g ∈ (innR p e rs).1, ∃ r ∈ rs, g.counts = r.counts ∧ g.evs = r.evs := by
  have one : ∀ r, (advR p r e).keep = true → (advR p r e).run.counts = r.counts ∧ (advR p r e).run.evs = r.evs := by
    intro r h
    unfold advR at h ⊢
    split at h
    · cases h
    · simp only [] at h ⊢
      split at h
      · cases h
      · split at h
        · cases h
        · simp only [*, if_false] at *
          exact ⟨trivial, trivial⟩
  refine ⟨?_, ?_⟩
  · induction rs with
    | nil => exact List.Sublist.refl _
    | cons r rs ih =>
      unfold innR at ih ⊢
      simp only [List.map_cons, List.filter_cons]
      cases hk : (advR p r e).keep with
      | false => simp only [Bool.false_eq_true, if_false]; exact ih.cons _
      | true =>
        simp only [if_true, List.map_cons]
        have : keyR (advR p r e).run = keyR r := by unfold keyR; rw [(one r hk).1, (one r hk).2]
        rw [this]
        exact ih.cons_cons _
  · intro g hg
    obtain ⟨x, hx, rfl⟩ := List.mem_map.1 hg
    obtain ⟨hx1, hx2⟩ := List.mem_filter.1 hx
    obtain ⟨r, hr, rfl⟩ := List.mem_map.1 hx1
    exact ⟨r, hr, one r hx2⟩
theorem candsAll_ok {p : RPlan} {l : List Ev} {s : List RRun × List (List UInt8)} {e : Ev} (h : Told l s) :
    (∀ g ∈ candsAll p s.1 e, OkK g ∧ ∃ y, g.evs = y ++ [e] ∧ InE l y) ∧ (candsAll p s.1 e).Pairwise fun x y => keyR x ≠ keyR y := by
  refine ⟨?_, ?_⟩
  · intro g hg
    rcases List.mem_append.1 hg with hg | hg
    · obtain ⟨r, hr, hg⟩ := List.mem_flatMap.1 hg
      have h1 := h.ok r hr
      have h2 := cands_mem h1.1 hg
      exact ⟨h2.1, r.evs, h2.2.2, h1.2⟩
    · have h2 := starts_mem hg
      exact ⟨h2.1, [], h2.2.2, fun z hz => (by cases hz), Nat.zero_le _⟩
  · unfold candsAll
    rw [List.pairwise_append]
    refine ⟨pair_flat keyR parK keyR _ _ (fun r hr g hg => (cands_mem (h.ok r hr).1 hg).2.1) (fun r hr => cands_two (h.ok r hr).1) h.dist, ?_, ?_⟩
    · unfold starts
      split
      · exact .nil
      · split <;> simp
    · intro x hx y hy he
      obtain ⟨r, hr, hx⟩ := List.mem_flatMap.1 hx
      have h1 := (cands_mem (h.ok r hr).1 hx).2.1
      rw [he, (starts_mem hy).2.1] at h1
      exact (h.ok r hr).1.ne (congrArg Prod.fst h1).symm
theorem told_step {p : RPlan} {l : List Ev} {s : List RRun × List (List UInt8)} {e : Ev} (h : Told l s) (he : ∀ y ∈ l, y.id ≠ e.id) : Told (l ++ [e]) (stepA p s e) := by
  obtain ⟨c1, c2⟩ := candsAll_ok (p := p) (e := e) h
  have hold : ∀ r : RRun, InE l r.evs → ∀ g ∈ candsAll p s.1 e, keyR r ≠ keyR g := by
    intro r hr g hg hk
    obtain ⟨_, y, hy, _⟩ := c1 g hg
    have h1 := congrArg Prod.snd hk
    unfold keyR at h1
    simp only [] at h1
    have h2 : e.id ∈ r.evs.map (·.id) := by rw [h1, hy]; simp
    obtain ⟨z, hz, h3⟩ := List.mem_map.1 h2
    exact he z (hr.1 z hz) h3
  have hc1 : ∀ g ∈ candsAll p s.1 e, OkK g ∧ InE (l ++ [e]) g.evs := by
    intro g hg
    obtain ⟨h1, y, hy, h2⟩ := c1 g hg
    rw [hy]
    exact ⟨h1, h2.snoc⟩
  unfold stepA
  rw [turn_cands]
  obtain ⟨k1, k2⟩ := kept_sub p e s.1
  refine ⟨?_, ?_, ?_, ?_⟩
  · intro r hr
    rcases List.mem_append.1 hr with hr | hr
    · obtain ⟨q, hq, e1, e2⟩ := k2 r hr
      have h1 := h.ok q hq
      exact ⟨⟨by rw [e1]; exact h1.1.ne, by rw [e1]; exact h1.1.pos, by rw [e1, e2]; exact h1.1.sum⟩, by rw [e2]; exact h1.2.more⟩
    · exact hc1 r (List.mem_filter.1 hr).1
  · show List.Pairwise _ (_ ++ _)
    rw [List.pairwise_append]
    refine ⟨?_, c2.filter _, ?_⟩
    · have h1 : (s.1.map keyR).Pairwise (· ≠ ·) := by rw [List.pairwise_map]; exact h.dist
      have h2 := h1.sublist k1
      rw [List.pairwise_map] at h2
      exact h2
    · intro x hx y hy
      obtain ⟨q, hq, e1, e2⟩ := k2 x hx
      have : keyR x = keyR q := by unfold keyR; rw [e1, e2]
      rw [this]
      exact hold q (h.ok q hq).2 y (List.mem_filter.1 hy).1
  · intro t ht
    rcases List.mem_append.1 ht with ht | ht
    · obtain ⟨r, h1, h2, h3⟩ := h.txt t ht
      exact ⟨r, h1, h2.more, h3⟩
    · obtain ⟨g, hg, rfl⟩ := List.mem_map.1 ht
      have := hc1 g (List.mem_filter.1 hg).1
      exact ⟨g, this.1, this.2, rfl⟩
  · show List.Nodup (_ ++ _)
    rw [List.nodup_append]
    refine ⟨h.once, ?_, ?_⟩
    · rw [List.Nodup, List.pairwise_map]
      have h1 := List.Pairwise.and_mem.1 (c2.filter (addDone p))
      refine h1.imp ?_
      intro x y hxy ht
      exact hxy.2.2 (text_inj (hc1 x (List.mem_filter.1 hxy.1).1).1 (hc1 y (List.mem_filter.1 hxy.2.1).1).1 ht)
    · intro t ht t' ht' heq
      obtain ⟨r, h1, h2, h3⟩ := h.txt t ht
      obtain ⟨g, hg, h4⟩ := List.mem_map.1 ht'
      have hg' := (List.mem_filter.1 hg).1
      exact hold r h2 g hg' (text_inj h1 (hc1 g hg').1 (by rw [← h3, heq, h4]))
theorem snocInd {α : Type} {P : List α → Prop} (nil : P []) (snoc : ∀ l e, P l → P (l ++ [e])) (l : List α) : P l := by
  have h : ∀ (n : Nat) (l : List α), l.length = n → P l := by
    intro n
    induction n with
    | zero => intro l hl; rw [List.eq_nil_of_length_eq_zero hl]; exact nil
    | succ n ih =>
      intro l hl
      rcases List.eq_nil_or_concat l with rfl | ⟨a, b, rfl⟩
      · exact nil
      · rw [List.concat_eq_append] at hl ⊢
        exact snoc a b (ih a (by simpa using hl))
  exact h _ l rfl
theorem told_all (p : RPlan) : ∀ (l : List Ev), (l.Pairwise fun x y => x.id ≠ y.id) → Told l (runA p l) := by
  intro l
  induction l using snocInd with
  | nil => intro _; exact ⟨fun r hr => (by cases hr), .nil, fun t ht => (by cases ht), .nil⟩
  | snoc l e ih =>
    intro h
    rw [List.pairwise_append] at h
    rw [runA_snoc]
    exact told_step (ih h.1) fun y hy => h.2.2 y hy e (by simp)
/-- No match is told twice. -/
theorem run_once (p : RPlan) (l : List Ev) (h : l.Pairwise fun x y => x.id ≠ y.id) : (runA p l).2.Nodup := (told_all p l h).once
/-- What is told is a run's text. -/
theorem run_txt (p : RPlan) (l : List Ev) (h : l.Pairwise fun x y => x.id ≠ y.id) : ∀ t ∈ (runA p l).2, ∃ r, OkK r ∧ InE l r.evs ∧ t = textR r := (told_all p l h).txt
/-- What is found among the first events is a beginning of what is found among all. -/
theorem run_first (p : RPlan) (l : List Ev) (k : Nat) : ∃ t, (runA p l).2 = (runA p (l.take k)).2 ++ t := by
  have h : runA p l = (l.drop k).foldl (stepA p) (runA p (l.take k)) := by
    unfold runA
    rw [← List.foldl_append, List.take_append_drop]
  rw [h, foldA_snd]
  exact ⟨_, rfl⟩
end Go.Proofs.YtcojnojdgigmdaaDoor.PR
