/- A region that draws its order and, among operations that hand back known values (calls too), makes two stores, one behind the other ('d.Left, d.Right = turn(d.Left), turn(d.Right)'): whatever the order. No program in sight. -/
import Derived.Test.YtcfimponmioneaaApp
namespace Go.Proofs.Ytcfimponmioneaa.Ord

/-- One operation that hands back nothing. -/
theorem wpOp_skip {P : Program} {ops : Array Oper} {Q : Exit → Act → World → Prop} {i : Nat} {o : Oper} {a : Act} {w w' : World} {K : Act → World → Prop} (ho : ops[i]? = some o) (hg : o.guard = none) (hd : o.dst = none) (hr : (execOp a.eval o).run P w = .ok .skip w') (hK : K a w') : wpOp P ops Q i K a w := by
  unfold wpOp
  simp only [ho, Region.wanted, hg, if_true]
  refine .inl ?_
  unfold Oper.wp
  rw [hr]
  show K (a.put o.dst undef) w'
  rw [hd]
  exact hK
/-- The call of a function value that captures variables. -/
theorem run_enterV {P : Program} {a : Act} {w : World} {t x : Operand} {vx : Value} {f : FuncId} {cb : Array Value} {d : Option Tmp} {ty : TypeId} {pos : String} {af : Array Edge} {g : Option (Nat × Bool)} {ts : Array TypeId} (hc : a.eval t = .func (.func f) #[] cb) (hx : a.eval x = vx)
    (hf : (callFunc f (#[vx] ++ cb)).run P w = .ok (.enter f (#[vx] ++ cb)) w) :
    (execOp a.eval { dst := d, op := .call { callee := .value t, args := #[x], argTypes := ts }, type := ty, pos := pos, after := af, guard := g }).run P w = .ok (.enter f (#[vx] ++ cb)) w := by
  simp only [execOp, resolve, hc, Deferred.ofValue, invoke, Sem.run_bind, Sem.run_pure, Result.andThen_ok, List.map_toArray, List.map_cons, List.map_nil, hx]
  simpa using hf

theorem store2_order {P : Program} {id : Nat} {l : List Oper} {Q : Exit → Act → World → Prop} {a0 : Act} {w0 w1 w2 : World} {floats : List (Nat × Nat × Value)} {i1 i2 h : Nat}
    (hm : P.follows .mixedOrders = true) (hl : l.length = h + 0) (hH : chkH l.toArray h = true)
    (hseq : Region.seqB .any l.toArray 0 h (List.replicate h true ++ List.replicate 0 false).toArray = true)
    (h12 : (preds l.toArray i2).contains i1 = true)
    (hidx : (floats.map (·.1) ++ [i1, i2]).Nodup) (hall : ∀ i, i < h → i ∈ floats.map (·.1) ++ [i1, i2]) (hin : ∀ i ∈ floats.map (·.1) ++ [i1, i2], i < h)
    (hsl : (floats.map (·.2.1)).Nodup) (hlt : ∀ s ∈ floats.map (·.2.1), s < a0.tmps.size)
    (hF : ∀ (i s : Nat) (x : Value), (i, s, x) ∈ floats → ∀ (a : Act) (w : World) (K : Act → World → Prop), Sees a0 (floats.map (·.2.1)) a → (∀ (o : Oper) (j s' : Nat) (x' : Value), l[i]? = some o → (j, s', x') ∈ floats → waits o j → a.tmps[s']? = some x') →
      (w = w0.drew ∨ ((clos l.toArray 9 (preds l.toArray i1)).contains i = false ∧ (w = w1 ∨ w = w2))) → K (a.put (some s) x) w → wpOp P l.toArray Q i K a w)
    (hS1 : ∀ (a : Act) (K : Act → World → Prop), Sees a0 (floats.map (·.2.1)) a → (∀ (o : Oper) (j s' : Nat) (x' : Value), l[i1]? = some o → (j, s', x') ∈ floats → waits o j → a.tmps[s']? = some x') → K a w1 → wpOp P l.toArray Q i1 K a w0.drew)
    (hS2 : ∀ (a : Act) (K : Act → World → Prop), Sees a0 (floats.map (·.2.1)) a → (∀ (o : Oper) (j s' : Nat) (x' : Value), l[i2]? = some o → (j, s', x') ∈ floats → waits o j → a.tmps[s']? = some x') → K a w2 → wpOp P l.toArray Q i2 K a w1)
    (hT : wpList P l.toArray Q [] (puts (floats.map (·.2)) a0) w2) : (Code.region id l.toArray true).wp P Q a0 w0 := by
  have hnf := (List.nodup_append.1 hidx).1
  have hn12 := (List.nodup_append.1 hidx).2.1
  have hx := (List.nodup_append.1 hidx).2.2
  have hne12 : i1 ≠ i2 := by intro e; subst e; simp at hn12
  refine wp_any_order (h := h) (t := 0) hm hl hH rfl hseq
    (fun listed a w => Sees a0 (floats.map (·.2.1)) a ∧ (∀ (j s : Nat) (x : Value), (j, s, x) ∈ floats → listed.getD j false = true → a.tmps[s]? = some x) ∧
      (∀ i, listed.getD i false = true → ∀ j ∈ preds l.toArray i, listed.getD j false = true) ∧
      ((listed.getD i1 false = false ∧ listed.getD i2 false = false ∧ w = w0.drew) ∨ (listed.getD i1 false = true ∧ listed.getD i2 false = false ∧ w = w1) ∨ (listed.getD i1 false = true ∧ listed.getD i2 false = true ∧ w = w2))) ?_ ?_ ?_
  · rintro listed a w i ⟨hs, hk, hclo, hw⟩ hsz hih hr
    have hil : i < listed.size := by omega
    have hun : listed.getD i false = false := by
      have h1 := (mem_ready.1 hr).1
      simp only [Array.getD_eq_getD_getElem?] at h1 ⊢
      simpa [hil] using h1
    have hpl : ∀ q ∈ preds l.toArray i, listed.getD q false = true := fun q hq => by
      obtain ⟨_, o, ho, hall'⟩ := mem_ready.1 hr
      obtain ⟨e, he, hb, rfl⟩ := preds_of ho hq
      exact hall' e he hb
    have hclo' : ∀ q, (listed.setIfInBounds i true).getD q false = true → ∀ j ∈ preds l.toArray q, (listed.setIfInBounds i true).getD j false = true := fun q hq j hj => by
      have hset : ∀ x, listed.getD x false = true → (listed.setIfInBounds i true).getD x false = true := by
        intro x hx
        rw [getD_set hil]
        split
        · rfl
        · exact hx
      rw [getD_set hil] at hq
      by_cases hiq : i = q
      · subst hiq; exact hset _ (hpl j hj)
      · rw [if_neg hiq] at hq; exact hset _ (hclo q hq j hj)
    have hkw : ∀ (o : Oper) (j s' : Nat) (x' : Value), l[i]? = some o → (j, s', x') ∈ floats → waits o j → a.tmps[s']? = some x' := fun o j s' x' ho hm2 hw' => hk j s' x' hm2 (listed_of_waits hr (by simpa using ho) hw')
    rcases List.mem_append.1 (hall i hih) with hik | hik
    · obtain ⟨⟨i', s, x⟩, hm', rfl⟩ := List.mem_map.1 hik
      simp only at hun hil hpl hclo' hkw hik hr hih ⊢
      have hsk : s ∈ floats.map (·.2.1) := List.mem_map.2 ⟨_, hm', rfl⟩
      have hlt' : s < a.tmps.size := by rw [hs.size]; exact hlt s hsk
      have hni1 : i' ≠ i1 := hx _ hik _ (by simp)
      have hni2 : i' ≠ i2 := hx _ hik _ (by simp)
      refine hF i' s x hm' a w _ hs hkw ?_ ?_
      · rcases hw with ⟨_, _, hw⟩ | ⟨h1, _, hw⟩ | ⟨h1, _, hw⟩
        · exact .inl hw
        · refine .inr ⟨?_, .inl hw⟩
          cases hc : (clos l.toArray 9 (preds l.toArray i1)).contains i' with
          | false => rfl
          | true =>
            have := clos_listed hclo 9 _ (hclo i1 h1) i' (by simpa using hc)
            rw [hun] at this; cases this
        · refine .inr ⟨?_, .inr hw⟩
          cases hc : (clos l.toArray 9 (preds l.toArray i1)).contains i' with
          | false => rfl
          | true =>
            have := clos_listed hclo 9 _ (hclo i1 h1) i' (by simpa using hc)
            rw [hun] at this; cases this
      · refine ⟨hs.put hsk x, fun j s' x' hm2 hl' => ?_, hclo', ?_⟩
        · by_cases hj : i' = j
          · subst hj
            obtain ⟨rfl, rfl⟩ := nodup_fst hnf hm' hm2
            exact put_same hlt' _
          · rw [getD_set hil, if_neg hj] at hl'
            have hne' : s ≠ s' := by
              intro he
              subst he
              exact hj (nodup_snd hsl hm' hm2)
            rw [put_other hne']
            exact hk j s' x' hm2 hl'
        · rw [getD_set hil, getD_set hil, if_neg hni1, if_neg hni2]
          exact hw
    · have hmk : ∀ j s x, (j, s, x) ∈ floats → i ≠ j := fun j s x hm2 he => hx j (List.mem_map.2 ⟨_, hm2, rfl⟩) i hik he.symm
      have hk' : ∀ (j s : Nat) (x : Value), (j, s, x) ∈ floats → (listed.setIfInBounds i true).getD j false = true → a.tmps[s]? = some x := fun j s x hm2 hl' => by
        rw [getD_set hil, if_neg (hmk j s x hm2)] at hl'
        exact hk j s x hm2 hl'
      simp only [List.mem_cons, List.not_mem_nil, or_false] at hik
      rcases hik with rfl | rfl
      · rcases hw with ⟨_, h2, rfl⟩ | ⟨h1, _, _⟩ | ⟨h1, _, _⟩
        · refine hS1 a _ hs hkw ⟨hs, hk', hclo', .inr (.inl ⟨?_, ?_, rfl⟩)⟩
          · rw [getD_set hil, if_pos rfl]
          · rw [getD_set hil, if_neg hne12]; exact h2
        · rw [hun] at h1; cases h1
        · rw [hun] at h1; cases h1
      · have h1 := hpl i1 (by simpa using h12)
        rcases hw with ⟨h0, _, _⟩ | ⟨_, _, rfl⟩ | ⟨_, h2, _⟩
        · rw [h1] at h0; cases h0
        · refine hS2 a _ hs hkw ⟨hs, hk', hclo', .inr (.inr ⟨?_, ?_, rfl⟩)⟩
          · rw [getD_set hil, if_neg (Ne.symm hne12)]; exact h1
          · rw [getD_set hil, if_pos rfl]
        · rw [hun] at h2; cases h2
  · have hz : ∀ j, (Array.replicate (h + 0) false).getD j false = false := by
      intro j
      simp [Array.getD_eq_getD_getElem?, Array.getElem?_replicate]
      split <;> simp
    refine ⟨⟨rfl, rfl, fun _ _ => rfl⟩, fun j s x _ hl' => ?_, fun i hl' => ?_, .inl ⟨hz _, hz _, rfl⟩⟩
    · rw [hz] at hl'; cases hl'
    · rw [hz] at hl'; cases hl'
  · rintro listed a w ⟨hs, hk, _, hw⟩ hdone
    have h1 := hdone i1 (hin i1 (by simp))
    have h2 := hdone i2 (hin i2 (by simp))
    obtain rfl : w = w2 := by
      rcases hw with ⟨h0, _⟩ | ⟨_, h0, _⟩ | ⟨_, _, h0⟩
      · rw [h1] at h0; cases h0
      · rw [h2] at h0; cases h0
      · exact h0
    have hmap : (floats.map (·.2)).map (·.1) = floats.map (·.2.1) := by rw [List.map_map]; rfl
    have e : a = puts (floats.map (·.2)) a0 := by
      refine act_eq hs.size hs.defers ?_ ?_ ?_ ?_
      · rw [hmap]; exact hs.out
      · rw [hmap]; exact hsl
      · rw [hmap]; exact hlt
      · intro s v hsv
        obtain ⟨⟨j, s', x⟩, hm', hh⟩ := List.mem_map.1 hsv
        injection hh with e1 e2
        subst e1; subst e2
        exact hk j s' x hm' (hdone _ (hin _ (List.mem_append.2 (.inl (List.mem_map.2 ⟨_, hm', rfl⟩)))))
    rw [e]
    have hd : l.drop h = [] := List.drop_eq_nil_iff.2 (by omega)
    rw [hd]
    exact hT
end Go.Proofs.Ytcfimponmioneaa.Ord
