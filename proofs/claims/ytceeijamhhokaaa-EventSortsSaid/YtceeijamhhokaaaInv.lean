/- A region that draws its order, with something more of memory that each operation keeps; appends of one row of the call's own to another. No program in sight. -/
import Derived.Test.YtceeijamhhokaaaFacts
import Derived.Laws.AppendOwnNone
import Derived.Maps.AppendAt
namespace Go.Proofs.Ytceeijamhhokaaa.Reg
open Go Go.RowKit Go.Proofs.Ytceeijamhhokaaa.Mem

/-- As stand_order, with one thing more of memory, which each operation keeps by itself. -/
theorem inv_order {P : Program} {id : Nat} {l : List Oper} {Q : Exit → Act → World → Prop} {W : World} {a0 : Act} {w0 : World} (facts : List Fact) (stands : List Stand) (I : World → Prop) {h t : Nat}
    (hm : P.follows .mixedOrders = true) (hl : l.length = h + t) (hH : chkH l.toArray h = true) (hTl : chkT l.toArray h t = true)
    (hseq : Region.seqB .any l.toArray t h (List.replicate h true ++ List.replicate t false).toArray = true)
    (hops : (facts.map (·.op)).Nodup) (hall : ∀ i, i < h → i ∈ facts.map (·.op)) (hin : ∀ f ∈ facts, f.op < h) (hsl : (facts.map (·.slot)).Nodup) (hlt : ∀ s ∈ facts.map (·.slot), s < a0.tmps.size)
    (hok : okStand l facts stands = true)
    (hkeep : ∀ f ∈ facts, ∀ v w w', (∀ e ∈ f.tys, Keeps e w w') → f.F v w → f.F v w')
    (hkeepG : ∀ f ∈ stands, ∀ w w', (∀ e ∈ f.tys, Keeps e w w') → f.G w → f.G w')
    (hbel : Below W.heap.size W w0) (hI0 : I w0.drew) (hst0 : ∀ f ∈ stands, f.G w0.drew)
    (hS : ∀ f ∈ facts, ∀ a w, Stays W a0 (facts.map (·.slot)) [] a w → I w → (∀ g ∈ facts, bef l f.op g.op = true → okTil l f.op g.til (h + t) = true → ∃ v, a.tmps[g.slot]? = some v ∧ g.F v w) → (∀ g ∈ stands, okTil l f.op g.til (h + t) = true → g.G w) →
      ∀ K : Act → World → Prop, (∀ v w', f.F v w' → Below W.heap.size W w' → (∀ e, f.uses ≠ some e → Keeps e w w') → I w' → K (a.put (some f.slot) v) w') → wpOp P l.toArray Q f.op K a w)
    (hT : ∀ (vals : Nat → Value) w, (∀ f ∈ facts, h + t ≤ f.til → f.F (vals f.slot) w) → (∀ f ∈ stands, h + t ≤ f.til → f.G w) → Below W.heap.size W w → I w → wpList P l.toArray Q (l.drop h) (puts (facts.map fun f => (f.slot, vals f.slot)) a0) w) :
    (Code.region id l.toArray true).wp P Q a0 w0 := by
  unfold okStand at hok
  simp only [Bool.and_eq_true] at hok
  obtain ⟨hok1, hok2⟩ := hok
  have big : ∀ (listed : Array Bool) n, listed.size = h + t → h + t ≤ n → listed.getD n false = false := by
    intro listed n hs hn
    rw [Array.getD_eq_getD_getElem?, Array.getElem?_eq_none (by omega)]; rfl
  refine wp_any_order hm hl hH hTl hseq (fun listed a w => listed.size = h + t ∧ Stays W a0 (facts.map (·.slot)) [] a w ∧ (∀ i, listed.getD i false = true → ∀ j ∈ preds l.toArray i, listed.getD j false = true) ∧
    (∀ f ∈ facts, listed.getD f.op false = true → listed.getD f.til false = false → ∃ v, a.tmps[f.slot]? = some v ∧ f.F v w) ∧ (∀ f ∈ stands, listed.getD f.til false = false → f.G w) ∧ I w) ?_ ?_ ?_
  · intro listed a w i ⟨hls, hst, hcl, hf, hg0, hI⟩ _ hih hr
    obtain ⟨f, hfm, rfl⟩ := List.mem_map.1 (hall i hih)
    have hil : f.op < listed.size := by omega
    have hun : listed.getD f.op false = false := by
      have h := (mem_ready.1 hr).1
      simp only [Array.getD_eq_getD_getElem?] at h ⊢
      simpa [hil] using h
    have notl : ∀ n, bef l n f.op = true → listed.getD n false = false := by
      intro n hn
      cases hx : listed.getD n false with
      | false => rfl
      | true =>
        have := clos_listed hcl 4 _ (hcl n hx) f.op (List.contains_iff_mem.1 hn)
        rw [hun] at this; cases this
    have til : ∀ n, okTil l f.op n (h + t) = true → listed.getD n false = false := by
      intro n hn
      unfold okTil at hn
      simp only [Bool.or_eq_true, decide_eq_true_eq] at hn
      rcases hn with (e | e) | e
      · rw [e]; exact hun
      · exact big _ _ hls e
      · exact notl n e
    refine hS f hfm a w hst hI (fun g hg hw htil => hf g hg (clos_listed hcl 4 _ (mem_preds hr) g.op (List.contains_iff_mem.1 hw)) (til _ htil)) (fun g hg htil => hg0 g hg (til _ htil)) _ fun v w' hv hb hk hI' => ?_
    have mono : ∀ j, listed.getD j false = true → (listed.setIfInBounds f.op true).getD j false = true := by
      intro j hj
      rw [getD_set hil]; split
      · rfl
      · exact hj
    refine ⟨by simpa using hls, ?_, ?_, ?_, ?_, hI'⟩
    · exact (Stays.put (⟨hst.size, hst.defers, hst.out, hb, fun g cs t hm => by cases hm⟩ : Stays W a0 (facts.map (·.slot)) [] a w') (List.mem_map.2 ⟨f, hfm, rfl⟩) v)
    · intro i hi j hj
      rw [getD_set hil] at hi
      by_cases hif : f.op = i
      · subst hif
        exact mono j (mem_preds hr j hj)
      · rw [if_neg hif] at hi
        exact mono j (hcl i hi j hj)
    · intro g hg hlg htl
      rw [getD_set hil] at hlg htl
      by_cases he : f.op = g.op
      · obtain rfl := nodup_map hops hfm hg he
        exact ⟨v, put_same (by rw [hst.size]; exact hlt _ (List.mem_map.2 ⟨f, hfm, rfl⟩)) v, hv⟩
      · rw [if_neg he] at hlg
        by_cases hte : f.op = g.til
        · rw [if_pos hte] at htl; cases htl
        · rw [if_neg hte] at htl
          obtain ⟨u, hu, hF⟩ := hf g hg hlg htl
          refine ⟨u, by rw [put_other (fun e => he (by rw [nodup_map hsl hfm hg e]))]; exact hu, hkeep g hg u w w' (fun e he' => hk e fun hus => ?_) hF⟩
          have hc := List.all_eq_true.1 (List.all_eq_true.1 hok1 f hfm) g hg
          rw [hus] at hc
          simp only [Bool.or_eq_true, decide_eq_true_eq, Bool.not_eq_true'] at hc
          rcases hc with ((hc | hc) | hc) | hc
          · exact he hc.symm
          · have := List.contains_iff_mem.2 he'
            rw [hc] at this; cases this
          · exact hte hc.symm
          · have := notl _ hc
            rw [hlg] at this; cases this
    · intro g hg htl
      rw [getD_set hil] at htl
      by_cases hte : f.op = g.til
      · rw [if_pos hte] at htl; cases htl
      · rw [if_neg hte] at htl
        refine hkeepG g hg w w' (fun e he' => hk e fun hus => ?_) (hg0 g hg htl)
        have hc := List.all_eq_true.1 (List.all_eq_true.1 hok2 f hfm) g hg
        rw [hus] at hc
        simp only [Bool.or_eq_true, decide_eq_true_eq, Bool.not_eq_true'] at hc
        rcases hc with (hc | hc) | hc
        · have := List.contains_iff_mem.2 he'
          rw [hc] at this; cases this
        · exact hte hc.symm
        · have := clos_listed hcl 4 _ (mem_preds hr) g.til (List.contains_iff_mem.1 hc)
          rw [htl] at this; cases this
  · have hz : ∀ n, (Array.replicate (h + t) false).getD n false = false := by
      intro n
      simp [Array.getD_eq_getD_getElem?, Array.getElem?_replicate]; split <;> simp
    refine ⟨by simp, ⟨rfl, rfl, fun _ _ => rfl, hbel.drew, fun g cs t hm => by cases hm⟩, fun i hi => ?_, fun f hf hlf => ?_, fun f hf _ => hst0 f hf, hI0⟩
    · rw [hz] at hi; cases hi
    · rw [hz] at hlf; cases hlf
  · intro listed a w ⟨hls, hst, _, hf, hg0, hI⟩ hli
    have e : a = puts (facts.map fun f => (f.slot, (a.tmps[f.slot]?).getD undef)) a0 := by
      refine act_eq hst.size hst.defers (fun s hs => hst.out s (by simpa [List.map_map, Function.comp_def] using hs)) (by simpa [List.map_map, Function.comp_def] using hsl) (by simpa [List.map_map, Function.comp_def] using hlt) ?_
      intro s v hm
      obtain ⟨f, hfm, e⟩ := List.mem_map.1 hm
      injection e with e1 e2
      subst e1 e2
      have : f.slot < a.tmps.size := by rw [hst.size]; exact hlt _ (List.mem_map.2 ⟨f, hfm, rfl⟩)
      simp [this]
    have := hT (fun s => (a.tmps[s]?).getD undef) w (fun f hfm htl => ?_) (fun f hfm htl => hg0 f hfm (big _ _ hls htl)) hst.below hI
    · rw [← e] at this
      exact this
    · obtain ⟨v, hv, hF⟩ := hf f hfm (hli _ (hin f hfm)) (big _ _ hls htl)
      show f.F ((a.tmps[f.slot]?).getD undef) w
      rw [hv]; exact hF


/-- Two rows do not lie in one block. -/
def Apart (v v' : Value) : Prop := ∀ k, v.ownBlock = some k → v'.ownBlock ≠ some k
theorem Apart.symm {v v' : Value} (h : Apart v v') : Apart v' v := fun k h1 h2 => h k h2 h1
theorem Apart.nil (v : Value) : Apart (.slice none 0 0) v := fun k h => by cases h
theorem Apart.nil' (v : Value) : Apart v (.slice none 0 0) := (Apart.nil v).symm
theorem Apart.new {w : World} {b e s n : Nat} {v v' : Value} {xs : List Value} {k : Nat} (h : w.ownsRow b e s v n xs) (hk : w.heap.size ≤ k) (h' : v'.ownBlock = some k) : Apart v v' := by
  intro j h1 h2
  rw [h'] at h2
  injection h2 with h2
  have := (own_lt h j h1).2
  omega
/-- Behind an append the row is apart from those that it was apart from. -/
theorem Apart.grown {w : World} {b e s n : Nat} {v v' u : Value} {xs : List Value} (h : Apart u v) (hu : w.ownsRow b e s u n xs) (hv : v'.ownBlock = v.ownBlock ∨ v'.ownBlock = some w.heap.size) : Apart u v' := by
  rcases hv with hv | hv
  · intro k h1 h2; exact h k h1 (by rw [← hv]; exact h2)
  · exact Apart.new hu (Nat.le_refl _) hv
theorem own_apart {w w' : World} {b e s n : Nat} {v u : Value} {xs : List Value} (h : w.ownsRow b e s u n xs) (ha : Apart u v) (hg : w.grownBy w' v.ownBlock) : w'.ownsRow b e s u n xs := by
  refine h.kept hg ?_
  cases hu : u.ownBlock with
  | none => exact .inl rfl
  | some k => exact .inr fun he => ha k hu he.symm
/-- An append of a row of the call's own. -/
theorem run_append_src {P : Program} {w : World} (t ty : TypeId) (base b2 : Nat) (e : TypeId) (i : TypeInfo) (z : Value) (size bytes : Nat) (ht : P.underlying t = some (.slice e)) (hi : P.info? e = some i) (hz : i.zero = some z)
    (hsize : i.size = size) (hby : i.bytes = bytes) (hzs : z.cells.size = size) (hsz : 0 < size) (v u : Value) (n m : Nat) (xs ys : List Value) (hown : w.ownsRow base e size v n xs) (hsrc : w.ownsRow b2 e size u m ys) (h1 : ∀ y ∈ ys, y.oneCell' = true)
    (h63 : n + m ≤ maxLen) (hbytes : (n + m) * bytes ≤ 140737488355328) (hbase : base ≤ w.heap.size) :
    ∃ v' w', (Builtin.append_ #[t, t] ty #[v, u]).run P w = .ok v' w' ∧ w'.ownsRow base e size v' (n + m) (xs ++ ys) ∧ w.grownBy w' v.ownBlock ∧ (v'.ownBlock = v.ownBlock ∨ v'.ownBlock = some w.heap.size) := by
  rcases hsrc.2 with ⟨rfl, rfl⟩ | ⟨g, cap, cur, rfl, hg⟩
  · have e0 : ys = [] := List.eq_nil_of_length_eq_zero (by have := hsrc.1; omega)
    subst e0
    refine ⟨v, w, run_append_owned_none (P := P) (w := w) base t ty e i size ht hi v n xs hown, by simpa using hown, ⟨rfl, rfl, rfl, Nat.le_refl _, fun _ _ _ => rfl⟩, .inl rfl⟩
  · obtain ⟨v', w', a1, a2, a3, _, a5⟩ := run_append_own_at (P := P) w base t ty e i z size bytes ht hi hz hsize hby hzs hsz v n xs hown ⟨g, 0, none⟩ m cap ys hsrc.1 (fun j x hx => hsrc.cells (g := g) rfl j x hx) h1 h63 hbytes hbase
    exact ⟨v', w', a1, a2, a3, a5⟩
/-- .. as an operation of a region that draws its order. -/
theorem step_appI {P : Program} {l : List Oper} {Q : Exit → Act → World → Prop} {W : World} {i s src sx base b2 : Nat} {I : World → Prop} {F : Value → World → Prop} {a : Act} {w : World} {o : Oper} {e t : TypeId} {ti : TypeInfo} {z : Value} {sz bytes n m : Nat} {v u : Value} {xs ys : List Value}
    (ho : l[i]? = some o) (hg : o.guard = none) (hd : o.dst = some s) (hop : o.op = .call { callee := .builtin .append, args := #[.tmp src, .tmp sx], argTypes := #[t, t] })
    (hbw : Below W.heap.size W w) (ht : P.underlying t = some (.slice e)) (hi : P.info? e = some ti) (hz : ti.zero = some z) (hsize : ti.size = sz) (hby : ti.bytes = bytes) (hzs : z.cells.size = sz) (hsz : 0 < sz)
    (hs : a.tmps[src]? = some v) (hown : w.ownsRow base e sz v n xs) (hx : a.tmps[sx]? = some u) (hsrc : w.ownsRow b2 e sz u m ys) (h1 : ∀ y ∈ ys, y.oneCell' = true) (h63 : n + m ≤ maxLen) (hbytes : (n + m) * bytes ≤ 140737488355328) (hbase : W.heap.size ≤ base) (hbase2 : base ≤ w.heap.size)
    (hF : ∀ v' w', w'.ownsRow base e sz v' (n + m) (xs ++ ys) → w.grownBy w' v.ownBlock → (v'.ownBlock = v.ownBlock ∨ v'.ownBlock = some w.heap.size) → F v' w' ∧ I w') :
    ∀ K : Act → World → Prop, (∀ v w', F v w' → Below W.heap.size W w' → (∀ e', some e ≠ some e' → Keeps e' w w') → I w' → K (a.put (some s) v) w') → wpOp P l.toArray Q i K a w := by
  intro K hK
  obtain ⟨v', w', a1, a2, a3, a4⟩ := run_append_src (P := P) (w := w) t o.type base b2 e ti z sz bytes ht hi hz hsize hby hzs hsz v u n m xs ys hown hsrc h1 h63 hbytes hbase2
  unfold wpOp
  have ho' : l.toArray[i]? = some o := by simpa using ho
  simp only [ho', Region.wanted, hg, if_true]
  refine .inl ?_
  have k1 := hF v' w' a2 a3 a4
  have k2 := hK v' w' k1.1 (below_grown hbw hown a3 hbw.size hbase) (fun e' he => Keeps.grown (fun h => he (by rw [h])) hown a3) k1.2
  unfold Oper.wp execOp
  simp only [hop, resolve, invoke, builtin, eval_tmp hs, eval_tmp hx, List.map_toArray, List.map_cons, List.map_nil, Sem.run_bind, Sem.run_pure, a1, Result.andThen_ok]
  show K (a.put o.dst v') w'
  rw [hd]
  exact k2
/-- An operation that hands back a value and turns nothing. -/
theorem step_valI {P : Program} {l : List Oper} {Q : Exit → Act → World → Prop} {W : World} {i s : Nat} {uses : Option TypeId} {I : World → Prop} {F : Value → World → Prop} {a : Act} {w : World} {o : Oper} {v : Value}
    (ho : l[i]? = some o) (hg : o.guard = none) (hd : o.dst = some s) (hr : (execOp a.eval o).run P w = .ok (.value v) w) (hF : F v w) (hb : Below W.heap.size W w) (hI : I w) :
    ∀ K : Act → World → Prop, (∀ v w', F v w' → Below W.heap.size W w' → (∀ e, uses ≠ some e → Keeps e w w') → I w' → K (a.put (some s) v) w') → wpOp P l.toArray Q i K a w := by
  intro K hK
  refine wpOp_val (o := o) (by simpa using ho) hg hr ?_
  rw [hd]
  exact hK v w hF hb (fun e _ => Keeps.refl e w) hI
/-- .. at the list of a plain region's operations. -/
theorem wpList_append_src {P : Program} (w : World) {ops : Array Oper} {rest : List Oper} {o : Oper} {a : Act} {Q : Exit → Act → World → Prop} (hgd : o.guard = none) (s x : Operand) (t : TypeId)
    (ho : o.op = .call { callee := .builtin .append, args := #[s, x], argTypes := #[t, t] }) (base b2 : Nat) (e : TypeId) (i : TypeInfo) (z : Value) (size bytes : Nat) (ht : P.underlying t = some (.slice e)) (hi : P.info? e = some i) (hz : i.zero = some z)
    (hsize : i.size = size) (hby : i.bytes = bytes) (hzs : z.cells.size = size) (hsz : 0 < size) (v u : Value) (n m : Nat) (xs ys : List Value) (hs : a.eval s = v) (hown : w.ownsRow base e size v n xs) (hx : a.eval x = u) (hsrc : w.ownsRow b2 e size u m ys) (h1 : ∀ y ∈ ys, y.oneCell' = true)
    (h63 : n + m ≤ maxLen) (hbytes : (n + m) * bytes ≤ 140737488355328) (hbase : base ≤ w.heap.size)
    (h : ∀ v' w', w'.ownsRow base e size v' (n + m) (xs ++ ys) → w.grownBy w' v.ownBlock → (v'.ownBlock = v.ownBlock ∨ v'.ownBlock = some w.heap.size) → wpList P ops Q rest (a.put o.dst v') w') : wpList P ops Q (o :: rest) a w := by
  refine wpList_plain hgd fun K hK => ?_
  obtain ⟨v', w', hr, a2, a3, a4⟩ := run_append_src (P := P) (w := w) t o.type base b2 e i z size bytes ht hi hz hsize hby hzs hsz v u n m xs ys hown hsrc h1 h63 hbytes hbase
  unfold Oper.wp execOp
  simp only [ho, resolve, invoke, builtin, Sem.run_bind, Sem.run_pure, Result.andThen_ok, List.map_toArray, List.map_cons, List.map_nil, hs, hx, hr]
  exact hK _ _ (h v' w' a2 a3 a4)
/-- A row in a new block. -/
theorem own_new {w : World} {b : Nat} {e : TypeId} {sz n g : Nat} {cs : Array Value} (hg : g = w.heap.size) (hb : b ≤ w.heap.size) (hs : cs.size = n * sz) (hn : n ≤ maxLen) : (w.alloc (.cells cs e)).ownsRow b e sz (.slice (some ⟨g, 0, none⟩) n n) n cs.toList := by
  subst hg
  refine ⟨by simpa using hs, .inr ⟨w.heap.size, n, cs, rfl, hb, heap_new rfl, Nat.le_refl _, hn, hs, ?_⟩⟩
  rw [List.take_of_length_le (by simp [hs])]
/-- An operation that hands back a value; whatever it makes. -/
theorem step_genI {P : Program} {l : List Oper} {Q : Exit → Act → World → Prop} {W : World} {i s : Nat} {uses : Option TypeId} {I : World → Prop} {F : Value → World → Prop} {a : Act} {w w' : World} {o : Oper} {v : Value}
    (ho : l[i]? = some o) (hg : o.guard = none) (hd : o.dst = some s) (hr : (execOp a.eval o).run P w = .ok (.value v) w') (hF : F v w') (hb : Below W.heap.size W w') (hk : ∀ e, uses ≠ some e → Keeps e w w') (hI : I w') :
    ∀ K : Act → World → Prop, (∀ v w', F v w' → Below W.heap.size W w' → (∀ e, uses ≠ some e → Keeps e w w') → I w' → K (a.put (some s) v) w') → wpOp P l.toArray Q i K a w := by
  intro K hK
  refine wpOp_val (o := o) (by simpa using ho) hg hr ?_
  rw [hd]
  exact hK v w' hF hb hk hI
end Go.Proofs.Ytceeijamhhokaaa.Reg
