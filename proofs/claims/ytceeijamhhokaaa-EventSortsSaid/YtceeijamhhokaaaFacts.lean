/- A region that draws its order: of each operation is said what holds of the value that it hands back, until a later one uses that up; whatever the order, it holds at the end. By an invariant. No program in sight. -/
import Derived.Test.YtceeijamhhokaaaReg
import Derived.Test.YtceeijamhhokaaaApp
namespace Go.Proofs.Ytceeijamhhokaaa.Reg
open Go Go.RowKit Go.Proofs.Ytceeijamhhokaaa.Mem

/-- An operation's place; the slot that it writes; the types of the memory that its fact speaks of; which operation uses the fact up (none: a great number); which ones it stands behind; the type of the memory that it turns; the fact. -/
structure Fact where
  op : Nat
  slot : Nat
  tys : List TypeId
  til : Nat
  pre : List Nat
  uses : Option TypeId
  F : Value → World → Prop

def waitsB (l : List Oper) (i j : Nat) : Bool := match l[i]? with
  | some o => o.after.any fun e => Region.binds .any e && decide (e.on = j)
  | none => false
theorem listed_of_waitsB {l : List Oper} {listed : Array Bool} {i j : Nat} (hr : i ∈ Region.ready .any l.toArray listed) (h : waitsB l i j = true) : listed.getD j false = true := by
  unfold waitsB at h
  split at h
  · rename_i o ho
    exact listed_of_waits (o := o) hr (by simpa using ho) (waits_of h)
  · cases h
/-- What is asked of the facts' numbers. -/
def okFacts (l : List Oper) (facts : List Fact) : Bool :=
  (facts.all fun f => facts.all fun g => decide (g.op = f.op) || (match f.uses with | none => true | some e => !g.tys.contains e) || decide (g.til = f.op) || g.pre.contains f.op) &&
  (facts.all fun f => f.pre.all fun j => waitsB l f.op j) && facts.all fun f => decide (f.til ≠ f.op)
/-- What the facts say, so far. -/
def Holds (W : World) (a0 : Act) (facts : List Fact) (listed : Array Bool) (a : Act) (w : World) : Prop :=
  Stays W a0 (facts.map (·.slot)) [] a w ∧ ∀ f ∈ facts, listed.getD f.op false = true → (∀ j ∈ f.pre, listed.getD j false = true) ∧ (listed.getD f.til false = false → ∃ v, a.tmps[f.slot]? = some v ∧ f.F v w)

theorem nodup_map {α : Type} {fn : α → Nat} {l : List α} : ∀ {x y : α}, (l.map fn).Nodup → x ∈ l → y ∈ l → fn x = fn y → x = y := by
  induction l with
  | nil => intro x y _ h; cases h
  | cons z l ih =>
    intro x y hn hx hy he
    simp only [List.map_cons, List.nodup_cons] at hn
    rcases List.mem_cons.1 hx with ex | hx
    · rcases List.mem_cons.1 hy with ey | hy
      · rw [ex, ey]
      · exact absurd (List.mem_map.2 ⟨y, hy, by rw [← he, ex]⟩) hn.1
    · rcases List.mem_cons.1 hy with ey | hy
      · exact absurd (List.mem_map.2 ⟨x, hx, by rw [he, ey]⟩) hn.1
      · exact ih hn.2 hx hy he

/-- See the head. -/
theorem facts_order {P : Program} {id : Nat} {l : List Oper} {Q : Exit → Act → World → Prop} {W : World} {a0 : Act} {w0 : World} (facts : List Fact) {h t : Nat}
    (hm : P.follows .mixedOrders = true) (hl : l.length = h + t) (hH : chkH l.toArray h = true) (hTl : chkT l.toArray h t = true)
    (hseq : Region.seqB .any l.toArray t h (List.replicate h true ++ List.replicate t false).toArray = true)
    (hops : (facts.map (·.op)).Nodup) (hall : ∀ i, i < h → i ∈ facts.map (·.op)) (hin : ∀ f ∈ facts, f.op < h) (hsl : (facts.map (·.slot)).Nodup) (hlt : ∀ s ∈ facts.map (·.slot), s < a0.tmps.size)
    (hok : okFacts l facts = true)
    (hkeep : ∀ f ∈ facts, ∀ v w w', (∀ e ∈ f.tys, Keeps e w w') → f.F v w → f.F v w')
    (hbel : Below W.heap.size W w0)
    (hS : ∀ f ∈ facts, ∀ a w, Stays W a0 (facts.map (·.slot)) [] a w → (∀ g ∈ facts, waitsB l f.op g.op = true → g.til = f.op ∨ h + t ≤ g.til → ∃ v, a.tmps[g.slot]? = some v ∧ g.F v w) →
      ∀ K : Act → World → Prop, (∀ v w', f.F v w' → Below W.heap.size W w' → (∀ e, f.uses ≠ some e → Keeps e w w') → K (a.put (some f.slot) v) w') → wpOp P l.toArray Q f.op K a w)
    (hT : ∀ (vals : Nat → Value) w, (∀ f ∈ facts, h + t ≤ f.til → f.F (vals f.slot) w) → Below W.heap.size W w → wpList P l.toArray Q (l.drop h) (puts (facts.map fun f => (f.slot, vals f.slot)) a0) w) :
    (Code.region id l.toArray true).wp P Q a0 w0 := by
  unfold okFacts at hok
  simp only [Bool.and_eq_true] at hok
  obtain ⟨⟨hok1, hok2⟩, hok3⟩ := hok
  have big : ∀ (listed : Array Bool) n, listed.size = h + t → h + t ≤ n → listed.getD n false = false := by
    intro listed n hs hn
    rw [Array.getD_eq_getD_getElem?, Array.getElem?_eq_none (by omega)]; rfl
  refine wp_any_order hm hl hH hTl hseq (fun listed a w => listed.size = h + t ∧ Holds W a0 facts listed a w) ?_ ?_ ?_
  · intro listed a w i ⟨hls, hst, hf⟩ _ hih hr
    obtain ⟨f, hfm, rfl⟩ := List.mem_map.1 (hall i hih)
    have hun : listed.getD f.op false = false := by
      have h := (mem_ready.1 hr).1
      have hil : f.op < listed.size := by omega
      simp only [Array.getD_eq_getD_getElem?] at h ⊢
      simpa [hil] using h
    refine hS f hfm a w hst (fun g hg hw htil => ?_) _ fun v w' hv hb hk => ?_
    · have hlg := listed_of_waitsB hr hw
      refine (hf g hg hlg).2 ?_
      rcases htil with e | e
      · rw [e]; exact hun
      · exact big _ _ hls e
    · have hil : f.op < listed.size := by omega
      refine ⟨by simpa using hls, ⟨?_, ?_⟩⟩
      · exact (Stays.put (⟨hst.size, hst.defers, hst.out, hb, fun g cs t hm => by cases hm⟩ : Stays W a0 (facts.map (·.slot)) [] a w') (List.mem_map.2 ⟨f, hfm, rfl⟩) v)
      · intro g hg hlg
        rw [getD_set hil] at hlg
        have mono : ∀ j, listed.getD j false = true → (listed.setIfInBounds f.op true).getD j false = true := by
          intro j hj
          rw [getD_set hil]; split
          · rfl
          · exact hj
        by_cases he : f.op = g.op
        · obtain rfl := nodup_map hops hfm hg he
          refine ⟨fun j hj => mono j (listed_of_waitsB hr ?_), fun _ => ⟨v, put_same (by rw [hst.size]; exact hlt _ (List.mem_map.2 ⟨f, hfm, rfl⟩)) v, hv⟩⟩
          exact List.all_eq_true.1 (List.all_eq_true.1 hok2 f hfm) j hj
        · rw [if_neg he] at hlg
          obtain ⟨h1, h2⟩ := hf g hg hlg
          refine ⟨fun j hj => mono j (h1 j hj), fun htl => ?_⟩
          rw [getD_set hil] at htl
          by_cases hte : f.op = g.til
          · rw [if_pos hte] at htl; cases htl
          · rw [if_neg hte] at htl
            obtain ⟨u, hu, hF⟩ := h2 htl
            refine ⟨u, by rw [put_other (fun e => he (by rw [nodup_map hsl hfm hg e]))]; exact hu, hkeep g hg u w w' (fun e he' => hk e fun hus => ?_) hF⟩
            have hc := List.all_eq_true.1 (List.all_eq_true.1 hok1 f hfm) g hg
            rw [hus] at hc
            simp only [Bool.or_eq_true, decide_eq_true_eq, Bool.not_eq_true', List.contains_iff_mem] at hc
            rcases hc with ((hc | hc) | hc) | hc
            · exact he hc.symm
            · have := List.contains_iff_mem.2 he'
              rw [hc] at this; cases this
            · exact hte hc.symm
            · have := h1 _ hc
              rw [hun] at this; cases this
  · refine ⟨by simp, ⟨rfl, rfl, fun _ _ => rfl, hbel.drew, fun g cs t hm => by cases hm⟩, fun f hf hlf => ?_⟩
    have : (Array.replicate (h + t) false).getD f.op false = false := by simp [Array.getD_eq_getD_getElem?, Array.getElem?_replicate]; split <;> simp
    rw [this] at hlf; cases hlf
  · intro listed a w ⟨hls, hst, hf⟩ hli
    have e : a = puts (facts.map fun f => (f.slot, (a.tmps[f.slot]?).getD undef)) a0 := by
      refine act_eq hst.size hst.defers (fun s hs => hst.out s (by simpa [List.map_map, Function.comp_def] using hs)) (by simpa [List.map_map, Function.comp_def] using hsl) (by simpa [List.map_map, Function.comp_def] using hlt) ?_
      intro s v hm
      obtain ⟨f, hfm, e⟩ := List.mem_map.1 hm
      injection e with e1 e2
      subst e1 e2
      have : f.slot < a.tmps.size := by rw [hst.size]; exact hlt _ (List.mem_map.2 ⟨f, hfm, rfl⟩)
      simp [this]
    have := hT (fun s => (a.tmps[s]?).getD undef) w (fun f hfm htl => ?_) hst.below
    · rw [← e] at this
      exact this
    · obtain ⟨v, hv, hF⟩ := (hf f hfm (hli _ (hin f hfm))).2 (big _ _ hls htl)
      show f.F ((a.tmps[f.slot]?).getD undef) w
      rw [hv]; exact hF

/-- Does number i stand behind number j? -/
def bef (l : List Oper) (i j : Nat) : Bool := (clos l.toArray 4 (preds l.toArray i)).contains j
def okTil (l : List Oper) (i til m : Nat) : Bool := decide (til = i) || decide (m ≤ til) || bef l til i
/-- What holds of memory from the start on, until an operation uses it up. -/
structure Stand where
  tys : List TypeId
  til : Nat
  G : World → Prop
/-- What is asked of the numbers. -/
def okStand (l : List Oper) (facts : List Fact) (stands : List Stand) : Bool :=
  (facts.all fun f => facts.all fun g => decide (g.op = f.op) || (match f.uses with | none => true | some e => !g.tys.contains e) || decide (g.til = f.op) || bef l g.op f.op) &&
  (facts.all fun f => stands.all fun g => (match f.uses with | none => true | some e => !g.tys.contains e) || decide (g.til = f.op) || bef l f.op g.til)
theorem mem_preds {l : List Oper} {listed : Array Bool} {i : Nat} (hr : i ∈ Region.ready .any l.toArray listed) : ∀ j ∈ preds l.toArray i, listed.getD j false = true := by
  intro j hj
  obtain ⟨_, o, ho, hall⟩ := mem_ready.1 hr
  obtain ⟨e, he, hb, rfl⟩ := preds_of ho hj
  exact hall e he hb
/-- A region that draws its order, with facts of memory that hold from the start on. -/
theorem stand_order {P : Program} {id : Nat} {l : List Oper} {Q : Exit → Act → World → Prop} {W : World} {a0 : Act} {w0 : World} (facts : List Fact) (stands : List Stand) {h t : Nat}
    (hm : P.follows .mixedOrders = true) (hl : l.length = h + t) (hH : chkH l.toArray h = true) (hTl : chkT l.toArray h t = true)
    (hseq : Region.seqB .any l.toArray t h (List.replicate h true ++ List.replicate t false).toArray = true)
    (hops : (facts.map (·.op)).Nodup) (hall : ∀ i, i < h → i ∈ facts.map (·.op)) (hin : ∀ f ∈ facts, f.op < h) (hsl : (facts.map (·.slot)).Nodup) (hlt : ∀ s ∈ facts.map (·.slot), s < a0.tmps.size)
    (hok : okStand l facts stands = true)
    (hkeep : ∀ f ∈ facts, ∀ v w w', (∀ e ∈ f.tys, Keeps e w w') → f.F v w → f.F v w')
    (hkeepG : ∀ f ∈ stands, ∀ w w', (∀ e ∈ f.tys, Keeps e w w') → f.G w → f.G w')
    (hbel : Below W.heap.size W w0) (hst0 : ∀ f ∈ stands, f.G w0.drew)
    (hS : ∀ f ∈ facts, ∀ a w, Stays W a0 (facts.map (·.slot)) [] a w → (∀ g ∈ facts, bef l f.op g.op = true → okTil l f.op g.til (h + t) = true → ∃ v, a.tmps[g.slot]? = some v ∧ g.F v w) → (∀ g ∈ stands, okTil l f.op g.til (h + t) = true → g.G w) →
      ∀ K : Act → World → Prop, (∀ v w', f.F v w' → Below W.heap.size W w' → (∀ e, f.uses ≠ some e → Keeps e w w') → K (a.put (some f.slot) v) w') → wpOp P l.toArray Q f.op K a w)
    (hT : ∀ (vals : Nat → Value) w, (∀ f ∈ facts, h + t ≤ f.til → f.F (vals f.slot) w) → (∀ f ∈ stands, h + t ≤ f.til → f.G w) → Below W.heap.size W w → wpList P l.toArray Q (l.drop h) (puts (facts.map fun f => (f.slot, vals f.slot)) a0) w) :
    (Code.region id l.toArray true).wp P Q a0 w0 := by
  unfold okStand at hok
  simp only [Bool.and_eq_true] at hok
  obtain ⟨hok1, hok2⟩ := hok
  have big : ∀ (listed : Array Bool) n, listed.size = h + t → h + t ≤ n → listed.getD n false = false := by
    intro listed n hs hn
    rw [Array.getD_eq_getD_getElem?, Array.getElem?_eq_none (by omega)]; rfl
  refine wp_any_order hm hl hH hTl hseq (fun listed a w => listed.size = h + t ∧ Stays W a0 (facts.map (·.slot)) [] a w ∧ (∀ i, listed.getD i false = true → ∀ j ∈ preds l.toArray i, listed.getD j false = true) ∧
    (∀ f ∈ facts, listed.getD f.op false = true → listed.getD f.til false = false → ∃ v, a.tmps[f.slot]? = some v ∧ f.F v w) ∧ ∀ f ∈ stands, listed.getD f.til false = false → f.G w) ?_ ?_ ?_
  · intro listed a w i ⟨hls, hst, hcl, hf, hg0⟩ _ hih hr
    obtain ⟨f, hfm, rfl⟩ := List.mem_map.1 (hall i hih)
    have hil : f.op < listed.size := by omega
    have hun : listed.getD f.op false = false := by
      have h := (mem_ready.1 hr).1
      simp only [Array.getD_eq_getD_getElem?] at h ⊢
      simpa [hil] using h
    have notl : ∀ n, bef l n f.op = true → listed.getD n false = false := by
      intro n hn
      cases hx : listed.getD n false with
      | false => rfl
      | true =>
        have := clos_listed hcl 4 _ (hcl n hx) f.op (List.contains_iff_mem.1 hn)
        rw [hun] at this; cases this
    have til : ∀ n, okTil l f.op n (h + t) = true → listed.getD n false = false := by
      intro n hn
      unfold okTil at hn
      simp only [Bool.or_eq_true, decide_eq_true_eq] at hn
      rcases hn with (e | e) | e
      · rw [e]; exact hun
      · exact big _ _ hls e
      · exact notl n e
    refine hS f hfm a w hst (fun g hg hw htil => hf g hg (clos_listed hcl 4 _ (mem_preds hr) g.op (List.contains_iff_mem.1 hw)) (til _ htil)) (fun g hg htil => hg0 g hg (til _ htil)) _ fun v w' hv hb hk => ?_
    have mono : ∀ j, listed.getD j false = true → (listed.setIfInBounds f.op true).getD j false = true := by
      intro j hj
      rw [getD_set hil]; split
      · rfl
      · exact hj
    refine ⟨by simpa using hls, ?_, ?_, ?_, ?_⟩
    · exact (Stays.put (⟨hst.size, hst.defers, hst.out, hb, fun g cs t hm => by cases hm⟩ : Stays W a0 (facts.map (·.slot)) [] a w') (List.mem_map.2 ⟨f, hfm, rfl⟩) v)
    · intro i hi j hj
      rw [getD_set hil] at hi
      by_cases hif : f.op = i
      · subst hif
        exact mono j (mem_preds hr j hj)
      · rw [if_neg hif] at hi
        exact mono j (hcl i hi j hj)
    · intro g hg hlg htl
      rw [getD_set hil] at hlg htl
      by_cases he : f.op = g.op
      · obtain rfl := nodup_map hops hfm hg he
        exact ⟨v, put_same (by rw [hst.size]; exact hlt _ (List.mem_map.2 ⟨f, hfm, rfl⟩)) v, hv⟩
      · rw [if_neg he] at hlg
        by_cases hte : f.op = g.til
        · rw [if_pos hte] at htl; cases htl
        · rw [if_neg hte] at htl
          obtain ⟨u, hu, hF⟩ := hf g hg hlg htl
          refine ⟨u, by rw [put_other (fun e => he (by rw [nodup_map hsl hfm hg e]))]; exact hu, hkeep g hg u w w' (fun e he' => hk e fun hus => ?_) hF⟩
          have hc := List.all_eq_true.1 (List.all_eq_true.1 hok1 f hfm) g hg
          rw [hus] at hc
          simp only [Bool.or_eq_true, decide_eq_true_eq, Bool.not_eq_true'] at hc
          rcases hc with ((hc | hc) | hc) | hc
          · exact he hc.symm
          · have := List.contains_iff_mem.2 he'
            rw [hc] at this; cases this
          · exact hte hc.symm
          · have := notl _ hc
            rw [hlg] at this; cases this
    · intro g hg htl
      rw [getD_set hil] at htl
      by_cases hte : f.op = g.til
      · rw [if_pos hte] at htl; cases htl
      · rw [if_neg hte] at htl
        refine hkeepG g hg w w' (fun e he' => hk e fun hus => ?_) (hg0 g hg htl)
        have hc := List.all_eq_true.1 (List.all_eq_true.1 hok2 f hfm) g hg
        rw [hus] at hc
        simp only [Bool.or_eq_true, decide_eq_true_eq, Bool.not_eq_true'] at hc
        rcases hc with (hc | hc) | hc
        · have := List.contains_iff_mem.2 he'
          rw [hc] at this; cases this
        · exact hte hc.symm
        · have := clos_listed hcl 4 _ (mem_preds hr) g.til (List.contains_iff_mem.1 hc)
          rw [htl] at this; cases this
  · have hz : ∀ n, (Array.replicate (h + t) false).getD n false = false := by
      intro n
      simp [Array.getD_eq_getD_getElem?, Array.getElem?_replicate]; split <;> simp
    refine ⟨by simp, ⟨rfl, rfl, fun _ _ => rfl, hbel.drew, fun g cs t hm => by cases hm⟩, fun i hi => ?_, fun f hf hlf => ?_, fun f hf _ => hst0 f hf⟩
    · rw [hz] at hi; cases hi
    · rw [hz] at hlf; cases hlf
  · intro listed a w ⟨hls, hst, _, hf, hg0⟩ hli
    have e : a = puts (facts.map fun f => (f.slot, (a.tmps[f.slot]?).getD undef)) a0 := by
      refine act_eq hst.size hst.defers (fun s hs => hst.out s (by simpa [List.map_map, Function.comp_def] using hs)) (by simpa [List.map_map, Function.comp_def] using hsl) (by simpa [List.map_map, Function.comp_def] using hlt) ?_
      intro s v hm
      obtain ⟨f, hfm, e⟩ := List.mem_map.1 hm
      injection e with e1 e2
      subst e1 e2
      have : f.slot < a.tmps.size := by rw [hst.size]; exact hlt _ (List.mem_map.2 ⟨f, hfm, rfl⟩)
      simp [this]
    have := hT (fun s => (a.tmps[s]?).getD undef) w (fun f hfm htl => ?_) (fun f hfm htl => hg0 f hfm (big _ _ hls htl)) hst.below
    · rw [← e] at this
      exact this
    · obtain ⟨v, hv, hF⟩ := hf f hfm (hli _ (hin f hfm)) (big _ _ hls htl)
      show f.F ((a.tmps[f.slot]?).getD undef) w
      rw [hv]; exact hF

theorem Keeps.below (e : TypeId) {w w' : World} (h : Below w.heap.size w w') : Keeps e w w' :=
  ⟨fun _ _ _ _ _ ho => own_below ho h, fun g _ hh => (h.block g (heap_lt hh)).trans hh⟩
/-- An operation that hands back a value, and turns nothing that was there. -/
theorem step_val {P : Program} {l : List Oper} {Q : Exit → Act → World → Prop} {W : World} {i s : Nat} {uses : Option TypeId} {F : Value → World → Prop} {a : Act} {w w' : World} {o : Oper} {v : Value}
    (ho : l[i]? = some o) (hg : o.guard = none) (hd : o.dst = some s) (hr : (execOp a.eval o).run P w = .ok (.value v) w') (hF : F v w') (hb : Below W.heap.size W w') (hk : ∀ e, Keeps e w w') :
    ∀ K : Act → World → Prop, (∀ v w', F v w' → Below W.heap.size W w' → (∀ e, uses ≠ some e → Keeps e w w') → K (a.put (some s) v) w') → wpOp P l.toArray Q i K a w := by
  intro K hK
  refine wpOp_val (o := o) (by simpa using ho) hg hr ?_
  rw [hd]
  exact hK v w' hF hb fun e _ => hk e
/-- A call that turns nothing that was there. -/
theorem step_call {P : Program} {l : List Oper} {Q : Exit → Act → World → Prop} {W : World} {i s : Nat} {uses : Option TypeId} {F : Value → World → Prop} {a : Act} {w : World} {o : Oper} {f : FuncId} {args : Array Value}
    (ho : l[i]? = some o) (hg : o.guard = none) (hd : o.dst = some s) (hr : (execOp a.eval o).run P w = .ok (.enter f args) w) (hbw : Below W.heap.size W w)
    (hc : Calls P f args w fun e w' => ∃ v, e = .returned v ∧ F v w' ∧ Below w.heap.size w w') :
    ∀ K : Act → World → Prop, (∀ v w', F v w' → Below W.heap.size W w' → (∀ e, uses ≠ some e → Keeps e w w') → K (a.put (some s) v) w') → wpOp P l.toArray Q i K a w := by
  intro K hK
  refine Ord.wpOp_enter (o := o) (by simpa using ho) hg hr (hc.mono ?_)
  rintro e w' ⟨v, rfl, hF, hb⟩
  show K (a.put o.dst v) w'
  rw [hd]
  exact hK v w' hF (hbw.trans (hb.mono hbw.size)) fun e _ => Keeps.below e hb
/-- An append to a row of the call's own, of what lies in a known place. -/
theorem step_append {P : Program} {l : List Oper} {Q : Exit → Act → World → Prop} {W : World} {i s src sx : Nat} {F : Value → World → Prop} {a : Act} {w : World} {o : Oper} {e : TypeId} {t : TypeId} {ti : TypeInfo} {z : Value} {sz bytes n m c : Nat} {v : Value} {xs news : List Value} {ad : Addr}
    (ho : l[i]? = some o) (hg : o.guard = none) (hd : o.dst = some s) (hop : o.op = .call { callee := .builtin .append, args := #[.tmp src, .tmp sx], argTypes := #[t, t] })
    (hbw : Below W.heap.size W w) (ht : P.underlying t = some (.slice e)) (hi : P.info? e = some ti) (hz : ti.zero = some z) (hsize : ti.size = sz) (hby : ti.bytes = bytes) (hzs : z.cells.size = sz) (hsz : 0 < sz)
    (hs : a.tmps[src]? = some v) (hown : w.ownsRow W.heap.size e sz v n xs) (hx : a.tmps[sx]? = some (.slice (some ad) m c)) (hl : news.length = m * sz) (hnews : ∀ j u, news[j]? = some u → w.cell? (ad.add j) = some u) (h1 : ∀ u ∈ news, u.oneCell' = true)
    (hm : 0 < m) (h63 : n + m ≤ maxLen) (hbytes : (n + m) * bytes ≤ 140737488355328)
    (hF : ∀ v' w', w'.ownsRow W.heap.size e sz v' (n + m) (xs ++ news) → F v' w') :
    ∀ K : Act → World → Prop, (∀ v w', F v w' → Below W.heap.size W w' → (∀ e', some e ≠ some e' → Keeps e' w w') → K (a.put (some s) v) w') → wpOp P l.toArray Q i K a w := by
  intro K hK
  unfold wpOp
  have ho' : l.toArray[i]? = some o := by simpa using ho
  simp only [ho', Region.wanted, hg, if_true]
  refine .inl ?_
  refine wp_append_lies w (.tmp src) (.tmp sx) t hop W.heap.size e ti z sz bytes ht hi hz hsize hby hzs hsz v n xs (eval_tmp hs) hown ad m c news (eval_tmp hx) hl hnews h1 hm h63 hbytes hbw.size w.heap.size rfl ?_
  intro g' cap w' hown' hgrow _ _
  rw [hd]
  exact hK _ w' (hF _ _ hown') (below_grown0 hbw hown hgrow) fun e' he => Keeps.grown (fun h => he (by rw [h])) hown hgrow
/-- An operation that stores: its fact's slot is one that nobody reads any more; it stays as it is. -/
theorem step_store {P : Program} {l : List Oper} {Q : Exit → Act → World → Prop} {W : World} {i s : Nat} {uses : Option TypeId} {F : Value → World → Prop} {a : Act} {w w' : World} {o : Oper}
    (ho : l[i]? = some o) (hg : o.guard = none) (hd : o.dst = none) (hr : (execOp a.eval o).run P w = .ok .skip w') (hs : s < a.tmps.size) (hF : ∀ v, F v w') (hb : Below W.heap.size W w') (hk : ∀ e, uses ≠ some e → Keeps e w w') :
    ∀ K : Act → World → Prop, (∀ v w', F v w' → Below W.heap.size W w' → (∀ e, uses ≠ some e → Keeps e w w') → K (a.put (some s) v) w') → wpOp P l.toArray Q i K a w := by
  intro K hK
  have e : a.put (some s) a.tmps[s] = a := by
    have h : a.tmps.setIfInBounds s a.tmps[s] = a.tmps := by
      apply Array.ext_getElem?
      intro j
      rw [Array.getElem?_setIfInBounds]
      by_cases hj : s = j
      · subst hj
        rw [if_pos rfl, if_pos hs]; simp
      · rw [if_neg hj]
    show ({ a with tmps := a.tmps.setIfInBounds s a.tmps[s] } : Act) = a
    rw [h]
  unfold wpOp
  have ho' : l.toArray[i]? = some o := by simpa using ho
  simp only [ho', Region.wanted, hg, if_true]
  refine .inl ?_
  unfold Oper.wp
  rw [hr]
  show K (a.put o.dst undef) w'
  rw [hd]
  have := hK a.tmps[s] w' (hF _) hb hk
  rw [e] at this
  exact this
theorem wanted_of {l : List Oper} {i j sj : Nat} {o oj : Oper} {a : Act} {b c : Bool} (_ho : l[i]? = some o) (hg : o.guard = some (j, b)) (hj : l[j]? = some oj) (hdj : oj.dst = some sj) (hv : a.tmps[sj]? = some (.bool c)) : Region.wanted o (yielded l.toArray a.tmps) = (c == b) := by
  have hy : yielded l.toArray a.tmps j = some c := by
    unfold yielded
    have hj' : l.toArray[j]? = some oj := by simpa using hj
    simp only [hj', Option.bind_some, hdj, hv]
  unfold Region.wanted
  simp only [hg, hy]
  cases b <;> cases c <;> rfl
/-- An operation that its guard leaves out. -/
theorem step_skip {P : Program} {l : List Oper} {Q : Exit → Act → World → Prop} {W : World} {i s j sj : Nat} {uses : Option TypeId} {F : Value → World → Prop} {a : Act} {w : World} {o oj : Oper} {b c : Bool}
    (ho : l[i]? = some o) (hg : o.guard = some (j, b)) (hj : l[j]? = some oj) (hdj : oj.dst = some sj) (hv : a.tmps[sj]? = some (.bool c)) (hne : (c == b) = false) (hd : o.dst = some s) (hF : F undef w) (hb : Below W.heap.size W w) :
    ∀ K : Act → World → Prop, (∀ v w', F v w' → Below W.heap.size W w' → (∀ e, uses ≠ some e → Keeps e w w') → K (a.put (some s) v) w') → wpOp P l.toArray Q i K a w := by
  intro K hK
  unfold wpOp
  have ho' : l.toArray[i]? = some o := by simpa using ho
  simp only [ho', wanted_of ho hg hj hdj hv, hne]
  rw [hd]
  exact hK undef w hF hb fun e _ => Keeps.refl e w
/-- An operation that its guard lets by. -/
theorem step_val_on {P : Program} {l : List Oper} {Q : Exit → Act → World → Prop} {W : World} {i s j sj : Nat} {uses : Option TypeId} {F : Value → World → Prop} {a : Act} {w w' : World} {o oj : Oper} {b : Bool} {v : Value}
    (ho : l[i]? = some o) (hg : o.guard = some (j, b)) (hj : l[j]? = some oj) (hdj : oj.dst = some sj) (hv : a.tmps[sj]? = some (.bool b)) (hd : o.dst = some s) (hr : (execOp a.eval o).run P w = .ok (.value v) w') (hF : F v w') (hb : Below W.heap.size W w') (hk : ∀ e, Keeps e w w') :
    ∀ K : Act → World → Prop, (∀ v w', F v w' → Below W.heap.size W w' → (∀ e, uses ≠ some e → Keeps e w w') → K (a.put (some s) v) w') → wpOp P l.toArray Q i K a w := by
  intro K hK
  unfold wpOp
  have ho' : l.toArray[i]? = some o := by simpa using ho
  have hw := wanted_of ho hg hj hdj hv
  rw [show (b == b) = true by cases b <;> rfl] at hw
  simp only [ho', hw, if_true]
  refine .inl ?_
  unfold Oper.wp
  rw [hr]
  show K (a.put o.dst v) w'
  rw [hd]
  exact hK v w' hF hb fun e _ => hk e
/-- A call that its guard lets by. -/
theorem step_call_on {P : Program} {l : List Oper} {Q : Exit → Act → World → Prop} {W : World} {i s j sj : Nat} {uses : Option TypeId} {F : Value → World → Prop} {a : Act} {w : World} {o oj : Oper} {b : Bool} {f : FuncId} {args : Array Value}
    (ho : l[i]? = some o) (hg : o.guard = some (j, b)) (hj : l[j]? = some oj) (hdj : oj.dst = some sj) (hv : a.tmps[sj]? = some (.bool b)) (hd : o.dst = some s) (hr : (execOp a.eval o).run P w = .ok (.enter f args) w) (hbw : Below W.heap.size W w)
    (hc : Calls P f args w fun e w' => ∃ v, e = .returned v ∧ F v w' ∧ Below w.heap.size w w') :
    ∀ K : Act → World → Prop, (∀ v w', F v w' → Below W.heap.size W w' → (∀ e, uses ≠ some e → Keeps e w w') → K (a.put (some s) v) w') → wpOp P l.toArray Q i K a w := by
  intro K hK
  unfold wpOp
  have ho' : l.toArray[i]? = some o := by simpa using ho
  have hw := wanted_of ho hg hj hdj hv
  rw [show (b == b) = true by cases b <;> rfl] at hw
  simp only [ho', hw, if_true]
  refine .inl ?_
  unfold Oper.wp
  rw [hr]
  refine hc.mono ?_
  rintro e w' ⟨v, rfl, hF, hb⟩
  show K (a.put o.dst v) w'
  rw [hd]
  exact hK v w' hF (hbw.trans (hb.mono hbw.size)) fun e _ => Keeps.below e hb
theorem run_pick {P : Program} {a : Act} {w : World} {x y z : Operand} {c : Bool} {v : Value} {d : Option Tmp} {ty : TypeId} {pos : String} {af : Array Edge} {g : Option (Nat × Bool)} (hx : a.eval x = .bool c) (hv : a.eval (if c then y else z) = v) :
    (execOp a.eval { dst := d, op := .pick x y z, type := ty, pos := pos, after := af, guard := g }).run P w = .ok (.value v) w := by
  cases c <;> simp only [execOp, hx] at hv ⊢ <;> subst hv <;> rfl
theorem at_fact {facts : List Fact} {g : Fact} (k : Nat) (h : facts[k]? = some g) : g ∈ facts := List.mem_of_getElem? h
theorem at_stand {stands : List Stand} {g : Stand} (k : Nat) (h : stands[k]? = some g) : g ∈ stands := List.mem_of_getElem? h
/-- The world's first blocks alone. -/
def trunc (n : Nat) (w : World) : World := { w with heap := w.heap.extract 0 n }
theorem trunc_size {n : Nat} {w : World} (h : n ≤ w.heap.size) : (trunc n w).heap.size = n := by simp [trunc]; omega
theorem trunc_below {n : Nat} {w : World} (h : n ≤ w.heap.size) : Below (trunc n w).heap.size (trunc n w) w := by
  rw [trunc_size h]
  exact ⟨rfl, rfl, rfl, by rw [trunc_size h]; exact h, fun k hk => by simp [trunc, Array.getElem?_extract]; omega⟩
theorem Keeps.trans {e : TypeId} {a b c : World} (h : Keeps e a b) (h' : Keeps e b c) : Keeps e a c := ⟨fun _ _ _ _ _ x => h'.1 _ _ _ _ _ (h.1 _ _ _ _ _ x), fun _ _ x => h'.2 _ _ (h.2 _ _ x)⟩
end Go.Proofs.Ytceeijamhhokaaa.Reg
