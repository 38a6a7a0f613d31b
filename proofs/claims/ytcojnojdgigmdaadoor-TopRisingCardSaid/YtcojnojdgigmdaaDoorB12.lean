/- The walks of plan.Compile, planned. -/
import Derived.Test.YtcojnojdgigmdaaDoorWMake1
import Derived.Test.YtcojnojdgigmdaaDoorB01
import Derived.Test.YtcojnojdgigmdaaDoorB10
/- The walks of plan.Compile and Plan.Binds. -/
namespace Go.Proofs.YtcojnojdgigmdaaDoor.WL
open Go Go.RowKit Go.Sort Go.Proofs.YtcojnojdgigmdaaDoor Go.Proofs.YtcojnojdgigmdaaDoor.PL Go.Proofs.YtcojnojdgigmdaaDoor.PP Go.Proofs.YtcojnojdgigmdaaDoor.Mem Go.Proofs.YtcojnojdgigmdaaDoor.WP

/-- A read step, a read condition. -/
def gS (s : Stp) : GS := ⟨s.k, s.nm, s.neg, s.lo, s.hi⟩
def gC (c : Cnd) : GC := ⟨c.l, c.op, c.r, c.k⟩
theorem cells_gS (l : List Stp) : cellsOf encS l = cellsOf encG (l.map gS) := by
  unfold cellsOf; rw [List.flatMap_map]; rfl
theorem cells_gC (l : List Cnd) : cellsOf encC l = cellsOf encD (l.map gC) := by
  unfold cellsOf; rw [List.flatMap_map]; rfl
/-- What plan.Compile comes to. -/
def PostC (W : World) (r : Sum (Nat × Int) Ptn) (e : Ending) (w' : World) : Prop :=
  Below W.heap.size W w' ∧ match r with
  | .inl (_, er) => e = .returned (.tuple #[.agg #[nilS, .int .i64 0], .int .i64 er])
  | .inr p => ((checkP (p.ss.map gS) (p.cs.map gC) p.wi).2 ≠ 0 ∧ e = .returned (.tuple #[.agg #[nilS, .int .i64 0], .int .i64 (checkP (p.ss.map gS) (p.cs.map gC) p.wi).2])) ∨
    (checkP (p.ss.map gS) (p.cs.map gC) p.wi = (0, 0) ∧ OKP (p.ss.map gS) (p.cs.map gC) p.wi ∧ ∃ vs, e = .returned (.tuple #[.agg #[vs, .int .i64 p.wi], .int .i64 0]) ∧ PlanAt w' W.heap.size w'.heap.size vs (groups (unitl (p.ss.map gS))) (testsAt (p.ss.map gS) (p.cs.map gC)))

theorem res_comp {w : World} {B : Nat} {c0 c1 v3 : Value} {tmps : Array Value} (h2 : tmps[2]? = some (.pointer (some ⟨B, 0, none⟩))) (h3 : tmps[3]? = some v3)
    (e0 : w.cell? ⟨B, 0, none⟩ = some c0) (e1 : w.cell? ⟨B, 1, none⟩ = some c1) :
    (results Tryd.f22 tmps).run Tryd.prog w = .ok (.tuple #[.agg #[c0, c1], v3]) w := by
  simp [results, Tryd.results22, go_sem, h2, h3, e0, e1]

set_option maxRecDepth 100000 in
set_option maxHeartbeats 3200000 in
theorem compile_any (s : ByteArray) (W : World) : Calls Tryd.prog 22 #[.string s] W (PostC W (pParse s.data.toList)) := by
  obtain ⟨w1, hw1⟩ : ∃ w1, w1 = W.alloc (.cells #[nilS, .int .i64 0] 25) := ⟨_, rfl⟩
  have hz1 : w1.heap.size = W.heap.size + 1 := by rw [hw1]; simp
  have hb1 := Lib.hid (show Below W.heap.size W w1 by rw [hw1]; exact (Below.refl _ _).alloc (Nat.le_refl _) _)
  have P1 := Lib.hid (show w1.heap[W.heap.size]? = some (.cells #[nilS, .int .i64 0] 25 (0, 0)) by rw [hw1]; exact heap_new rfl)
  have HP := Lib.hid (parse_any s w1)
  have HW1 := Lib.hid hw1
  clear hw1
  unfold PostC
  obtain ⟨pr, hpr⟩ : ∃ pr, pParse s.data.toList = pr := ⟨_, rfl⟩
  rw [hpr] at HP ⊢
  have HPR := Lib.hid hpr
  clear hpr
  go_enter Tryd.func22, Tryd.ntmps22
  go_wp2_with fail
  rw [← HW1.out]
  cases pr with
  | inl f =>
    obtain ⟨k, er⟩ := f
    refine HP.out.mono ?_
    rintro e w2 ⟨hb2, rfl⟩
    have hz2 := hb2.size
    have her : (er != 0) = true := by simp [parse_nz HPR.out]
    have Q1 := Lib.hid ((hb2.block _ (by omega)).trans P1.out)
    have HB2 := Lib.hid (hb1.out.trans (hb2.mono (by omega)))
    have u0 : w2.cell? ⟨W.heap.size, 0, none⟩ = some nilS := (Lib.cell_of_heap Q1.out 0).trans rfl
    have u1 : w2.cell? ⟨W.heap.size, 1, none⟩ = some (.int .i64 0) := (Lib.cell_of_heap Q1.out 1).trans rfl
    have f0 : w2.frozen? ⟨W.heap.size, 0, none⟩ = false := Lib.frozen_of_heap Q1.out 0
    have f1 : w2.frozen? ⟨W.heap.size, 1, none⟩ = false := Lib.frozen_of_heap Q1.out 1
    have hnw : W.heap.size ≠ w2.heap.size := by omega
    have hnw' : w2.heap.size ≠ W.heap.size := by omega
    have Q1a := blk_alloc Q1.out (.cells #[nilS, nilS, .int .i64 0] 106)
    have hba := HB2.out.alloc (by omega) (.cells #[nilS, nilS, .int .i64 0] 106)
    have v0 := (Lib.cell_of_heap Q1a 0).trans rfl
    have v1 := (Lib.cell_of_heap Q1a 1).trans rfl
    have g0 := Lib.frozen_of_heap Q1a 0
    have g1 := Lib.frozen_of_heap Q1a 1
    have QA := Lib.hid Q1a
    have HBA := Lib.hid hba
    clear hb2 Q1a hba
    go_wp2_with fail
    have R1 := blk_set (blk_set QA.out 0 nilS) 1 (.int .i64 0)
    refine bodyPost_ret (res_comp rfl rfl ((Lib.cell_of_heap R1 0).trans rfl) ((Lib.cell_of_heap R1 1).trans rfl)) rfl ?_
    exact ⟨(HBA.out.setCell (p := ⟨W.heap.size, 0, none⟩) (Nat.le_refl _) _).setCell (p := ⟨W.heap.size, 1, none⟩) (Nat.le_refl _) _, rfl⟩
  | inr p =>
    refine HP.out.mono ?_
    rintro e w2 ⟨hb2, sl, cl, rfl, ho1, ho2⟩
    have hz2 := hb2.size
    have hlen := PLen.parse_len HPR.out
    obtain ⟨sad, scap, rfl⟩ := own_slice ho1
    obtain ⟨cad, ccap, rfl⟩ := own_slice ho2
    obtain ⟨w3, hw3⟩ : ∃ w3, w3 = w2.alloc (.cells #[.slice sad p.ss.length scap, .slice cad p.cs.length ccap, .int .i64 p.wi] 106) := ⟨_, rfl⟩
    have hb3 : Below w2.heap.size w2 w3 := by rw [hw3]; exact (Below.refl _ _).alloc (Nat.le_refl _) _
    have hz3 : w3.heap.size = w2.heap.size + 1 := by rw [hw3]; simp
    have hs1 : Stps w3 w3.heap.size (.slice sad p.ss.length scap) (p.ss.map gS) := by
      have h := Sl.more (Sl.below (Sl.of_own ho1) hb3) hb3.size
      rw [cells_gS] at h
      unfold Stps
      rw [List.length_map]
      exact h
    have hs2 : Cnds w3 w3.heap.size (.slice cad p.cs.length ccap) (p.cs.map gC) := by
      have h := Sl.more (Sl.below (Sl.of_own ho2) hb3) hb3.size
      rw [cells_gC] at h
      unfold Cnds
      rw [List.length_map]
      exact h
    have hm := make_any (.slice sad p.ss.length scap) (.slice cad p.cs.length ccap) p.wi (p.ss.map gS) (p.cs.map gC) w3 hs1 hs2 (by rw [List.length_map]; unfold maxLen; omega) (by rw [List.length_map]; unfold maxLen; omega)
    have HM := Lib.hid hm
    have Q1 := Lib.hid ((hb3.block _ (by omega)).trans ((hb2.block _ (by omega)).trans P1.out))
    have HB3 := Lib.hid (hb1.out.trans ((hb2.mono (by omega)).trans (hb3.mono (by omega))))
    have HW3 := Lib.hid hw3
    clear hb2 hb3 hs1 hs2 hm hw3 ho1 ho2
    go_wp2_with fail
    rw [← HW3.out]
    refine HM.out.mono ?_
    rintro e w4 ⟨hb4, hpost⟩
    have hz4 := hb4.size
    have Q4 := Lib.hid ((hb4.block _ (by omega)).trans Q1.out)
    have HB4 := Lib.hid (HB3.out.trans (hb4.mono (by omega)))
    clear hb4
    rcases hpost with ⟨hbad, rfl⟩ | ⟨hck, hokp, vs, rfl, hpa⟩
    · have Q1a := blk_alloc Q4.out (.cells #[nilS, .int .i64 0] 25)
      have hba := HB4.out.alloc (by omega) (.cells #[nilS, .int .i64 0] 25)
      have v0 := (Lib.cell_of_heap Q1a 0).trans rfl
      have v1 := (Lib.cell_of_heap Q1a 1).trans rfl
      have g0 := Lib.frozen_of_heap Q1a 0
      have g1 := Lib.frozen_of_heap Q1a 1
      have QA := Lib.hid Q1a
      have HBA := Lib.hid hba
      have HBAD := Lib.hid hbad
      have hnw : W.heap.size ≠ w4.heap.size := by omega
      have hnw' : w4.heap.size ≠ W.heap.size := by omega
      clear Q1a hba hbad
      go_wp2_with fail
      have R1 := blk_set (blk_set QA.out 0 nilS) 1 (.int .i64 0)
      refine bodyPost_ret (res_comp rfl rfl ((Lib.cell_of_heap R1 0).trans rfl) ((Lib.cell_of_heap R1 1).trans rfl)) rfl ?_
      exact ⟨(HBA.out.setCell (p := ⟨W.heap.size, 0, none⟩) (Nat.le_refl _) _).setCell (p := ⟨W.heap.size, 1, none⟩) (Nat.le_refl _) _, .inl ⟨HBAD.out, rfl⟩⟩
    · have Q1a := blk_alloc Q4.out (.cells #[vs, .int .i64 p.wi] 25)
      have hba := HB4.out.alloc (by omega) (.cells #[vs, .int .i64 p.wi] 25)
      have v0 := (Lib.cell_of_heap Q1a 0).trans rfl
      have v1 := (Lib.cell_of_heap Q1a 1).trans rfl
      have g0 := Lib.frozen_of_heap Q1a 0
      have g1 := Lib.frozen_of_heap Q1a 1
      have QA := Lib.hid Q1a
      have HBA := Lib.hid hba
      have HCK := Lib.hid hck
      have HOK := Lib.hid hokp
      have HPA := Lib.hid hpa
      have hnw : W.heap.size ≠ w4.heap.size := by omega
      have hnw' : w4.heap.size ≠ W.heap.size := by omega
      obtain ⟨vad, vcap, hvs⟩ : ∃ ad c, vs = .slice ad (groups (unitl (p.ss.map gS))).length c := by obtain ⟨ad, c, e, _⟩ := hpa; exact ⟨ad, c, e⟩
      subst hvs
      clear Q1a hba hck hokp hpa
      go_wp2_with fail
      have R1 := blk_set (blk_set QA.out 0 (.slice vad (groups (unitl (p.ss.map gS))).length vcap)) 1 (.int .i64 p.wi)
      refine bodyPost_ret (res_comp rfl rfl ((Lib.cell_of_heap R1 0).trans rfl) ((Lib.cell_of_heap R1 1).trans rfl)) rfl ?_
      refine ⟨(HBA.out.setCell (p := ⟨W.heap.size, 0, none⟩) (Nat.le_refl _) _).setCell (p := ⟨W.heap.size, 1, none⟩) (Nat.le_refl _) _, .inr ⟨HCK.out, HOK.out, _, rfl, ?_⟩⟩
      refine (HPA.out.keep (fun q h1 h2 => ?_)).more (by omega) (by simp)
      rw [World.cell?_setCell_other _ _ _ _ (fun e => by rw [← e] at h1; simp at h1; omega), World.cell?_setCell_other _ _ _ _ (fun e => by rw [← e] at h1; simp at h1; omega)]
      exact World.cell?_of_block (Below.heap_alloc w4 _ q.block h2)
end Go.Proofs.YtcojnojdgigmdaaDoor.WL
/- The plan of a pattern, as runs go through it. No program in sight but the plan's memory. -/
namespace Go.Proofs.YtcojnojdgigmdaaDoor.WR
open Go Go.RowKit Go.Sort Go.Proofs.YtcojnojdgigmdaaDoor Go.Proofs.YtcojnojdgigmdaaDoor.PL Go.Proofs.YtcojnojdgigmdaaDoor.PR Go.Proofs.YtcojnojdgigmdaaDoor.Mem Go.Proofs.YtcojnojdgigmdaaDoor.WL

def stepOf (gs : List (Grp Unit)) (ts : Nat → List PT) (q : Nat) : RPos := match gs[q]? with
  | some g => ⟨g.1.1.k, g.1.1.lo, g.1.1.hi, ts (startG gs q), (List.range g.2.length).map fun r => ⟨(g.2.getD r (default, ())).1.k, ts (startG gs q + 1 + r)⟩⟩
  | none => ⟨0, 0, 0, [], []⟩
def stepsOf (gs : List (Grp Unit)) (ts : Nat → List PT) : List RPos := (List.range gs.length).map (stepOf gs ts)
/-- The plan that runs go through. -/
def planR (ss : List GS) (cs : List GC) (wi : Int) : RPlan := ⟨stepsOf (groups (unitl ss)) (testsAt ss cs), wi⟩
theorem stepsOf_len (gs : List (Grp Unit)) (ts : Nat → List PT) : (stepsOf gs ts).length = gs.length := by simp [stepsOf]
theorem stepsOf_get (gs : List (Grp Unit)) (ts : Nat → List PT) (q : Nat) (h : q < gs.length) (h' : q < (stepsOf gs ts).length) : (stepsOf gs ts)[q] = ⟨gs[q].1.1.k, gs[q].1.1.lo, gs[q].1.1.hi, ts (startG gs q), (List.range gs[q].2.length).map fun r => ⟨(gs[q].2.getD r (default, ())).1.k, ts (startG gs q + 1 + r)⟩⟩ := by
  have e : (stepsOf gs ts)[q]? = some (stepOf gs ts q) := by
    unfold stepsOf
    rw [List.getElem?_map, List.getElem?_range h]; rfl
  rw [List.getElem?_eq_getElem h'] at e
  injection e with e
  rw [e]
  unfold stepOf
  rw [List.getElem?_eq_getElem h]
theorem plan_pln {w : World} {L B : Nat} {vs : Value} {gs : List (Grp Unit)} {ts : Nat → List PT} (h : PlanAt w L B vs gs ts) : PlnAt w B vs (stepsOf gs ts) := by
  obtain ⟨ad, c, rfl, hq⟩ := h
  refine ⟨ad, c, by rw [stepsOf_len], fun q hql => ?_⟩
  have hqg : q < gs.length := by rwa [stepsOf_len] at hql
  obtain ⟨gv, e1, ⟨_, hb⟩, x0, x1, x2, ⟨vt, x3, ht⟩, vb, x4, ad2, c2, e2, hr⟩ := hq q hqg
  rw [stepsOf_get gs ts q hqg hql]
  refine ⟨gv, 0, e1, hb, by rw [Nat.zero_add]; exact x0, by rw [Nat.zero_add]; exact x1, by rw [Nat.zero_add]; exact x2, ⟨vt, by rw [Nat.zero_add]; exact x3, ht.1⟩, vb, by rw [Nat.zero_add]; exact x4, ad2, c2, ?_, fun r hrl => ?_⟩
  · rw [e2]; simp
  · have hrg : r < gs[q].2.length := by simpa using hrl
    obtain ⟨gb, f1, ⟨_, fb⟩, y0, vt2, y1, ht2⟩ := hr r hrg
    refine ⟨gb, 0, f1, fb, ?_, vt2, by rw [Nat.zero_add]; exact y1, ?_⟩
    · rw [Nat.zero_add]
      simp only [List.getElem_map, List.getElem_range]
      rw [List.getD_eq_getElem?_getD, List.getElem?_eq_getElem hrg]
      exact y0
    · simp only [List.getElem_map, List.getElem_range]
      exact ht2.1
theorem posTo_le (ss : List GS) : ∀ n, posTo ss n ≤ n := by
  intro n
  induction n with
  | zero => exact Nat.le_refl _
  | succ n ih => unfold posTo; split <;> omega
theorem testOf_ok {ss : List GS} {c : GC} (hn : ss.length ≤ 8) (h : condE ss c = 0) : OkT (testOf ss c).2 := by
  have hk : -9007199254740992 ≤ c.k ∧ c.k ≤ 9007199254740992 := by
    unfold condE at h
    split at h
    · cases h
    · split at h
      · cases h
      · omega
  have h1 := findP_lt ss c.l
  have h2 := findP_lt ss c.r
  have p1 := posTo_le ss ((findP ss c.r).toNat + 1)
  have p2 := posTo_le ss ((findP ss c.l).toNat + 1)
  unfold testOf OkT Sm
  split
  · exact ⟨⟨by simp only []; omega, by simp only []; omega⟩, .inl rfl⟩
  · split
    · exact ⟨⟨by simp only []; omega, by simp only []; omega⟩, .inr (.inl rfl)⟩
    · split
      · refine ⟨⟨by simp only []; omega, by simp only []; omega⟩, ?_⟩
        simp only []
        rcases Nat.eq_zero_or_pos (posTo ss ((findP ss c.r).toNat + 1)) with h0 | h0
        · left; rw [h0]; rfl
        · right; right; omega
      · refine ⟨⟨by simp only []; omega, by simp only []; omega⟩, ?_⟩
        simp only []
        rcases Nat.eq_zero_or_pos (posTo ss ((findP ss c.l).toNat + 1)) with h0 | h0
        · left; rw [h0]; rfl
        · right; right; omega
theorem tests_ok {ss : List GS} {cs : List GC} {wi : Int} (h : OKP ss cs wi) (i : Nat) : (∀ t ∈ testsAt ss cs i, OkT t) ∧ (testsAt ss cs i).length ≤ 1000000 := by
  refine ⟨fun t ht => ?_, ?_⟩
  · unfold testsAt at ht
    obtain ⟨c, hc, hct⟩ := List.mem_filterMap.1 ht
    split at hct
    · injection hct with hct
      subst hct
      obtain ⟨j, hj, rfl⟩ := List.mem_iff_getElem.1 hc
      have := h.cd j hj
      rw [getElem!_pos cs j hj] at this
      exact testOf_ok h.n8 this
    · cases hct
  · unfold testsAt
    have := List.length_filterMap_le (fun c => if (testOf ss c).1 = i then some (testOf ss c).2 else none) cs
    have := h.c16
    omega
theorem mem_flat {gs : List (Grp Unit)} {g : Grp Unit} (h : g ∈ gs) : g.1 ∈ flat gs ∧ g.2.length + 1 ≤ (flat gs).length := by
  induction gs with
  | nil => cases h
  | cons x r ih =>
    have e : flat (x :: r) = x.1 :: x.2 ++ flat r := by simp [flat]
    rw [e]
    rcases List.mem_cons.1 h with rfl | h
    · exact ⟨by simp, by simp <;> omega⟩
    · obtain ⟨h1, h2⟩ := ih h
      exact ⟨by simp [h1], by simp <;> omega⟩
theorem groups_flat_len (ss : List GS) : (flat (groups (unitl ss))).length = ss.length := by rw [flat_groups]; simp [unitl]
theorem len_flat (gs : List (Grp Unit)) : gs.length ≤ (flat gs).length := by
  induction gs with
  | nil => exact Nat.le_refl _
  | cons x r ih =>
    have e : flat (x :: r) = x.1 :: x.2 ++ flat r := by simp [flat]
    rw [e]; simp <;> omega
theorem planR_ok {ss : List GS} {cs : List GC} {wi : Int} (h : OKP ss cs wi) : OkP (planR ss cs wi) ∧ (planR ss cs wi).steps.length ≤ 8 := by
  have hl : (planR ss cs wi).steps.length ≤ 8 := by
    show (stepsOf _ _).length ≤ 8
    rw [stepsOf_len]
    have := len_flat (groups (unitl ss))
    rw [groups_flat_len] at this
    have := h.n8
    omega
  have hget : ∀ s ∈ (planR ss cs wi).steps, ∃ q, ∃ hq : q < (groups (unitl ss)).length, s = ⟨(groups (unitl ss))[q].1.1.k, (groups (unitl ss))[q].1.1.lo, (groups (unitl ss))[q].1.1.hi, testsAt ss cs (startG (groups (unitl ss)) q), (List.range (groups (unitl ss))[q].2.length).map fun r => ⟨((groups (unitl ss))[q].2.getD r (default, ())).1.k, testsAt ss cs (startG (groups (unitl ss)) q + 1 + r)⟩⟩ := by
    intro s hs
    obtain ⟨q, hq, rfl⟩ := List.mem_iff_getElem.1 hs
    have hq' : q < (groups (unitl ss)).length := by
      have : q < (stepsOf (groups (unitl ss)) (testsAt ss cs)).length := hq
      rwa [stepsOf_len] at this
    exact ⟨q, hq', stepsOf_get _ _ q hq' hq⟩
  refine ⟨⟨by omega, ?_, ?_, ?_, ?_⟩, hl⟩
  · intro s hs
    obtain ⟨q, hq, rfl⟩ := hget s hs
    have hm := (mem_flat (List.getElem_mem hq)).1
    rw [flat_groups] at hm
    obtain ⟨x, hx, he⟩ := List.mem_map.1 hm
    obtain ⟨j, hj, rfl⟩ := List.mem_iff_getElem.1 hx
    have hst := h.st j hj
    have e1 : (groups (unitl ss))[q].1.1 = ss[j] := by rw [← he]
    simp only []
    rw [e1]
    unfold stepE at hst
    rw [getElem!_pos ss j hj] at hst
    simp only [] at hst
    repeat (split at hst <;> try cases hst)
    omega
  · intro s hs
    obtain ⟨q, hq, rfl⟩ := hget s hs
    exact tests_ok h _
  · intro s hs
    obtain ⟨q, hq, rfl⟩ := hget s hs
    have hm := (mem_flat (List.getElem_mem hq)).2
    rw [groups_flat_len] at hm
    have := h.n8
    refine ⟨by simp only [List.length_map, List.length_range]; omega, fun b hb => ?_⟩
    obtain ⟨r, _, rfl⟩ := List.mem_map.1 hb
    exact tests_ok h _
  · have h1 := h.w0
    have h2 := h.wm
    exact ⟨by show _ ≤ wi; omega, by show wi ≤ _; omega⟩
end Go.Proofs.YtcojnojdgigmdaaDoor.WR
