/- What RunSteps asks of the runs that go by, in plain Lean: their counts are small, their bytes are read back, a run is kept up to its Until. No program in sight. -/
import Derived.Test.YtcojnojdgigmdaaGreatDoorB12
import Derived.Test.YtcojnojdgigmdaaGreatDoorB01
import Derived.Test.YtcojnojdgigmdaaGreatDoorPRB
namespace Go.Proofs.YtcojnojdgigmdaaGreatDoor.PE
open Go Go.Proofs.YtcojnojdgigmdaaGreatDoor.Mem

theorem blw_put (n most : Int) (a r : List UInt8) (h0 : 0 <= n) (h1 : n <= most) (h2 : n <= 9223372036854775807) : blw (a ++ (PV.putB n ++ r)) a.length most = (n, ((a.length + (PV.putB n).length : Nat) : Int), 0) := by
 have h := PV.getB_put n a r (by omega) h2; rw [blw_ok (by rw [h]) (by rw [h]; simp only []; omega), h]
 simp
theorem cnts_put (l : List Int) (hf : ∀ x ∈ l, 0 <= x /\ x <= 4) : ∀ (a r : List UInt8), cnts (a ++ (putL l ++ r)) l.length a.length = .inr (l, ((a.length + (putL l).length : Nat) : Int)) := by
 induction l with
 | nil => intro a r; simp [cnts, putL]
 | cons x l ih =>
  intro a r; have hx := hf x (by simp); have e : putL (x :: l) = PV.putB x ++ putL l := rfl; have hg := blw_put x 4 a (putL l ++ r) hx.1 hx.2 (by omega); rw [e, List.append_assoc, List.length_cons, cnts, hg]
  simp only [ne_eq, not_true_eq_false, if_false]
  have := ih (fun y hy => hf y (by simp [hy])) (a ++ PV.putB x) r; rw [List.append_assoc, List.length_append] at this; rw [this]
  simp only [List.length_append]
  rw [Nat.add_assoc]
theorem getRun_put (cs : List Int) (es : List Ev) (b : Bool) (hl : cs.length <= 8) (hc : ∀ x ∈ cs, 0 <= x /\ x <= 4) (hs : (es.length : Int) = sumI cs) (hg : ∀ x ∈ es, good x) : getRun (putRun cs es b) = .inr (cs, es, b) := by
 rw [putRun_eq]; have h1 := blw_put (cs.length : Int) 8 [] (putL cs ++ (PV.putB (if b then 1 else 0) ++ putEs es)) (by omega) (by omega) (by omega); have h2 := cnts_put cs hc (PV.putB cs.length) (PV.putB (if b then 1 else 0) ++ putEs es); have h3 := blw_put (if b then 1 else 0) 1 (PV.putB cs.length ++ putL cs) (putEs es) (by split <;> omega) (by split <;> omega) (by split <;> omega); have h4 := getEs_put es hg [] (putEs es).length (puts_ge es)
 simp only [List.nil_append, List.length_nil, Nat.zero_add, List.append_assoc, List.length_append, Int.ofNat_zero] at h1 h2 h3 h4 ⊢
 rw [getRun_3 (l := cs) (k := (((PV.putB cs.length).length + (putL cs).length : Nat) : Int)) (by rw [h1]) (by rw [h1]; simp only [Int.toNat_natCast]; exact h2), h3]
 have hd : (PV.putB cs.length ++ (putL cs ++ (PV.putB (if b = true then 1 else 0) ++ putEs es))).drop (((PV.putB cs.length).length + (putL cs).length + (PV.putB (if b = true then 1 else 0)).length : Nat) : Int).toNat = putEs es := by
  rw [Int.toNat_natCast, <- List.append_assoc, <- List.append_assoc]; exact List.drop_left' (by simp; omega)
 simp only [ne_eq, not_true_eq_false, if_false]
 rw [hd, h4]
 simp only [hs, not_true_eq_false, if_false]
 cases b <;> rfl
end Go.Proofs.YtcojnojdgigmdaaGreatDoor.PE
namespace Go.Proofs.YtcojnojdgigmdaaGreatDoor.PR
open Go Go.Proofs.YtcojnojdgigmdaaGreatDoor.PL Go.Proofs.YtcojnojdgigmdaaGreatDoor.Mem Go.Proofs.YtcojnojdgigmdaaGreatDoor.WL Go.Proofs.YtcojnojdgigmdaaGreatDoor.WR

def Go4 (r : RRun) : Prop := (∀ n ∈ r.counts, n <= 4) /\ 0 < r.evs.length
def H4 (p : RPlan) : Prop := ∀ s ∈ p.steps, s.hi <= 4
theorem planR_h4 {ss : List GS} {cs : List GC} {wi : Int} (h : OKP ss cs wi) : H4 (planR ss cs wi) := by
 intro s hs; obtain ⟨q, hq, rfl⟩ := List.mem_iff_getElem.1 hs
 have hq' : q < (groups (unitl ss)).length := by
  have : q < (stepsOf (groups (unitl ss)) (testsAt ss cs)).length := hq
  rwa [stepsOf_len] at this
 show ((stepsOf (groups (unitl ss)) (testsAt ss cs))[q]'hq).hi <= 4
 rw [stepsOf_get _ _ q hq' hq]; have hm := (mem_flat (List.getElem_mem hq')).1; rw [flat_groups] at hm; obtain ⟨x, hx, he⟩ := List.mem_map.1 hm; obtain ⟨j, hj, rfl⟩ := List.mem_iff_getElem.1 hx; have hst := h.st j hj
 have e1 : (groups (unitl ss))[q].1.1 = ss[j] := by rw [<- he]
 simp only []
 rw [e1]; unfold stepE at hst; rw [getElem!_pos ss j hj] at hst
 simp only [] at hst
 repeat (split at hst <;> try cases hst)
 omega
theorem with_go {r : RRun} {step : Nat} {e : Ev} (h : ∀ n ∈ r.counts, n <= 4) (hn : ((if step = r.counts.length then r.counts ++ [0] else r.counts).getD step 0) < 4) : Go4 (withR r step e) := by
 refine ⟨?_, ?_⟩
 ·intro n hm; have hm' : n ∈ (if step = r.counts.length then r.counts ++ [0] else r.counts).set step ((if step = r.counts.length then r.counts ++ [0] else r.counts).getD step 0 + 1) := hm
  rcases List.mem_or_eq_of_mem_set hm' with h1 | h1
  ·split at h1
   ·rcases List.mem_append.1 h1 with h2 | h2
    ·exact h n h2
    ·rw [List.mem_singleton.1 h2]; omega
   ·exact h n h1
  ·omega
 ·show 0 < (r.evs ++ [e]).length
  simp
theorem adv_go {p : RPlan} {r : RRun} {e : Ev} (hp : H4 p) (h : Go4 r) : (∀ g ∈ (advR p r e).grown, Go4 g) /\ ((advR p r e).keep = true -> Go4 (advR p r e).run) := by
 unfold advR
 cases hN : r.counts.getLast? with
 | none => exact ⟨fun g hg => (by cases hg), fun h => (by cases h)⟩
 | some n =>
  simp only []
  cases hS : p.steps[r.counts.length - 1]? with
  | none => exact ⟨fun g hg => (by cases hg), fun h => (by cases h)⟩
  | some s =>
   simp only []
   split
   ·exact ⟨fun g hg => (by cases hg), fun h => (by cases h)⟩
   ·have hs4 := hp s (List.mem_of_getElem? hS)
    have hne : r.counts ≠ [] := by intro h0; rw [h0] at hN; cases hN
    have hpos : 0 < r.counts.length := List.length_pos_iff.2 hne
    have hgl : r.counts.getD (r.counts.length - 1) 0 = n := by
     rw [List.getLast?_eq_getElem?] at hN; rw [List.getD_eq_getElem?_getD, hN]; rfl
    have one : ∀ (c : Prop) [Decidable c] (w : RRun), (c -> Go4 w) -> ∀ g ∈ (if c then addR p noRes w else noRes).grown, Go4 g := by
     intro c _ w hw g hg
     split at hg
     ·rename_i hc
      rw [addR_grown] at hg
      rcases List.mem_append.1 hg with h' | h'
      ·cases h'
      ·split at h'
       ·rw [List.mem_singleton.1 h']; exact hw hc
       ·cases h'
     ·cases hg
    generalize hx1 : (if (n : Int) < s.hi /\ fitsS s r (r.counts.length - 1) e = true then addR p noRes (withR r (r.counts.length - 1) e) else noRes) = x1
    have a1 : ∀ g ∈ x1.grown, Go4 g := by
     rw [<- hx1]
     exact one _ _ fun hc => with_go h.1 (by rw [if_neg (by omega), hgl]; have := hc.1; omega)
    refine ⟨?_, fun _ => ⟨h.1, h.2⟩⟩
    cases hS2 : p.steps[r.counts.length - 1 + 1]? with
    | none => exact a1
    | some s2 =>
     simp only []
     split
     ·intro g hg; rw [addR_grown] at hg
      rcases List.mem_append.1 hg with h' | h'
      ·exact a1 g h'
      ·split at h'
       ·rw [List.mem_singleton.1 h']; refine with_go h.1 ?_; rw [if_pos (by omega), show r.counts.length - 1 + 1 = r.counts.length by omega, List.getD_eq_getElem?_getD, List.getElem?_append_right (Nat.le_refl _)]
        simp
       ·cases h'
     ·exact a1
theorem start_go {p : RPlan} {e : Ev} : ∀ g ∈ (startR p e).grown, Go4 g := by
 unfold startR
 cases hS : p.steps with
 | nil => intro g hg; cases hg
 | cons s l =>
  simp only []
  split
  ·intro g hg; rw [addR_grown] at hg
   rcases List.mem_append.1 hg with h' | h'
   ·cases h'
   ·split at h'
    ·rw [List.mem_singleton.1 h']; exact with_go (fun n hn => by cases hn) (by decide)
    ·cases h'
  ·intro g hg; cases hg
theorem runA_go {p : RPlan} (hp : H4 p) (l : List Ev) : ∀ r ∈ (runA p l).1, Go4 r := by
 suffices h : ∀ (n : Nat) (l : List Ev), l.length = n -> ∀ r ∈ (runA p l).1, Go4 r from h _ l rfl
 intro n
 induction n with
 | zero =>
  intro l hl r hr; rw [List.length_eq_zero_iff.1 hl] at hr
  cases hr
 | succ n ih =>
  intro l hl r hr
  have hne : l ≠ [] := by intro h0; rw [h0] at hl; cases hl
  have e1 := List.dropLast_concat_getLast hne
  have hlen : l.dropLast.length = n := by rw [List.length_dropLast]; omega
  rw [<- e1, runA_snoc] at hr; unfold stepA turnR at hr
  simp only [] at hr
  rcases List.mem_append.1 hr with h1 | h1
  ·rcases List.mem_append.1 h1 with h2 | h2
   ·obtain ⟨x, hx, rfl⟩ := List.mem_map.1 h2; obtain ⟨hx1, hx2⟩ := List.mem_filter.1 hx; obtain ⟨r0, hr0, rfl⟩ := List.mem_map.1 hx1; exact (adv_go hp (ih _ hlen r0 hr0)).2 hx2
   ·obtain ⟨x, hx, hg⟩ := List.mem_flatMap.1 h2; obtain ⟨r0, hr0, rfl⟩ := List.mem_map.1 hx; exact (adv_go hp (ih _ hlen r0 hr0)).1 _ hg
  ·exact start_go _ h1
theorem adv_keep {p : RPlan} {r : RRun} {e : Ev} (h0 : 0 < r.counts.length) (hl : r.counts.length <= p.steps.length) : (advR p r e).keep = decide (e.time <= untilR p r) /\ ((advR p r e).keep = false -> (advR p r e).grown = [] /\ (advR p r e).done = []) := by
 unfold advR
 cases hN : r.counts.getLast? with
 | none =>
  rw [List.getLast?_eq_none_iff] at hN; rw [hN] at h0
  simp at h0
 | some n =>
  simp only []
  cases hS : p.steps[r.counts.length - 1]? with
  | none =>
   have := List.getElem?_eq_none_iff.1 hS
   omega
  | some s =>
   simp only []
   split
   ·rename_i hu
    exact ⟨by show false = _; rw [decide_eq_false (by omega)], fun _ => ⟨rfl, rfl⟩⟩
   ·rename_i hu
    exact ⟨by show true = _; rw [decide_eq_true (by omega)], fun h => (by cases h)⟩
theorem until_head {p : RPlan} {r : RRun} (h : 0 < r.evs.length) : untilR p r = r.evs[0].time + p.within := by
 obtain ⟨c, evs, b⟩ := r
 cases evs with
 | nil => simp at h
 | cons y l => rfl
theorem start_keep {p : RPlan} {e : Ev} : (startR p e).keep = false := by
 unfold startR
 cases p.steps with
 | nil => rfl
 | cons s l =>
  simp only []
  split <;> rfl
theorem sum_cnt (l : List Nat) : PE.sumI (l.map Int.ofNat) = (l.sum : Int) := by
 suffices h : ∀ (l : List Nat) (a : Int), (l.map Int.ofNat).foldl (· + ·) a = a + (l.sum : Int) by
  unfold PE.sumI; rw [h]; simp
 intro l
 induction l with
 | nil => intro a; simp
 | cons x l ih =>
  intro a; rw [List.map_cons, List.foldl_cons, ih]
  simp; omega
end Go.Proofs.YtcojnojdgigmdaaGreatDoor.PR
