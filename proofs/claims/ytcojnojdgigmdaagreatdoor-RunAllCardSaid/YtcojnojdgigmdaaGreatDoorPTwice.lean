/- No match is told twice, in plain Lean: the runs' keys, the texts of distinct runs. No program in sight. -/
import Derived.Test.YtcojnojdgigmdaaGreatDoorB01
import Derived.Test.YtcojnojdgigmdaaGreatDoorPItoa
namespace Go.Proofs.YtcojnojdgigmdaaGreatDoor.PR
open Go Go.Proofs.YtcojnojdgigmdaaGreatDoor.PL Go.Proofs.YtcojnojdgigmdaaGreatDoor.Mem Go.Proofs.YtcojnojdgigmdaaGreatDoor.DG

def parts {α : Type} : List Nat -> List α -> List (List α)
 | [], _ => []
 | c :: cs, l => l.take c :: parts cs (l.drop c)
theorem parts_eq {α : Type} : ∀ (cs : List Nat) (l : List α), ((List.range cs.length).map fun i => (l.drop (cs.take i).sum).take (cs.getD i 0)) = parts cs l
 | [], _ => rfl
 | c :: cs, l => by
  rw [List.length_cons, List.range_succ_eq_map, List.map_cons, List.map_map, parts, <- parts_eq cs]
  simp only [List.take_zero, List.sum_nil, List.drop_zero, List.getD_cons_zero]
  congr 1
  apply List.map_congr_left
  intro i _
  simp only [Function.comp_apply, Nat.succ_eq_add_one, List.take_succ_cons, List.sum_cons, List.getD_cons_succ, List.drop_drop]
theorem ofR_parts (r : RRun) : ((List.range r.counts.length).map fun i => ofR r i) = parts r.counts r.evs := by
 rw [<- parts_eq]
 apply List.map_congr_left
 intro i hi; unfold ofR; rw [if_pos (List.mem_range.1 hi)]
theorem parts_map {α β : Type} (f : α -> β) : ∀ (cs : List Nat) (l : List α), (parts cs l).map (·.map f) = parts cs (l.map f)
 | [], _ => rfl
 | c :: cs, l => by
  rw [parts, parts, List.map_cons, parts_map f cs]
  simp
def txtP (x : List Int) : List UInt8 := Lib.join (x.map Lib.itoa) [44]
theorem textR_parts (r : RRun) : textR r = Lib.join ((parts r.counts (r.evs.map (·.id))).map txtP) [124] := by
 unfold textR; rw [<- parts_map, <- ofR_parts, List.map_map, List.map_map]
 congr 1
 apply List.map_congr_left
 intro i _
 simp [txtP, Function.comp_def]
def cands (p : RPlan) (r : RRun) (e : Ev) : List RRun :=
 match r.counts.getLast? with
 | none => []
 | some n =>
  match p.steps[r.counts.length - 1]? with
  | none => []
  | some s =>
   if untilR p r < e.time then [] else
   (if (n : Int) < s.hi /\ fitsS s r (r.counts.length - 1) e = true then [withR r (r.counts.length - 1) e] else []) ++
   (match p.steps[r.counts.length - 1 + 1]? with
    | none => []
    | some s2 => if s.lo <= (n : Int) /\ r.blocked = false /\ fitsS s2 r (r.counts.length - 1 + 1) e = true then [withR r (r.counts.length - 1 + 1) e] else [])
def starts (p : RPlan) (e : Ev) : List RRun := match p.steps with
 | [] => []
 | s :: _ => if fitsS s noRun 0 e then [withR noRun 0 e] else []
theorem adv_cands (p : RPlan) (r : RRun) (e : Ev) : (advR p r e).grown = (cands p r e).filter (addGrown p) /\ (advR p r e).done = ((cands p r e).filter (addDone p)).map textR := by
 unfold advR cands
 cases r.counts.getLast? with
 | none => exact ⟨rfl, rfl⟩
 | some n =>
  simp only []
  cases p.steps[r.counts.length - 1]? with
  | none => exact ⟨rfl, rfl⟩
  | some s =>
   simp only []
   split
   ·exact ⟨rfl, rfl⟩
   ·have one : ∀ (x : RRes) (w : RRun), (addR p x w).grown = x.grown ++ [w].filter (addGrown p) /\ (addR p x w).done = x.done ++ ([w].filter (addDone p)).map textR := by
     intro x w; rw [addR_grown, addR_done]
     constructor
     ·cases h : addGrown p w <;> simp [h]
     ·cases h : addDone p w <;> simp [h]
    rw [List.filter_append, List.filter_append, List.map_append]
    by_cases c1 : (n : Int) < s.hi /\ fitsS s r (r.counts.length - 1) e = true
    ·rw [if_pos c1, if_pos c1]
     cases p.steps[r.counts.length - 1 + 1]? with
     | none =>
      simp only []
      rw [(one _ _).1, (one _ _).2]
      simp [noRes]
     | some s2 =>
      simp only []
      split
      ·rw [(one _ _).1, (one _ _).2, (one _ _).1, (one _ _).2]
       simp [noRes]
      ·rw [(one _ _).1, (one _ _).2]
       simp [noRes]
    ·rw [if_neg c1, if_neg c1]
     cases p.steps[r.counts.length - 1 + 1]? with
     | none => exact ⟨rfl, rfl⟩
     | some s2 =>
      simp only []
      split
      ·rw [(one _ _).1, (one _ _).2]
       simp [noRes]
      ·exact ⟨rfl, rfl⟩
theorem start_cands (p : RPlan) (e : Ev) : (startR p e).grown = (starts p e).filter (addGrown p) /\ (startR p e).done = ((starts p e).filter (addDone p)).map textR := by
 unfold startR starts
 cases p.steps with
 | nil => exact ⟨rfl, rfl⟩
 | cons s l =>
  simp only []
  split
  ·rw [addR_grown, addR_done]
   constructor
   ·cases h : addGrown p (withR noRun 0 e) <;> simp [h, noRes]
   ·cases h : addDone p (withR noRun 0 e) <;> simp [h, noRes]
  ·exact ⟨rfl, rfl⟩
theorem with_same {r : RRun} {c : List Nat} {n : Nat} (h : r.counts = c ++ [n]) (e : Ev) : withR r (r.counts.length - 1) e = ⟨c ++ [n + 1], r.evs ++ [e], false⟩ := by
 unfold withR
 have h1 : r.counts.length = c.length + 1 := by rw [h]; simp
 rw [if_neg (by omega), h1, h]
 simp
theorem with_next {r : RRun} {c : List Nat} {n : Nat} (h : r.counts = c ++ [n]) (e : Ev) : withR r (r.counts.length - 1 + 1) e = ⟨c ++ [n, 1], r.evs ++ [e], false⟩ := by
 unfold withR
 have h1 : r.counts.length = c.length + 1 := by rw [h]; simp
 rw [if_pos (by omega), h1, h]
 simp
def candsAll (p : RPlan) (rs : List RRun) (e : Ev) : List RRun := rs.flatMap (fun r => cands p r e) ++ starts p e
def InE (l x : List Ev) : Prop := (∀ z ∈ x, z ∈ l) /\ x.length <= l.length
theorem InE.more {l x : List Ev} {e : Ev} (h : InE l x) : InE (l ++ [e]) x := ⟨fun z hz => List.mem_append_left _ (h.1 z hz), by rw [List.length_append]; exact Nat.le_add_right_of_le h.2⟩
theorem InE.snoc {l x : List Ev} {e : Ev} (h : InE l x) : InE (l ++ [e]) (x ++ [e]) := ⟨fun z hz => by
 rcases List.mem_append.1 hz with hz | hz
 ·exact List.mem_append_left _ (h.1 z hz)
 ·exact List.mem_append_right _ hz, by rw [List.length_append, List.length_append]; exact Nat.add_le_add_right h.2 _⟩
theorem turn_cands (p : RPlan) (rs : List RRun) (e : Ev) : turnR p rs e = ((innR p e rs).1 ++ (candsAll p rs e).filter (addGrown p), ((candsAll p rs e).filter (addDone p)).map textR) := by
 rw [turnR_inn]
 have h1 : (innR p e rs).2.1 = (rs.flatMap fun r => cands p r e).filter (addGrown p) /\ (innR p e rs).2.2 = ((rs.flatMap fun r => cands p r e).filter (addDone p)).map textR := by
  induction rs with
  | nil => exact ⟨rfl, rfl⟩
  | cons r rs ih =>
   unfold innR at ih ⊢
   simp only [List.map_cons, List.flatMap_cons, List.filter_append, List.map_append]
   rw [(adv_cands p r e).1, (adv_cands p r e).2]; exact ⟨by rw [<- ih.1], by rw [<- ih.2]⟩
 unfold candsAll; rw [h1.1, h1.2, (start_cands p e).1, (start_cands p e).2, List.filter_append, List.filter_append, List.map_append, List.append_assoc]
end Go.Proofs.YtcojnojdgigmdaaGreatDoor.PR
