/- The document's reader of a whole text against the plain parser: what is still to come. No program in sight. -/
import Derived.Test.YtcfimponmioneaaDoorPR19b
namespace Go.Proofs.YtcfimponmioneaaDoor.PP
/-- Behind the steps (no comma follows); at a step's beginning. -/
def qSteps (l : List UInt8) (ss : List Stp) : Nat → PR Ptn := fun a => (pStep l a ss.length).bind fun x a' => (pSteps l (8 - ss.length) a' (ss ++ [x])).bind fun ss a2 => pRest l ss a2
/-- What is to come behind the conditions. -/
def qTail (l : List UInt8) (ss : List Stp) (cs : List Cnd) : Nat → PR Ptn := fun a => (pOne l a 87 87).bind fun _ a8 => pEnd l ss cs a8
/-- At a condition's beginning. -/
def qConds (l : List UInt8) (ss : List Stp) (cs : List Cnd) : Nat → PR Ptn := fun a => (pCond l a cs.length).bind fun x a2 => (pOne l a2 32 32).bind fun _ a3 => (pConds l (16 - cs.length) a3 (cs ++ [x])).bind fun cs a7 => qTail l ss cs a7
def qWhere (l : List UInt8) (ss : List Stp) : Nat → PR Ptn := fun a3 =>
  if pHas l a3 72 then (pWord l [72, 69, 82, 69, 32] a3).bind fun _ a4 => qConds l ss [] a4
  else pEnd l ss [] a3
/-- The window's number. -/
def pEnd2 (l : List UInt8) (ss : List Stp) (cs : List Cnd) : Nat → PR Ptn := fun a1 => (pNum l a1 48).bind fun k a2 => .inr (⟨ss, cs, k⟩, a2)
theorem end_eq (l : List UInt8) (ss : List Stp) (cs : List Cnd) (a : Nat) : pEnd l ss cs a = (pWord l [73, 84, 72, 73, 78, 32] a).bind fun _ a1 => pEnd2 l ss cs a1 := rfl
theorem rest_eq (l : List UInt8) (ss : List Stp) (a : Nat) : pRest l ss a = (pWord l [41, 32, 87] a).bind fun _ a3 => qWhere l ss a3 := by
  unfold pRest
  congr 1
  funext _ a3
  unfold qWhere
  by_cases h : pHas l a3 72
  · rw [if_pos h, if_pos h]
    have e : pWord l [72, 69, 82, 69, 32] a3 = pWord l [69, 82, 69, 32] (a3 + 1) := by
      rw [pWord_bind]
      have : pOne l a3 (72 : UInt8).toNat (72 : UInt8).toNat = .inr (72, a3 + 1) := by
        unfold pHas at h
        unfold pOne
        cases hx : l[a3]? with
        | none => rw [hx] at h; cases h
        | some x =>
          rw [hx] at h
          simp only [beq_iff_eq] at h
          simp only
          rw [if_pos (by rw [h]; decide), h]
      rw [this]
      rfl
    rw [e]
    congr 1
    funext _ a4
    unfold qConds
    congr 1
    funext x a5
    refine (word_bind l a5 32 _).trans ?_
    congr 1
    funext _ a6
    congr 1
    funext cs a7
    exact word_bind l a7 87 _
  · rw [if_neg h, if_neg h]
theorem pat_eq (l : List UInt8) : pPat l = (pWord l [83, 69, 81, 40] 0).bind fun _ a0 => qSteps l [] a0 := rfl
/-- A step more: a comma follows, or not. -/
theorem steps_more {l : List UInt8} {ss : List Stp} {a : Nat} (hs : ss.length ≤ 8) (hs1 : 1 ≤ ss.length) (h : pHas l a 44 = true) : (pSteps l (9 - ss.length) a ss).bind (fun ss a2 => pRest l ss a2) = qSteps l ss (a + 1) := by
  rw [show 9 - ss.length = (8 - ss.length) + 1 by omega]
  rw [pSteps, if_pos h, PR.bind_assoc]
  rfl
theorem steps_done {l : List UInt8} {ss : List Stp} {a : Nat} (hs : ss.length ≤ 8) (h : pHas l a 44 = false) : (pSteps l (9 - ss.length) a ss).bind (fun ss a2 => pRest l ss a2) = pRest l ss a := by
  rw [show 9 - ss.length = (8 - ss.length) + 1 by omega]
  rw [pSteps, if_neg (by rw [h]; simp)]
  rfl
theorem conds_more {l : List UInt8} {ss : List Stp} {cs : List Cnd} {a : Nat} (hs : cs.length ≤ 16) (h : pHas l a 65 = true) : (pConds l (17 - cs.length) a cs).bind (fun cs a7 => qTail l ss cs a7) = (pWord l [65, 78, 68, 32] a).bind fun _ a1 => qConds l ss cs a1 := by
  rw [show 17 - cs.length = (16 - cs.length) + 1 by omega]
  have e : pWord l [65, 78, 68, 32] a = pWord l [78, 68, 32] (a + 1) := by
    rw [pWord_bind]
    have : pOne l a (65 : UInt8).toNat (65 : UInt8).toNat = .inr (65, a + 1) := by
      unfold pHas at h
      unfold pOne
      cases hx : l[a]? with
      | none => rw [hx] at h; cases h
      | some x =>
        rw [hx] at h
        simp only [beq_iff_eq] at h
        simp only
        rw [if_pos (by rw [h]; decide), h]
    rw [this]
    rfl
  rw [pConds, if_pos h, PR.bind_assoc, e]
  congr 1
  funext _ a1
  rw [PR.bind_assoc]
  unfold qConds
  congr 1
  funext x a2
  rw [PR.bind_assoc]
  exact word_bind l a2 32 _
theorem conds_done {l : List UInt8} {ss : List Stp} {cs : List Cnd} {a : Nat} (hs : cs.length ≤ 16) (h : pHas l a 65 = false) : (pConds l (17 - cs.length) a cs).bind (fun cs a7 => qTail l ss cs a7) = qTail l ss cs a := by
  rw [show 17 - cs.length = (16 - cs.length) + 1 by omega]
  rw [pConds, if_neg (by rw [h]; simp)]
  rfl
end Go.Proofs.YtcfimponmioneaaDoor.PP
