/- The pattern language's reader (layer 19) in plain Lean, part 2: the whole pattern. No program in sight. -/
import Derived.Test.YtcfimponmioneaaDoorPPat
namespace Go.Proofs.YtcfimponmioneaaDoor.PP

/-- More steps behind those that were read. -/
def pSteps (l : List UInt8) : Nat → Nat → List Stp → PR (List Stp)
  | 0, a, ss => .inr (ss, a)
  | f + 1, a, ss => if pHas l a 44 then (pStep l (a + 1) ss.length).bind fun x a' => pSteps l f a' (ss ++ [x]) else .inr (ss, a)
/-- More conditions behind those that were read. -/
def pConds (l : List UInt8) : Nat → Nat → List Cnd → PR (List Cnd)
  | 0, a, cs => .inr (cs, a)
  | f + 1, a, cs => if pHas l a 65 then (pWord l [78, 68, 32] (a + 1)).bind fun _ a1 => (pCond l a1 cs.length).bind fun x a2 => (pWord l [32] a2).bind fun _ a3 => pConds l f a3 (cs ++ [x]) else .inr (cs, a)
/-- A pattern. -/
structure Ptn where
  ss : List Stp
  cs : List Cnd
  wi : Nat
/-- The window. -/
def pEnd (l : List UInt8) (ss : List Stp) (cs : List Cnd) (a : Nat) : PR Ptn :=
  (pWord l [73, 84, 72, 73, 78, 32] a).bind fun _ a1 => (pNum l a1 48).bind fun k a2 => .inr (⟨ss, cs, k⟩, a2)
/-- What stands behind the steps. -/
def pRest (l : List UInt8) (ss : List Stp) (a : Nat) : PR Ptn :=
  (pWord l [41, 32, 87] a).bind fun _ a3 =>
    if pHas l a3 72 then (pWord l [69, 82, 69, 32] (a3 + 1)).bind fun _ a4 => (pCond l a4 0).bind fun x a5 => (pWord l [32] a5).bind fun _ a6 => (pConds l 16 a6 [x]).bind fun cs a7 => (pWord l [87] a7).bind fun _ a8 => pEnd l ss cs a8
    else pEnd l ss [] a3
/-- All of it. -/
def pPat (l : List UInt8) : PR Ptn :=
  (pWord l [83, 69, 81, 40] 0).bind fun _ a0 => (pStep l a0 0).bind fun x a1 => (pSteps l 8 a1 [x]).bind fun ss a2 => pRest l ss a2

/-- A text's pattern, or its fault. -/
def pParse (l : List UInt8) : Sum (Nat × Int) Ptn :=
  if 4096 < l.length then .inl (0, 5) else match pPat l with
    | .inl f => .inl f
    | .inr (p, a) => if a < l.length then .inl (a, 20) else .inr p

theorem PR.bind_assoc {α β γ : Type} (x : PR α) (f : α → Nat → PR β) (g : β → Nat → PR γ) : (x.bind f).bind g = x.bind fun v a => (f v a).bind g := by
  cases x <;> rfl
theorem pStep_lt {l : List UInt8} {a n : Nat} {x : Stp} {a' : Nat} (h : pStep l a n = .inr (x, a')) (hn : n ≤ 8) : n < 8 := by
  rcases Nat.lt_or_ge n 8 with h8 | h8
  · exact h8
  · exfalso
    have : n = 8 := by omega
    subst this
    unfold pStep at h
    rw [if_pos rfl] at h
    split at h
    · simp at h
    · cases hx : pOne l a 65 90 with
      | inl f => rw [hx] at h; simp [PR.bind] at h
      | inr f => rw [hx] at h; simp [PR.bind] at h
theorem pCond_lt {l : List UInt8} {a n : Nat} {x : Cnd} {a' : Nat} (h : pCond l a n = .inr (x, a')) (hn : n ≤ 16) : n < 16 := by
  rcases Nat.lt_or_ge n 16 with h8 | h8
  · exact h8
  · exfalso
    have : n = 16 := by omega
    subst this
    unfold pCond at h
    rw [if_pos rfl] at h
    cases hx : pOne l a 97 122 with
    | inl f => rw [hx] at h; simp [PR.bind] at h
    | inr f => rw [hx] at h; simp [PR.bind] at h
end Go.Proofs.YtcfimponmioneaaDoor.PP
