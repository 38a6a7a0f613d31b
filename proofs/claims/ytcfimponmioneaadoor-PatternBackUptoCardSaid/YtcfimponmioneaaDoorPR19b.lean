/- The document's reader of a step, in the plain parser's parts. No program in sight. -/
import Derived.Test.YtcfimponmioneaaDoorPR19
namespace Go.Proofs.YtcfimponmioneaaDoor.PP
/-- The end of a step. -/
def pSt3 (a3 k nm lo hi a7 : Nat) : PR Stp := if lo < 1 ∨ hi < lo ∨ 4 < hi ∨ hi = 1 then .inl (a3, 22) else .inr (⟨k, nm, false, lo, hi⟩, a7)
def pSt2 (l : List UInt8) (a3 k nm : Nat) : Nat → PR Stp := fun a => (pNum l a 48).bind fun lo a4 => (pOne l a4 44 44).bind fun _ a5 => (pNum l a5 48).bind fun hi a6 => (pOne l a6 125 125).bind fun _ a7 => pSt3 a3 k nm lo hi a7
def pSt1 (l : List UInt8) (k : Nat) (neg : Bool) (nm a3 : Nat) : PR Stp :=
  if pHas l a3 123 then (if neg then .inl (a3, 22) else pSt2 l a3 k nm (a3 + 1)) else .inr (⟨k, nm, neg, 1, 1⟩, a3)
def pSt (l : List UInt8) (k : Nat) (neg : Bool) : Nat → PR Stp := fun a1 => (pOne l a1 32 32).bind fun _ a2 => (pOne l a2 97 122).bind fun nm a3 => pSt1 l k neg nm a3
theorem word_bind {α : Type} (l : List UInt8) (a : Nat) (b : UInt8) (f : Nat → PR α) : ((pWord l [b] a).bind fun _ a' => f a') = (pOne l a b.toNat b.toNat).bind fun _ a' => f a' := by
  rw [pWord_bind]
  cases pOne l a b.toNat b.toNat <;> rfl
theorem pStep_tl (l : List UInt8) (a n : Nat) (hn : n ≠ 8) : pStep l a n = (pHasR l a 33).bind fun neg a0 => (pOne l a0 65 90).bind fun k a1 => pSt l k neg a1 := by
  unfold pStep
  rw [if_neg hn]
  congr 1
  funext neg a0
  congr 1
  funext k a1
  unfold pSt
  refine (word_bind l a1 32 _).trans ?_
  congr 1
  funext _ a2
  congr 1
  funext nm a3
  unfold pSt1 pSt2
  congr 1
  congr 1
  congr 1
  funext lo a4
  refine (word_bind l a4 44 _).trans ?_
  congr 1
  funext _ a5
  congr 1
  funext hi a6
  exact word_bind l a6 125 _
end Go.Proofs.YtcfimponmioneaaDoor.PP
