/- The pattern language's reader (layer 19) in plain Lean: the program's parser, step by step, on a list of bytes. No program in sight. -/
namespace Go.Proofs.YtcfimponmioneaaDoor.PP

/-- A fault's place and error, or a value and the place behind it. -/
abbrev PR (α : Type) := Sum (Nat × Int) (α × Nat)

/-- The next byte, 0 at the end. -/
def peekB (l : List UInt8) (a : Nat) : Nat := match l[a]? with
  | some b => b.toNat
  | none => 0
/-- A part, then what is read behind it. -/
def PR.bind {α β : Type} (x : PR α) (f : α → Nat → PR β) : PR β := match x with
  | .inl e => .inl e
  | .inr (v, a) => f v a
/-- The next byte, which must be from one up to another. -/
def pOne (l : List UInt8) (a lo hi : Nat) : PR Nat :=
  match l[a]? with
  | some b => if lo ≤ b.toNat ∧ b.toNat ≤ hi then .inr (b.toNat, a + 1) else .inl (a, 20)
  | none => .inl (a, 20)
/-- These bytes. -/
def pWord (l : List UInt8) : List UInt8 → Nat → PR Unit
  | [], a => .inr ((), a)
  | b :: r, a => match pOne l a b.toNat b.toNat with
    | .inl f => .inl f
    | .inr (_, a') => pWord l r a'
/-- The byte, if it is the next one. -/
def pHas (l : List UInt8) (a b : Nat) : Bool := match l[a]? with
  | some x => x.toNat == b
  | none => false
/-- Take the byte, if it is the next one. -/
def pHasR (l : List UInt8) (a b : Nat) : PR Bool := .inr (if pHas l a b then (true, a + 1) else (false, a))
/-- More digits. -/
def pDig (l : List UInt8) : Nat → Nat → Nat → Nat × Nat
  | 0, n, a => (n, a)
  | f + 1, n, a => if 0 < n then (match l[a]? with
    | some b => if 48 ≤ b.toNat ∧ b.toNat ≤ 57 then pDig l f (10 * n + (b.toNat - 48)) (a + 1) else (n, a)
    | none => (n, a)) else (n, a)
/-- A number. -/
def pNum (l : List UInt8) (a least : Nat) : PR Nat := match pOne l a least 57 with
  | .inl f => .inl f
  | .inr (b, a') => .inr (pDig l 8 (b - 48) a')
/-- An operator of comparison, as the program numbers them. -/
def pOp (l : List UInt8) (a : Nat) : PR Nat :=
  if pHas l a 60 then (if pHas l (a + 1) 61 then .inr (1, a + 2) else .inr (0, a + 1))
  else if pHas l a 62 then (if pHas l (a + 1) 61 then .inr (4, a + 2) else .inr (5, a + 1))
  else if pHas l a 33 then (match pWord l [61] (a + 1) with
    | .inl f => .inl f
    | .inr (_, a') => .inr (3, a'))
  else (match pWord l [61] a with
    | .inl f => .inl f
    | .inr (_, a') => .inr (2, a'))
/-- A condition: the left attribute's letter, the operator, the right one's letter (0: none), a constant. -/
structure Cnd where
  l : Nat
  op : Nat
  r : Nat
  k : Int
/-- The n-th condition. -/
def pCond (l : List UInt8) (a n : Nat) : PR Cnd :=
  if n = 16 then (pOne l a 97 122).bind fun _ _ => .inl (a, 24)
  else (pOne l a 97 122).bind fun x a1 => (pOp l a1).bind fun o a2 =>
    if peekB l a2 = 45 then (pNum l (a2 + 1) 49).bind fun k a3 => .inr (⟨x, o, 0, -(k : Int)⟩, a3)
    else if 48 ≤ peekB l a2 ∧ peekB l a2 ≤ 57 then (pNum l a2 48).bind fun k a3 => .inr (⟨x, o, 0, k⟩, a3)
    else (pOne l a2 97 122).bind fun r a3 =>
      if pHas l a3 43 then (pNum l (a3 + 1) 49).bind fun k a5 => .inr (⟨x, o, r, k⟩, a5)
      else if pHas l a3 45 then (pNum l (a3 + 1) 49).bind fun k a5 => .inr (⟨x, o, r, -(k : Int)⟩, a5)
      else .inr (⟨x, o, r, 0⟩, a3)
/-- A step: kind, name, whether it stands as a bar, how often. -/
structure Stp where
  k : Nat
  nm : Nat
  neg : Bool
  lo : Nat
  hi : Nat
/-- The n-th step. -/
def pStep (l : List UInt8) (a n : Nat) : PR Stp :=
  if n = 8 then (if pHas l a 33 then .inl (a, 24) else (pOne l a 65 90).bind fun _ _ => .inl (a, 24))
  else (pHasR l a 33).bind fun neg a0 => (pOne l a0 65 90).bind fun k a1 => (pWord l [32] a1).bind fun _ a2 => (pOne l a2 97 122).bind fun nm a3 =>
    if pHas l a3 123 then (if neg then .inl (a3, 22)
      else (pNum l (a3 + 1) 48).bind fun lo a4 => (pWord l [44] a4).bind fun _ a5 => (pNum l a5 48).bind fun hi a6 => (pWord l [125] a6).bind fun _ a7 =>
        if lo < 1 ∨ hi < lo ∨ 4 < hi ∨ hi = 1 then .inl (a3, 22) else .inr (⟨k, nm, false, lo, hi⟩, a7))
    else .inr (⟨k, nm, neg, 1, 1⟩, a3)
end Go.Proofs.YtcfimponmioneaaDoor.PP
