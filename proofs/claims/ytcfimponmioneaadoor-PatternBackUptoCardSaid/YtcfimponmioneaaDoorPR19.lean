/- The document's reader of patterns (layer 19): its state is alive at a place, or dead with the first fault; whatever it goes through is a step of the plain parser while it is alive. No program in sight. -/
import Derived.Test.YtcfimponmioneaaDoorPPat2
namespace Go.Proofs.YtcfimponmioneaaDoor.PP

/-- Dead: the fault's place, its error, where the reader stands. Alive: where it stands. -/
abbrev S9 := Sum (Nat × Int × Nat) Nat
def S9.at : S9 → Nat
  | .inl (_, _, a) => a
  | .inr a => a
def S9.bad : S9 → Int
  | .inl (_, e, _) => e
  | .inr _ => 0
def S9.pos : S9 → Nat
  | .inl (k, _, _) => k
  | .inr _ => 0
/-- A step: alive it is the plain parser's; dead it stays dead, with the same fault. -/
def Goes {α : Type} (st : S9) (p : Nat → PR α) (v : α) (st' : S9) : Prop := match st with
  | .inl (k, er, _) => ∃ a', st' = .inl (k, er, a')
  | .inr a => match p a with
    | .inr (x, a') => v = x ∧ st' = .inr a'
    | .inl (k, er) => ∃ a', st' = .inl (k, er, a')
theorem Goes.bind {α β : Type} {st st1 st2 : S9} {p : Nat → PR α} {q : α → Nat → PR β} {x : α} {y : β} (h : Goes st p x st1) (h' : Goes st1 (q x) y st2) : Goes st (fun a => (p a).bind q) y st2 := by
  match st, h with
  | .inl (k, er, a), h =>
    obtain ⟨a', rfl⟩ := h
    exact h'
  | .inr a, h =>
    simp only [Goes] at h ⊢
    cases hp : p a with
    | inl f =>
      obtain ⟨k, er⟩ := f
      rw [hp] at h
      obtain ⟨a', rfl⟩ := h
      exact h'
    | inr f =>
      obtain ⟨x0, a'⟩ := f
      rw [hp] at h
      obtain ⟨rfl, rfl⟩ := h
      exact h'
theorem Goes.dead {α β : Type} {k : Nat} {er : Int} {a : Nat} {p : Nat → PR α} {q : Nat → PR β} {v : α} {u : β} {st' : S9} (h : Goes (.inl (k, er, a)) p v st') : Goes (.inl (k, er, a)) q u st' := h
theorem Goes.alive {α : Type} {a : Nat} {p q : Nat → PR α} {v : α} {st' : S9} (h : Goes (.inr a) p v st') (e : p a = q a) : Goes (.inr a) q v st' := by
  simp only [Goes] at h ⊢
  rw [← e]
  exact h
theorem Goes.eq {α : Type} {st : S9} {p q : Nat → PR α} {v : α} {st' : S9} (h : Goes st p v st') (e : ∀ a, st = .inr a → p a = q a) : Goes st q v st' := by
  match st, h with
  | .inl _, h => exact h
  | .inr a, h => exact h.alive (e a rfl)
/-- Is the next byte from one up to another? -/
def inB (l : List UInt8) (a lo hi : Nat) : Bool := match l[a]? with
  | some b => decide (lo ≤ b.toNat) && decide (b.toNat ≤ hi)
  | none => false
def nextB (l : List UInt8) (st : S9) (lo hi : Nat) : Bool := match st with
  | .inl _ => false
  | .inr a => inB l a lo hi
theorem nextB_alive {l : List UInt8} {st : S9} {lo hi : Nat} (h : nextB l st lo hi = true) : ∃ a, st = .inr a := by
  cases st with
  | inl f => cases h
  | inr a => exact ⟨a, rfl⟩
theorem inB_has {l : List UInt8} {a b : Nat} : inB l a b b = pHas l a b := by
  unfold inB pHas
  cases l[a]? with
  | none => rfl
  | some x =>
    simp only
    rw [Bool.eq_iff_iff]
    simp only [Bool.and_eq_true, decide_eq_true_eq, beq_iff_eq]
    omega
/-- A byte that is there, and is taken. -/
theorem pOne_next {l : List UInt8} {a lo hi : Nat} (h : inB l a lo hi = true) : ∃ b : UInt8, l[a]? = some b ∧ lo ≤ b.toNat ∧ b.toNat ≤ hi ∧ pOne l a lo hi = .inr (b.toNat, a + 1) := by
  unfold inB at h
  cases hx : l[a]? with
  | none => rw [hx] at h; cases h
  | some x =>
    rw [hx] at h
    simp only [Bool.and_eq_true, decide_eq_true_eq] at h
    exact ⟨x, rfl, h.1, h.2, by unfold pOne; rw [hx]; simp only; rw [if_pos h]⟩
theorem pOne_not {l : List UInt8} {a lo hi : Nat} (h : inB l a lo hi = false) : pOne l a lo hi = .inl (a, 20) := by
  unfold inB at h
  unfold pOne
  cases hx : l[a]? with
  | none => rfl
  | some x =>
    rw [hx] at h
    simp only at h ⊢
    rw [if_neg]
    intro hh
    rw [decide_eq_true hh.1, decide_eq_true hh.2] at h
    cases h
theorem Goes.inl {α β : Type} {st : S9} {p : Nat → PR α} {v : α} {u : β} {f : Nat × Int × Nat} (h : Goes st p v (.inl f)) (q : α → Nat → PR β) : Goes st (fun a => (p a).bind q) u (.inl f) := by
  refine h.bind (y := u) (q := q) ?_
  obtain ⟨k, er, a⟩ := f
  exact ⟨a, rfl⟩
theorem Goes.inr {α : Type} {st : S9} {p : Nat → PR α} {v : α} {a' : Nat} (h : Goes st p v (.inr a')) : ∃ a, st = .inr a ∧ p a = .inr (v, a') := by
  match st, h with
  | .inl (k, er, a), h =>
    obtain ⟨_, h⟩ := h
    cases h
  | .inr a, h =>
    simp only [Goes] at h
    refine ⟨a, rfl, ?_⟩
    cases hp : p a with
    | inl f =>
      obtain ⟨k, er⟩ := f
      rw [hp] at h
      obtain ⟨_, h⟩ := h
      cases h
    | inr f =>
      obtain ⟨x0, a0⟩ := f
      rw [hp] at h
      obtain ⟨rfl, h⟩ := h
      cases h
      rfl
theorem pWord_bind (l : List UInt8) (b : UInt8) (r : List UInt8) (a : Nat) : pWord l (b :: r) a = (pOne l a b.toNat b.toNat).bind fun _ a' => pWord l r a' := by
  rw [pWord]
  cases pOne l a b.toNat b.toNat <;> rfl
theorem pNum_bind (l : List UInt8) (a least : Nat) : pNum l a least = (pOne l a least 57).bind fun b a' => .inr (pDig l 8 (b - 48) a') := by
  rw [pNum]
  cases pOne l a least 57 <;> rfl
theorem inB_peek {l : List UInt8} {a lo hi : Nat} (hlo : 0 < lo) : inB l a lo hi = (decide (lo ≤ peekB l a) && decide (peekB l a ≤ hi)) := by
  unfold inB peekB
  cases l[a]? with
  | none => simp; omega
  | some b => rfl
/-- The end of a condition: behind the right letter; behind the operator. -/
def pTl2 (l : List UInt8) (x o r a3 : Nat) : PR Cnd :=
  if pHas l a3 43 then (pNum l (a3 + 1) 49).bind fun k a5 => .inr (⟨x, o, r, k⟩, a5)
  else if pHas l a3 45 then (pNum l (a3 + 1) 49).bind fun k a5 => .inr (⟨x, o, r, -(k : Int)⟩, a5)
  else .inr (⟨x, o, r, 0⟩, a3)
def pTl (l : List UInt8) (x o a2 : Nat) : PR Cnd :=
  if peekB l a2 = 45 then (pNum l (a2 + 1) 49).bind fun k a3 => .inr (⟨x, o, 0, -(k : Int)⟩, a3)
  else if 48 ≤ peekB l a2 ∧ peekB l a2 ≤ 57 then (pNum l a2 48).bind fun k a3 => .inr (⟨x, o, 0, k⟩, a3)
  else (pOne l a2 97 122).bind fun r a3 => pTl2 l x o r a3
theorem pCond_tl (l : List UInt8) (a n : Nat) (hn : n ≠ 16) : pCond l a n = (pOne l a 97 122).bind fun x a1 => (pOp l a1).bind fun o a2 => pTl l x o a2 := by
  unfold pCond
  rw [if_neg hn]
  rfl
theorem peek_has {l : List UInt8} {a b : Nat} (hb : 0 < b) : pHas l a b = (peekB l a == b) := by
  unfold pHas peekB
  cases l[a]? with
  | none => simp; omega
  | some x => rfl
end Go.Proofs.YtcfimponmioneaaDoor.PP
