/- No fault of a pattern's text is error 0, in plain Lean. No program in sight. -/
import Derived.Test.YtcfimponmioneaaDoorPExt2
namespace Go.Proofs.YtcfimponmioneaaDoor.PP
def Nz {α : Type} (p : Nat → PR α) : Prop := ∀ a k er, p a = .inl (k, er) → er ≠ 0
theorem nz_ret {α : Type} (v : α) : Nz fun a => .inr (v, a) := fun a k er h => by cases h
theorem nz_one (l : List UInt8) (lo hi : Nat) : Nz fun a => pOne l a lo hi := by
  intro a k er h
  simp only [pOne] at h
  split at h
  · split at h
    · cases h
    · cases h; decide
  · cases h; decide
theorem nz_bind {α β : Type} {p : Nat → PR α} {q : α → Nat → PR β} (hp : Nz p) (hq : ∀ v, Nz (q v)) : Nz fun a => (p a).bind q := by
  intro a k er h
  simp only at h
  cases hx : p a with
  | inl f =>
    obtain ⟨k1, e1⟩ := f
    rw [hx] at h
    cases h
    exact hp a _ _ hx
  | inr f =>
    rw [hx] at h
    exact hq _ _ _ _ h
theorem nz_if {α : Type} (c : Nat → Prop) [DecidablePred c] {p q : Nat → PR α} (hp : Nz p) (hq : Nz q) : Nz fun a => if c a then p a else q a := by
  intro a k er h
  simp only at h
  split at h
  · exact hp a k er h
  · exact hq a k er h
theorem nz_shift {α : Type} {p : Nat → PR α} (hp : Nz p) : Nz fun a => p (a + 1) := fun a k er h => hp (a + 1) k er h
theorem nz_word (l : List UInt8) : ∀ w : List UInt8, Nz fun a => pWord l w a
  | [] => fun a k er h => by simp only [pWord] at h; cases h
  | b :: w => by
    intro a k er h
    have e : pWord l (b :: w) a = (pOne l a b.toNat b.toNat).bind fun _ a' => pWord l w a' := by
      rw [pWord]
      cases pOne l a b.toNat b.toNat <;> rfl
    simp only [e] at h
    exact nz_bind (nz_one l b.toNat b.toNat) (fun _ => nz_word l w) a k er h
theorem nz_num (l : List UInt8) (least : Nat) : Nz fun a => pNum l a least := by
  intro a k er h
  simp only [pNum] at h
  cases hx : pOne l a least 57 with
  | inl f => rw [hx] at h; cases h; exact nz_one l least 57 a _ _ hx
  | inr f => rw [hx] at h; cases h
theorem nz_op (l : List UInt8) : Nz fun a => pOp l a := by
  have w : ∀ (v : Nat), Nz fun a => (match pWord l [61] a with | .inl f => (.inl f : PR Nat) | .inr (_, a') => .inr (v, a')) := by
    intro v a k er h
    simp only at h
    cases hx : pWord l [61] a with
    | inl f => rw [hx] at h; cases h; exact nz_word l [61] a _ _ hx
    | inr f => rw [hx] at h; cases h
  have r : ∀ v d : Nat, Nz fun a => (.inr (v, a + d) : PR Nat) := fun v d a k er h => by cases h
  exact nz_if (fun a => pHas l a 60 = true) (nz_if (fun a => pHas l (a + 1) 61 = true) (r 1 2) (r 0 1)) (nz_if (fun a => pHas l a 62 = true) (nz_if (fun a => pHas l (a + 1) 61 = true) (r 4 2) (r 5 1)) (nz_if (fun a => pHas l a 33 = true) (nz_shift (w 3)) (w 2)))
theorem nz_tl2 (l : List UInt8) (x o r : Nat) : Nz fun a => pTl2 l x o r a :=
  nz_if (fun a => pHas l a 43 = true) (nz_shift (nz_bind (nz_num l 49) fun k => nz_ret (⟨x, o, r, k⟩ : Cnd))) (nz_if (fun a => pHas l a 45 = true) (nz_shift (nz_bind (nz_num l 49) fun k => nz_ret (⟨x, o, r, -(k : Int)⟩ : Cnd))) (nz_ret (⟨x, o, r, 0⟩ : Cnd)))
theorem nz_tl (l : List UInt8) (x o : Nat) : Nz fun a => pTl l x o a :=
  nz_if (fun a => peekB l a = 45) (nz_shift (nz_bind (nz_num l 49) fun k => nz_ret (⟨x, o, 0, -(k : Int)⟩ : Cnd))) (nz_if (fun a => 48 ≤ peekB l a ∧ peekB l a ≤ 57) (nz_bind (nz_num l 48) fun k => nz_ret (⟨x, o, 0, k⟩ : Cnd)) (nz_bind (nz_one l 97 122) fun r => nz_tl2 l x o r))
theorem nz_cond (l : List UInt8) (n : Nat) : Nz fun a => pCond l a n := by
  intro a k er h
  by_cases hn : n = 16
  · simp only [pCond, if_pos hn] at h
    refine nz_bind (nz_one l 97 122) (q := fun _ _ => .inl (a, 24)) (fun _ a' k' er' h' => ?_) a k er h
    cases h'; decide
  · simp only at h
    rw [pCond_tl _ _ _ hn] at h
    exact nz_bind (nz_one l 97 122) (fun x => nz_bind (nz_op l) fun o => nz_tl l x o) a k er h
theorem nz_st3 (a3 k nm lo hi : Nat) : Nz fun a => pSt3 a3 k nm lo hi a := by
  intro a k' er h
  simp only [pSt3] at h
  split at h
  · cases h; decide
  · cases h
theorem nz_st1 (l : List UInt8) (k : Nat) (neg : Bool) (nm : Nat) : Nz fun a => pSt1 l k neg nm a := by
  intro a k' er h
  simp only [pSt1] at h
  split at h
  · split at h
    · cases h; decide
    · exact nz_bind (nz_num l 48) (fun lo => nz_bind (nz_one l 44 44) fun _ => nz_bind (nz_num l 48) fun hi => nz_bind (nz_one l 125 125) fun _ => nz_st3 a k nm lo hi) (a + 1) k' er h
  · cases h
theorem nz_step (l : List UInt8) (n : Nat) : Nz fun a => pStep l a n := by
  intro a k er h
  by_cases hn : n = 8
  · simp only [pStep, if_pos hn] at h
    split at h
    · cases h; decide
    · refine nz_bind (nz_one l 65 90) (q := fun _ _ => .inl (a, 24)) (fun _ a' k' er' h' => ?_) a k er h
      cases h'; decide
  · simp only at h
    rw [pStep_tl _ _ _ hn] at h
    refine nz_bind (p := fun a => pHasR l a 33) (fun a k er h => by simp only [pHasR] at h; cases h) (fun neg => nz_bind (nz_one l 65 90) fun k => nz_bind (nz_one l 32 32) fun _ => nz_bind (nz_one l 97 122) fun nm => nz_st1 l k neg nm) a k er h
theorem nz_steps (l : List UInt8) : ∀ (f : Nat) (ss : List Stp), Nz fun a => pSteps l f a ss
  | 0, ss => nz_ret ss
  | f + 1, ss => nz_if (fun a => pHas l a 44 = true) (nz_shift (nz_bind (nz_step l ss.length) fun x => nz_steps l f (ss ++ [x]))) (nz_ret ss)
theorem nz_conds (l : List UInt8) : ∀ (f : Nat) (cs : List Cnd), Nz fun a => pConds l f a cs
  | 0, cs => nz_ret cs
  | f + 1, cs => nz_if (fun a => pHas l a 65 = true) (nz_shift (nz_bind (nz_word l [78, 68, 32]) fun _ => nz_bind (nz_cond l cs.length) fun x => nz_bind (nz_word l [32]) fun _ => nz_conds l f (cs ++ [x]))) (nz_ret cs)
theorem nz_wh (l : List UInt8) : Nz fun a => pWh l a :=
  nz_if (fun a => pHas l a 72 = true) (nz_shift (nz_bind (nz_word l [69, 82, 69, 32]) fun _ => nz_bind (nz_cond l 0) fun x => nz_bind (nz_word l [32]) fun _ => nz_bind (nz_conds l 16 [x]) fun cs => nz_bind (nz_word l [87]) fun _ => nz_ret cs)) (nz_ret [])
theorem nz_head (l : List UInt8) : Nz fun a => pHead l a :=
  nz_bind (nz_word l [83, 69, 81, 40]) fun _ => nz_bind (nz_step l 0) fun x => nz_bind (nz_steps l 8 [x]) fun ss => nz_bind (nz_word l [41, 32, 87]) fun _ => nz_bind (nz_wh l) fun cs => nz_bind (nz_word l [73, 84, 72, 73, 78, 32]) fun _ => nz_ret (ss, cs)
theorem parse_nz {l : List UInt8} {k : Nat} {er : Int} (h : pParse l = .inl (k, er)) : er ≠ 0 := by
  unfold pParse at h
  split at h
  · cases h; decide
  · cases hp : pPat l with
    | inl f =>
      obtain ⟨k1, e1⟩ := f
      rw [hp] at h
      simp only [Sum.inl.injEq, Prod.mk.injEq] at h
      obtain ⟨rfl, rfl⟩ := h
      rw [pat_head] at hp
      exact nz_bind (nz_head l) (fun sc => nz_bind (nz_num l 48) fun k => nz_ret (⟨sc.1, sc.2, k⟩ : Ptn)) 0 _ _ hp
    | inr f =>
      rw [hp] at h
      simp only at h
      split at h
      · cases h; decide
      · cases h
end Go.Proofs.YtcfimponmioneaaDoor.PP
