/- A pattern that was read has the text that was read (layer 19), in plain Lean. No program in sight. -/
import Derived.Test.YtcfimponmioneaaDoorShP
import Derived.Test.YtcfimponmioneaaDoorPPat2
namespace Go.Proofs.YtcfimponmioneaaDoor.PS
open Go Go.Proofs.YtcfimponmioneaaDoor.PL Go.Proofs.YtcfimponmioneaaDoor.PP

/-- These bytes stand from one place up to another. -/
def Seg (l : List UInt8) (a a' : Nat) (w : List UInt8) : Prop := a' = a + w.length ∧ (l.drop a).take w.length = w
theorem Seg.nil (l : List UInt8) (a : Nat) : Seg l a a [] := ⟨rfl, by simp⟩
theorem Seg.app {l u v : List UInt8} {a b c : Nat} (h : Seg l a b u) (h' : Seg l b c v) : Seg l a c (u ++ v) := by
  obtain ⟨h1, h2⟩ := h
  obtain ⟨h3, h4⟩ := h'
  subst h1
  refine ⟨by rw [List.length_append]; omega, ?_⟩
  rw [List.length_append, List.take_add, h2, List.drop_drop, h4]
theorem Seg.one {l : List UInt8} {a : Nat} {b : UInt8} (h : l[a]? = some b) : Seg l a (a + 1) [b] := by
  refine ⟨rfl, ?_⟩
  have ha : a < l.length := by
    rcases Nat.lt_or_ge a l.length with h' | h'
    · exact h'
    · rw [List.getElem?_eq_none h'] at h; cases h
  rw [List.drop_eq_getElem_cons ha]
  rw [List.getElem?_eq_getElem ha] at h
  injection h with h
  simp [h]
theorem one_seg {l : List UInt8} {a lo hi v a' : Nat} (h : pOne l a lo hi = .inr (v, a')) : Seg l a a' [UInt8.ofNat v] ∧ lo ≤ v ∧ v ≤ hi ∧ v ≤ 255 := by
  unfold pOne at h
  cases hb : l[a]? with
  | none => rw [hb] at h; cases h
  | some b =>
    rw [hb] at h
    simp only at h
    split at h
    · rename_i hr
      injection h with h
      injection h with h1 h2
      subst h1 h2
      refine ⟨?_, hr.1, hr.2, by have := b.toNat_lt; omega⟩
      rw [UInt8.ofNat_toNat]
      exact Seg.one hb
    · cases h
theorem word_seg {l : List UInt8} : ∀ (w : List UInt8) {a a' : Nat} {u : Unit}, pWord l w a = .inr (u, a') → Seg l a a' w
  | [], a, a', u, h => by
    unfold pWord at h
    injection h with h
    injection h with _ h
    subst h
    exact Seg.nil l a
  | b :: r, a, a', u, h => by
    unfold pWord at h
    cases h1 : pOne l a b.toNat b.toNat with
    | inl f => rw [h1] at h; cases h
    | inr x =>
      obtain ⟨v, a1⟩ := x
      rw [h1] at h
      obtain ⟨s1, s2, s3, _⟩ := one_seg h1
      obtain rfl : v = b.toNat := by omega
      rw [UInt8.ofNat_toNat] at s1
      exact Seg.app s1 (word_seg r h)
theorem has_seg {l : List UInt8} {a b : Nat} (h : pHas l a b = true) (hb : b ≤ 255) : Seg l a (a + 1) [UInt8.ofNat b] := by
  unfold pHas at h
  cases hx : l[a]? with
  | none => rw [hx] at h; cases h
  | some x =>
    rw [hx] at h
    simp only at h
    have e : x.toNat = b := by simpa using h
    subst e
    rw [UInt8.ofNat_toNat]
    exact Seg.one hx
theorem dec_more {n d : Nat} (hn : 0 < n) (hd : d ≤ 9) : Lib.decDigits (10 * n + d) = Lib.decDigits n ++ [UInt8.ofNat (48 + d)] := by
  rw [Lib.decDigits, dif_neg (by omega)]
  congr 2
  · congr 1; omega
  · congr 2; omega
theorem dig_seg {l : List UInt8} : ∀ (f n a : Nat) {m a' : Nat}, 0 < n → pDig l f n a = (m, a') → 0 < m ∧ ∃ ds, Seg l a a' ds ∧ Lib.decDigits m = Lib.decDigits n ++ ds
  | 0, n, a, m, a', hn, h => by
    unfold pDig at h
    injection h with h1 h2
    subst h1 h2
    exact ⟨hn, [], Seg.nil l a, by simp⟩
  | f + 1, n, a, m, a', hn, h => by
    unfold pDig at h
    rw [if_pos hn] at h
    cases hb : l[a]? with
    | none =>
      rw [hb] at h
      injection h with h1 h2
      subst h1 h2
      exact ⟨hn, [], Seg.nil l a, by simp⟩
    | some b =>
      rw [hb] at h
      simp only at h
      split at h
      · rename_i hr
        obtain ⟨h1, ds, h2, h3⟩ := dig_seg f (10 * n + (b.toNat - 48)) (a + 1) (by omega) h
        refine ⟨h1, b :: ds, Seg.app (Seg.one hb) h2, ?_⟩
        rw [h3, dec_more hn (by omega), List.append_assoc]
        congr 1
        have e : 48 + (b.toNat - 48) = b.toNat := by omega
        rw [e, UInt8.ofNat_toNat]
        rfl
      · injection h with h1 h2
        subst h1 h2
        exact ⟨hn, [], Seg.nil l a, by simp⟩
theorem num_seg {l : List UInt8} {a least k a' : Nat} (h : pNum l a least = .inr (k, a')) (h48 : 48 ≤ least) : Seg l a a' (Lib.decDigits k) ∧ (49 ≤ least → 0 < k) := by
  unfold pNum at h
  cases h1 : pOne l a least 57 with
  | inl f => rw [h1] at h; cases h
  | inr x =>
    obtain ⟨b, a1⟩ := x
    rw [h1] at h
    simp only at h
    obtain ⟨s1, s2, s3, _⟩ := one_seg h1
    injection h with h
    have hd : Lib.decDigits (b - 48) = [UInt8.ofNat b] := by
      rw [Lib.decDigits, dif_pos (by omega)]
      congr 2; omega
    by_cases h0 : 0 < b - 48
    · obtain ⟨h2, ds, h3, h4⟩ := dig_seg 8 (b - 48) a1 h0 h
      refine ⟨?_, fun _ => h2⟩
      rw [h4, hd]
      exact Seg.app s1 h3
    · have hz : b - 48 = 0 := by omega
      rw [hz] at h
      have e : pDig l 8 0 a1 = (0, a1) := by unfold pDig; rw [if_neg (by omega)]
      rw [e] at h
      injection h with h2 h3
      subst h2 h3
      rw [hz] at hd
      rw [hd]
      exact ⟨s1, fun h => by omega⟩
theorem itoa_nat (k : Nat) : Lib.itoa (k : Int) = Lib.decDigits k := by
  unfold Lib.itoa
  rw [if_neg (by omega)]
  rfl
theorem itoa_neg' {k : Nat} (h : 0 < k) : Lib.itoa (-(k : Int)) = 45 :: Lib.decDigits k := by
  unfold Lib.itoa
  rw [if_pos (by omega)]
  congr 2
  omega
theorem op_seg {l : List UInt8} {a o a' : Nat} (h : pOp l a = .inr (o, a')) : Seg l a a' (signB o) ∧ o ≤ 5 := by
  unfold pOp at h
  by_cases h60 : pHas l a 60 = true
  · rw [if_pos h60] at h
    have s1 := has_seg h60 (by decide)
    by_cases h61 : pHas l (a + 1) 61 = true
    · rw [if_pos h61] at h
      injection h with h; injection h with h1 h2; subst h1 h2
      exact ⟨Seg.app s1 (has_seg h61 (by decide)), by omega⟩
    · rw [if_neg h61] at h
      injection h with h; injection h with h1 h2; subst h1 h2
      exact ⟨s1, by omega⟩
  · rw [if_neg h60] at h
    by_cases h62 : pHas l a 62 = true
    · rw [if_pos h62] at h
      have s1 := has_seg h62 (by decide)
      by_cases h61 : pHas l (a + 1) 61 = true
      · rw [if_pos h61] at h
        injection h with h; injection h with h1 h2; subst h1 h2
        exact ⟨Seg.app s1 (has_seg h61 (by decide)), by omega⟩
      · rw [if_neg h61] at h
        injection h with h; injection h with h1 h2; subst h1 h2
        exact ⟨s1, by omega⟩
    · rw [if_neg h62] at h
      by_cases h33 : pHas l a 33 = true
      · rw [if_pos h33] at h
        cases hw : pWord l [61] (a + 1) with
        | inl f => rw [hw] at h; cases h
        | inr x =>
          obtain ⟨u, a1⟩ := x
          rw [hw] at h
          injection h with h; injection h with h1 h2; subst h1 h2
          exact ⟨Seg.app (has_seg h33 (by decide)) (word_seg _ hw), by omega⟩
      · rw [if_neg h33] at h
        cases hw : pWord l [61] a with
        | inl f => rw [hw] at h; cases h
        | inr x =>
          obtain ⟨u, a1⟩ := x
          rw [hw] at h
          injection h with h; injection h with h1 h2; subst h1 h2
          exact ⟨word_seg _ hw, by omega⟩
theorem bind_inr {α β : Type} {x : PR α} {f : α → Nat → PR β} {r : β × Nat} (h : x.bind f = .inr r) : ∃ v a, x = .inr (v, a) ∧ f v a = .inr r := by
  cases x with
  | inl e => cases h
  | inr y => exact ⟨y.1, y.2, rfl, h⟩
theorem inr_inj {α : Type} {v w : α} {a b : Nat} (h : (.inr (v, a) : PR α) = .inr (w, b)) : v = w ∧ a = b := by
  injection h with h
  injection h with h1 h2
  exact ⟨h1, h2⟩

def toS (s : Stp) : GS := ⟨s.k, s.nm, s.neg, s.lo, s.hi⟩
def toC (c : Cnd) : GC := ⟨c.l, c.op, c.r, c.k⟩
def OkS (s : Stp) : Prop := (65 ≤ s.k ∧ s.k ≤ 90) ∧ 97 ≤ s.nm ∧ s.nm ≤ 122
def OkC (c : Cnd) : Prop := (97 ≤ c.l ∧ c.l ≤ 122) ∧ (c.r = 0 ∨ 97 ≤ c.r ∧ c.r ≤ 122) ∧ c.op ≤ 5
theorem byB_nat (n : Nat) : byB (n : Int) = UInt8.ofNat n := rfl
theorem cond_seg {l : List UInt8} {a n a' : Nat} {c : Cnd} (h : pCond l a n = .inr (c, a')) : Seg l a a' (showC (toC c)) ∧ OkC c := by
  unfold pCond at h
  split at h
  · obtain ⟨_, _, _, h⟩ := bind_inr h
    cases h
  · obtain ⟨x, a1, hx, h⟩ := bind_inr h
    obtain ⟨o, a2, ho, h⟩ := bind_inr h
    obtain ⟨s1, x1, x2, _⟩ := one_seg hx
    obtain ⟨s2, o5⟩ := op_seg ho
    by_cases h45 : peekB l a2 = 45
    · rw [if_pos h45] at h
      obtain ⟨k, a3, hk, h⟩ := bind_inr h
      obtain ⟨rfl, rfl⟩ := inr_inj h
      obtain ⟨s3, k0⟩ := num_seg hk (by omega)
      have s4 : Seg l a2 (a2 + 1) [45] := has_seg (b := 45) (by
        unfold peekB at h45
        unfold pHas
        cases hq : l[a2]? with
        | none => rw [hq] at h45; cases h45
        | some b => rw [hq] at h45; simp only at h45; simp [h45]) (by omega)
      refine ⟨?_, ⟨x1, x2⟩, .inl rfl, o5⟩
      have e : showC (toC ⟨x, o, 0, -(k : Int)⟩) = [UInt8.ofNat x] ++ (signB o ++ ([45] ++ Lib.decDigits k)) := by
        show UInt8.ofNat x :: (signB o ++ (if (0 : Int) = 0 then Lib.itoa (-(k : Int)) else _)) = _
        rw [if_pos rfl, itoa_neg' (k0 (by omega))]; rfl
      rw [e]
      exact Seg.app s1 (Seg.app s2 (Seg.app s4 s3))
    · rw [if_neg h45] at h
      by_cases hdg : 48 ≤ peekB l a2 ∧ peekB l a2 ≤ 57
      · rw [if_pos hdg] at h
        obtain ⟨k, a3, hk, h⟩ := bind_inr h
        obtain ⟨rfl, rfl⟩ := inr_inj h
        obtain ⟨s3, _⟩ := num_seg hk (by omega)
        refine ⟨?_, ⟨x1, x2⟩, .inl rfl, o5⟩
        have e : showC (toC ⟨x, o, 0, (k : Int)⟩) = [UInt8.ofNat x] ++ (signB o ++ Lib.decDigits k) := by
          show UInt8.ofNat x :: (signB o ++ (if (0 : Int) = 0 then Lib.itoa (k : Int) else _)) = _
          rw [if_pos rfl, itoa_nat]; rfl
        rw [e]
        exact Seg.app s1 (Seg.app s2 s3)
      · rw [if_neg hdg] at h
        obtain ⟨r, a3, hr, h⟩ := bind_inr h
        obtain ⟨s3, r1, r2, _⟩ := one_seg hr
        have rne : ¬ ((r : Int) = 0) := by omega
        have form : ∀ k : Int, showC (toC ⟨x, o, r, k⟩) = [UInt8.ofNat x] ++ (signB o ++ ([UInt8.ofNat r] ++ (if 0 < k then 43 :: Lib.itoa k else if k = 0 then [] else Lib.itoa k))) := by
          intro k
          show UInt8.ofNat x :: (signB o ++ (if (r : Int) = 0 then _ else UInt8.ofNat r :: _)) = _
          rw [if_neg rne]; rfl
        by_cases h43 : pHas l a3 43 = true
        · rw [if_pos h43] at h
          obtain ⟨k, a5, hk, h⟩ := bind_inr h
          obtain ⟨rfl, rfl⟩ := inr_inj h
          obtain ⟨s4, k0⟩ := num_seg hk (by omega)
          have k0 := k0 (by omega)
          refine ⟨?_, ⟨x1, x2⟩, .inr ⟨r1, r2⟩, o5⟩
          rw [form, if_pos (by omega), itoa_nat]
          exact Seg.app s1 (Seg.app s2 (Seg.app s3 (Seg.app (has_seg h43 (by decide)) s4)))
        · rw [if_neg h43] at h
          by_cases h45' : pHas l a3 45 = true
          · rw [if_pos h45'] at h
            obtain ⟨k, a5, hk, h⟩ := bind_inr h
            obtain ⟨rfl, rfl⟩ := inr_inj h
            obtain ⟨s4, k0⟩ := num_seg hk (by omega)
            have k0 := k0 (by omega)
            refine ⟨?_, ⟨x1, x2⟩, .inr ⟨r1, r2⟩, o5⟩
            rw [form, if_neg (by omega), if_neg (by omega), itoa_neg' k0]
            exact Seg.app s1 (Seg.app s2 (Seg.app s3 (Seg.app (has_seg h45' (by decide)) s4)))
          · rw [if_neg h45'] at h
            obtain ⟨rfl, rfl⟩ := inr_inj h
            refine ⟨?_, ⟨x1, x2⟩, .inr ⟨r1, r2⟩, o5⟩
            rw [form, if_neg (by omega), if_pos rfl]
            exact Seg.app s1 (Seg.app s2 (by simpa using s3))
theorem step_seg {l : List UInt8} {a n a' : Nat} {s : Stp} (h : pStep l a n = .inr (s, a')) : Seg l a a' (showS (toS s)) ∧ OkS s := by
  unfold pStep at h
  split at h
  · split at h
    · cases h
    · obtain ⟨_, _, _, h⟩ := bind_inr h
      cases h
  · obtain ⟨neg, a0, hneg, h⟩ := bind_inr h
    have s0 : Seg l a a0 (if neg = true then [33] else []) := by
      unfold pHasR at hneg
      by_cases hh : pHas l a 33 = true
      · rw [if_pos hh] at hneg
        obtain ⟨rfl, rfl⟩ := inr_inj hneg
        exact has_seg hh (by decide)
      · rw [if_neg hh] at hneg
        obtain ⟨rfl, rfl⟩ := inr_inj hneg
        exact Seg.nil l a
    obtain ⟨k, a1, hk, h⟩ := bind_inr h
    obtain ⟨u, a2, hw, h⟩ := bind_inr h
    obtain ⟨nm, a3, hnm, h⟩ := bind_inr h
    obtain ⟨s1, k1, k2, _⟩ := one_seg hk
    have s2 := word_seg _ hw
    obtain ⟨s3, m1, m2, _⟩ := one_seg hnm
    have base : Seg l a a3 ((if neg = true then [33] else []) ++ ([UInt8.ofNat k] ++ ([32] ++ [UInt8.ofNat nm]))) := Seg.app s0 (Seg.app s1 (Seg.app s2 s3))
    by_cases h123 : pHas l a3 123 = true
    · rw [if_pos h123] at h
      cases neg with
      | true => rw [if_pos rfl] at h; cases h
      | false =>
        rw [if_neg (by decide)] at h
        obtain ⟨lo, a4, hlo, h⟩ := bind_inr h
        obtain ⟨_, a5, hc, h⟩ := bind_inr h
        obtain ⟨hi, a6, hhi, h⟩ := bind_inr h
        obtain ⟨_, a7, hb, h⟩ := bind_inr h
        obtain ⟨t1, _⟩ := num_seg hlo (by omega)
        obtain ⟨t2, _⟩ := num_seg hhi (by omega)
        split at h
        · cases h
        · rename_i hr
          obtain ⟨rfl, rfl⟩ := inr_inj h
          refine ⟨?_, ⟨k1, k2⟩, m1, m2⟩
          have e : showS (toS ⟨k, nm, false, lo, hi⟩) = ((if false = true then [33] else []) ++ ([UInt8.ofNat k] ++ ([32] ++ [UInt8.ofNat nm]))) ++ ([123] ++ (Lib.decDigits lo ++ ([44] ++ (Lib.decDigits hi ++ [125])))) := by
            show (if false = true then [33] else []) ++ ([UInt8.ofNat k, 32, UInt8.ofNat nm] ++ (if (lo : Int) = 1 ∧ (hi : Int) = 1 then [] else 123 :: (Lib.itoa lo ++ 44 :: (Lib.itoa hi ++ [125])))) = _
            rw [if_neg (c := (lo : Int) = 1 ∧ (hi : Int) = 1) (by omega), itoa_nat, itoa_nat]
            simp
          rw [e]
          exact Seg.app base (Seg.app (has_seg h123 (by decide)) (Seg.app t1 (Seg.app (word_seg _ hc) (Seg.app t2 (word_seg _ hb)))))
    · rw [if_neg h123] at h
      obtain ⟨rfl, rfl⟩ := inr_inj h
      refine ⟨?_, ⟨k1, k2⟩, m1, m2⟩
      have e : showS (toS ⟨k, nm, neg, 1, 1⟩) = (if neg = true then [33] else []) ++ ([UInt8.ofNat k] ++ ([32] ++ [UInt8.ofNat nm])) := by
        show (if neg = true then [33] else []) ++ ([UInt8.ofNat k, 32, UInt8.ofNat nm] ++ (if (1 : Int) = 1 ∧ (1 : Int) = 1 then [] else _)) = _
        rw [if_pos (c := (1 : Int) = 1 ∧ (1 : Int) = 1) ⟨rfl, rfl⟩]
        simp
      rw [e]
      exact base

def tailS (l : List GS) : List UInt8 := l.flatMap fun s => 44 :: showS s
def tailA (l : List GC) : List UInt8 := l.flatMap fun c => andB ++ showC c
theorem join_tail {α : Type} (f : α → List UInt8) (sep : List UInt8) (x : α) : ∀ r : List α, Lib.join ((x :: r).map f) sep = f x ++ r.flatMap fun y => sep ++ f y
  | [] => by simp [Lib.join, List.intercalate]
  | y :: t => by
    have e1 : Lib.join ((x :: y :: t).map f) sep = f x ++ sep ++ Lib.join ((y :: t).map f) sep := by simp [Lib.join, List.intercalate]
    rw [e1, join_tail f sep y t]
    simp
theorem steps_seg {l : List UInt8} : ∀ (f a : Nat) (ss : List Stp) {ss' : List Stp} {a' : Nat}, pSteps l f a ss = .inr (ss', a') → ∃ new, ss' = ss ++ new ∧ Seg l a a' (tailS (new.map toS)) ∧ ∀ s ∈ new, OkS s
  | 0, a, ss, ss', a', h => by
    unfold pSteps at h
    obtain ⟨rfl, rfl⟩ := inr_inj h
    exact ⟨[], by simp, Seg.nil l a, by simp⟩
  | f + 1, a, ss, ss', a', h => by
    unfold pSteps at h
    by_cases h44 : pHas l a 44 = true
    · rw [if_pos h44] at h
      obtain ⟨x, a1, hx, h⟩ := bind_inr h
      obtain ⟨s1, ok⟩ := step_seg hx
      obtain ⟨new, e, s2, oks⟩ := steps_seg f a1 _ h
      refine ⟨x :: new, by rw [e]; simp, ?_, fun s hs => by rcases List.mem_cons.1 hs with rfl | hs; exact ok; exact oks s hs⟩
      exact Seg.app (Seg.app (has_seg h44 (by decide)) s1) s2
    · rw [if_neg h44] at h
      obtain ⟨rfl, rfl⟩ := inr_inj h
      exact ⟨[], by simp, Seg.nil l a, by simp⟩
theorem conds_seg {l : List UInt8} : ∀ (f a : Nat) (cs : List Cnd) {cs' : List Cnd} {a' : Nat}, pConds l f a cs = .inr (cs', a') → ∃ new, cs' = cs ++ new ∧ Seg l a a' ((new.map toC).flatMap fun c => [65, 78, 68, 32] ++ (showC c ++ [32])) ∧ ∀ c ∈ new, OkC c
  | 0, a, ss, ss', a', h => by
    unfold pConds at h
    obtain ⟨rfl, rfl⟩ := inr_inj h
    exact ⟨[], by simp, Seg.nil l a, by simp⟩
  | f + 1, a, ss, ss', a', h => by
    unfold pConds at h
    by_cases h65 : pHas l a 65 = true
    · rw [if_pos h65] at h
      obtain ⟨_, a1, hw, h⟩ := bind_inr h
      obtain ⟨x, a2, hx, h⟩ := bind_inr h
      obtain ⟨_, a3, hw2, h⟩ := bind_inr h
      obtain ⟨s1, ok⟩ := cond_seg hx
      obtain ⟨new, e, s2, oks⟩ := conds_seg f a3 _ h
      refine ⟨x :: new, by rw [e]; simp, ?_, fun s hs => by rcases List.mem_cons.1 hs with rfl | hs; exact ok; exact oks s hs⟩
      have e2 : (((x :: new).map toC).flatMap fun c => [65, 78, 68, 32] ++ (showC c ++ [32])) = (([65] ++ [78, 68, 32]) ++ (showC (toC x) ++ [32])) ++ ((new.map toC).flatMap fun c => [65, 78, 68, 32] ++ (showC c ++ [32])) := by simp
      rw [e2]
      exact Seg.app (Seg.app (Seg.app (has_seg h65 (by decide)) (word_seg _ hw)) (Seg.app s1 (word_seg _ hw2))) s2
    · rw [if_neg h65] at h
      obtain ⟨rfl, rfl⟩ := inr_inj h
      exact ⟨[], by simp, Seg.nil l a, by simp⟩
theorem and_shift (l : List GC) : [32] ++ (l.flatMap fun c => [65, 78, 68, 32] ++ (showC c ++ [32])) = tailA l ++ [32] := by
  induction l with
  | nil => rfl
  | cons c r ih =>
    have e : tailA (c :: r) = andB ++ showC c ++ tailA r := by simp [tailA]
    rw [e, List.append_assoc, ← ih]
    simp [andB]
theorem end_seg {l : List UInt8} {ss : List Stp} {cs : List Cnd} {a a' : Nat} {p : Ptn} (h : pEnd l ss cs a = .inr (p, a')) : ∃ k, p = ⟨ss, cs, k⟩ ∧ Seg l a a' ([73, 84, 72, 73, 78, 32] ++ Lib.itoa (k : Int)) := by
  unfold pEnd at h
  obtain ⟨_, a1, hw, h⟩ := bind_inr h
  obtain ⟨k, a2, hk, h⟩ := bind_inr h
  obtain ⟨rfl, rfl⟩ := inr_inj h
  obtain ⟨s, _⟩ := num_seg hk (by omega)
  exact ⟨k, rfl, by rw [itoa_nat]; exact Seg.app (word_seg _ hw) s⟩
/-- A pattern that was read has the text that was read; its kinds and names are letters. -/
theorem parse_show {l : List UInt8} {p : Ptn} (h : pParse l = .inr p) : showP (p.ss.map toS) (p.cs.map toC) p.wi = l ∧ (∀ s ∈ p.ss, OkS s) ∧ (∀ c ∈ p.cs, OkC c) := by
  unfold pParse at h
  split at h
  · cases h
  · cases hp : pPat l with
    | inl f => rw [hp] at h; cases h
    | inr x =>
      obtain ⟨q, a⟩ := x
      rw [hp] at h
      simp only at h
      split at h
      · cases h
      · rename_i hlen
        injection h with h
        subst h
        suffices hs : Seg l 0 a (showP (q.ss.map toS) (q.cs.map toC) q.wi) ∧ (∀ s ∈ q.ss, OkS s) ∧ (∀ c ∈ q.cs, OkC c) by
          refine ⟨?_, hs.2⟩
          obtain ⟨h1, h2⟩ := hs.1
          rw [List.drop_zero] at h2
          rw [← h2]
          have h3 := congrArg List.length h2
          rw [List.length_take] at h3
          exact List.take_of_length_le (by omega)
        unfold pPat at hp
        obtain ⟨_, a0, h0, hp⟩ := bind_inr hp
        obtain ⟨x, a1, h1, hp⟩ := bind_inr hp
        obtain ⟨ss, a2, h2, hp⟩ := bind_inr hp
        have s0 := word_seg _ h0
        obtain ⟨s1, ok1⟩ := step_seg h1
        obtain ⟨new, rfl, s2, ok2⟩ := steps_seg _ _ _ h2
        have okS : ∀ s ∈ [x] ++ new, OkS s := fun s hs => by rcases List.mem_cons.1 hs with rfl | hs; exact ok1; exact ok2 s hs
        have hj : Lib.join ((([x] ++ new).map toS).map showS) [44] = showS (toS x) ++ tailS (new.map toS) := join_tail showS [44] (toS x) (new.map toS)
        unfold pRest at hp
        obtain ⟨_, a3, h3, hp⟩ := bind_inr hp
        have s3 := word_seg _ h3
        by_cases hH : pHas l a3 72 = true
        · rw [if_pos hH] at hp
          obtain ⟨_, a4, h4, hp⟩ := bind_inr hp
          obtain ⟨c, a5, h5, hp⟩ := bind_inr hp
          obtain ⟨_, a6, h6, hp⟩ := bind_inr hp
          obtain ⟨cs, a7, h7, hp⟩ := bind_inr hp
          obtain ⟨_, a8, h8, hp⟩ := bind_inr hp
          obtain ⟨s5, ok5⟩ := cond_seg h5
          obtain ⟨newc, rfl, s7, ok7⟩ := conds_seg _ _ _ h7
          obtain ⟨k, rfl, s9⟩ := end_seg hp
          have hjc : Lib.join ((([c] ++ newc).map toC).map showC) andB = showC (toC c) ++ tailA (newc.map toC) := join_tail showC andB (toC c) (newc.map toC)
          refine ⟨?_, okS, fun s hs => by rcases List.mem_cons.1 hs with rfl | hs; exact ok5; exact ok7 s hs⟩
          have e : showP (([x] ++ new).map toS) (([c] ++ newc).map toC) k = seqB ++ (showS (toS x) ++ (tailS (new.map toS) ++ ([41, 32, 87] ++ ([72] ++ ([69, 82, 69, 32] ++ (showC (toC c) ++ (([32] ++ ((newc.map toC).flatMap fun c => [65, 78, 68, 32] ++ (showC c ++ [32]))) ++ ([87] ++ ([73, 84, 72, 73, 78, 32] ++ Lib.itoa (k : Int)))))))))) := by
            unfold showP
            rw [hj, if_neg (by simp), hjc, and_shift]
            simp [whereB, withinB]
          rw [e]
          exact Seg.app s0 (Seg.app s1 (Seg.app s2 (Seg.app s3 (Seg.app (has_seg hH (by decide)) (Seg.app (word_seg _ h4) (Seg.app s5 (Seg.app (Seg.app (word_seg _ h6) s7) (Seg.app (word_seg _ h8) s9))))))))
        · rw [if_neg hH] at hp
          obtain ⟨k, rfl, s9⟩ := end_seg hp
          refine ⟨?_, okS, by simp⟩
          have e : showP (([x] ++ new).map toS) (([] : List Cnd).map toC) k = seqB ++ (showS (toS x) ++ (tailS (new.map toS) ++ ([41, 32, 87] ++ ([73, 84, 72, 73, 78, 32] ++ Lib.itoa (k : Int))))) := by
            unfold showP
            rw [hj, if_pos (by simp)]
            simp [withinB]
          rw [e]
          exact Seg.app s0 (Seg.app s1 (Seg.app s2 (Seg.app s3 s9)))
end Go.Proofs.YtcfimponmioneaaDoor.PS
