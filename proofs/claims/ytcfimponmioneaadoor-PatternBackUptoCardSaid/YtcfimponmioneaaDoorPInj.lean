/- Two patterns of letters that have one text are one (layer 19), in plain Lean. No program in sight. -/
import Derived.Test.YtcfimponmioneaaDoorPRead
namespace Go.Proofs.YtcfimponmioneaaDoor.PS
open Go Go.Proofs.YtcfimponmioneaaDoor.PL Go.Proofs.YtcfimponmioneaaDoor.PP

theorem split_at {c : UInt8} : ∀ {u v p q : List UInt8}, c ∉ u → c ∉ v → u ++ c :: p = v ++ c :: q → u = v ∧ p = q
  | [], [], p, q, _, _, h => by simpa using h
  | [], b :: v, p, q, _, hv, h => by
    simp only [List.nil_append, List.cons_append, List.cons.injEq] at h
    exact absurd (h.1 ▸ List.mem_cons_self ..) hv
  | a :: u, [], p, q, hu, _, h => by
    simp only [List.nil_append, List.cons_append, List.cons.injEq] at h
    exact absurd (h.1 ▸ List.mem_cons_self ..) hu
  | a :: u, b :: v, p, q, hu, hv, h => by
    simp only [List.cons_append, List.cons.injEq] at h
    obtain ⟨h1, h2⟩ := h
    obtain ⟨h3, h4⟩ := split_at (fun hm => hu (List.mem_cons_of_mem _ hm)) (fun hm => hv (List.mem_cons_of_mem _ hm)) h2
    exact ⟨by rw [h1, h3], h4⟩
theorem dec_mem : ∀ (N u : Nat), u ≤ N → ∀ b ∈ Lib.decDigits u, 48 ≤ b.toNat ∧ b.toNat ≤ 57
  | N, u, hN, b, hb => by
    rw [Lib.decDigits] at hb
    split at hb
    · rename_i hu
      simp only [List.mem_cons, List.not_mem_nil, or_false] at hb
      subst hb
      rw [UInt8.toNat_ofNat']
      omega
    · rename_i hu
      rcases List.mem_append.1 hb with hb | hb
      · match N with
        | 0 => omega
        | N + 1 => exact dec_mem N (u / 10) (by omega) b hb
      · simp only [List.mem_cons, List.not_mem_nil, or_false] at hb
        subst hb
        rw [UInt8.toNat_ofNat']
        omega
theorem itoa_mem {n : Int} {b : UInt8} (hb : b ∈ Lib.itoa n) : b = 45 ∨ (48 ≤ b.toNat ∧ b.toNat ≤ 57) := by
  unfold Lib.itoa at hb
  split at hb
  · rcases List.mem_cons.1 hb with hb | hb
    · exact .inl hb
    · exact .inr (dec_mem _ _ (Nat.le_refl _) b hb)
  · exact .inr (dec_mem _ _ (Nat.le_refl _) b hb)
theorem itoa_not {n : Int} {c : UInt8} (h1 : c ≠ 45) (h2 : c.toNat < 48 ∨ 57 < c.toNat) : c ∉ Lib.itoa n := by
  intro h
  rcases itoa_mem h with h | h
  · exact h1 h
  · omega
def valB (l : List UInt8) : Nat := l.foldl (fun n b => 10 * n + (b.toNat - 48)) 0
theorem dec_val : ∀ (N u : Nat), u ≤ N → valB (Lib.decDigits u) = u
  | N, u, hN => by
    rw [Lib.decDigits]
    split
    · rename_i hu
      simp [valB, UInt8.toNat_ofNat']
      omega
    · rename_i hu
      match N with
      | 0 => omega
      | N + 1 =>
        have ih := dec_val N (u / 10) (by omega)
        unfold valB at ih ⊢
        rw [List.foldl_append, ih]
        simp [UInt8.toNat_ofNat']
        omega
theorem dec_ne (u : Nat) : Lib.decDigits u ≠ [] := by
  rw [Lib.decDigits]
  split <;> simp
theorem itoa_inj {a b : Int} (h : Lib.itoa a = Lib.itoa b) : a = b := by
  have neg : ∀ {x y : Int}, x < 0 → ¬ y < 0 → Lib.itoa x ≠ Lib.itoa y := by
    intro x y hx hy e
    unfold Lib.itoa at e
    rw [if_pos hx, if_neg hy] at e
    have := dec_mem _ _ (Nat.le_refl _) 45 (e ▸ List.mem_cons_self ..)
    exact absurd this.1 (by decide)
  by_cases ha : a < 0
  · by_cases hb : b < 0
    · unfold Lib.itoa at h
      rw [if_pos ha, if_pos hb] at h
      injection h with _ h
      have h1 := dec_val _ _ (Nat.le_refl a.natAbs)
      have h2 := dec_val _ _ (Nat.le_refl b.natAbs)
      rw [h] at h1
      omega
    · exact absurd h (neg ha hb)
  · by_cases hb : b < 0
    · exact absurd h.symm (neg hb ha)
    · unfold Lib.itoa at h
      rw [if_neg ha, if_neg hb] at h
      have h1 := dec_val _ _ (Nat.le_refl a.toNat)
      have h2 := dec_val _ _ (Nat.le_refl b.toNat)
      rw [h] at h1
      omega
theorem itoa_head (n : Int) : ∃ b t, Lib.itoa n = b :: t ∧ (b = 45 ∨ (48 ≤ b.toNat ∧ b.toNat ≤ 57)) := by
  cases h : Lib.itoa n with
  | nil =>
    exfalso
    unfold Lib.itoa at h
    split at h
    · cases h
    · exact dec_ne _ h
  | cons b t => exact ⟨b, t, rfl, itoa_mem (h ▸ List.mem_cons_self ..)⟩
theorem byB_inj {a b : Int} (ha : 0 ≤ a ∧ a ≤ 255) (hb : 0 ≤ b ∧ b ≤ 255) (h : byB a = byB b) : a = b := by
  have := congrArg UInt8.toNat h
  unfold byB at this
  rw [UInt8.toNat_ofNat', UInt8.toNat_ofNat'] at this
  omega
theorem byB_toNat {a : Int} (ha : 0 ≤ a ∧ a ≤ 255) : (byB a).toNat = a.toNat := by
  unfold byB
  rw [UInt8.toNat_ofNat']
  omega

/-- Letters stand where letters must. -/
def LetS (s : GS) : Prop := (65 ≤ s.k ∧ s.k ≤ 90) ∧ 97 ≤ s.nm ∧ s.nm ≤ 122
def LetC (c : GC) : Prop := (97 ≤ c.l ∧ c.l ≤ 122) ∧ (c.r = 0 ∨ 97 ≤ c.r ∧ c.r ≤ 122)
theorem let_of_okS {s : Stp} (h : OkS s) : LetS (toS s) := ⟨⟨by have := h.1.1; show (65 : Int) ≤ (s.k : Int); omega, by have := h.1.2; show (s.k : Int) ≤ 90; omega⟩, by have := h.2.1; show (97 : Int) ≤ (s.nm : Int); omega, by have := h.2.2; show (s.nm : Int) ≤ 122; omega⟩
theorem let_of_okC {c : Cnd} (h : OkC c) : LetC (toC c) := ⟨⟨by have := h.1.1; show (97 : Int) ≤ (c.l : Int); omega, by have := h.1.2; show (c.l : Int) ≤ 122; omega⟩, by
  rcases h.2.1 with h | h
  · exact .inl (by show (c.r : Int) = 0; omega)
  · exact .inr ⟨by show (97 : Int) ≤ (c.r : Int); omega, by show (c.r : Int) ≤ 122; omega⟩⟩
theorem cnt_inj {s t : GS} {x y : List UInt8} {a b : UInt8} (ha : a = 44 ∨ a = 41) (hb : b = 44 ∨ b = 41) (h : cntB s ++ a :: x = cntB t ++ b :: y) : (s.lo = t.lo ∧ s.hi = t.hi) ∧ a :: x = b :: y := by
  have h123 : ∀ {c : UInt8} (hc : c = 44 ∨ c = 41), c ≠ 123 := by rintro c (rfl | rfl) <;> decide
  unfold cntB at h
  by_cases hs : s.lo = 1 ∧ s.hi = 1
  · by_cases ht : t.lo = 1 ∧ t.hi = 1
    · rw [if_pos hs, if_pos ht] at h
      exact ⟨⟨hs.1.trans ht.1.symm, hs.2.trans ht.2.symm⟩, by simpa using h⟩
    · rw [if_pos hs, if_neg ht] at h
      simp only [List.nil_append, List.cons_append, List.cons.injEq] at h
      exact absurd h.1 (h123 ha)
  · by_cases ht : t.lo = 1 ∧ t.hi = 1
    · rw [if_neg hs, if_pos ht] at h
      simp only [List.nil_append, List.cons_append, List.cons.injEq] at h
      exact absurd h.1.symm (h123 hb)
    · rw [if_neg hs, if_neg ht] at h
      simp only [List.cons_append, List.cons.injEq, List.append_assoc, true_and, List.nil_append] at h
      obtain ⟨h1, h2⟩ := split_at (itoa_not (by decide) (by decide)) (itoa_not (by decide) (by decide)) h
      obtain ⟨h3, h4⟩ := split_at (itoa_not (by decide) (by decide)) (itoa_not (by decide) (by decide)) h2
      exact ⟨⟨itoa_inj h1, itoa_inj h3⟩, h4⟩
theorem showS_inj {s t : GS} {x y : List UInt8} {a b : UInt8} (hs : LetS s) (ht : LetS t) (ha : a = 44 ∨ a = 41) (hb : b = 44 ∨ b = 41) (h : showS s ++ a :: x = showS t ++ b :: y) : s = t ∧ a :: x = b :: y := by
  obtain ⟨⟨s1, s2⟩, s3, s4⟩ := hs
  obtain ⟨⟨t1, t2⟩, t3, t4⟩ := ht
  have n33 : ∀ {k : Int}, 65 ≤ k → k ≤ 90 → byB k ≠ 33 := by
    intro k h1 h2 e
    have := congrArg UInt8.toNat e
    rw [byB_toNat ⟨by omega, by omega⟩] at this
    have e33 : (33 : UInt8).toNat = 33 := rfl
    omega
  obtain ⟨k, nm, neg, lo, hi⟩ := s
  obtain ⟨k', nm', neg', lo', hi'⟩ := t
  simp only at s1 s2 s3 s4 t1 t2 t3 t4
  unfold showS at h
  simp only at h
  have main : ∀ {p q : List UInt8}, ([byB k, 32, byB nm] ++ cntB ⟨k, nm, neg, lo, hi⟩) ++ a :: x = ([byB k', 32, byB nm'] ++ cntB ⟨k', nm', neg', lo', hi'⟩) ++ b :: y → (k = k' ∧ nm = nm' ∧ lo = lo' ∧ hi = hi') ∧ a :: x = b :: y := by
    intro _ _ h
    simp only [List.cons_append, List.cons.injEq, List.nil_append, true_and] at h
    obtain ⟨h1, h2, h3⟩ := h
    obtain ⟨⟨h4, h5⟩, h6⟩ := cnt_inj ha hb h3
    exact ⟨⟨byB_inj ⟨by omega, by omega⟩ ⟨by omega, by omega⟩ h1, byB_inj ⟨by omega, by omega⟩ ⟨by omega, by omega⟩ h2, h4, h5⟩, h6⟩
  cases neg with
  | true =>
    cases neg' with
    | true =>
      rw [if_pos rfl] at h
      simp only [List.cons_append, List.nil_append, List.cons.injEq, true_and] at h
      obtain ⟨⟨rfl, rfl, rfl, rfl⟩, h6⟩ := main (p := []) (q := []) (by simpa using h)
      exact ⟨rfl, h6⟩
    | false =>
      rw [if_pos rfl, if_neg (by decide)] at h
      simp only [List.cons_append, List.nil_append, List.cons.injEq] at h
      exact absurd h.1.symm (n33 t1 t2)
  | false =>
    cases neg' with
    | true =>
      rw [if_neg (by decide), if_pos rfl] at h
      simp only [List.cons_append, List.nil_append, List.cons.injEq] at h
      exact absurd h.1 (n33 s1 s2)
    | false =>
      rw [if_neg (show ¬ (false = true) by decide)] at h
      obtain ⟨⟨rfl, rfl, rfl, rfl⟩, h6⟩ := main (p := []) (q := []) (by simpa using h)
      exact ⟨rfl, h6⟩
theorem tailS_head (l : List GS) (x : List UInt8) : ∃ a t, tailS l ++ 41 :: x = a :: t ∧ (a = 44 ∨ a = 41) := by
  cases l with
  | nil => exact ⟨41, x, rfl, .inr rfl⟩
  | cons s r => exact ⟨44, showS s ++ tailS r ++ 41 :: x, by simp [tailS], .inl rfl⟩
theorem tailS_inj : ∀ {l m : List GS} {x y : List UInt8}, (∀ s ∈ l, LetS s) → (∀ s ∈ m, LetS s) → tailS l ++ 41 :: x = tailS m ++ 41 :: y → l = m ∧ x = y
  | [], [], x, y, _, _, h => by simpa [tailS] using h
  | [], t :: m, x, y, _, _, h => by simp [tailS] at h
  | s :: l, [], x, y, _, _, h => by simp [tailS] at h
  | s :: l, t :: m, x, y, hl, hm, h => by
    have e : ∀ (s : GS) (l : List GS) (x : List UInt8), tailS (s :: l) ++ 41 :: x = 44 :: (showS s ++ (tailS l ++ 41 :: x)) := by intros; simp [tailS]
    rw [e, e] at h
    injection h with _ h
    obtain ⟨a, u, hu, ha⟩ := tailS_head l x
    obtain ⟨b, v, hv, hb⟩ := tailS_head m y
    rw [hu, hv] at h
    obtain ⟨rfl, h2⟩ := showS_inj (hl s (List.mem_cons_self ..)) (hm t (List.mem_cons_self ..)) ha hb h
    rw [← hu, ← hv] at h2
    obtain ⟨rfl, rfl⟩ := tailS_inj (fun s hs => hl s (List.mem_cons_of_mem _ hs)) (fun s hs => hm s (List.mem_cons_of_mem _ hs)) h2
    exact ⟨rfl, rfl⟩
theorem join_steps_inj {l m : List GS} {x y : List UInt8} (hl : ∀ s ∈ l, LetS s) (hm : ∀ s ∈ m, LetS s) (h : Lib.join (l.map showS) [44] ++ 41 :: x = Lib.join (m.map showS) [44] ++ 41 :: y) : l = m ∧ x = y := by
  have hd : ∀ (s : GS) (t : List UInt8), LetS s → ∀ z, showS s ++ t ≠ 41 :: z := by
    intro s t hs z e
    unfold showS at e
    cases hn : s.neg with
    | true => rw [hn, if_pos rfl] at e; simp at e
    | false =>
      rw [hn, if_neg (by decide)] at e
      simp only [List.nil_append, List.cons_append, List.cons.injEq] at e
      have := congrArg UInt8.toNat e.1
      rw [byB_toNat ⟨by have := hs.1.1; omega, by have := hs.1.2; omega⟩] at this
      have e41 : (41 : UInt8).toNat = 41 := rfl
      have := hs.1.1
      omega
  cases l with
  | nil =>
    cases m with
    | nil => simpa [Lib.join, List.intercalate] using h
    | cons t m =>
      rw [join_tail] at h
      exact absurd (by simpa [Lib.join, List.intercalate] using h.symm) (hd t _ (hm t (List.mem_cons_self ..)) x)
  | cons s l =>
    cases m with
    | nil =>
      rw [join_tail] at h
      exact absurd (by simpa [Lib.join, List.intercalate] using h) (hd s _ (hl s (List.mem_cons_self ..)) y)
    | cons t m =>
      rw [join_tail, join_tail] at h
      have h' : showS s ++ (tailS l ++ 41 :: x) = showS t ++ (tailS m ++ 41 :: y) := by simpa [tailS] using h
      obtain ⟨a, u, hu, ha⟩ := tailS_head l x
      obtain ⟨b, v, hv, hb⟩ := tailS_head m y
      rw [hu, hv] at h'
      obtain ⟨rfl, h2⟩ := showS_inj (hl s (List.mem_cons_self ..)) (hm t (List.mem_cons_self ..)) ha hb h'
      rw [← hu, ← hv] at h2
      obtain ⟨rfl, rfl⟩ := tailS_inj (fun s hs => hl s (List.mem_cons_of_mem _ hs)) (fun s hs => hm s (List.mem_cons_of_mem _ hs)) h2
      exact ⟨rfl, rfl⟩

/-- A number behind a name. -/
def sgnB (k : Int) : List UInt8 := if 0 < k then 43 :: Lib.itoa k else if k = 0 then [] else Lib.itoa k
theorem sgn_not (k : Int) : (32 : UInt8) ∉ sgnB k := by
  unfold sgnB
  split
  · intro h
    rcases List.mem_cons.1 h with h | h
    · exact absurd h (by decide)
    · exact itoa_not (by decide) (by decide) h
  · split
    · simp
    · exact itoa_not (by decide) (by decide)
theorem sgn_inj {a b : Int} (h : sgnB a = sgnB b) : a = b := by
  have h43 : ∀ {x y : Int}, 43 :: Lib.itoa x ≠ Lib.itoa y := fun e => itoa_not (n := _) (c := 43) (by decide) (by decide) (e ▸ List.mem_cons_self ..)
  unfold sgnB at h
  by_cases ha : 0 < a
  · rw [if_pos ha] at h
    by_cases hb : 0 < b
    · rw [if_pos hb] at h
      injection h with _ h
      exact itoa_inj h
    · rw [if_neg hb] at h
      by_cases hb0 : b = 0
      · rw [if_pos hb0] at h; cases h
      · rw [if_neg hb0] at h; exact absurd h h43
  · rw [if_neg ha] at h
    by_cases hb : 0 < b
    · rw [if_pos hb] at h
      by_cases ha0 : a = 0
      · rw [if_pos ha0] at h; cases h
      · rw [if_neg ha0] at h; exact absurd h.symm h43
    · rw [if_neg hb] at h
      by_cases ha0 : a = 0
      · by_cases hb0 : b = 0
        · omega
        · rw [if_pos ha0, if_neg hb0] at h
          obtain ⟨c, t, hc, _⟩ := itoa_head b
          rw [hc] at h; cases h
      · by_cases hb0 : b = 0
        · rw [if_neg ha0, if_pos hb0] at h
          obtain ⟨c, t, hc, _⟩ := itoa_head a
          rw [hc] at h; cases h
        · rw [if_neg ha0, if_neg hb0] at h
          exact itoa_inj h
theorem tailC_eq (c : GC) : tailC c = if c.r = 0 then Lib.itoa c.k else byB c.r :: sgnB c.k := rfl
theorem tailC_head (c : GC) (h : LetC c) : ∃ b t, tailC c = b :: t ∧ b ≠ 61 := by
  rw [tailC_eq]
  by_cases hr : c.r = 0
  · rw [if_pos hr]
    obtain ⟨b, t, e, hb⟩ := itoa_head c.k
    refine ⟨b, t, e, ?_⟩
    rintro rfl
    rcases hb with hb | hb
    · exact absurd hb (by decide)
    · exact absurd hb.2 (by decide)
  · rw [if_neg hr]
    refine ⟨_, _, rfl, fun e => ?_⟩
    rcases h.2 with h | h
    · exact hr h
    · have := congrArg UInt8.toNat e
      rw [byB_toNat ⟨by omega, by omega⟩] at this
      have e61 : (61 : UInt8).toNat = 61 := rfl
      omega
theorem tailC_inj {c d : GC} {x y : List UInt8} (hc : LetC c) (hd : LetC d) (h : tailC c ++ 32 :: x = tailC d ++ 32 :: y) : (c.r = d.r ∧ c.k = d.k) ∧ x = y := by
  have mix : ∀ {c d : GC} {x y : List UInt8}, LetC d → c.r = 0 → d.r ≠ 0 → tailC c ++ 32 :: x ≠ tailC d ++ 32 :: y := by
    intro c d x y hd hc0 hd0 e
    rw [tailC_eq, tailC_eq, if_pos hc0, if_neg hd0] at e
    obtain ⟨b, t, eb, hb⟩ := itoa_head c.k
    rw [eb] at e
    simp only [List.cons_append, List.cons.injEq] at e
    rcases hd.2 with h | h
    · exact hd0 h
    · have h1 := congrArg UInt8.toNat e.1
      rw [byB_toNat ⟨by omega, by omega⟩] at h1
      have e45 : (45 : UInt8).toNat = 45 := rfl
      rcases hb with rfl | hb <;> omega
  by_cases hcr : c.r = 0
  · by_cases hdr : d.r = 0
    · rw [tailC_eq, tailC_eq, if_pos hcr, if_pos hdr] at h
      obtain ⟨h1, h2⟩ := split_at (itoa_not (by decide) (by decide)) (itoa_not (by decide) (by decide)) h
      exact ⟨⟨hcr.trans hdr.symm, itoa_inj h1⟩, h2⟩
    · exact absurd h (mix hd hcr hdr)
  · by_cases hdr : d.r = 0
    · exact absurd h.symm (mix hc hdr hcr)
    · rw [tailC_eq, tailC_eq, if_neg hcr, if_neg hdr] at h
      simp only [List.cons_append, List.cons.injEq] at h
      obtain ⟨h1, h2⟩ := split_at (sgn_not _) (sgn_not _) h.2
      have b1 : 0 ≤ c.r ∧ c.r ≤ 255 := by rcases hc.2 with h | h <;> omega
      have b2 : 0 ≤ d.r ∧ d.r ≤ 255 := by rcases hd.2 with h | h <;> omega
      exact ⟨⟨byB_inj b1 b2 h.1, sgn_inj h1⟩, h2⟩
theorem sign_inj {a b : Int} {u v : UInt8} {x y : List UInt8} (hu : u ≠ 61) (hv : v ≠ 61) (hb : 0 ≤ b ∧ b ≤ 5) (h : signB a ++ u :: x = signB b ++ v :: y) : a = b ∧ u :: x = v :: y := by
  have hb' : b = 0 ∨ b = 1 ∨ b = 2 ∨ b = 3 ∨ b = 4 ∨ b = 5 := by omega
  have s0 : signB 0 = [60] := rfl
  have s1 : signB 1 = [60, 61] := rfl
  have s2 : signB 2 = [61] := rfl
  have s3 : signB 3 = [33, 61] := rfl
  have s4 : signB 4 = [62, 61] := rfl
  have s5 : signB 5 = [62] := rfl
  by_cases ha : 0 ≤ a ∧ a ≤ 5
  · have ha' : a = 0 ∨ a = 1 ∨ a = 2 ∨ a = 3 ∨ a = 4 ∨ a = 5 := by omega
    rcases ha' with rfl | rfl | rfl | rfl | rfl | rfl <;> rcases hb' with rfl | rfl | rfl | rfl | rfl | rfl <;>
      simp only [s0, s1, s2, s3, s4, s5, List.cons_append, List.nil_append, List.cons.injEq] at h <;>
      first
      | (exfalso; obtain ⟨h1, _⟩ := h; revert h1; decide)
      | (exfalso; exact hu h.2.1)
      | (exfalso; exact hv h.2.1.symm)
      | (refine ⟨rfl, ?_⟩; rw [List.cons.injEq]; exact h.2)
      | (refine ⟨rfl, ?_⟩; rw [List.cons.injEq]; exact h.2.2)
  · have e : signB a = [63] := by
      unfold signB
      rw [if_neg (by omega), if_neg (by omega), if_neg (by omega), if_neg (by omega), if_neg (by omega), if_neg (by omega)]
    rw [e] at h
    rcases hb' with rfl | rfl | rfl | rfl | rfl | rfl <;>
      simp only [s0, s1, s2, s3, s4, s5, List.cons_append, List.nil_append, List.cons.injEq] at h <;>
      (exfalso; obtain ⟨h1, _⟩ := h; revert h1; decide)
theorem showC_inj {c d : GC} {x y : List UInt8} (hc : LetC c) (hd : LetC d) (ho : 0 ≤ d.op ∧ d.op ≤ 5) (h : showC c ++ 32 :: x = showC d ++ 32 :: y) : c = d ∧ x = y := by
  unfold showC at h
  simp only [List.cons_append, List.cons.injEq, List.append_assoc] at h
  obtain ⟨h1, h2⟩ := h
  obtain ⟨b, t, eb, nb⟩ := tailC_head c hc
  obtain ⟨b', t', eb', nb'⟩ := tailC_head d hd
  have h2' : signB c.op ++ b :: (t ++ 32 :: x) = signB d.op ++ b' :: (t' ++ 32 :: y) := by simpa [eb, eb'] using h2
  obtain ⟨h3, h4⟩ := sign_inj nb nb' ho h2'
  have h5 : tailC c ++ 32 :: x = tailC d ++ 32 :: y := by rw [eb, eb']; simpa using h4
  obtain ⟨⟨h6, h7⟩, h8⟩ := tailC_inj hc hd h5
  have h9 := byB_inj ⟨by have := hc.1.1; omega, by have := hc.1.2; omega⟩ ⟨by have := hd.1.1; omega, by have := hd.1.2; omega⟩ h1
  obtain ⟨l, op, r, k⟩ := c
  obtain ⟨l', op', r', k'⟩ := d
  simp only at h3 h6 h7 h9
  subst h3 h6 h7 h9
  exact ⟨rfl, h8⟩
theorem tailA_inj : ∀ {l m : List GC} {x y : List UInt8}, (∀ c ∈ l, LetC c) → (∀ c ∈ m, LetC c ∧ 0 ≤ c.op ∧ c.op ≤ 5) → tailA l ++ (withinB ++ x) = tailA m ++ (withinB ++ y) → l = m ∧ x = y
  | [], [], x, y, _, _, h => by simpa [tailA] using h
  | [], t :: m, x, y, _, _, h => by
    simp [tailA, withinB, andB] at h
  | s :: l, [], x, y, _, _, h => by simp [tailA, withinB, andB] at h
  | s :: l, t :: m, x, y, hl, hm, h => by
    have hd : ∀ (l : List GC) (x : List UInt8), ∃ z, tailA l ++ (withinB ++ x) = 32 :: z := by
      intro l x
      cases l with
      | nil => exact ⟨_, rfl⟩
      | cons c r => exact ⟨_, by simp [tailA, andB]; rfl⟩
    have e : ∀ (s : GC) (l : List GC) (x : List UInt8), tailA (s :: l) ++ (withinB ++ x) = andB ++ (showC s ++ (tailA l ++ (withinB ++ x))) := by intros; simp [tailA]
    rw [e, e] at h
    have h := List.append_cancel_left h
    obtain ⟨u, hu⟩ := hd l x
    obtain ⟨v, hv⟩ := hd m y
    rw [hu, hv] at h
    have ht := hm t (List.mem_cons_self ..)
    obtain ⟨rfl, h2⟩ := showC_inj (hl s (List.mem_cons_self ..)) ht.1 ht.2 h
    have h3 : tailA l ++ (withinB ++ x) = tailA m ++ (withinB ++ y) := by rw [hu, hv, h2]
    obtain ⟨rfl, rfl⟩ := tailA_inj (fun s hs => hl s (List.mem_cons_of_mem _ hs)) (fun s hs => hm s (List.mem_cons_of_mem _ hs)) h3
    exact ⟨rfl, rfl⟩
/-- Two patterns of letters that have one text are one, where the second one's ops are ops. -/
theorem showP_inj {ss tt : List GS} {cs dd : List GC} {wi wj : Int} (hs : ∀ s ∈ ss, LetS s) (ht : ∀ s ∈ tt, LetS s) (hc : ∀ c ∈ cs, LetC c) (hd : ∀ c ∈ dd, LetC c ∧ 0 ≤ c.op ∧ c.op ≤ 5) (h : showP ss cs wi = showP tt dd wj) : ss = tt ∧ cs = dd ∧ wi = wj := by
  have form : ∀ (ss : List GS) (cs : List GC) (wi : Int), showP ss cs wi = seqB ++ (Lib.join (ss.map showS) [44] ++ 41 :: ((if cs = [] then [] else whereB ++ Lib.join (cs.map showC) andB) ++ (withinB ++ Lib.itoa wi))) := by
    intros; unfold showP; simp
  rw [form, form] at h
  obtain ⟨rfl, h2⟩ := join_steps_inj hs ht (List.append_cancel_left h)
  refine ⟨rfl, ?_⟩
  cases cs with
  | nil =>
    cases dd with
    | nil =>
      rw [if_pos rfl] at h2
      exact ⟨rfl, itoa_inj (List.append_cancel_left (List.append_cancel_left h2))⟩
    | cons d dd =>
      rw [if_pos rfl, if_neg (by simp)] at h2
      simp [withinB, whereB] at h2
  | cons c cs =>
    cases dd with
    | nil =>
      rw [if_pos rfl, if_neg (by simp)] at h2
      simp [withinB, whereB] at h2
    | cons d dd =>
      rw [if_neg (by simp), if_neg (by simp), join_tail, join_tail] at h2
      have h3 : tailA (c :: cs) ++ (withinB ++ Lib.itoa wi) = tailA (d :: dd) ++ (withinB ++ Lib.itoa wj) := by
        simp only [List.append_assoc] at h2
        have := List.append_cancel_left h2
        simpa [tailA] using this
      obtain ⟨h4, h5⟩ := tailA_inj hc hd h3
      exact ⟨h4, itoa_inj h5⟩
/-! ### The numbers that are read -/
theorem dig_lt {l : List UInt8} : ∀ (f n a : Nat), (pDig l f n a).1 + 1 ≤ (n + 1) * 10 ^ f
  | 0, n, a => by unfold pDig; simp
  | f + 1, n, a => by
    unfold pDig
    have h0 : n + 1 ≤ (n + 1) * 10 ^ (f + 1) := Nat.le_mul_of_pos_right _ (Nat.pow_pos (by decide))
    by_cases hn : 0 < n
    · rw [if_pos hn]
      cases l[a]? with
      | none => exact h0
      | some b =>
        simp only
        split
        · rename_i hr
          have ih := dig_lt (l := l) f (10 * n + (b.toNat - 48)) (a + 1)
          have h2 : (10 * n + (b.toNat - 48) + 1) * 10 ^ f ≤ ((n + 1) * 10) * 10 ^ f := Nat.mul_le_mul_right _ (by omega)
          have h3 : ((n + 1) * 10) * 10 ^ f = (n + 1) * 10 ^ (f + 1) := by rw [Nat.pow_succ, Nat.mul_assoc, Nat.mul_comm 10]
          omega
        · exact h0
    · rw [if_neg hn]; exact h0
theorem num_lt9 {l : List UInt8} {a least k a' : Nat} (h : pNum l a least = .inr (k, a')) : k < 1000000000 := by
  unfold pNum at h
  cases h1 : pOne l a least 57 with
  | inl f => rw [h1] at h; cases h
  | inr x =>
    obtain ⟨b, a1⟩ := x
    rw [h1] at h
    simp only at h
    obtain ⟨_, _, s3, _⟩ := one_seg h1
    injection h with h
    have h2 := dig_lt (l := l) 8 (b - 48) a1
    rw [h] at h2
    have h3 : (b - 48 + 1) * 10 ^ 8 ≤ 10 * 10 ^ 8 := Nat.mul_le_mul_right _ (by omega)
    have h4 : (10 : Nat) * 10 ^ 8 = 1000000000 := by decide
    simp only at h2
    omega
def NumS (s : Stp) : Prop := s.lo ≤ 4 ∧ s.hi ≤ 4
def NumC (c : Cnd) : Prop := -1000000000 < c.k ∧ c.k < 1000000000
theorem step_num {l : List UInt8} {a n a' : Nat} {s : Stp} (h : pStep l a n = .inr (s, a')) : NumS s := by
  unfold pStep at h
  split at h
  · split at h
    · cases h
    · obtain ⟨_, _, _, h⟩ := bind_inr h
      cases h
  · obtain ⟨neg, a0, hneg, h⟩ := bind_inr h
    obtain ⟨k, a1, hk, h⟩ := bind_inr h
    obtain ⟨u, a2, hw, h⟩ := bind_inr h
    obtain ⟨nm, a3, hnm, h⟩ := bind_inr h
    split at h
    · split at h
      · cases h
      · obtain ⟨lo, a4, hlo, h⟩ := bind_inr h
        obtain ⟨_, a5, hc, h⟩ := bind_inr h
        obtain ⟨hi, a6, hhi, h⟩ := bind_inr h
        obtain ⟨_, a7, hb, h⟩ := bind_inr h
        split at h
        · cases h
        · obtain ⟨rfl, rfl⟩ := inr_inj h
          unfold NumS
          dsimp only
          omega
    · obtain ⟨rfl, rfl⟩ := inr_inj h
      unfold NumS
      dsimp only
      omega
theorem cond_num {l : List UInt8} {a n a' : Nat} {c : Cnd} (h : pCond l a n = .inr (c, a')) : NumC c := by
  unfold pCond at h
  split at h
  · obtain ⟨_, _, _, h⟩ := bind_inr h
    cases h
  · obtain ⟨x, a1, hx, h⟩ := bind_inr h
    obtain ⟨o, a2, ho, h⟩ := bind_inr h
    split at h
    · obtain ⟨k, a3, hk, h⟩ := bind_inr h
      obtain ⟨rfl, rfl⟩ := inr_inj h
      have := num_lt9 hk
      unfold NumC; dsimp only; omega
    · split at h
      · obtain ⟨k, a3, hk, h⟩ := bind_inr h
        obtain ⟨rfl, rfl⟩ := inr_inj h
        have := num_lt9 hk
        unfold NumC; dsimp only; omega
      · obtain ⟨r, a3, hr, h⟩ := bind_inr h
        split at h
        · obtain ⟨k, a5, hk, h⟩ := bind_inr h
          obtain ⟨rfl, rfl⟩ := inr_inj h
          have := num_lt9 hk
          unfold NumC; dsimp only; omega
        · split at h
          · obtain ⟨k, a5, hk, h⟩ := bind_inr h
            obtain ⟨rfl, rfl⟩ := inr_inj h
            have := num_lt9 hk
            unfold NumC; dsimp only; omega
          · obtain ⟨rfl, rfl⟩ := inr_inj h
            unfold NumC; dsimp only; omega
theorem steps_num {l : List UInt8} : ∀ (f a : Nat) (ss : List Stp) {ss' : List Stp} {a' : Nat}, pSteps l f a ss = .inr (ss', a') → (∀ s ∈ ss, NumS s) → (∀ s ∈ ss', NumS s) ∧ ss'.length ≤ ss.length + f
  | 0, a, ss, ss', a', h, hs => by
    unfold pSteps at h
    obtain ⟨rfl, rfl⟩ := inr_inj h
    exact ⟨hs, by omega⟩
  | f + 1, a, ss, ss', a', h, hs => by
    unfold pSteps at h
    split at h
    · obtain ⟨x, a1, hx, h⟩ := bind_inr h
      obtain ⟨h1, h2⟩ := steps_num f a1 _ h (fun s hm => by
        rcases List.mem_append.1 hm with hm | hm
        · exact hs s hm
        · simp only [List.mem_cons, List.not_mem_nil, or_false] at hm
          subst hm
          exact step_num hx)
      exact ⟨h1, by rw [List.length_append] at h2; simp only [List.length_cons, List.length_nil] at h2; omega⟩
    · obtain ⟨rfl, rfl⟩ := inr_inj h
      exact ⟨hs, by omega⟩
theorem conds_num {l : List UInt8} : ∀ (f a : Nat) (ss : List Cnd) {ss' : List Cnd} {a' : Nat}, pConds l f a ss = .inr (ss', a') → (∀ s ∈ ss, NumC s) → (∀ s ∈ ss', NumC s) ∧ ss'.length ≤ ss.length + f
  | 0, a, ss, ss', a', h, hs => by
    unfold pConds at h
    obtain ⟨rfl, rfl⟩ := inr_inj h
    exact ⟨hs, by omega⟩
  | f + 1, a, ss, ss', a', h, hs => by
    unfold pConds at h
    split at h
    · obtain ⟨_, a0, _, h⟩ := bind_inr h
      obtain ⟨x, a1, hx, h⟩ := bind_inr h
      obtain ⟨_, a2, _, h⟩ := bind_inr h
      obtain ⟨h1, h2⟩ := conds_num f a2 _ h (fun s hm => by
        rcases List.mem_append.1 hm with hm | hm
        · exact hs s hm
        · simp only [List.mem_cons, List.not_mem_nil, or_false] at hm
          subst hm
          exact cond_num hx)
      exact ⟨h1, by rw [List.length_append] at h2; simp only [List.length_cons, List.length_nil] at h2; omega⟩
    · obtain ⟨rfl, rfl⟩ := inr_inj h
      exact ⟨hs, by omega⟩
theorem end_num {l : List UInt8} {ss : List Stp} {cs : List Cnd} {a a' : Nat} {p : Ptn} (h : pEnd l ss cs a = .inr (p, a')) : p.ss = ss ∧ p.cs = cs ∧ p.wi < 1000000000 := by
  unfold pEnd at h
  obtain ⟨_, a1, hw, h⟩ := bind_inr h
  obtain ⟨k, a2, hk, h⟩ := bind_inr h
  obtain ⟨rfl, rfl⟩ := inr_inj h
  exact ⟨rfl, rfl, num_lt9 hk⟩
/-- The numbers of a pattern that was read are small. -/
theorem parse_num {l : List UInt8} {p : Ptn} (h : pParse l = .inr p) : ((∀ s ∈ p.ss, NumS s) ∧ p.ss.length ≤ 9) ∧ ((∀ c ∈ p.cs, NumC c) ∧ p.cs.length ≤ 17) ∧ p.wi < 1000000000 := by
  unfold pParse at h
  split at h
  · cases h
  · cases hp : pPat l with
    | inl f => rw [hp] at h; cases h
    | inr x =>
      obtain ⟨q, a⟩ := x
      rw [hp] at h
      simp only at h
      split at h
      · cases h
      · injection h with h
        subst h
        unfold pPat at hp
        obtain ⟨_, a0, h0, hp⟩ := bind_inr hp
        obtain ⟨x, a1, h1, hp⟩ := bind_inr hp
        obtain ⟨ss, a2, h2, hp⟩ := bind_inr hp
        have hss := steps_num _ _ _ h2 (fun s hm => by simp only [List.mem_cons, List.not_mem_nil, or_false] at hm; subst hm; exact step_num h1)
        unfold pRest at hp
        obtain ⟨_, a3, h3, hp⟩ := bind_inr hp
        split at hp
        · obtain ⟨_, a4, h4, hp⟩ := bind_inr hp
          obtain ⟨c, a5, h5, hp⟩ := bind_inr hp
          obtain ⟨_, a6, h6, hp⟩ := bind_inr hp
          obtain ⟨cs, a7, h7, hp⟩ := bind_inr hp
          obtain ⟨_, a8, h8, hp⟩ := bind_inr hp
          obtain ⟨e1, e2, e3⟩ := end_num hp
          have hcs := conds_num _ _ _ h7 (fun s hm => by simp only [List.mem_cons, List.not_mem_nil, or_false] at hm; subst hm; exact cond_num h5)
          rw [e1, e2]
          exact ⟨⟨hss.1, by simpa using hss.2⟩, ⟨hcs.1, by simpa using hcs.2⟩, e3⟩
        · obtain ⟨e1, e2, e3⟩ := end_num hp
          rw [e1, e2]
          exact ⟨⟨hss.1, by simpa using hss.2⟩, ⟨by simp, by simp⟩, e3⟩
theorem fit_toS {s : Stp} (h : OkS s) (hn : NumS s) : fitS (toS s) := by
  obtain ⟨⟨h1, h2⟩, h3, h4⟩ := h
  obtain ⟨h5, h6⟩ := hn
  exact ⟨⟨by show (0 : Int) ≤ (s.k : Int); omega, by show (s.k : Int) ≤ 255; omega⟩, ⟨by show (0 : Int) ≤ (s.nm : Int); omega, by show (s.nm : Int) ≤ 255; omega⟩, ⟨by show (-9223372036854775808 : Int) ≤ (s.lo : Int); omega, by show (s.lo : Int) ≤ 9223372036854775807; omega⟩, by show (-9223372036854775808 : Int) ≤ (s.hi : Int); omega, by show (s.hi : Int) ≤ 9223372036854775807; omega⟩
theorem fit_toC {c : Cnd} (h : OkC c) (hn : NumC c) : fitC (toC c) := by
  obtain ⟨⟨h1, h2⟩, h3, h4⟩ := h
  obtain ⟨h5, h6⟩ := hn
  exact ⟨⟨by show (0 : Int) ≤ (c.l : Int); omega, by show (c.l : Int) ≤ 255; omega⟩, ⟨by show (0 : Int) ≤ (c.r : Int); omega, by show (c.r : Int) ≤ 255; omega⟩, ⟨by show (-9223372036854775808 : Int) ≤ (c.op : Int); omega, by show (c.op : Int) ≤ 9223372036854775807; omega⟩, by show (-9223372036854775808 : Int) ≤ c.k; omega, by show c.k ≤ 9223372036854775807; omega⟩
/-- What is read of a pattern's own text, where its letters are letters, is that pattern. -/
theorem read_back {ss : List GS} {cs : List GC} {wi : Int} {p : Ptn} (hs : ∀ s ∈ ss, LetS s) (hc : ∀ c ∈ cs, LetC c) (h : pParse (showP ss cs wi) = .inr p) : ss = p.ss.map toS ∧ cs = p.cs.map toC ∧ wi = p.wi := by
  obtain ⟨h1, h2, h3⟩ := parse_show h
  refine showP_inj hs ?_ hc ?_ h1.symm
  · intro s hs
    obtain ⟨x, hx, rfl⟩ := List.mem_map.1 hs
    exact let_of_okS (h2 x hx)
  · intro c hc
    obtain ⟨x, hx, rfl⟩ := List.mem_map.1 hc
    have ok := h3 x hx
    refine ⟨let_of_okC ok, ?_, ?_⟩
    · show (0 : Int) ≤ (x.op : Int); omega
    · have := ok.2.2; show (x.op : Int) ≤ 5; omega
end Go.Proofs.YtcfimponmioneaaDoor.PS
