/- PatternParses: the law's walk. -/
import Derived.Test.YtcfimponmioneaaSame
namespace Go.Proofs.Ytcfimponmioneaa.WP
open Go.RowKit Go.Proofs.Ytcfimponmioneaa Go.Proofs.Ytcfimponmioneaa.PP Go.Proofs.Ytcfimponmioneaa.Mem

theorem own_keep {w w' : World} {b : Nat} {e : TypeId} {s n : Nat} {v : Value} {xs : List Value} (h : w.ownsRow b e s v n xs) (hb : Below w.heap.size w w') : w'.ownsRow b e s v n xs := by
  refine h.kept (grown_of_below hb) ?_
  by_cases hx : v.ownBlock = none
  · exact .inl hx
  · exact .inr hx
/-- The two patterns that both readers hand back, as one. -/
def resP (r : Sum (Nat × Int) Ptn) : Ptn := match r with
  | .inl _ => ⟨[], [], 0⟩
  | .inr p => p
def resA (r : Sum (Nat × Int) Ptn) : Nat := match r with
  | .inl (k, _) => k
  | .inr _ => 0
def resE (r : Sum (Nat × Int) Ptn) : Int := match r with
  | .inl (_, e) => e
  | .inr _ => 0
theorem parse_one (s : ByteArray) (W : World) (r : Sum (Nat × Int) Ptn) (hr : pParse s.data.toList = r) : Calls Try.prog 12 #[.string s] W fun e w' => ∃ sl cl, e = .returned (.tuple #[.agg #[sl, cl, .int .i64 (resP r).wi], .int .i64 (resA r), .int .i64 (resE r)]) ∧ Below W.heap.size W w' ∧
    w'.ownsRow W.heap.size 76 5 sl (resP r).ss.length (cellsOf encS (resP r).ss) ∧ w'.ownsRow W.heap.size 78 4 cl (resP r).cs.length (cellsOf encC (resP r).cs) := by
  refine (parse_any s W).mono ?_
  rw [hr]
  rintro e w' ⟨hb, h⟩
  match r, h with
  | .inl (k, er), h => exact ⟨_, _, h, hb, World.ownsRow_nil _ _ _ _, World.ownsRow_nil _ _ _ _⟩
  | .inr p, h =>
    obtain ⟨sl, cl, h, o1, o2⟩ := h
    exact ⟨sl, cl, h, hb, o1, o2⟩
theorem parse9_one (s : ByteArray) (W : World) (r : Sum (Nat × Int) Ptn) (hr : pParse s.data.toList = r) : Calls Try.prog 13 #[.string s] W fun e w' => ∃ sl cl, e = .returned (.tuple #[.agg #[sl, cl, .int .i64 (resP r).wi], .int .i64 (resA r), .int .i64 (resE r)]) ∧ Below W.heap.size W w' ∧
    w'.ownsRow W.heap.size 92 5 sl (resP r).ss.length (cellsOf encS (resP r).ss) ∧ w'.ownsRow W.heap.size 97 4 cl (resP r).cs.length (cellsOf encC (resP r).cs) := by
  refine (parse9 s W).mono ?_
  rw [hr]
  rintro e w' ⟨hb, h⟩
  match r, h with
  | .inl (k, er), h => exact ⟨_, _, h, hb, World.ownsRow_nil _ _ _ _, World.ownsRow_nil _ _ _ _⟩
  | .inr p, h =>
    obtain ⟨sl, cl, h, o1, o2⟩ := h
    exact ⟨sl, cl, h, hb, o1, o2⟩

theorem pSteps_len {l : List UInt8} : ∀ (f a : Nat) (ss : List Stp) (r : List Stp) (a' : Nat), ss.length + f = 9 → pSteps l f a ss = .inr (r, a') → r.length ≤ 9 := by
  intro f
  induction f with
  | zero => intro a ss r a' hl h; simp only [pSteps] at h; cases h; omega
  | succ f ih =>
    intro a ss r a' hl h
    simp only [pSteps] at h
    split at h
    · cases hx : pStep l (a + 1) ss.length with
      | inl q => rw [hx] at h; cases h
      | inr q => rw [hx] at h; exact ih _ _ r a' (by simp; omega) h
    · cases h; omega
theorem pConds_len {l : List UInt8} : ∀ (f a : Nat) (cs : List Cnd) (r : List Cnd) (a' : Nat), cs.length + f = 17 → pConds l f a cs = .inr (r, a') → r.length ≤ 17 := by
  intro f
  induction f with
  | zero => intro a cs r a' hl h; simp only [pConds] at h; cases h; omega
  | succ f ih =>
    intro a cs r a' hl h
    simp only [pConds] at h
    split at h
    · cases h1 : pWord l [78, 68, 32] (a + 1) with
      | inl q => rw [h1] at h; cases h
      | inr q =>
        rw [h1] at h
        simp only [PR.bind] at h
        cases h2 : pCond l q.2 cs.length with
        | inl q => rw [h2] at h; cases h
        | inr q2 =>
          rw [h2] at h
          simp only at h
          cases h3 : pWord l [32] q2.2 with
          | inl q => rw [h3] at h; cases h
          | inr q3 => rw [h3] at h; exact ih _ _ r a' (by simp; omega) h
    · cases h; omega

theorem bind_get {α β : Type} {x : PR α} {f : α → Nat → PR β} {r : β × Nat} (h : x.bind f = .inr r) : ∃ v a, x = .inr (v, a) ∧ f v a = .inr r := by
  cases x with
  | inl q => cases h
  | inr q => exact ⟨q.1, q.2, rfl, h⟩
theorem pEnd_get {l : List UInt8} {ss : List Stp} {cs : List Cnd} {a : Nat} {r : Ptn × Nat} (h : pEnd l ss cs a = .inr r) : r.1.ss = ss ∧ r.1.cs = cs := by
  unfold pEnd at h
  obtain ⟨_, _, _, h⟩ := bind_get h
  obtain ⟨_, _, _, h⟩ := bind_get h
  cases h
  exact ⟨rfl, rfl⟩
theorem pPat_len {l : List UInt8} {r : Ptn × Nat} (h : pPat l = .inr r) : r.1.ss.length ≤ 9 ∧ r.1.cs.length ≤ 17 := by
  unfold pPat at h
  obtain ⟨_, _, _, h⟩ := bind_get h
  obtain ⟨x, _, _, h⟩ := bind_get h
  obtain ⟨ss, _, hs, h⟩ := bind_get h
  have hs9 := pSteps_len _ _ _ _ _ (by simp) hs
  unfold pRest at h
  obtain ⟨_, _, _, h⟩ := bind_get h
  split at h
  · obtain ⟨_, _, _, h⟩ := bind_get h
    obtain ⟨c, _, _, h⟩ := bind_get h
    obtain ⟨_, _, _, h⟩ := bind_get h
    obtain ⟨cs, _, hc, h⟩ := bind_get h
    have hc17 := pConds_len _ _ _ _ _ (by simp) hc
    obtain ⟨_, _, _, h⟩ := bind_get h
    obtain ⟨e1, e2⟩ := pEnd_get h
    rw [e1, e2]
    exact ⟨hs9, hc17⟩
  · obtain ⟨e1, e2⟩ := pEnd_get h
    rw [e1, e2]
    exact ⟨hs9, by simp⟩
theorem resP_len (l : List UInt8) : (resP (pParse l)).ss.length ≤ 9 ∧ (resP (pParse l)).cs.length ≤ 17 := by
  unfold pParse
  split
  · simp [resP]
  · cases h : pPat l with
    | inl f => simp [resP]
    | inr f =>
      have := pPat_len h
      simp only
      split
      · simp [resP]
      · exact this

set_option maxRecDepth 100000 in
set_option maxHeartbeats 1600000 in
theorem parses_law (s : ByteArray) (W : World) : Calls Try.prog 3 #[.string s] W fun e w' => e = .returned (.bool true) ∧ Below W.heap.size W w' := by
  obtain ⟨r, hr⟩ : ∃ r, pParse s.data.toList = r := ⟨_, rfl⟩
  have hlen := resP_len s.data.toList
  rw [hr] at hlen
  obtain ⟨hl1, hl2⟩ := hlen
  have P1 := Lib.hid (fun W => parse_one s W r hr)
  have P2 := Lib.hid (fun W => parse9_one s W r hr)
  clear hr
  obtain ⟨p, hp⟩ : ∃ p, p = resP r := ⟨_, rfl⟩
  obtain ⟨at0, ha⟩ : ∃ p, p = resA r := ⟨_, rfl⟩
  obtain ⟨er, he⟩ : ∃ p, p = resE r := ⟨_, rfl⟩
  simp only [← hp, ← ha, ← he] at P1 P2 hl1 hl2
  clear hp ha he
  go_enter Try.func3, Try.ntmps3
  go_wp2_with fail
  refine (P1.out _).mono ?_
  rintro e w1 ⟨sl, cl, rfl, hb1, o1, o2⟩
  have O1 := Lib.hid o1; have O2 := Lib.hid o2
  clear o1 o2
  obtain ⟨sad, scap, h1⟩ := own_slice O1.out
  obtain ⟨cad, ccap, h2⟩ := own_slice O2.out
  subst h1; subst h2
  go_wp2_with fail
  have hz2 : (w1.alloc (.cells #[.slice sad p.ss.length scap, .slice cad p.cs.length ccap, .int .i64 p.wi] 25)).heap.size = w1.heap.size + 1 := by simp
  have B2 := Lib.hid (hb1.alloc hb1.size (.cells #[.slice sad p.ss.length scap, .slice cad p.cs.length ccap, .int .i64 p.wi] 25))
  have O1 := Lib.hid (O1.out.alloc (.cells #[.slice sad p.ss.length scap, .slice cad p.cs.length ccap, .int .i64 p.wi] 25))
  have O2 := Lib.hid (O2.out.alloc (.cells #[.slice sad p.ss.length scap, .slice cad p.cs.length ccap, .int .i64 p.wi] 25))
  have X0 := Lib.hid (blk_new w1 (.cells #[.slice sad p.ss.length scap, .slice cad p.cs.length ccap, .int .i64 p.wi] 25))
  generalize w1.alloc (.cells #[.slice sad p.ss.length scap, .slice cad p.cs.length ccap, .int .i64 p.wi] 25) = w2 at *
  have hw1 := hb1.size
  generalize w1.heap.size = A1 at *
  clear hb1
  refine (P2.out _).mono ?_
  rintro e w3 ⟨sl2, cl2, rfl, hb3, o3, o4⟩
  have O3 := Lib.hid (own_base o3 (show W.heap.size ≤ w2.heap.size by omega)); have O4 := Lib.hid (own_base o4 (show W.heap.size ≤ w2.heap.size by omega))
  have O1 := Lib.hid (own_keep O1.out hb3); have O2 := Lib.hid (own_keep O2.out hb3)
  clear o3 o4
  obtain ⟨sad2, scap2, h1⟩ := own_slice O3.out
  obtain ⟨cad2, ccap2, h2⟩ := own_slice O4.out
  subst h1; subst h2
  have X0 := Lib.hid ((hb3.block _ (by omega)).trans X0.out)
  have B3 := Lib.hid (B2.out.trans (hb3.mono B2.out.size))
  have hw3 := hb3.size
  clear hb3
  go_wp2_with fail
  have hz4 : (w3.alloc (.cells #[.slice sad2 p.ss.length scap2, .slice cad2 p.cs.length ccap2, .int .i64 p.wi] 32)).heap.size = w3.heap.size + 1 := by simp
  have B4 := Lib.hid (B3.out.alloc B3.out.size (.cells #[.slice sad2 p.ss.length scap2, .slice cad2 p.cs.length ccap2, .int .i64 p.wi] 32))
  have O1 := Lib.hid (O1.out.alloc (.cells #[.slice sad2 p.ss.length scap2, .slice cad2 p.cs.length ccap2, .int .i64 p.wi] 32))
  have O2 := Lib.hid (O2.out.alloc (.cells #[.slice sad2 p.ss.length scap2, .slice cad2 p.cs.length ccap2, .int .i64 p.wi] 32))
  have O3 := Lib.hid (O3.out.alloc (.cells #[.slice sad2 p.ss.length scap2, .slice cad2 p.cs.length ccap2, .int .i64 p.wi] 32))
  have O4 := Lib.hid (O4.out.alloc (.cells #[.slice sad2 p.ss.length scap2, .slice cad2 p.cs.length ccap2, .int .i64 p.wi] 32))
  have X0 := Lib.hid (blk_alloc X0.out (.cells #[.slice sad2 p.ss.length scap2, .slice cad2 p.cs.length ccap2, .int .i64 p.wi] 32))
  have X1 := Lib.hid (blk_new w3 (.cells #[.slice sad2 p.ss.length scap2, .slice cad2 p.cs.length ccap2, .int .i64 p.wi] 32))
  generalize w3.alloc (.cells #[.slice sad2 p.ss.length scap2, .slice cad2 p.cs.length ccap2, .int .i64 p.wi] 32) = w4 at *
  generalize w3.heap.size = A3 at *
  refine (wakes_any _).mono ?_
  rintro e w5 ⟨rfl, hb5⟩
  have O1 := Lib.hid (own_keep O1.out hb5); have O2 := Lib.hid (own_keep O2.out hb5); have O3 := Lib.hid (own_keep O3.out hb5); have O4 := Lib.hid (own_keep O4.out hb5)
  have X0 := Lib.hid ((hb5.block _ (by omega)).trans X0.out)
  have X1 := Lib.hid ((hb5.block _ (by omega)).trans X1.out)
  have B5 := Lib.hid (B4.out.trans (hb5.mono B4.out.size))
  clear hb5
  have y0 : w5.cell? ⟨A1, 0, none⟩ = some (.slice sad p.ss.length scap) := (Lib.cell_of_heap X0.out 0).trans rfl
  have y1 : w5.cell? ⟨A1, 1, none⟩ = some (.slice cad p.cs.length ccap) := (Lib.cell_of_heap X0.out 1).trans rfl
  have y2 : w5.cell? ⟨A1, 2, none⟩ = some (.int .i64 p.wi) := (Lib.cell_of_heap X0.out 2).trans rfl
  have z0 : w5.cell? ⟨A3, 0, none⟩ = some (.slice sad2 p.ss.length scap2) := (Lib.cell_of_heap X1.out 0).trans rfl
  have z1 : w5.cell? ⟨A3, 1, none⟩ = some (.slice cad2 p.cs.length ccap2) := (Lib.cell_of_heap X1.out 1).trans rfl
  have z2 : w5.cell? ⟨A3, 2, none⟩ = some (.int .i64 p.wi) := (Lib.cell_of_heap X1.out 2).trans rfl
  go_wp2_with fail
  refine (same_any w5 _ _ _ _ p.ss p.cs p.wi W.heap.size O1.out O3.out O2.out O4.out (by omega) (by omega)).mono ?_
  rintro e w6 ⟨rfl, hb6⟩
  go_wp2_with fail
  go_ret
  exact ⟨rfl, B5.out.trans (hb6.mono B5.out.size)⟩
end Go.Proofs.Ytcfimponmioneaa.WP
