/- The walk of pattern.Parse. -/
import Derived.Test.YtcfimponmioneaaDoorWPat6
namespace Go.Proofs.YtcfimponmioneaaDoor.WP
open Go.RowKit Go.Proofs.YtcfimponmioneaaDoor Go.Proofs.YtcfimponmioneaaDoor.PP Go.Proofs.YtcfimponmioneaaDoor.Mem

/-- What Parse leaves. -/
def PostT (W : World) (r : Sum (Nat × Int) Ptn) (e : Ending) (w' : World) : Prop :=
  Below W.heap.size W w' ∧ match r with
  | .inl (k, er) => e = .returned (.tuple #[.agg #[.slice none 0 0, .slice none 0 0, .int .i64 0], .int .i64 k, .int .i64 er])
  | .inr p => ∃ sl cl, e = .returned (.tuple #[.agg #[sl, cl, .int .i64 p.wi], .int .i64 0, .int .i64 0]) ∧
      w'.ownsRow W.heap.size 48 5 sl p.ss.length (cellsOf encS p.ss) ∧ w'.ownsRow W.heap.size 54 4 cl p.cs.length (cellsOf encC p.cs)

theorem own_base {w : World} {b b' : Nat} {e : TypeId} {s n : Nat} {v : Value} {xs : List Value} (h : w.ownsRow b e s v n xs) (hb : b' ≤ b) : w.ownsRow b' e s v n xs := by
  refine ⟨h.1, ?_⟩
  rcases h.2 with h | ⟨g, cap, cur, rfl, hg, rest⟩
  · exact .inl h
  · exact .inr ⟨g, cap, cur, rfl, Nat.le_trans hb hg, rest⟩
theorem below_grown1 {W w w' : World} {R : Nat} (h : Below W.heap.size W w) (hg : w.grownBy w' (some R)) (hR : W.heap.size ≤ R) : Below W.heap.size W w' :=
  h.trans ⟨hg.os, hg.tape, hg.output, hg.size, fun k hk => hg.block k (by have := h.size; omega) (by simp; omega)⟩

/-- The function's results, read out of their blocks. -/
theorem res_parse {w : World} {B : Nat} {c0 c1 c2 c3 c4 : Value} {tmps : Array Value} (h2 : tmps[2]? = some (.pointer (some ⟨B, 0, none⟩))) (h3 : tmps[3]? = some (.pointer (some ⟨B + 1, 0, none⟩))) (h4 : tmps[4]? = some (.pointer (some ⟨B + 2, 0, none⟩)))
    (s0 : w.heap[B]? = some (.cells #[c0, c1, c2] 29 (0, 0))) (s1 : w.heap[B + 1]? = some (.cells #[c3] 3 (0, 0))) (s2 : w.heap[B + 2]? = some (.cells #[c4] 40 (0, 0))) :
    (results Tryd.f9 tmps).run Tryd.prog w = .ok (.tuple #[.agg #[c0, c1, c2], c3, c4]) w := by
  have e0 : w.cell? ⟨B, 0, none⟩ = some c0 := (Lib.cell_of_heap s0 0).trans rfl
  have e1 : w.cell? ⟨B, 1, none⟩ = some c1 := (Lib.cell_of_heap s0 1).trans rfl
  have e2 : w.cell? ⟨B, 2, none⟩ = some c2 := (Lib.cell_of_heap s0 2).trans rfl
  have e3 : w.cell? ⟨B + 1, 0, none⟩ = some c3 := (Lib.cell_of_heap s1 0).trans rfl
  have e4 : w.cell? ⟨B + 2, 0, none⟩ = some c4 := (Lib.cell_of_heap s2 0).trans rfl
  simp [results, Tryd.results9, go_sem, h2, h3, h4, e0, e1, e2, e3, e4]

theorem grown_of_below {w w' : World} (h : Below w.heap.size w w') : w.grownBy w' none := ⟨h.os, h.tape, h.output, h.size, fun k hk _ => h.block k hk⟩
/-- The result's stores. -/
theorem fin3 {w : World} {B : Nat} {t0 t1 t2 : TypeId} {c0 c1 c2 c3 c4 : Value} (T0 : w.heap[B]? = some (.cells #[c0, c1, c2] t0 (0, 0))) (T1 : w.heap[B + 1]? = some (.cells #[c3] t1 (0, 0))) (T2 : w.heap[B + 2]? = some (.cells #[c4] t2 (0, 0))) {W : World} (hb : Below B W w) (v0 v1 v2 : Value)
    {e1 e2 : TypeId} {b1 b2 z1 z2 n1 n2 : Nat} {x1 x2 : Value} {xs1 xs2 : List Value} (o1 : w.ownsRow b1 e1 z1 x1 n1 xs1) (o2 : w.ownsRow b2 e2 z2 x2 n2 xs2) (h1 : e1 ≠ t0) (h2 : e2 ≠ t0) :
    let w' := ((w.setCell ⟨B, 0, none⟩ v0).setCell ⟨B, 1, none⟩ v1).setCell ⟨B, 2, none⟩ v2
    w'.heap[B]? = some (.cells #[v0, v1, v2] t0 (0, 0)) ∧ w'.heap[B + 1]? = some (.cells #[c3] t1 (0, 0)) ∧ w'.heap[B + 2]? = some (.cells #[c4] t2 (0, 0)) ∧ Below B W w' ∧ w'.ownsRow b1 e1 z1 x1 n1 xs1 ∧ w'.ownsRow b2 e2 z2 x2 n2 xs2 := by
  have q1 := blk_set T0 0 v0
  have q2 := blk_set q1 1 v1
  have q3 := blk_set q2 2 v2
  have hb1 := hb.setCell (p := ⟨B, 0, none⟩) (Nat.le_refl _) v0
  have hb2 := hb1.setCell (p := ⟨B, 1, none⟩) (Nat.le_refl _) v1
  have hb3 := hb2.setCell (p := ⟨B, 2, none⟩) (Nat.le_refl _) v2
  exact ⟨q3, blk_other (blk_other (blk_other T1 B 0 v0 (by omega)) B 1 v1 (by omega)) B 2 v2 (by omega), blk_other (blk_other (blk_other T2 B 0 v0 (by omega)) B 1 v1 (by omega)) B 2 v2 (by omega), hb3,
    own_set (own_set (own_set o1 T0 h1) q1 h1) q2 h1, own_set (own_set (own_set o2 T0 h2) q1 h2) q2 h2⟩
theorem fin2 {w : World} {B : Nat} {t0 t1 t2 : TypeId} {cs : Array Value} {c3 c4 : Value} (T0 : w.heap[B]? = some (.cells cs t0 (0, 0))) (T1 : w.heap[B + 1]? = some (.cells #[c3] t1 (0, 0))) (T2 : w.heap[B + 2]? = some (.cells #[c4] t2 (0, 0))) {W : World} (hb : Below B W w) (v3 v4 : Value)
    {e1 e2 : TypeId} {b1 b2 z1 z2 n1 n2 : Nat} {x1 x2 : Value} {xs1 xs2 : List Value} (o1 : w.ownsRow b1 e1 z1 x1 n1 xs1) (o2 : w.ownsRow b2 e2 z2 x2 n2 xs2) (h1 : e1 ≠ t1) (h2 : e2 ≠ t1) (h3 : e1 ≠ t2) (h4 : e2 ≠ t2) :
    let w' := (w.setCell ⟨B + 1, 0, none⟩ v3).setCell ⟨B + 2, 0, none⟩ v4
    w'.heap[B]? = some (.cells cs t0 (0, 0)) ∧ w'.heap[B + 1]? = some (.cells #[v3] t1 (0, 0)) ∧ w'.heap[B + 2]? = some (.cells #[v4] t2 (0, 0)) ∧ Below B W w' ∧ w'.ownsRow b1 e1 z1 x1 n1 xs1 ∧ w'.ownsRow b2 e2 z2 x2 n2 xs2 := by
  have q1 := blk_other T2 (B + 1) 0 v3 (by omega)
  have hb1 := hb.setCell (p := ⟨B + 1, 0, none⟩) (Nat.le_succ B) v3
  have hb2 := hb1.setCell (p := ⟨B + 2, 0, none⟩) (Nat.le_add_right B 2) v4
  exact ⟨blk_other (blk_other T0 (B + 1) 0 v3 (by omega)) (B + 2) 0 v4 (by omega), blk_other (blk_set T1 0 v3) (B + 2) 0 v4 (by omega), blk_set q1 0 v4, hb2, own_set (own_set o1 T1 h1) q1 h3, own_set (own_set o2 T1 h2) q1 h4⟩

set_option maxRecDepth 100000 in
set_option maxHeartbeats 1600000 in
theorem parse_any (s : ByteArray) (W : World) : Calls Tryd.prog 9 #[.string s] W (PostT W (pParse s.data.toList)) := by
  have hlen : s.data.toList.length = s.size := Array.length_toList
  have hmf : ∀ (fn : Fn) (first cap : Array Value) (w : World), (Instr.makeFunc fn first cap).run Tryd.prog w = .ok (.func fn first cap) w := fun _ _ _ _ => rfl
  by_cases hlong : 4096 < s.size
  · have hP : pParse s.data.toList = .inl (0, 5) := by unfold pParse; rw [if_pos (by omega)]
    rw [hP]
    have hl : (4096 : Int) < s.size := by omega
    clear hP hlen hlong
    go_enter_defers Tryd.func9, Tryd.ntmps9
    go_wp2_with fail
    refine ⟨_, res_parse rfl rfl rfl (blk_alloc (blk_alloc (blk_new W _) _) _) (blk_alloc (heap_new (by simp)) _) (heap_new (by simp)), ?_⟩
    exact ⟨(((Below.refl _ _).alloc (Nat.le_refl _) _).alloc (by simp) _).alloc (by simp; omega) _, rfl⟩
  · have hl : (s.size : Int) ≤ 4096 := by omega
    obtain ⟨w4, hw4⟩ : ∃ w4, w4 = (((W.alloc (.cells #[.slice none 0 0, .slice none 0 0, .int .i64 0] 29)).alloc (.cells #[.int .i64 0] 3)).alloc (.cells #[.int .i64 0] 40)).alloc (.cells #[.string s, .int .i64 0] 68) := ⟨_, rfl⟩
    have hz4 : w4.heap.size = W.heap.size + 4 := by rw [hw4]; simp
    have s0 : w4.heap[W.heap.size]? = some (.cells #[.slice none 0 0, .slice none 0 0, .int .i64 0] 29 (0, 0)) := by
      rw [hw4]; exact blk_alloc (blk_alloc (blk_alloc (blk_new W _) _) _) _
    have s1 : w4.heap[W.heap.size + 1]? = some (.cells #[.int .i64 0] 3 (0, 0)) := by
      rw [hw4]; exact blk_alloc (blk_alloc (heap_new (by simp)) _) _
    have s2 : w4.heap[W.heap.size + 2]? = some (.cells #[.int .i64 0] 40 (0, 0)) := by
      rw [hw4]; exact blk_alloc (heap_new (by simp)) _
    have hrd : Rd w4 (W.heap.size + 3) s 0 := by
      rw [hw4]; exact heap_new (by simp)
    have hbel : Below W.heap.size W w4 := by
      rw [hw4]; exact ((((Below.refl _ _).alloc (Nat.le_refl _) _).alloc (by simp) _).alloc (by simp; omega) _).alloc (by simp; omega) _
    have hpat := pattern_any (W.heap.size + 3) s w4 hrd (by omega)
    have HP := Lib.hid (show pParse s.data.toList = (match pPat s.data.toList with
      | .inl f => .inl f
      | .inr (p, a) => if a < s.data.toList.length then .inl (a, 20) else .inr p) by unfold pParse; rw [if_neg (by omega)]; rfl)
    have Hlen := Lib.hid hlen
    have Hpat := Lib.hid hpat
    have S0 := Lib.hid s0; have S1 := Lib.hid s1; have S2 := Lib.hid s2
    clear hrd hpat hlen s0 s1 s2 hlong
    go_enter_defers Tryd.func9, Tryd.ntmps9
    go_wp2_with fail
    rw [← hw4]
    refine Hpat.out.mono ?_
    rintro e w5 hpost
    cases hpp : pPat s.data.toList with
    | inl f =>
      obtain ⟨k, er⟩ := f
      rw [hpp] at hpost HP
      obtain ⟨rfl, hg5⟩ := hpost
      have HP := HP.out
      simp only at HP
      go_wp2_with fail
      refine leaves_cons (f := 18) (args := #[.pointer (some ⟨W.heap.size, 0, none⟩), .pointer (some ⟨W.heap.size + 1, 0, none⟩), .pointer (some ⟨W.heap.size + 2, 0, none⟩)]) (by simp) (by simp [go_sem]) ?_
      refine (catch_panic W.heap.size k er _ _ _ _ _ w5 (blk_grown S0.out hg5 (by omega)) (blk_grown S1.out hg5 (by omega)) (blk_grown S2.out hg5 (by omega))).mono ?_
      rintro e u' w6 ⟨rfl, rfl, hb6, t0, t1, t2⟩
      refine ⟨_, res_parse rfl rfl rfl t0 t1 t2, ?_⟩
      exact ⟨(below_grown1 hbel hg5 (by omega)).trans hb6, rfl⟩
    | inr f =>
      obtain ⟨p, a⟩ := f
      rw [hpp] at hpost HP
      obtain ⟨sl, cl, rfl, hr5, hg5, ha5, ho1, ho2⟩ := hpost
      have HP := Lib.hid (show pParse s.data.toList = if a < s.data.toList.length then .inl ((a : Nat), (20 : Int)) else .inr p from HP.out)
      rw [Hlen.out] at HP
      obtain ⟨sad, scap, hsl⟩ := own_slice ho1
      obtain ⟨cad, ccap, hcl⟩ := own_slice ho2
      subst hsl; subst hcl
      have T0 := Lib.hid (blk_grown S0.out hg5 (by omega)); have T1 := Lib.hid (blk_grown S1.out hg5 (by omega)); have T2 := Lib.hid (blk_grown S2.out hg5 (by omega))
      have hb5 := below_grown1 hbel hg5 (by omega)
      have hz5 := hg5.size
      obtain ⟨r0, r1, r2⟩ := hr5.cells
      have r1 : w5.cell? ⟨W.heap.size + 1 + 1 + 1, 1, none⟩ = some (.int .i64 a) := r1
      have f0 := Lib.frozen_of_heap T0.out 0; have f1 := Lib.frozen_of_heap T0.out 1; have f2 := Lib.frozen_of_heap T0.out 2
      have f3 := Lib.frozen_of_heap T1.out 0
      have f4 : w5.frozen? ⟨W.heap.size + 1 + 1, 0, none⟩ = false := Lib.frozen_of_heap T2.out 0
      have g0 : w5.cell? ⟨W.heap.size, 0, none⟩ = some (.slice none 0 0) := (Lib.cell_of_heap T0.out 0).trans rfl
      have g1 : w5.cell? ⟨W.heap.size, 1, none⟩ = some (.slice none 0 0) := (Lib.cell_of_heap T0.out 1).trans rfl
      have g2 : w5.cell? ⟨W.heap.size, 2, none⟩ = some (.int .i64 0) := (Lib.cell_of_heap T0.out 2).trans rfl
      have g3 : w5.cell? ⟨W.heap.size + 1, 0, none⟩ = some (.int .i64 0) := (Lib.cell_of_heap T1.out 0).trans rfl
      have g4 : w5.cell? ⟨W.heap.size + 1 + 1, 0, none⟩ = some (.int .i64 0) := (Lib.cell_of_heap T2.out 0).trans rfl
      have Ho1 := Lib.hid (own_base ho1 (show W.heap.size ≤ w4.heap.size by omega)); have Ho2 := Lib.hid (own_base ho2 (show W.heap.size ≤ w4.heap.size by omega))
      clear r0 r2 hr5 ho1 ho2 hg5 hw4
      rcases Nat.lt_or_ge a s.size with hlt | hge
      · have hlt' : (a : Int) < s.size := by omega
        rw [if_pos hlt] at HP
        have hx : ∀ w', Calls Tryd.prog 20 #[.pointer (some ⟨W.heap.size + 1 + 1 + 1, 0, none⟩), .int .i64 a, .int .i64 20] w' fun e w'' => e = .panicked (faultV a 20) ∧ w' = w'' := fun w' => fail_any _ _ _ w'
        have Hx := Lib.hid hx
        clear hx
        go_wp2_with fail
        refine (Hx.out _).mono ?_
        rintro e w6 ⟨rfl, rfl⟩
        go_wp2_with fail
        obtain ⟨u0, u1, u2, hb6, -, -⟩ := fin3 T0.out T1.out T2.out hb5 (.slice sad p.ss.length scap) (.slice cad p.cs.length ccap) (.int .i64 p.wi) Ho1.out Ho2.out (by decide) (by decide)
        rw [HP.out]
        refine leaves_cons (f := 18) (args := #[.pointer (some ⟨W.heap.size, 0, none⟩), .pointer (some ⟨W.heap.size + 1, 0, none⟩), .pointer (some ⟨W.heap.size + 2, 0, none⟩)]) (by simp) (by simp [go_sem]) ?_
        refine (catch_panic W.heap.size a 20 _ _ _ _ _ _ u0 u1 u2).mono ?_
        rintro e u' w6 ⟨rfl, rfl, hb7, t0, t1, t2⟩
        refine ⟨_, res_parse rfl rfl rfl t0 t1 t2, ?_⟩
        exact ⟨hb6.trans hb7, rfl⟩
      · have hge' : (s.size : Int) ≤ a := by omega
        rw [if_neg (by omega)] at HP
        go_wp2_with fail
        obtain ⟨u0, u1, u2, hb6, o1, o2⟩ := fin3 T0.out T1.out T2.out hb5 (.slice sad p.ss.length scap) (.slice cad p.cs.length ccap) (.int .i64 p.wi) Ho1.out Ho2.out (by decide) (by decide)
        obtain ⟨u0, u1, u2, hb6, o1, o2⟩ := fin3 u0 u1 u2 hb6 (.slice sad p.ss.length scap) (.slice cad p.cs.length ccap) (.int .i64 p.wi) o1 o2 (by decide) (by decide)
        obtain ⟨u0, u1, u2, hb6, o1, o2⟩ := fin2 u0 u1 u2 hb6 (.int .i64 0) (.int .i64 0) o1 o2 (by decide) (by decide) (by decide) (by decide)
        rw [HP.out]
        refine leaves_cons (f := 18) (args := #[.pointer (some ⟨W.heap.size, 0, none⟩), .pointer (some ⟨W.heap.size + 1, 0, none⟩), .pointer (some ⟨W.heap.size + 2, 0, none⟩)]) (by simp) (by simp [go_sem]) ?_
        refine (catch_idle _ _ _ _).mono ?_
        rintro e u' w6 ⟨rfl, rfl, hb7⟩
        refine ⟨_, res_parse rfl rfl rfl ((hb7.block _ (blk_lt u0)).trans u0) ((hb7.block _ (blk_lt u1)).trans u1) ((hb7.block _ (blk_lt u2)).trans u2), ?_⟩
        have hg7 := grown_of_below hb7
        refine ⟨hb6.trans ⟨hb7.os, hb7.tape, hb7.output, hb7.size, fun k hk => hb7.block k (Nat.lt_of_lt_of_le hk hb6.size)⟩, _, _, rfl, o1.kept hg7 ?_, o2.kept hg7 ?_⟩
        · by_cases hx : (Value.slice sad p.ss.length scap).ownBlock = none
          · exact .inl hx
          · exact .inr hx
        · by_cases hx : (Value.slice cad p.cs.length ccap).ownBlock = none
          · exact .inl hx
          · exact .inr hx
end Go.Proofs.YtcfimponmioneaaDoor.WP
