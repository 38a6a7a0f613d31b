/- The walk of oxbowtop.alive: a pattern that is found. -/
import Derived.Test.YtcojnojdgigmdaaDoorB13
import Derived.Test.YtcojnojdgigmdaaDoorWTop2
namespace Go.Proofs.YtcojnojdgigmdaaDoor.WR
open Go Go.RowKit Go.Sort Go.Proofs.YtcojnojdgigmdaaDoor Go.Proofs.YtcojnojdgigmdaaDoor.PL Go.Proofs.YtcojnojdgigmdaaDoor.PR Go.Proofs.YtcojnojdgigmdaaDoor.Mem Go.Proofs.YtcojnojdgigmdaaDoor.WS Go.Proofs.YtcojnojdgigmdaaDoor.WL Go.Proofs.YtcojnojdgigmdaaDoor.PP Go.Proofs.YtcojnojdgigmdaaDoor.WP

/-- What Compile makes of a text whose reading is known. -/
theorem comp_text (s : ByteArray) (st : List Stp) (cn : List Cnd) (wi : Nat) (hp : pParse s.data.toList = .inr ⟨st, cn, wi⟩) (hc : (checkP (st.map gS) (cn.map gC) wi).2 = 0) (W : World) : Calls Tryd.prog 22 #[.string s] W fun e w' => Below W.heap.size W w' ∧ ∃ pa n pc, e = .returned (.tuple #[.agg #[.slice pa n pc, .int .i64 wi], .int .i64 0]) ∧ OKP (st.map gS) (cn.map gC) wi ∧ n = (planR (st.map gS) (cn.map gC) wi).steps.length ∧ PlnAt w' w'.heap.size (.slice pa n pc) (planR (st.map gS) (cn.map gC) wi).steps := by
  refine (compile_any s W).mono ?_
  rintro e w' ⟨hb, h⟩
  rw [hp] at h
  dsimp only at h
  rcases h with ⟨h, _⟩ | ⟨_, hok, vs, rfl, hpa⟩
  · exact absurd hc h
  · have hpl := plan_pln hpa
    obtain ⟨pa, pc, rfl, _⟩ := id hpl
    exact ⟨hb, pa, _, pc, rfl, hok, rfl, hpl⟩
def strA : ByteArray := ⟨#[83, 69, 81, 40, 65, 32, 97, 44, 67, 32, 99, 41, 32, 87, 73, 84, 72, 73, 78, 32, 53]⟩
def ssA : List GS := [⟨65, 97, false, 1, 1⟩, ⟨67, 99, false, 1, 1⟩]
def lA : List Ev := [⟨1, 0, 65, 0⟩, ⟨2, 1, 67, 0⟩]
theorem parseA : pParse strA.data.toList = .inr ⟨[⟨65, 97, false, 1, 1⟩, ⟨67, 99, false, 1, 1⟩], [], 5⟩ := by kernel_rfl
theorem checkA : checkP ssA [] 5 = (0, 0) := by kernel_rfl
theorem runAl : (runA (planR ssA [] 5) lA).2 = [[49, 124, 50]] := by kernel_rfl
theorem sortedA : SortedE lA := by unfold SortedE lA; decide
theorem distA : DistE lA := by unfold DistE lA; decide
theorem compA (W : World) : Calls Tryd.prog 22 #[.string strA] W fun e w' => Below W.heap.size W w' ∧ ∃ pa n pc, e = .returned (.tuple #[.agg #[.slice pa n pc, .int .i64 5], .int .i64 0]) ∧ OKP ssA [] 5 ∧ n = (planR ssA [] 5).steps.length ∧ PlnAt w' w'.heap.size (.slice pa n pc) (planR ssA [] 5).steps :=
  comp_text strA _ _ 5 parseA (by show (checkP ssA [] 5).2 = 0; rw [checkA]) W
set_option maxRecDepth 100000 in
set_option maxHeartbeats 3200000 in
theorem alive_any (W : World) (ht : Tab W) (hg : 0 < W.heap.size) : Calls Tryd.prog 24 #[] W fun e w' => e = .returned (.bool true) ∧ Below W.heap.size W w' := by
  have HC := Lib.hid (compA W)
  have HT := Lib.hid ht
  clear ht
  unfold strA at HC
  go_enter Tryd.func24, Tryd.ntmps24
  go_wp2_with fail
  refine HC.out.mono ?_
  rintro e w1 ⟨hb1, pa, n, pc, rfl, hok, hn, hpl⟩
  obtain ⟨w2, hw2⟩ : ∃ w2, w2 = (w1.alloc (.cells #[.slice pa n pc, .int .i64 5] 25)).alloc (.cells #[.int .i64 1, .int .i64 0, .int .u8 65, .int .i64 0, .int .i64 2, .int .i64 1, .int .u8 67, .int .i64 0] 37) := ⟨_, rfl⟩
  have hb12 : Below w1.heap.size w1 w2 := by rw [hw2]; exact ((Below.refl _ _).alloc (Nat.le_refl _) _).alloc (by simp) _
  have hown : w2.ownsRow 0 37 4 (.slice (some ⟨w1.heap.size + 1, 0, none⟩) 2 2) 2 (cellsOf encE lA) := by
    rw [hw2]
    exact Reg.own_new (w := w1.alloc (.cells #[.slice pa n pc, .int .i64 5] 25)) (cs := #[.int .i64 1, .int .i64 0, .int .u8 65, .int .i64 0, .int .i64 2, .int .i64 1, .int .u8 67, .int .i64 0]) (by simp) (Nat.zero_le _) rfl (by decide)
  have hz1 := hb1.size
  have hz2 := hb12.size
  have hbW : Below W.heap.size W w2 := hb1.trans (hb12.mono hz1)
  have HAL := Lib.hid (runAll_any (planR ssA [] 5) (.slice pa n pc) (.slice (some ⟨w1.heap.size + 1, 0, none⟩) 2 2) lA w1.heap.size w2 (planR_ok hok).1 (by have := (planR_ok hok).2; omega) (PlnAt.keep hpl fun a ha => hb12.cell ha) hz2 (Sl.of_own hown) (Lit.of_own hown) (by decide)
    (by
      intro e he
      simp only [lA, List.mem_cons, List.not_mem_nil, or_false] at he
      unfold OkEv Sm
      rcases he with rfl | rfl <;> simp) (Tab.of_eq HT.out (hbW.block _ hg)) (by omega))
  have HBW := Lib.hid hbW; have HW2 := Lib.hid hw2
  have w9 : (planR ssA [] 5).within = 5 := rfl
  rw [w9] at HAL
  clear hb1 hok hn hpl hw2 hb12 hown hbW w9
  go_wp2_with fail
  rw [← HW2.out]
  refine HAL.out.mono ?_
  rintro e w3 ⟨v, ls, rfl, hperm, hsort, hown, hb3⟩
  have hls : ls = lA := sort_eq hperm (List.Perm.refl _) hsort sortedA distA
  subst hls
  rw [runAl] at hown
  obtain ⟨b, c, rfl, _, _⟩ := hown.form (by decide)
  have x0 := hown.cells (g := b) rfl 0 (.string ⟨#[49, 124, 50]⟩) rfl
  rw [lit_add, Nat.zero_add] at x0
  have HB3 := Lib.hid (HBW.out.trans (hb3.mono HBW.out.size))
  clear hperm hsort hown hb3
  go_wp2_with fail
  go_ret
  exact ⟨rfl, HB3.out⟩
end Go.Proofs.YtcojnojdgigmdaaDoor.WR
