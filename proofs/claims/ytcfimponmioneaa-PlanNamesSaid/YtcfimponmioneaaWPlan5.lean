/- The walks of plan.Compile and Plan.Binds. -/
import Derived.Test.YtcfimponmioneaaWMake1
import Derived.Test.YtcfimponmioneaaPNz
import Derived.Test.YtcfimponmioneaaPLen
namespace Go.Proofs.Ytcfimponmioneaa.WL
open Go Go.RowKit Go.Sort Go.Proofs.Ytcfimponmioneaa Go.Proofs.Ytcfimponmioneaa.PL Go.Proofs.Ytcfimponmioneaa.PP Go.Proofs.Ytcfimponmioneaa.Mem Go.Proofs.Ytcfimponmioneaa.WP

/-- A read step, a read condition. -/
def gS (s : Stp) : GS := ⟨s.k, s.nm, s.neg, s.lo, s.hi⟩
def gC (c : Cnd) : GC := ⟨c.l, c.op, c.r, c.k⟩
theorem cells_gS (l : List Stp) : cellsOf encS l = cellsOf encG (l.map gS) := by
  unfold cellsOf; rw [List.flatMap_map]; rfl
theorem cells_gC (l : List Cnd) : cellsOf encC l = cellsOf encD (l.map gC) := by
  unfold cellsOf; rw [List.flatMap_map]; rfl
/-- What plan.Compile comes to. -/
def PostC (W : World) (r : Sum (Nat × Int) Ptn) (e : Ending) (w' : World) : Prop :=
  Below W.heap.size W w' ∧ match r with
  | .inl (_, er) => e = .returned (.tuple #[.agg #[nilS, .int .i64 0], .int .i64 er])
  | .inr p => ((checkP (p.ss.map gS) (p.cs.map gC) p.wi).2 ≠ 0 ∧ e = .returned (.tuple #[.agg #[nilS, .int .i64 0], .int .i64 (checkP (p.ss.map gS) (p.cs.map gC) p.wi).2])) ∨
    (checkP (p.ss.map gS) (p.cs.map gC) p.wi = (0, 0) ∧ OKP (p.ss.map gS) (p.cs.map gC) p.wi ∧ ∃ vs, e = .returned (.tuple #[.agg #[vs, .int .i64 p.wi], .int .i64 0]) ∧ PlanAt w' W.heap.size w'.heap.size vs (groups (unitl (p.ss.map gS))) (testsAt (p.ss.map gS) (p.cs.map gC)))

theorem res_comp {w : World} {B : Nat} {c0 c1 v3 : Value} {tmps : Array Value} (h2 : tmps[2]? = some (.pointer (some ⟨B, 0, none⟩))) (h3 : tmps[3]? = some v3)
    (e0 : w.cell? ⟨B, 0, none⟩ = some c0) (e1 : w.cell? ⟨B, 1, none⟩ = some c1) :
    (results Try.f24 tmps).run Try.prog w = .ok (.tuple #[.agg #[c0, c1], v3]) w := by
  simp [results, Try.results24, go_sem, h2, h3, e0, e1]

set_option maxRecDepth 100000 in
set_option maxHeartbeats 3200000 in
theorem compile_any (s : ByteArray) (W : World) : Calls Try.prog 24 #[.string s] W (PostC W (pParse s.data.toList)) := by
  obtain ⟨w1, hw1⟩ : ∃ w1, w1 = W.alloc (.cells #[nilS, .int .i64 0] 51) := ⟨_, rfl⟩
  have hz1 : w1.heap.size = W.heap.size + 1 := by rw [hw1]; simp
  have hb1 := Lib.hid (show Below W.heap.size W w1 by rw [hw1]; exact (Below.refl _ _).alloc (Nat.le_refl _) _)
  have P1 := Lib.hid (show w1.heap[W.heap.size]? = some (.cells #[nilS, .int .i64 0] 51 (0, 0)) by rw [hw1]; exact heap_new rfl)
  have HP := Lib.hid (parse_any s w1)
  have HW1 := Lib.hid hw1
  clear hw1
  unfold PostC
  obtain ⟨pr, hpr⟩ : ∃ pr, pParse s.data.toList = pr := ⟨_, rfl⟩
  rw [hpr] at HP ⊢
  have HPR := Lib.hid hpr
  clear hpr
  go_enter Try.func24, Try.ntmps24
  go_wp2_with fail
  rw [← HW1.out]
  cases pr with
  | inl f =>
    obtain ⟨k, er⟩ := f
    refine HP.out.mono ?_
    rintro e w2 ⟨hb2, rfl⟩
    have hz2 := hb2.size
    have her : (er != 0) = true := by simp [parse_nz HPR.out]
    have Q1 := Lib.hid ((hb2.block _ (by omega)).trans P1.out)
    have HB2 := Lib.hid (hb1.out.trans (hb2.mono (by omega)))
    have u0 : w2.cell? ⟨W.heap.size, 0, none⟩ = some nilS := (Lib.cell_of_heap Q1.out 0).trans rfl
    have u1 : w2.cell? ⟨W.heap.size, 1, none⟩ = some (.int .i64 0) := (Lib.cell_of_heap Q1.out 1).trans rfl
    have f0 : w2.frozen? ⟨W.heap.size, 0, none⟩ = false := Lib.frozen_of_heap Q1.out 0
    have f1 : w2.frozen? ⟨W.heap.size, 1, none⟩ = false := Lib.frozen_of_heap Q1.out 1
    have hnw : W.heap.size ≠ w2.heap.size := by omega
    have hnw' : w2.heap.size ≠ W.heap.size := by omega
    have Q1a := blk_alloc Q1.out (.cells #[nilS, nilS, .int .i64 0] 25)
    have hba := HB2.out.alloc (by omega) (.cells #[nilS, nilS, .int .i64 0] 25)
    have v0 := (Lib.cell_of_heap Q1a 0).trans rfl
    have v1 := (Lib.cell_of_heap Q1a 1).trans rfl
    have g0 := Lib.frozen_of_heap Q1a 0
    have g1 := Lib.frozen_of_heap Q1a 1
    have QA := Lib.hid Q1a
    have HBA := Lib.hid hba
    clear hb2 Q1a hba
    go_wp2_with fail
    have R1 := blk_set (blk_set QA.out 0 nilS) 1 (.int .i64 0)
    refine bodyPost_ret (res_comp rfl rfl ((Lib.cell_of_heap R1 0).trans rfl) ((Lib.cell_of_heap R1 1).trans rfl)) rfl ?_
    exact ⟨(HBA.out.setCell (p := ⟨W.heap.size, 0, none⟩) (Nat.le_refl _) _).setCell (p := ⟨W.heap.size, 1, none⟩) (Nat.le_refl _) _, rfl⟩
  | inr p =>
    refine HP.out.mono ?_
    rintro e w2 ⟨hb2, sl, cl, rfl, ho1, ho2⟩
    have hz2 := hb2.size
    have hlen := PLen.parse_len HPR.out
    obtain ⟨sad, scap, rfl⟩ := own_slice ho1
    obtain ⟨cad, ccap, rfl⟩ := own_slice ho2
    obtain ⟨w3, hw3⟩ : ∃ w3, w3 = w2.alloc (.cells #[.slice sad p.ss.length scap, .slice cad p.cs.length ccap, .int .i64 p.wi] 25) := ⟨_, rfl⟩
    have hb3 : Below w2.heap.size w2 w3 := by rw [hw3]; exact (Below.refl _ _).alloc (Nat.le_refl _) _
    have hz3 : w3.heap.size = w2.heap.size + 1 := by rw [hw3]; simp
    have hs1 : Stps w3 w3.heap.size (.slice sad p.ss.length scap) (p.ss.map gS) := by
      have h := Sl.more (Sl.below (Sl.of_own ho1) hb3) hb3.size
      rw [cells_gS] at h
      unfold Stps
      rw [List.length_map]
      exact h
    have hs2 : Cnds w3 w3.heap.size (.slice cad p.cs.length ccap) (p.cs.map gC) := by
      have h := Sl.more (Sl.below (Sl.of_own ho2) hb3) hb3.size
      rw [cells_gC] at h
      unfold Cnds
      rw [List.length_map]
      exact h
    have hm := make_any (.slice sad p.ss.length scap) (.slice cad p.cs.length ccap) p.wi (p.ss.map gS) (p.cs.map gC) w3 hs1 hs2 (by rw [List.length_map]; unfold maxLen; omega) (by rw [List.length_map]; unfold maxLen; omega)
    have HM := Lib.hid hm
    have Q1 := Lib.hid ((hb3.block _ (by omega)).trans ((hb2.block _ (by omega)).trans P1.out))
    have HB3 := Lib.hid (hb1.out.trans ((hb2.mono (by omega)).trans (hb3.mono (by omega))))
    have HW3 := Lib.hid hw3
    clear hb2 hb3 hs1 hs2 hm hw3 ho1 ho2
    go_wp2_with fail
    rw [← HW3.out]
    refine HM.out.mono ?_
    rintro e w4 ⟨hb4, hpost⟩
    have hz4 := hb4.size
    have Q4 := Lib.hid ((hb4.block _ (by omega)).trans Q1.out)
    have HB4 := Lib.hid (HB3.out.trans (hb4.mono (by omega)))
    clear hb4
    rcases hpost with ⟨hbad, rfl⟩ | ⟨hck, hokp, vs, rfl, hpa⟩
    · have Q1a := blk_alloc Q4.out (.cells #[nilS, .int .i64 0] 51)
      have hba := HB4.out.alloc (by omega) (.cells #[nilS, .int .i64 0] 51)
      have v0 := (Lib.cell_of_heap Q1a 0).trans rfl
      have v1 := (Lib.cell_of_heap Q1a 1).trans rfl
      have g0 := Lib.frozen_of_heap Q1a 0
      have g1 := Lib.frozen_of_heap Q1a 1
      have QA := Lib.hid Q1a
      have HBA := Lib.hid hba
      have HBAD := Lib.hid hbad
      have hnw : W.heap.size ≠ w4.heap.size := by omega
      have hnw' : w4.heap.size ≠ W.heap.size := by omega
      clear Q1a hba hbad
      go_wp2_with fail
      have R1 := blk_set (blk_set QA.out 0 nilS) 1 (.int .i64 0)
      refine bodyPost_ret (res_comp rfl rfl ((Lib.cell_of_heap R1 0).trans rfl) ((Lib.cell_of_heap R1 1).trans rfl)) rfl ?_
      exact ⟨(HBA.out.setCell (p := ⟨W.heap.size, 0, none⟩) (Nat.le_refl _) _).setCell (p := ⟨W.heap.size, 1, none⟩) (Nat.le_refl _) _, .inl ⟨HBAD.out, rfl⟩⟩
    · have Q1a := blk_alloc Q4.out (.cells #[vs, .int .i64 p.wi] 51)
      have hba := HB4.out.alloc (by omega) (.cells #[vs, .int .i64 p.wi] 51)
      have v0 := (Lib.cell_of_heap Q1a 0).trans rfl
      have v1 := (Lib.cell_of_heap Q1a 1).trans rfl
      have g0 := Lib.frozen_of_heap Q1a 0
      have g1 := Lib.frozen_of_heap Q1a 1
      have QA := Lib.hid Q1a
      have HBA := Lib.hid hba
      have HCK := Lib.hid hck
      have HOK := Lib.hid hokp
      have HPA := Lib.hid hpa
      have hnw : W.heap.size ≠ w4.heap.size := by omega
      have hnw' : w4.heap.size ≠ W.heap.size := by omega
      obtain ⟨vad, vcap, hvs⟩ : ∃ ad c, vs = .slice ad (groups (unitl (p.ss.map gS))).length c := by obtain ⟨ad, c, e, _⟩ := hpa; exact ⟨ad, c, e⟩
      subst hvs
      clear Q1a hba hck hokp hpa
      go_wp2_with fail
      have R1 := blk_set (blk_set QA.out 0 (.slice vad (groups (unitl (p.ss.map gS))).length vcap)) 1 (.int .i64 p.wi)
      refine bodyPost_ret (res_comp rfl rfl ((Lib.cell_of_heap R1 0).trans rfl) ((Lib.cell_of_heap R1 1).trans rfl)) rfl ?_
      refine ⟨(HBA.out.setCell (p := ⟨W.heap.size, 0, none⟩) (Nat.le_refl _) _).setCell (p := ⟨W.heap.size, 1, none⟩) (Nat.le_refl _) _, .inr ⟨HCK.out, HOK.out, _, rfl, ?_⟩⟩
      refine (HPA.out.keep (fun q h1 h2 => ?_)).more (by omega) (by simp)
      rw [World.cell?_setCell_other _ _ _ _ (fun e => by rw [← e] at h1; simp at h1; omega), World.cell?_setCell_other _ _ _ _ (fun e => by rw [← e] at h1; simp at h1; omega)]
      exact World.cell?_of_block (Below.heap_alloc w4 _ q.block h2)
end Go.Proofs.Ytcfimponmioneaa.WL
