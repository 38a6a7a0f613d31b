/- The walks of cmp.Compare and event.compare, of slices.Clone at events, of the insertion sort at a stretch. -/
import Derived.Test.YtceeijamhhokaaaPStab
import Derived.Test.YtceeijamhhokaaaWOr
import Derived.Shelf.SlSortCmp.KitK
import Derived.Ground.SlsfProg
import Derived.Ground.SlgnProg
import Derived.Shelf.SlicesE.Clone
import Derived.StillTailTactics
import Derived.Lib.Builder
namespace Go.Proofs
open Go.Shelf
def Try.insS_ren : Go.Shelf.Ren := ⟨fun | 20 => 32 | n => n, fun | 24 => 27 | 22 => 23 | 3 => 3 | 25 => 61 | 4 => 4 | 0 => 0 | n => n, fun | n => n⟩
theorem Try.insS : Go.Proofs.SlLaysF0.n20 Try.prog Try.insS_ren := {
  mixed := by kernel_rfl
  f20 := ⟨Try.f32.name, by decide, Try.func32.trans (congrArg some (by kernel_rfl))⟩
  t0 := Try.underlying0
  a0 := Try.isAgg0
  z0 := Try.sizeOf0
  v0 := Try.zeroValue0
  t3 := Try.underlying3
  a3 := Try.isAgg3
  z3 := Try.sizeOf3
  v3 := Try.zeroValue3
  t4 := Try.underlying4
  a4 := Try.isAgg4
  z4 := Try.sizeOf4
  v4 := Try.zeroValue4
  t22 := Try.underlying23
  a22 := Try.isAgg23
  z22 := Try.sizeOf23
  v22 := Try.zeroValue23
  t25 := Try.underlying61
  a25 := Try.isAgg61
  z25 := Try.sizeOf61
  v25 := Try.zeroValue61 }
def Try.cloneS_ren : Go.Shelf.Ren := ⟨fun | 41 => 22 | n => n, fun | 22 => 23 | 23 => 27 | 4 => 4 | n => n, fun | n => n⟩
theorem Try.cloneS : Go.Proofs.SlLaysE0.n41 Try.prog Try.cloneS_ren := {
  mixed := by kernel_rfl
  f41 := ⟨Try.f22.name, by decide, Try.func22.trans (congrArg some (by kernel_rfl))⟩
  t4 := Try.underlying4
  a4 := Try.isAgg4
  z4 := Try.sizeOf4
  v4 := Try.zeroValue4
  t22 := Try.underlying23
  a22 := Try.isAgg23
  z22 := Try.sizeOf23
  v22 := Try.zeroValue23 }
noncomputable def Try.infS : TypeInfo := (Try.prog.info? 27).get (by kernel_rfl)
end Go.Proofs
namespace Go.Proofs.Ytceeijamhhokaaa.ST
open Go Go.RowKit Go.Sort Go.Proofs.Ytceeijamhhokaaa Go.Proofs.Ytceeijamhhokaaa.Mem Go.Proofs.Ytceeijamhhokaaa.WK

def cmpI (a b : Int) : Int := if a < b then -1 else if b < a then 1 else 0
def evCmp (x y : Ev) : Int := if cmpI x.time y.time ≠ 0 then cmpI x.time y.time else cmpI x.id y.id
theorem evCmp_less (x y : Ev) : ltOf evCmp x y = ltS x y := by
  unfold ltOf evCmp ltS cmpI
  rw [decide_eq_decide]
  split <;> (try split) <;> omega
theorem evCmp_lt : (ltOf evCmp : Ev → Ev → Bool) = ltS := by funext x y; exact evCmp_less x y
set_option maxRecDepth 100000 in
theorem nan_any (n : Int) (w : World) : Calls Try.prog 34 #[.int .i64 n] w fun e w' => e = .returned (.bool false) ∧ w' = w := by
  go_enter Try.func34, Try.ntmps34
  go_wp2_with fail
  go_ret
  exact ⟨rfl, rfl⟩
set_option maxRecDepth 100000 in
set_option maxHeartbeats 1600000 in
theorem cmpint_any (n m : Int) (w : World) : Calls Try.prog 30 #[.int .i64 n, .int .i64 m] w fun e w' => e = .returned (.int .i64 (cmpI n m)) ∧ w' = w := by
  have h1 := Lib.hid (nan_any n w)
  have h2 := Lib.hid (nan_any m w)
  go_enter Try.func30, Try.ntmps30
  go_wp2_with fail
  refine h1.out.mono ?_
  rintro e w1 ⟨rfl, rfl⟩
  go_wp2_with fail
  refine h2.out.mono ?_
  rintro e w2 ⟨rfl, rfl⟩
  rcases Int.lt_trichotomy n m with h | h | h
  · have e : cmpI n m = -1 := by unfold cmpI; rw [if_pos h]
    have HE := Lib.hid e
    clear e
    go_wp2_with fail
    go_ret
    exact ⟨by rw [HE.out]; rfl, rfl⟩
  · subst h
    have e : cmpI n n = 0 := by unfold cmpI; rw [if_neg (by omega), if_neg (by omega)]
    have HE := Lib.hid e
    clear e
    go_wp2_with fail
    go_ret
    exact ⟨by rw [HE.out]; rfl, rfl⟩
  · have e : cmpI n m = 1 := by unfold cmpI; rw [if_neg (by omega), if_pos h]
    have HE := Lib.hid e
    have h' : ¬ n < m := by omega
    clear e
    go_wp2_with fail
    go_ret
    exact ⟨by rw [HE.out]; rfl, rfl⟩
/-- An event, handed by value. -/
abbrev evS (x : Ev) : Value := .agg #[.int .i64 x.id, .int .i64 x.time, .int .u8 x.kind, .int .i64 x.val]
set_option maxRecDepth 100000 in
set_option maxHeartbeats 800000 in
theorem ecmp_any (x y : Ev) (W : World) :
    Calls Try.prog 24 #[evS x, evS y] W fun e w' => e = .returned (.int .i64 (evCmp x y)) ∧ Grw W w' := by
  unfold evS
  have HR := Lib.hid (show (if cmpI x.time y.time ≠ 0 then cmpI x.time y.time else cmpI x.id y.id) = evCmp x y from rfl)
  obtain ⟨p, hp⟩ : ∃ p, cmpI x.time y.time = p := ⟨_, rfl⟩
  obtain ⟨q, hq⟩ : ∃ q, cmpI x.id y.id = q := ⟨_, rfl⟩
  have HC1 := Lib.hid (fun w => cmpint_any x.time y.time w)
  have HC2 := Lib.hid (fun w => cmpint_any x.id y.id w)
  rw [hp, hq] at HR
  rw [hp] at HC1
  rw [hq] at HC2
  clear hp hq
  have HB := Lib.hid (show ∃ w1, w1 = (W.alloc (.cells #[.int .i64 x.id, .int .i64 x.time, .int .u8 x.kind, .int .i64 x.val] 27)).alloc (.cells #[.int .i64 y.id, .int .i64 y.time, .int .u8 y.kind, .int .i64 y.val] 27) from ⟨_, rfl⟩)
  obtain ⟨w1, hw1⟩ := HB.out
  have x0 : w1.cell? ⟨W.heap.size, 0, none⟩ = some (.int .i64 x.id) := by rw [hw1]; exact (Lib.cell_of_heap (heap_alloc (heap_new rfl)) 0).trans rfl
  have x1 : w1.cell? ⟨W.heap.size, 1, none⟩ = some (.int .i64 x.time) := by rw [hw1]; exact (Lib.cell_of_heap (heap_alloc (heap_new rfl)) 1).trans rfl
  have y0 : w1.cell? ⟨W.heap.size + 1, 0, none⟩ = some (.int .i64 y.id) := by rw [hw1]; exact (Lib.cell_of_heap (heap_new (by simp)) 0).trans rfl
  have y1 : w1.cell? ⟨W.heap.size + 1, 1, none⟩ = some (.int .i64 y.time) := by rw [hw1]; exact (Lib.cell_of_heap (heap_new (by simp)) 1).trans rfl
  have HG := Lib.hid (show Grw W w1 by rw [hw1]; exact ((Grw.refl W).alloc _).alloc _)
  have HW := Lib.hid hw1
  have HS := Lib.hid (show w1.heap.size = W.heap.size + 2 by rw [hw1]; simp)
  clear hw1 HB
  go_enter Try.func24, Try.ntmps24
  go_wp2_with fail
  rw [← HW.out]
  go_still_tail 10, (by kernel_rfl)
  still_call (HC1.out _)
  repeat still_step
  still_call (HC2.out _)
  repeat still_step
  try refine wpStill_nil ?_
  have HO := Lib.hid (or_any p q (W.heap.size + 2) (w1.drew.alloc (.cells #[.int .i64 p, .int .i64 q] 3)) ((Lib.cell_of_heap (heap_new HS.out.symm) 0).trans rfl) ((Lib.cell_of_heap (heap_new HS.out.symm) 1).trans rfl))
  rw [HR.out] at HO
  change wpList _ _ _ _ _ w1.drew
  have hz : w1.drew.heap.size = W.heap.size + 2 := HS.out
  have HGD := Lib.hid (show Grw W (w1.drew.alloc (.cells #[.int .i64 p, .int .i64 q] 3)) from (HG.out.drewN 1).alloc _)
  clear x0 x1 y0 y1
  generalize w1.drew = w2 at *
  go_wp2_with fail
  refine HO.out.mono ?_
  rintro e w3 ⟨rfl, rfl⟩
  go_wp2_with fail
  go_ret
  exact ⟨rfl, HGD.out⟩
theorem cmp_lays (blk off size : Nat) (w : World) : CmpLays Try.prog 24 #[] encE 4 evCmp blk off size w := by
  intro m os dk _ x y
  exact ecmp_any x y _
/-- A world of the sort's. -/
def SW (W : World) (g : Nat) (d : Array Ev) (w : World) : Prop := SWK encE 4 W g 0 d w
/-- The row as the sort found it. -/
def RW (W : World) (g : Nat) (d : Array Ev) : Prop := RowK encE 4 W g 0 d
abbrev cmpF : Value := .func (.func 24) #[] #[]
/-- slices.insertionSortCmpFunc at a stretch. -/
theorem ins_at {W w : World} {g cap a b : Nat} {d0 d : Array Ev} (R : RW W g d0) (hs : d.size = d0.size) (S : SW W g d w) (hab : a ≤ b) (hb : b ≤ d.size) (hn : d.size ≤ 1000000) :
    Calls Try.prog 32 #[.slice (some ⟨g, 0, none⟩) d.size cap, .int .i64 a, .int .i64 b, cmpF] w fun e w' => e = .returned (.tuple #[]) ∧ SW W g (Sort.insertionSort ltS d a b) w' := by
  refine (AnyQ.insertionSortCmpFunc (P := Try.prog) Try.insS 4 Try.isAgg27 Try.sizeOf27 encE encE_len encE_one evCmp 24 #[] g 0 cap a b d w (fun _ _ => rfl) (cmp_lays _ _ _ _) (SWK.holds S R.hblk R.hH hs) (SWK.lt S R.hblk) hab hb (by omega)).mono ?_
  rintro e w' ⟨rfl, n, os, rfl⟩
  rw [evCmp_lt]
  exact ⟨rfl, SWK.on S R.hblk n _ os ((ins_merge d a b hab hb).size)⟩
/-- slices.Clone of events. -/
theorem clone_at (A : Option Addr) (c : Nat) (l : List Ev) (w : World) (B : Nat) (h : Evs w B (.slice A l.length c) l) (hl : A = none ∨ ∃ b o, A = some ⟨b, o, none⟩) (hn : l.length ≤ 1000000) :
    Calls Try.prog 22 #[.slice A l.length c] w fun e w' => ∃ v', e = .returned v' ∧ w'.ownsRow w.heap.size 27 4 v' l.length (cellsOf encE l) ∧ Below w.heap.size w w' := by
  obtain ⟨hx, A', c', e, hc, hr⟩ := h
  injection e with e1 _ e2
  subst e1 e2
  have one : ∀ u ∈ cellsOf encE l, u.oneCell' = true := by
    intro u hu
    obtain ⟨e, _, hu⟩ := List.mem_flatMap.1 hu
    exact encE_one e u hu
  rcases hl with rfl | ⟨b, o, rfl⟩
  · have h0 : l = [] := by
      rcases l with _ | ⟨x, r⟩
      · rfl
      · obtain ⟨b, o, h, _⟩ := hr (by simp)
        cases h
    subst h0
    refine (AnyE.slices_Clone_nil Try.cloneS _ _ w).mono ?_
    rintro e w' ⟨rfl, rfl⟩
    exact ⟨_, rfl, World.ownsRow_nil _ _ _ _, Below.refl _ _⟩
  · refine (AnyE.slices_Clone Try.cloneS Try.infS (.agg #[.int .i64 0, .int .i64 0, .int .u8 0, .int .i64 0]) 4 32 (by kernel_rfl) (by kernel_rfl) (by kernel_rfl) (by kernel_rfl) rfl (by decide) Try.sizeOf27 b o l.length c (cellsOf encE l) w hx (by unfold maxLen; omega) (by omega) ?_ one).mono ?_
    · intro j u hu
      have h0 : 0 < l.length := by
        have := (List.getElem?_eq_some_iff.1 hu).1
        rw [hx] at this; omega
      obtain ⟨b', o', e, _, hx⟩ := hr h0
      injection e with e; injection e with e1 e2; subst e1 e2
      exact hx j u hu
    · rintro e w' ⟨v', rfl, h1, _, h2⟩
      exact ⟨v', rfl, h1, h2⟩
end Go.Proofs.Ytceeijamhhokaaa.ST
