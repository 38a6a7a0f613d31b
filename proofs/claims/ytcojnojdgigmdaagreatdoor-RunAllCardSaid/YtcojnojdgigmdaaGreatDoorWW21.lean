/- The walk of oxbowref21.with: the row with an event more. -/
import Derived.Test.YtcojnojdgigmdaaGreatDoorWT21
import Derived.Test.YtcojnojdgigmdaaGreatDoorB02
set_option maxHeartbeats 3200000
set_option maxRecDepth 100000
namespace Go.Proofs.YtcojnojdgigmdaaGreatDoor.WR
open Go Go.RowKit Go.Sort Go.Proofs.YtcojnojdgigmdaaGreatDoor Go.Proofs.YtcojnojdgigmdaaGreatDoor.PL Go.Proofs.YtcojnojdgigmdaaGreatDoor.PR Go.Proofs.YtcojnojdgigmdaaGreatDoor.Mem

abbrev MG := Value × Value × Mt
def atsV (m : Mt) : List Value := m.map fun x => .int .i64 (x.1 : Nat)
def stsV (m : Mt) : List Value := m.map fun x => .int .i64 (x.2 : Nat)
def OwnM (base : Nat) (w : World) (g : MG) : Prop := w.ownsRow base 3 1 g.1 g.2.2.length (atsV g.2.2) /\ w.ownsRow base 3 1 g.2.1 g.2.2.length (stsV g.2.2)
theorem OwnM.below {base : Nat} {w w' : World} {g : MG} (h : OwnM base w g) (hb : Below w.heap.size w w') : OwnM base w' g := ⟨own_below h.1 hb, own_below h.2 hb⟩
theorem OwnM.keeps {base : Nat} {w w' : World} {g : MG} (h : OwnM base w g) (h1 : Reg.Keeps 3 w w') : OwnM base w' g := ⟨h1.1 _ _ _ _ _ h.1, h1.1 _ _ _ _ _ h.2⟩
theorem OwnM.le {base base' : Nat} {w : World} {g : MG} (h : OwnM base w g) (hb : base' <= base) : OwnM base' w g := ⟨Joins.ownsRow_le h.1 hb, Joins.ownsRow_le h.2 hb⟩
theorem OwnM.mt {base : Nat} {w : World} {g : MG} (h : OwnM base w g) : MtAt w w.heap.size (.agg #[g.1, g.2.1]) g.2.2 := ⟨_, _, rfl, Sl.of_own h.1, Sl.of_own h.2⟩
theorem infoInt : (Tryz.prog.info? 3).map (fun i => (i.zero, i.size, i.bytes)) = some (some (.int .i64 0), 1, 8) := by kernel_rfl
section
variable {a : Act} {w : World} {d : Option Tmp} {ty : TypeId} {pos : String} {af : Array Edge} {gd : Option (Nat × Bool)}
theorem ix_int {x y : Operand} {g o n c k : Nat} (h1 : a.eval x = .slice (some ⟨g, o, none⟩) n c) (h2 : a.eval y = .int .i64 k) (hl : k < n) :
  (execOp a.eval { dst := d, op := .indexAddr 45 x y, type := ty, pos := pos, after := af, guard := gd }).run Tryz.prog w = .ok (.value (.pointer (some ⟨g, o + k, none⟩))) w := by
 have h3 : (k : Int) < (n : Int) := by omega
 have h4 : (0 : Int) <= (k : Int) := by omega
 simp only [execOp, h1, h2]
 go_simp
end
theorem load_int {w : World} {g j : Nat} {n : Int} (h : w.cell? ⟨g, j, none⟩ = some (.int .i64 n)) : (Instr.loadAt 3 (.pointer (some ⟨g, j, none⟩))).run Tryz.prog w = .ok (.int .i64 n) w := by go_simp
theorem build_int1 (w : World) (n : Int) : (Instr.buildSlice 45 1 #[(0, .int .i64 n)]).run Tryz.prog w = .ok (.slice (some ⟨w.heap.size, 0, none⟩) 1 1) (w.alloc (.cells #[.int .i64 n] 3)) := by go_simp
structure WithS (w wr : World) (R O : Nat) (mv va vs : Value) (xs ys : List Value) (aa sa : Value) : Prop where
 bel : Below w.heap.size w wr
 bx : wr.heap[w.heap.size]? = some (.cells #[aa, sa] 84 (0, 0))
 br : wr.heap[R]? = some (.cells #[.slice none 0 0, .slice none 0 0] 84 (0, 0))
 bo : wr.heap[O]? = some (.cells #[va, vs] 84 (0, 0))
 ra : wr.ownsRow w.heap.size 3 1 va xs.length xs
 rs : wr.ownsRow w.heap.size 3 1 vs ys.length ys
 ap : Reg.Apart va vs
section
variable {w wr w' : World} {R O : Nat} {mv va vs va' : Value} {xs ys xs' : List Value} {aa sa : Value}
theorem WithS.at_ (h1 : Below w.heap.size w w') (bx : w'.heap[w.heap.size]? = some (.cells #[aa, sa] 84 (0, 0))) (br : w'.heap[R]? = some (.cells #[.slice none 0 0, .slice none 0 0] 84 (0, 0)))
  (bo : w'.heap[O]? = some (.cells #[va, vs] 84 (0, 0))) (ra : w'.ownsRow w.heap.size 3 1 va' xs'.length xs') (rs : w'.ownsRow w.heap.size 3 1 vs ys.length ys) (ap : Reg.Apart va' vs) (hO : w.heap.size <= O) (hX : w.heap.size ≠ O) (hR : R ≠ O) :
  WithS w (w'.setCell ⟨O, 0, none⟩ va') R O mv va' vs xs' ys aa sa :=
 ⟨h1.setCell (p := ⟨O, 0, none⟩) hO _, by rw [heap_setCell_other _ _ _ _ hX]; exact bx, by rw [heap_setCell_other _ _ _ _ hR]; exact br, (blk_setc bo 0 _).trans rfl, own_set ra bo (by decide) 0 _, own_set rs bo (by decide) 0 _, ap⟩
theorem WithS.st_ (h1 : Below w.heap.size w w') (bx : w'.heap[w.heap.size]? = some (.cells #[aa, sa] 84 (0, 0))) (br : w'.heap[R]? = some (.cells #[.slice none 0 0, .slice none 0 0] 84 (0, 0)))
  (bo : w'.heap[O]? = some (.cells #[va, vs] 84 (0, 0))) (ra : w'.ownsRow w.heap.size 3 1 va' xs'.length xs') (rs : w'.ownsRow w.heap.size 3 1 va ys.length ys) (ap : Reg.Apart va' va) (hO : w.heap.size <= O) (hX : w.heap.size ≠ O) (hR : R ≠ O) :
  WithS w (w'.setCell ⟨O, 1, none⟩ va') R O mv va va' ys xs' aa sa :=
 ⟨h1.setCell (p := ⟨O, 1, none⟩) hO _, by rw [heap_setCell_other _ _ _ _ hX]; exact bx, by rw [heap_setCell_other _ _ _ _ hR]; exact br, (blk_setc bo 1 _).trans rfl, own_set rs bo (by decide) 1 _, own_set ra bo (by decide) 1 _, ap.symm⟩
end
theorem res_w21 {w : World} {R : Nat} {c0 c1 : Value} {tmps : Array Value} (h6 : tmps[6]? = some (.pointer (some ⟨R, 0, none⟩))) (e0 : w.cell? ⟨R, 0, none⟩ = some c0) (e1 : w.cell? ⟨R, 1, none⟩ = some c1) :
  (results Tryz.f71 tmps).run Tryz.prog w = .ok (.agg #[c0, c1]) w := by
 simp [results, Tryz.results71, go_sem, h6, e0, e1]
theorem with21 (mv : Value) (m : Mt) (i s : Nat) (w : World) (hm : MtAt w w.heap.size mv m) (hlen : m.length <= 1000000) :
  Calls Tryz.prog 71 #[mv, .int .i64 i, .int .i64 s] w fun e w' => ∃ va vs, e = .returned (.agg #[va, vs]) /\ OwnM w.heap.size w' (va, vs, m ++ [(i, s)]) /\ Below w.heap.size w w' := by
 have mixed : Tryz.prog.follows .mixedOrders = true := by kernel_rfl
 obtain ⟨ma, ms, rfl, hma, hms⟩ := hm; obtain ⟨aa, ac, rfl⟩ := hma.shape; obtain ⟨sa, sc, rfl⟩ := hms.shape; have HMA := Hyd hma; have HMS := Hyd hms
 obtain ⟨w0, hw0⟩ : ∃ w0, w0 = ((w.alloc (.cells #[.slice aa m.length ac, .slice sa m.length sc] 84)).alloc (.cells #[.slice none 0 0, .slice none 0 0] 84)).alloc (.cells #[.slice none 0 0, .slice none 0 0] 84) := ⟨_, rfl⟩
 obtain ⟨R, hR⟩ : ∃ R, w.heap.size + 1 = R := ⟨_, rfl⟩
 obtain ⟨O, hO⟩ : ∃ O, R + 1 = O := ⟨_, rfl⟩
 have HST := Hyd (show WithS w w0 R O (.agg #[.slice aa m.length ac, .slice sa m.length sc]) (.slice none 0 0) (.slice none 0 0) [] [] (.slice aa m.length ac) (.slice sa m.length sc) by
  rw [hw0]
  refine ⟨(((Below.refl _ _).alloc (Nat.le_refl _) _).alloc (by simp) _).alloc (by simp; omega) _, heap_alloc (heap_alloc (heap_new rfl)), heap_alloc (heap_new (by simp; omega)), heap_new (by simp; omega), World.ownsRow_nil _ _ _ _, World.ownsRow_nil _ _ _ _, Reg.Apart.nil _⟩)
 have HW0 := Hyd hw0
 have hWR : w.heap.size <= R := by omega
 have hWO : w.heap.size <= O := by omega
 have HXO := Hyd (show w.heap.size ≠ O by omega); have HRO := Hyd (show R ≠ O by omega); have HXR := Hyd (show w.heap.size ≠ R by omega); have HRW := Hyd hR; have HOW := Hyd hO; clear hma hms hw0 hR hO
 go_enter Tryz.func71, Tryz.ntmps71
 go_upto_region 2 with (fail)
 rw [HRW.out, HOW.out, <- HW0.out]; go_wp2_with fail
 go_loopw [8] (fun u wr => ∃ k va vs, k <= m.length /\ u = .int .i64 (k : Nat) /\ WithS w wr R O (.agg #[.slice aa m.length ac, .slice sa m.length sc]) va vs (atsV (m.take k)) (stsV (m.take k)) (.slice aa m.length ac) (.slice sa m.length sc)) (fun u _ => m.length - (intOf u).toNat)
 case atStart => exact ⟨0, _, _, Nat.zero_le _, rfl, HST.out⟩
 case round =>
  obtain ⟨k, va, vs, hk, rfl, hst⟩ := hrel; have HS := Hyd hst; have bxx := hst.bx; have y0 : wr.cell? ⟨w.heap.size, 0, none⟩ = some (.slice aa m.length ac) := (Lib.cell_of_heap bxx 0).trans rfl; have hsz := hst.bel.size; clear hst
  by_cases hlt : k < m.length
  ·have hki : (k : Int) < (m.length : Int) := by omega
   have hk0 : (0 : Int) <= (k : Int) := by omega
   obtain ⟨b2, o2, c2, hv2, hb2, x1⟩ := sl_at HMA.out hlt
   obtain ⟨rfl, rfl⟩ : aa = some ⟨b2, o2, none⟩ /\ ac = c2 := by simpa using hv2
   obtain ⟨b, o, c, hv, hb, x0⟩ := sl_at HMS.out hlt
   obtain ⟨rfl, rfl⟩ : sa = some ⟨b, o, none⟩ /\ sc = c := by simpa using hv
   have HTA := Hyd (show atsV (m.take (k + 1)) = atsV (m.take k) ++ [.int .i64 (m[k].1 : Nat)] by unfold atsV; rw [List.take_succ_eq_append_getElem hlt, List.map_append]; rfl); have HTS := Hyd (show stsV (m.take (k + 1)) = stsV (m.take k) ++ [.int .i64 (m[k].2 : Nat)] by unfold stsV; rw [List.take_succ_eq_append_getElem hlt, List.map_append]; rfl)
   have hla : (atsV (m.take k)).length <= 1000000 := by unfold atsV; rw [List.length_map, List.length_take]; omega
   have hls : (stsV (m.take k)).length <= 1000000 := by unfold stsV; rw [List.length_map, List.length_take]; omega
   obtain ⟨p, hp⟩ : ∃ p, m[k].1 = p := ⟨_, rfl⟩
   obtain ⟨q, hq⟩ : ∃ q, m[k].2 = q := ⟨_, rfl⟩
   rw [hp] at x1 HTA; rw [hq] at x0 HTS
   obtain ⟨xs, hxs⟩ : ∃ xs, atsV (m.take k) = xs := ⟨_, rfl⟩
   obtain ⟨ys, hys⟩ : ∃ ys, stsV (m.take k) = ys := ⟨_, rfl⟩
   rw [hxs] at HS HTA hla; rw [hys] at HS HTS hls; have HX0 := Hyd x0; have HX1 := Hyd x1; clear hv hv2 hp hq hxs hys x0 x1
   go_upto_region 5 with (fail)
   clear y0 bxx; obtain ⟨i0, hi, hz0, hz1, hz2⟩ := info_parts infoInt; have HAP := Hyd HS.out.ap.symm
   refine Reg.inv_order (W := w) (h := 10) (t := 1)
    [⟨0, 17, [], 99, [], none, fun v _ => v = .pointer (some ⟨O, 0, none⟩)⟩,
     ⟨1, 18, [], 99, [], none, fun v _ => v = va⟩,
     ⟨2, 19, [], 99, [], none, fun v _ => v = .pointer (some ⟨w.heap.size, 0, none⟩)⟩,
     ⟨3, 20, [], 99, [], none, fun v _ => v = .slice (some ⟨b2, o2, none⟩) m.length ac⟩,
     ⟨4, 21, [], 99, [], none, fun v _ => v = .int .i64 (k : Int)⟩,
     ⟨5, 22, [], 99, [], none, fun v _ => v = .pointer (some ⟨b2, o2 + k, none⟩)⟩,
     ⟨6, 23, [], 99, [], none, fun v _ => v = .int .i64 (p : Nat)⟩,
     ⟨7, 24, [3], 8, [], none, fun v w' => ∃ g, v = .slice (some ⟨g, 0, none⟩) 1 1 /\ w'.ownsRow 0 3 1 v 1 [.int .i64 (p : Nat)]⟩,
     ⟨8, 25, [3], 99, [], some 3, fun v w' => w'.ownsRow w.heap.size 3 1 v (xs.length + 1) (xs ++ [.int .i64 (p : Nat)]) /\ Reg.Apart v vs⟩,
     ⟨9, 26, [], 99, [], none, fun v _ => v = .pointer (some ⟨O, 0, none⟩)⟩]
    [⟨[84], 99, fun w' => w'.heap[w.heap.size]? = some (.cells #[.slice (some ⟨b2, o2, none⟩) m.length ac, .slice (some ⟨b, o, none⟩) m.length sc] 84 (0, 0))⟩,
     ⟨[84], 99, fun w' => w'.heap[O]? = some (.cells #[va, vs] 84 (0, 0))⟩,
     ⟨[84], 99, fun w' => w'.heap[R]? = some (.cells #[.slice none 0 0, .slice none 0 0] 84 (0, 0))⟩,
     ⟨[3], 8, fun w' => w'.ownsRow w.heap.size 3 1 va xs.length xs⟩]
    (fun w' => w'.ownsRow w.heap.size 3 1 vs ys.length ys)
    (by kernel_rfl) rfl (by kernel_rfl) (by kernel_rfl) (by kernel_rfl) (show [0, 1, 2, 3, 4, 5, 6, 7, 8, 9].Nodup by decide) (show ∀ i, i < 10 -> i ∈ [0, 1, 2, 3, 4, 5, 6, 7, 8, 9] by decide) ?_ (show [17, 18, 19, 20, 21, 22, 23, 24, 25, 26].Nodup by decide) (show ∀ s ∈ [17, 18, 19, 20, 21, 22, 23, 24, 25, 26], s < 50 by decide) (by kernel_rfl) ?_ ?_ HS.out.bel (HS.out.rs.drew) ?_ ?_ ?_
   ·intro f hf
    simp only [List.mem_cons, List.not_mem_nil, or_false] at hf
    rcases hf with rfl | rfl | rfl | rfl | rfl | rfl | rfl | rfl | rfl | rfl <;> simp
   ·intro f hf v w1 w2 hk hF
    simp only [List.mem_cons, List.not_mem_nil, or_false] at hf
    rcases hf with rfl | rfl | rfl | rfl | rfl | rfl | rfl | rfl | rfl | rfl
    ·exact hF
    ·exact hF
    ·exact hF
    ·exact hF
    ·exact hF
    ·exact hF
    ·exact hF
    ·obtain ⟨g, e1, e2⟩ := hF; exact ⟨g, e1, (hk 3 (by simp)).1 _ _ _ _ _ e2⟩
    ·exact ⟨(hk 3 (by simp)).1 _ _ _ _ _ hF.1, hF.2⟩
    ·exact hF
   ·intro f hf w1 w2 hk hG
    simp only [List.mem_cons, List.not_mem_nil, or_false] at hf
    rcases hf with rfl | rfl | rfl | rfl
    ·exact (hk 84 (by simp)).2 _ _ hG
    ·exact (hk 84 (by simp)).2 _ _ hG
    ·exact (hk 84 (by simp)).2 _ _ hG
    ·exact (hk 3 (by simp)).1 _ _ _ _ _ hG
   ·intro f hf
    simp only [List.mem_cons, List.not_mem_nil, or_false] at hf
    rcases hf with rfl | rfl | rfl | rfl
    ·exact HS.out.bx
    ·exact HS.out.bo
    ·exact HS.out.br
    ·exact HS.out.ra.drew
   ·intro f hf a w1 hs hI hg' hst; have t3 : a.eval (.tmp 3) = .pointer (some ⟨w.heap.size, 0, none⟩) := Reg.eval_tmp ((hs.out 3 (show 3 ∉ [17, 18, 19, 20, 21, 22, 23, 24, 25, 26] by decide)).trans rfl); have t7 : a.eval (.tmp 7) = .pointer (some ⟨O, 0, none⟩) := Reg.eval_tmp ((hs.out 7 (show 7 ∉ [17, 18, 19, 20, 21, 22, 23, 24, 25, 26] by decide)).trans rfl); have t8 : a.eval (.tmp 8) = .int .i64 (k : Int) := Reg.eval_tmp ((hs.out 8 (show 8 ∉ [17, 18, 19, 20, 21, 22, 23, 24, 25, 26] by decide)).trans rfl)
    simp only [List.mem_cons, List.not_mem_nil, or_false] at hf
    rcases hf with rfl | rfl | rfl | rfl | rfl | rfl | rfl | rfl | rfl | rfl
    ·have u1 := t7; exact Reg.step_valI (v := .pointer (some ⟨O, 0, none⟩)) rfl rfl rfl (Ord.run_fld u1 (by go_simp)) rfl hs.below hI
    ·obtain ⟨v1, hv1, rfl⟩ : ∃ v, a.tmps[17]? = some v /\ v = .pointer (some ⟨O, 0, none⟩) := hg' _ (Reg.at_fact 0 rfl) (by kernel_rfl) (by simp [Reg.okTil])
     have u1 := Reg.eval_tmp hv1; exact Reg.step_valI rfl rfl rfl (Reg.run_load u1 (load_nums ((Lib.cell_of_heap (hst _ (Reg.at_stand 1 rfl) (by simp [Reg.okTil])) 0).trans rfl))) rfl hs.below hI
    ·have u1 := t3; exact Reg.step_valI (v := .pointer (some ⟨w.heap.size, 0, none⟩)) rfl rfl rfl (Ord.run_fld u1 (by go_simp)) rfl hs.below hI
    ·obtain ⟨v1, hv1, rfl⟩ : ∃ v, a.tmps[19]? = some v /\ v = .pointer (some ⟨w.heap.size, 0, none⟩) := hg' _ (Reg.at_fact 2 rfl) (by kernel_rfl) (by simp [Reg.okTil])
     have u1 := Reg.eval_tmp hv1; exact Reg.step_valI rfl rfl rfl (Reg.run_load u1 (load_nums ((Lib.cell_of_heap (hst _ (Reg.at_stand 0 rfl) (by simp [Reg.okTil])) 0).trans rfl))) rfl hs.below hI
    ·have u1 := t8; exact Reg.step_valI rfl rfl rfl (Reg.run_move u1) rfl hs.below hI
    ·obtain ⟨v1, hv1, rfl⟩ : ∃ v, a.tmps[20]? = some v /\ v = .slice (some ⟨b2, o2, none⟩) m.length ac := hg' _ (Reg.at_fact 3 rfl) (by kernel_rfl) (by simp [Reg.okTil])
     obtain ⟨v2, hv2, rfl⟩ : ∃ v, a.tmps[21]? = some v /\ v = .int .i64 (k : Int) := hg' _ (Reg.at_fact 4 rfl) (by kernel_rfl) (by simp [Reg.okTil])
     have u1 := Reg.eval_tmp hv1; have u2 := Reg.eval_tmp hv2; exact Reg.step_valI (v := .pointer (some ⟨b2, o2 + k, none⟩)) rfl rfl rfl (ix_int u1 u2 hlt) rfl hs.below hI
    ·obtain ⟨v1, hv1, rfl⟩ : ∃ v, a.tmps[22]? = some v /\ v = .pointer (some ⟨b2, o2 + k, none⟩) := hg' _ (Reg.at_fact 5 rfl) (by kernel_rfl) (by simp [Reg.okTil])
     have u1 := Reg.eval_tmp hv1; exact Reg.step_valI rfl rfl rfl (Reg.run_load u1 (load_int ((hs.below.cell (p := ⟨b2, o2 + k, none⟩) hb2).trans HX1.out))) rfl hs.below hI
    ·obtain ⟨v1, hv1, rfl⟩ : ∃ v, a.tmps[23]? = some v /\ v = .int .i64 (p : Nat) := hg' _ (Reg.at_fact 6 rfl) (by kernel_rfl) (by simp [Reg.okTil])
     exact Reg.step_genI rfl rfl rfl (Reg.run_build (Reg.eval_tmp hv1) (build_int1 w1 (p : Nat))) ⟨_, rfl, Reg.own_new (cs := #[.int .i64 (p : Nat)]) rfl (Nat.zero_le _) rfl (by decide)⟩ (hs.below.alloc hs.below.size _) (fun e _ => Reg.Keeps.alloc e _ _) (hI.alloc _)
    ·obtain ⟨v1, hv1, rfl⟩ : ∃ v, a.tmps[18]? = some v /\ v = va := hg' _ (Reg.at_fact 1 rfl) (by kernel_rfl) (by simp [Reg.okTil])
     obtain ⟨v2, hv2, g, rfl, ho2⟩ : ∃ v, a.tmps[24]? = some v /\ ∃ g, v = .slice (some ⟨g, 0, none⟩) 1 1 /\ w1.ownsRow 0 3 1 v 1 [.int .i64 (p : Nat)] := hg' _ (Reg.at_fact 7 rfl) (by kernel_rfl) (by simp [Reg.okTil])
     have hs0 := hst _ (Reg.at_stand 3 rfl) (by simp [Reg.okTil]); refine Reg.step_appI rfl rfl rfl rfl hs.below Tryz.underlying45 hi hz0 hz1 hz2 rfl (by decide) hv1 hs0 hv2 ho2 (by intro u hu; rw [List.mem_singleton.1 hu]; rfl) (by unfold maxLen; omega) (by omega) (Nat.le_refl _) hs.below.size (fun v' w' ho hgr hv => ?_); exact ⟨⟨ho, (Reg.Apart.grown HAP.out hI hv).symm⟩, Reg.own_apart hI HAP.out hgr⟩
    ·have u1 := t7; exact Reg.step_valI (v := .pointer (some ⟨O, 0, none⟩)) rfl rfl rfl (Ord.run_fld u1 (by go_simp)) rfl hs.below hI
   ·intro vals w1 hF hfx hb1 hI; have h25 : w1.ownsRow w.heap.size 3 1 (vals 25) (xs.length + 1) (xs ++ [.int .i64 (p : Nat)]) /\ Reg.Apart (vals 25) vs := hF _ (Reg.at_fact 8 rfl) (show (10 + 1 : Nat) <= 99 by decide); have hbx : w1.heap[w.heap.size]? = some (.cells #[.slice (some ⟨b2, o2, none⟩) m.length ac, .slice (some ⟨b, o, none⟩) m.length sc] 84 (0, 0)) := hfx _ (Reg.at_stand 0 rfl) (show (10 + 1 : Nat) <= 99 by decide); have hbo : w1.heap[O]? = some (.cells #[va, vs] 84 (0, 0)) := hfx _ (Reg.at_stand 1 rfl) (show (10 + 1 : Nat) <= 99 by decide); have hbr : w1.heap[R]? = some (.cells #[.slice none 0 0, .slice none 0 0] 84 (0, 0)) := hfx _ (Reg.at_stand 2 rfl) (show (10 + 1 : Nat) <= 99 by decide); have e26 : vals 26 = .pointer (some ⟨O, 0, none⟩) := hF _ (Reg.at_fact 9 rfl) (show (10 + 1 : Nat) <= 99 by decide)
    have HN := Hyd (WithS.at_ (mv := .agg #[.slice (some ⟨b2, o2, none⟩) m.length ac, .slice (some ⟨b, o, none⟩) m.length sc]) hb1 hbx hbr hbo (xs' := xs ++ [.int .i64 (p : Nat)]) (by rw [List.length_append, List.length_singleton]; exact h25.1) hI h25.2 hWO HXO.out HRO.out)
    simp only [List.map_cons, List.map_nil, e26]
    generalize vals 17 = q17; generalize vals 18 = q18; generalize vals 19 = q19; generalize vals 20 = q20; generalize vals 21 = q21; generalize vals 22 = q22; generalize vals 23 = q23; generalize vals 24 = q24
    have hsh : ∃ A c, vals 25 = .slice A (xs.length + 1) c := (Sl.of_own h25.1).shape
    generalize vals 25 = va1 at HN hsh ⊢; obtain ⟨A1, c1, rfl⟩ := hsh; have zo : w1.cell? ⟨O, 0, none⟩ = some va := (Lib.cell_of_heap hbo 0).trans rfl; have fo := frozen_of_row w1 _ 0 _ _ hbo; clear hF hfx e26 h25 hbx hbo hbr hI hb1
    obtain ⟨w6, hw6⟩ : ∃ w6, w6 = w1.setCell ⟨O, 0, none⟩ (.slice A1 (xs.length + 1) c1) := ⟨_, rfl⟩
    rw [<- hw6] at HN; have HW6 := Hyd hw6; clear hw6; unfold Reg.puts Reg.puts Reg.puts Reg.puts Reg.puts Reg.puts Reg.puts Reg.puts Reg.puts Reg.puts Reg.puts
    go_upto_region 6 with (fail)
    rw [<- HW6.out]
    obtain ⟨va1, hva1⟩ : ∃ v, Value.slice A1 (xs.length + 1) c1 = v := ⟨_, rfl⟩
    rw [hva1] at HN; clear zo fo HAP hva1 HW6; have HAP := Hyd HN.out.ap
    obtain ⟨xs1, hxs1⟩ : ∃ xs1, xs ++ [.int .i64 (p : Nat)] = xs1 := ⟨_, rfl⟩
    rw [hxs1] at HN HTA; clear hxs1; have HSO := Hyd HN.out; clear HS
    refine Reg.inv_order (W := w) (h := 10) (t := 1)
     [⟨0, 27, [], 99, [], none, fun v _ => v = .pointer (some ⟨O, 1, none⟩)⟩,
      ⟨1, 28, [], 99, [], none, fun v _ => v = vs⟩,
      ⟨2, 29, [], 99, [], none, fun v _ => v = .pointer (some ⟨w.heap.size, 1, none⟩)⟩,
      ⟨3, 30, [], 99, [], none, fun v _ => v = .slice (some ⟨b, o, none⟩) m.length sc⟩,
      ⟨4, 31, [], 99, [], none, fun v _ => v = .int .i64 (k : Int)⟩,
      ⟨5, 32, [], 99, [], none, fun v _ => v = .pointer (some ⟨b, o + k, none⟩)⟩,
      ⟨6, 33, [], 99, [], none, fun v _ => v = .int .i64 (q : Nat)⟩,
      ⟨7, 34, [3], 8, [], none, fun v w' => ∃ g, v = .slice (some ⟨g, 0, none⟩) 1 1 /\ w'.ownsRow 0 3 1 v 1 [.int .i64 (q : Nat)]⟩,
      ⟨8, 35, [3], 99, [], some 3, fun v w' => w'.ownsRow w.heap.size 3 1 v (ys.length + 1) (ys ++ [.int .i64 (q : Nat)]) /\ Reg.Apart v va1⟩,
      ⟨9, 36, [], 99, [], none, fun v _ => v = .pointer (some ⟨O, 1, none⟩)⟩]
     [⟨[84], 99, fun w' => w'.heap[w.heap.size]? = some (.cells #[.slice (some ⟨b2, o2, none⟩) m.length ac, .slice (some ⟨b, o, none⟩) m.length sc] 84 (0, 0))⟩,
      ⟨[84], 99, fun w' => w'.heap[O]? = some (.cells #[va1, vs] 84 (0, 0))⟩,
      ⟨[84], 99, fun w' => w'.heap[R]? = some (.cells #[.slice none 0 0, .slice none 0 0] 84 (0, 0))⟩,
      ⟨[3], 8, fun w' => w'.ownsRow w.heap.size 3 1 vs ys.length ys⟩]
     (fun w' => w'.ownsRow w.heap.size 3 1 va1 xs1.length xs1)
     (by kernel_rfl) rfl (by kernel_rfl) (by kernel_rfl) (by kernel_rfl) (show [0, 1, 2, 3, 4, 5, 6, 7, 8, 9].Nodup by decide) (show ∀ i, i < 10 -> i ∈ [0, 1, 2, 3, 4, 5, 6, 7, 8, 9] by decide) ?_ (show [27, 28, 29, 30, 31, 32, 33, 34, 35, 36].Nodup by decide) (show ∀ s ∈ [27, 28, 29, 30, 31, 32, 33, 34, 35, 36], s < 50 by decide) (by kernel_rfl) ?_ ?_ HN.out.bel (HN.out.ra.drew) ?_ ?_ ?_
    ·intro f hf
     simp only [List.mem_cons, List.not_mem_nil, or_false] at hf
     rcases hf with rfl | rfl | rfl | rfl | rfl | rfl | rfl | rfl | rfl | rfl <;> simp
    ·intro f hf v w1 w2 hk hF
     simp only [List.mem_cons, List.not_mem_nil, or_false] at hf
     rcases hf with rfl | rfl | rfl | rfl | rfl | rfl | rfl | rfl | rfl | rfl
     ·exact hF
     ·exact hF
     ·exact hF
     ·exact hF
     ·exact hF
     ·exact hF
     ·exact hF
     ·obtain ⟨g, e1, e2⟩ := hF; exact ⟨g, e1, (hk 3 (by simp)).1 _ _ _ _ _ e2⟩
     ·exact ⟨(hk 3 (by simp)).1 _ _ _ _ _ hF.1, hF.2⟩
     ·exact hF
    ·intro f hf w1 w2 hk hG
     simp only [List.mem_cons, List.not_mem_nil, or_false] at hf
     rcases hf with rfl | rfl | rfl | rfl
     ·exact (hk 84 (by simp)).2 _ _ hG
     ·exact (hk 84 (by simp)).2 _ _ hG
     ·exact (hk 84 (by simp)).2 _ _ hG
     ·exact (hk 3 (by simp)).1 _ _ _ _ _ hG
    ·intro f hf
     simp only [List.mem_cons, List.not_mem_nil, or_false] at hf
     rcases hf with rfl | rfl | rfl | rfl
     ·exact HN.out.bx
     ·exact HN.out.bo
     ·exact HN.out.br
     ·exact HN.out.rs.drew
    ·intro f hf a w1 hs hI hg' hst; have t3 : a.eval (.tmp 3) = .pointer (some ⟨w.heap.size, 0, none⟩) := Reg.eval_tmp ((hs.out 3 (show 3 ∉ [27, 28, 29, 30, 31, 32, 33, 34, 35, 36] by decide)).trans rfl); have t7 : a.eval (.tmp 7) = .pointer (some ⟨O, 0, none⟩) := Reg.eval_tmp ((hs.out 7 (show 7 ∉ [27, 28, 29, 30, 31, 32, 33, 34, 35, 36] by decide)).trans rfl); have t8 : a.eval (.tmp 8) = .int .i64 (k : Int) := Reg.eval_tmp ((hs.out 8 (show 8 ∉ [27, 28, 29, 30, 31, 32, 33, 34, 35, 36] by decide)).trans rfl)
     simp only [List.mem_cons, List.not_mem_nil, or_false] at hf
     rcases hf with rfl | rfl | rfl | rfl | rfl | rfl | rfl | rfl | rfl | rfl
     ·have u1 := t7; exact Reg.step_valI (v := .pointer (some ⟨O, 1, none⟩)) rfl rfl rfl (Ord.run_fld u1 (by go_simp)) rfl hs.below hI
     ·obtain ⟨v1, hv1, rfl⟩ : ∃ v, a.tmps[27]? = some v /\ v = .pointer (some ⟨O, 1, none⟩) := hg' _ (Reg.at_fact 0 rfl) (by kernel_rfl) (by simp [Reg.okTil])
      have u1 := Reg.eval_tmp hv1; exact Reg.step_valI rfl rfl rfl (Reg.run_load u1 (load_nums ((Lib.cell_of_heap (hst _ (Reg.at_stand 1 rfl) (by simp [Reg.okTil])) 1).trans rfl))) rfl hs.below hI
     ·have u1 := t3; exact Reg.step_valI (v := .pointer (some ⟨w.heap.size, 1, none⟩)) rfl rfl rfl (Ord.run_fld u1 (by go_simp)) rfl hs.below hI
     ·obtain ⟨v1, hv1, rfl⟩ : ∃ v, a.tmps[29]? = some v /\ v = .pointer (some ⟨w.heap.size, 1, none⟩) := hg' _ (Reg.at_fact 2 rfl) (by kernel_rfl) (by simp [Reg.okTil])
      have u1 := Reg.eval_tmp hv1; exact Reg.step_valI rfl rfl rfl (Reg.run_load u1 (load_nums ((Lib.cell_of_heap (hst _ (Reg.at_stand 0 rfl) (by simp [Reg.okTil])) 1).trans rfl))) rfl hs.below hI
     ·have u1 := t8; exact Reg.step_valI rfl rfl rfl (Reg.run_move u1) rfl hs.below hI
     ·obtain ⟨v1, hv1, rfl⟩ : ∃ v, a.tmps[30]? = some v /\ v = .slice (some ⟨b, o, none⟩) m.length sc := hg' _ (Reg.at_fact 3 rfl) (by kernel_rfl) (by simp [Reg.okTil])
      obtain ⟨v2, hv2, rfl⟩ : ∃ v, a.tmps[31]? = some v /\ v = .int .i64 (k : Int) := hg' _ (Reg.at_fact 4 rfl) (by kernel_rfl) (by simp [Reg.okTil])
      have u1 := Reg.eval_tmp hv1; have u2 := Reg.eval_tmp hv2; exact Reg.step_valI (v := .pointer (some ⟨b, o + k, none⟩)) rfl rfl rfl (ix_int u1 u2 hlt) rfl hs.below hI
     ·obtain ⟨v1, hv1, rfl⟩ : ∃ v, a.tmps[32]? = some v /\ v = .pointer (some ⟨b, o + k, none⟩) := hg' _ (Reg.at_fact 5 rfl) (by kernel_rfl) (by simp [Reg.okTil])
      have u1 := Reg.eval_tmp hv1; exact Reg.step_valI rfl rfl rfl (Reg.run_load u1 (load_int ((hs.below.cell (p := ⟨b, o + k, none⟩) hb).trans HX0.out))) rfl hs.below hI
     ·obtain ⟨v1, hv1, rfl⟩ : ∃ v, a.tmps[33]? = some v /\ v = .int .i64 (q : Nat) := hg' _ (Reg.at_fact 6 rfl) (by kernel_rfl) (by simp [Reg.okTil])
      exact Reg.step_genI rfl rfl rfl (Reg.run_build (Reg.eval_tmp hv1) (build_int1 w1 (q : Nat))) ⟨_, rfl, Reg.own_new (cs := #[.int .i64 (q : Nat)]) rfl (Nat.zero_le _) rfl (by decide)⟩ (hs.below.alloc hs.below.size _) (fun e _ => Reg.Keeps.alloc e _ _) (hI.alloc _)
     ·obtain ⟨v1, hv1, rfl⟩ : ∃ v, a.tmps[28]? = some v /\ v = vs := hg' _ (Reg.at_fact 1 rfl) (by kernel_rfl) (by simp [Reg.okTil])
      obtain ⟨v2, hv2, g, rfl, ho2⟩ : ∃ v, a.tmps[34]? = some v /\ ∃ g, v = .slice (some ⟨g, 0, none⟩) 1 1 /\ w1.ownsRow 0 3 1 v 1 [.int .i64 (q : Nat)] := hg' _ (Reg.at_fact 7 rfl) (by kernel_rfl) (by simp [Reg.okTil])
      have hs0 := hst _ (Reg.at_stand 3 rfl) (by simp [Reg.okTil]); refine Reg.step_appI rfl rfl rfl rfl hs.below Tryz.underlying45 hi hz0 hz1 hz2 rfl (by decide) hv1 hs0 hv2 ho2 (by intro u hu; rw [List.mem_singleton.1 hu]; rfl) (by unfold maxLen; omega) (by omega) (Nat.le_refl _) hs.below.size (fun v' w' ho hgr hv => ?_); exact ⟨⟨ho, (Reg.Apart.grown HAP.out hI hv).symm⟩, Reg.own_apart hI HAP.out hgr⟩
     ·have u1 := t7; exact Reg.step_valI (v := .pointer (some ⟨O, 1, none⟩)) rfl rfl rfl (Ord.run_fld u1 (by go_simp)) rfl hs.below hI
    ·intro vals w1 hF hfx hb1 hI; have h25 : w1.ownsRow w.heap.size 3 1 (vals 35) (ys.length + 1) (ys ++ [.int .i64 (q : Nat)]) /\ Reg.Apart (vals 35) va1 := hF _ (Reg.at_fact 8 rfl) (show (10 + 1 : Nat) <= 99 by decide); have hbx : w1.heap[w.heap.size]? = some (.cells #[.slice (some ⟨b2, o2, none⟩) m.length ac, .slice (some ⟨b, o, none⟩) m.length sc] 84 (0, 0)) := hfx _ (Reg.at_stand 0 rfl) (show (10 + 1 : Nat) <= 99 by decide); have hbo : w1.heap[O]? = some (.cells #[va1, vs] 84 (0, 0)) := hfx _ (Reg.at_stand 1 rfl) (show (10 + 1 : Nat) <= 99 by decide); have hbr : w1.heap[R]? = some (.cells #[.slice none 0 0, .slice none 0 0] 84 (0, 0)) := hfx _ (Reg.at_stand 2 rfl) (show (10 + 1 : Nat) <= 99 by decide); have e26 : vals 36 = .pointer (some ⟨O, 1, none⟩) := hF _ (Reg.at_fact 9 rfl) (show (10 + 1 : Nat) <= 99 by decide)
     have HNN := Hyd (WithS.st_ (mv := .agg #[.slice (some ⟨b2, o2, none⟩) m.length ac, .slice (some ⟨b, o, none⟩) m.length sc]) hb1 hbx hbr hbo (xs' := ys ++ [.int .i64 (q : Nat)]) (by rw [List.length_append, List.length_singleton]; exact h25.1) hI h25.2 hWO HXO.out HRO.out)
     simp only [List.map_cons, List.map_nil, e26]
     generalize vals 27 = q27; generalize vals 28 = q28; generalize vals 29 = q29; generalize vals 30 = q30; generalize vals 31 = q31; generalize vals 32 = q32; generalize vals 33 = q33; generalize vals 34 = q34
     have hsh : ∃ A c, vals 35 = .slice A (ys.length + 1) c := (Sl.of_own h25.1).shape
     generalize vals 35 = vs1 at HNN hsh ⊢; obtain ⟨A1, c1, rfl⟩ := hsh; have zo : w1.cell? ⟨O, 1, none⟩ = some vs := (Lib.cell_of_heap hbo 1).trans rfl; have fo := frozen_of_row w1 _ 1 _ _ hbo; clear hF hfx e26 h25 hbx hbo hbr hI hb1
     obtain ⟨w7, hw7⟩ : ∃ w7, w7 = w1.setCell ⟨O, 1, none⟩ (.slice A1 (ys.length + 1) c1) := ⟨_, rfl⟩
     rw [<- hw7] at HNN; have HW7 := Hyd hw7; clear hw7; unfold Reg.puts Reg.puts Reg.puts Reg.puts Reg.puts Reg.puts Reg.puts Reg.puts Reg.puts Reg.puts Reg.puts; go_wp2_with fail; rw [<- HW7.out]; go_roundw
     case rel => exact ⟨k + 1, va1, _, by omega, by go_num, by rw [HTA.out, HTS.out]; exact HNN.out⟩
     case measure => simp [intOf]; omega
  ·obtain rfl : k = m.length := by omega
   rw [List.take_length] at HS; have bo := HS.out.bo; have o0 : wr.cell? ⟨O, 0, none⟩ = some va := (Lib.cell_of_heap bo 0).trans rfl; have o1 : wr.cell? ⟨O, 1, none⟩ = some vs := (Lib.cell_of_heap bo 1).trans rfl
   have hall : (atsV m).length = m.length := by simp [atsV]
   have hsll : (stsV m).length = m.length := by simp [stsV]
   obtain ⟨i0, hi, hz0, hz1, hz2⟩ := info_parts infoInt; have HNA := Hyd (Reg.own_new (w := wr) (b := 0) (e := 3) (sz := 1) (n := 1) (cs := #[.int .i64 (i : Nat)]) rfl (Nat.zero_le _) rfl (by decide)); have HNB := Hyd (show Below wr.heap.size wr (wr.alloc (.cells #[.int .i64 (i : Nat)] 3)) from (Below.refl _ _).alloc (Nat.le_refl _) _); have hra := HS.out.ra; rw [hall] at hra; have HRA := Hyd hra; have fo0 := frozen_of_row wr _ 0 _ _ bo; clear bxx hra
   go_wp2_with (at_builtin; refine Reg.wpList_append_src _ rfl (.tmp 38) (.tmp 40) 45 rfl w.heap.size 0 3 i0 _ 1 8 Tryz.underlying45 hi hz0 hz1 hz2 rfl (by decide) _ _ m.length 1 _ _ rfl (own_below HRA.out HNB.out) rfl HNA.out ?d1 ?d2 ?d3 ?d4 ?_)
   case d1 => first | rfl | (intro u hu; rw [List.mem_singleton.1 (by simpa using hu)]; rfl)
   case d2 => unfold maxLen; omega
   case d3 => omega
   case d4 => have := HS.out.bel.size; omega
   intro va' w5 ho5 hg5 hv5; obtain ⟨A1, c1, rfl⟩ := (Sl.of_own ho5).shape; have HK5 := Hyd (Reg.Keeps.grown (show 84 ≠ 3 by decide) (own_below HRA.out HNB.out) hg5); have bo5 := HK5.out.2 _ _ (heap_alloc HS.out.bo); have br5 := HK5.out.2 _ _ (heap_alloc HS.out.br); have bx5 := HK5.out.2 _ _ (heap_alloc HS.out.bx); have rs5 := Reg.own_apart (own_below HS.out.rs HNB.out) HS.out.ap.symm hg5; have ap5 := Reg.Apart.grown (v' := .slice A1 (m.length + 1) c1) HS.out.ap.symm (own_below HS.out.rs HNB.out) (by rcases hv5 with h | h; exact .inl h; exact .inr (by rw [h]; simp)); have hb5 := below_grown (HS.out.bel.trans (HNB.out.mono HS.out.bel.size)) (own_below HRA.out HNB.out) hg5 (by have := HS.out.bel.size; simp; omega) (Nat.le_refl _); have HN := Hyd (WithS.at_ (mv := .agg #[.slice aa m.length ac, .slice sa m.length sc]) hb5 bx5 br5 bo5 (xs' := atsV m ++ [.int .i64 (i : Nat)]) (by rw [List.length_append, hall]; exact ho5) rs5 ap5.symm hWO HXO.out HRO.out)
   have zo : w5.cell? ⟨O, 0, none⟩ = some va := (Lib.cell_of_heap bo5 0).trans rfl; have fo := frozen_of_row w5 _ 0 _ _ bo5
   obtain ⟨w6, hw6⟩ : ∃ w6, w6 = w5.setCell ⟨O, 0, none⟩ (.slice A1 (m.length + 1) c1) := ⟨_, rfl⟩
   rw [<- hw6] at HN; have HW6 := Hyd hw6; clear ho5 hg5 hv5 bo5 br5 bx5 rs5 ap5 hb5 hw6 HRA HNA HNB HK5 o0 o1 fo0 bo
   go_upto_region 8 with (fail)
   rw [<- HW6.out]
   obtain ⟨va1, hva1⟩ : ∃ v, Value.slice A1 (m.length + 1) c1 = v := ⟨_, rfl⟩
   rw [hva1] at HN; clear zo fo hva1 HW6 HS; have bo := HN.out.bo; have o1 : w6.cell? ⟨O, 1, none⟩ = some vs := (Lib.cell_of_heap bo 1).trans rfl; have fo1 := frozen_of_row w6 _ 1 _ _ bo; have HNA := Hyd (Reg.own_new (w := w6) (b := 0) (e := 3) (sz := 1) (n := 1) (cs := #[.int .i64 (s : Nat)]) rfl (Nat.zero_le _) rfl (by decide)); have HNB := Hyd (show Below w6.heap.size w6 (w6.alloc (.cells #[.int .i64 (s : Nat)] 3)) from (Below.refl _ _).alloc (Nat.le_refl _) _); have hrs := HN.out.rs; rw [hsll] at hrs; have HRS := Hyd hrs; clear hrs
   go_wp2_with (at_builtin; refine Reg.wpList_append_src _ rfl (.tmp 44) (.tmp 46) 45 rfl w.heap.size 0 3 i0 _ 1 8 Tryz.underlying45 hi hz0 hz1 hz2 rfl (by decide) _ _ m.length 1 _ _ rfl (own_below HRS.out HNB.out) rfl HNA.out ?d1 ?d2 ?d3 ?d4 ?_)
   case d1 => first | rfl | (intro u hu; rw [List.mem_singleton.1 (by simpa using hu)]; rfl)
   case d2 => unfold maxLen; omega
   case d3 => omega
   case d4 => have := HN.out.bel.size; omega
   intro vs' w7 ho7 hg7 hv7; obtain ⟨A2, c2, rfl⟩ := (Sl.of_own ho7).shape; have HK7 := Hyd (Reg.Keeps.grown (show 84 ≠ 3 by decide) (own_below HRS.out HNB.out) hg7); have bo7 := HK7.out.2 _ _ (heap_alloc HN.out.bo); have br7 := HK7.out.2 _ _ (heap_alloc HN.out.br); have bx7 := HK7.out.2 _ _ (heap_alloc HN.out.bx); have ra7 := Reg.own_apart (own_below HN.out.ra HNB.out) HN.out.ap hg7; have ap7 := Reg.Apart.grown (v' := .slice A2 (m.length + 1) c2) HN.out.ap (own_below HN.out.ra HNB.out) (by rcases hv7 with h | h; exact .inl h; exact .inr (by rw [h]; simp)); have hb7 := below_grown (HN.out.bel.trans (HNB.out.mono HN.out.bel.size)) (own_below HRS.out HNB.out) hg7 (by have := HN.out.bel.size; simp; omega) (Nat.le_refl _); have HM := Hyd (WithS.st_ (mv := .agg #[.slice aa m.length ac, .slice sa m.length sc]) hb7 bx7 br7 bo7 (xs' := stsV m ++ [.int .i64 (s : Nat)]) (by rw [List.length_append, hsll]; exact ho7) ra7 ap7.symm hWO HXO.out HRO.out)
   have zo : w7.cell? ⟨O, 1, none⟩ = some vs := (Lib.cell_of_heap bo7 1).trans rfl; have fo := frozen_of_row w7 _ 1 _ _ bo7
   obtain ⟨w8, hw8⟩ : ∃ w8, w8 = w7.setCell ⟨O, 1, none⟩ (.slice A2 (m.length + 1) c2) := ⟨_, rfl⟩
   rw [<- hw8] at HM; have HW8 := Hyd hw8; obtain ⟨A3, c3, hva⟩ := (Sl.of_own HM.out.ra).shape; rw [List.length_append, hall, List.length_singleton] at hva; subst hva; clear ho7 hg7 hv7 bo7 br7 bx7 ra7 ap7 hb7 hw8 HRS HNA HNB HK7 o1 fo1 bo HN hi hz0 hz1 hz2
   go_upto_region 9 with (fail)
   rw [<- HW8.out]; clear zo fo HW8; have bo := HM.out.bo; have br := HM.out.br; have z0 : w8.cell? ⟨O, 0, none⟩ = some (.slice A3 (m.length + 1) c3) := (Lib.cell_of_heap bo 0).trans rfl; have z1 : w8.cell? ⟨O, 1, none⟩ = some (.slice A2 (m.length + 1) c2) := (Lib.cell_of_heap bo 1).trans rfl; have r0 : w8.cell? ⟨R, 0, none⟩ = some (.slice none 0 0) := (Lib.cell_of_heap br 0).trans rfl; have r1 : w8.cell? ⟨R, 1, none⟩ = some (.slice none 0 0) := (Lib.cell_of_heap br 1).trans rfl; have f0 := frozen_of_row w8 _ 0 _ _ br; have f1 := frozen_of_row w8 _ 1 _ _ br; have HR2 := Hyd (show ((w8.setCell ⟨R, 0, none⟩ (.slice A3 (m.length + 1) c3)).setCell ⟨R, 1, none⟩ (.slice A2 (m.length + 1) c2)).heap[R]? = some (.cells #[.slice A3 (m.length + 1) c3, .slice A2 (m.length + 1) c2] 84 (0, 0)) from (blk_setc (blk_setc br 0 _) 1 _).trans rfl); have br' := (blk_setc br 0 (.slice A3 (m.length + 1) c3)).trans rfl
   have HRES := Hyd (show OwnM w.heap.size ((w8.setCell ⟨R, 0, none⟩ (.slice A3 (m.length + 1) c3)).setCell ⟨R, 1, none⟩ (.slice A2 (m.length + 1) c2)) (.slice A3 (m.length + 1) c3, .slice A2 (m.length + 1) c2, m ++ [(i, s)]) from by
    have ra := HM.out.ra; have rs := HM.out.rs; rw [List.length_append, hall, List.length_singleton] at ra; rw [List.length_append, hsll, List.length_singleton] at rs; refine ⟨?_, ?_⟩
    ·show World.ownsRow _ _ _ _ _ (m ++ [(i, s)]).length (atsV (m ++ [(i, s)]))
     rw [List.length_append, List.length_singleton, show atsV (m ++ [(i, s)]) = atsV m ++ [.int .i64 (i : Nat)] by simp [atsV]]; exact own_set (own_set ra br (by decide) 0 _) br' (by decide) 1 _
    ·show World.ownsRow _ _ _ _ _ (m ++ [(i, s)]).length (stsV (m ++ [(i, s)]))
     rw [List.length_append, List.length_singleton, show stsV (m ++ [(i, s)]) = stsV m ++ [.int .i64 (s : Nat)] by simp [stsV]]
     exact own_set (own_set rs br (by decide) 0 _) br' (by decide) 1 _)
   have HBF := Hyd ((HM.out.bel.setCell (p := ⟨R, 0, none⟩) hWR (.slice A3 (m.length + 1) c3)).setCell (p := ⟨R, 1, none⟩) hWR (.slice A2 (m.length + 1) c2)); clear bo br br'; go_wp2_with fail; refine bodyPost_ret (res_w21 rfl ((Lib.cell_of_heap HR2.out 0).trans rfl) ((Lib.cell_of_heap HR2.out 1).trans rfl)) rfl ?_; exact ⟨_, _, rfl, HRES.out, HBF.out⟩
end Go.Proofs.YtcojnojdgigmdaaGreatDoor.WR
