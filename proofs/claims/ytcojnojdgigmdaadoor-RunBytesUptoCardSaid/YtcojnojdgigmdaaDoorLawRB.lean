/- The walk of oxbowlaw21.RunBytes: every run has the document's bytes, and every bytes the document's run, or its error. -/
import Derived.Test.YtcojnojdgigmdaaDoorB01
import Derived.Test.YtcojnojdgigmdaaDoorWRC
import Derived.Test.YtcojnojdgigmdaaDoorWRP
set_option maxHeartbeats 12800000
set_option maxRecDepth 100000
namespace Go.Proofs.YtcojnojdgigmdaaDoor.WB2
open Go Go.RowKit Go.Proofs.YtcojnojdgigmdaaDoor Go.Proofs.YtcojnojdgigmdaaDoor.Mem Go.Proofs.YtcojnojdgigmdaaDoor.PE

theorem fldA0 (w : World) (g : Nat) : (Instr.fieldAt 56 (.pointer (some ⟨g, 0, none⟩)) 0).run Tryd.prog w = .ok (.pointer (some ⟨g, 0, none⟩)) w := by go_simp
theorem fldB0 (w : World) (g : Nat) : (Instr.fieldAt 58 (.pointer (some ⟨g, 0, none⟩)) 0).run Tryd.prog w = .ok (.pointer (some ⟨g, 0, none⟩)) w := by go_simp
theorem fldB1 (w : World) (g : Nat) : (Instr.fieldAt 58 (.pointer (some ⟨g, 0, none⟩)) 1).run Tryd.prog w = .ok (.pointer (some ⟨g, 1, none⟩)) w := by go_simp
theorem load_ints {w : World} {p : Addr} {a : Option Addr} {n c : Nat} (h : w.cell? p = some (.slice a n c)) : (Instr.loadAt 54 (.pointer (some p))).run Tryd.prog w = .ok (.slice a n c) w := by go_simp
theorem load_evs18 {w : World} {p : Addr} {a : Option Addr} {n c : Nat} (h : w.cell? p = some (.slice a n c)) : (Instr.loadAt 33 (.pointer (some p))).run Tryd.prog w = .ok (.slice a n c) w := by go_simp
theorem load_runA {w : World} {g : Nat} {x1 x2 : Option Addr} {n1 n2 k1 k2 : Nat} {b : Bool} (h : w.heap[g]? = some (.cells #[.slice x1 n1 k1, .slice x2 n2 k2, .bool b] 56 (0, 0))) :
  (Instr.loadAt 56 (.pointer (some ⟨g, 0, none⟩))).run Tryd.prog w = .ok (.agg #[.slice x1 n1 k1, .slice x2 n2 k2, .bool b]) w := by
 obtain ⟨e0, e1, e2, _⟩ := cells3 h
 go_simp
theorem load_runB {w : World} {g : Nat} {x1 x2 : Option Addr} {n1 n2 k1 k2 : Nat} {b : Bool} (h : w.heap[g]? = some (.cells #[.slice x1 n1 k1, .slice x2 n2 k2, .bool b] 58 (0, 0))) :
  (Instr.loadAt 58 (.pointer (some ⟨g, 0, none⟩))).run Tryd.prog w = .ok (.agg #[.slice x1 n1 k1, .slice x2 n2 k2, .bool b]) w := by
 obtain ⟨e0, e1, e2, _⟩ := cells3 h
 go_simp
def PutsTo (f : FuncId) (v : Value) (w : World) (s : ByteArray) : Prop := ∀ w', Below w.heap.size w w' -> Calls Tryd.prog f #[v] w' fun e w2 => e = .returned (.string s) /\ Below w'.heap.size w' w2
theorem puts_a {cs : List Int} {es : List Ev} {b : Bool} {cv ev : Value} {w : World} (hi : Ints w w.heap.size cv cs) (he : Evs w w.heap.size ev es) (h1 : cs.length <= 10000000) (h2 : es.length <= 100000000) (h3 : ∀ x ∈ cs, WE.fit64 x) (h4 : ∀ x ∈ es, x.fits) : PutsTo 19 (.agg #[cv, ev, .bool b]) w ⟨(putRun cs es b).toArray⟩ :=
 fun w' hb => rput_any cs es b cv ev w' ((Sl.below hi hb).more hb.size) ((Sl.below he hb).more hb.size) h1 h2 h3 h4
theorem puts_b {cs : List Int} {es : List Ev} {b : Bool} {cv ev : Value} {w : World} (hi : Ints w w.heap.size cv cs) (he : Evs w w.heap.size ev es) (h1 : cs.length <= 10000000) (h2 : es.length <= 100000000) (h3 : ∀ x ∈ cs, WE.fit64 x) (h4 : ∀ x ∈ es, x.fits) : PutsTo 20 (.agg #[cv, ev, .bool b]) w ⟨(putRun cs es b).toArray⟩ :=
 fun w' hb => rput21_any cs es b cv ev w' ((Sl.below hi hb).more hb.size) ((Sl.below he hb).more hb.size) h1 h2 h3 h4
theorem putRun_len (cs : List Int) (es : List Ev) (b : Bool) : (putRun cs es b).length <= 10 * (cs.length + 2) + 40 * es.length := by
 unfold putRun; rw [List.length_append]; have h1 := putL_len ((cs.length : Int) :: cs ++ [if b then 1 else 0]); have h2 := putEs_len es
 simp only [List.length_append, List.length_cons, List.length_nil] at h1
 omega
theorem load_l21 {w : World} {g : Nat} {c0 c1 c2 c3 : Value} (h : w.heap[g]? = some (.cells #[c0, c1, c2, c3] 42 (0, 0))) :
  (Instr.loadAt 42 (.pointer (some ⟨g, 0, none⟩))).run Tryd.prog w = .ok (.agg #[c0, c1, c2, c3]) w := by
 have e0 : w.cell? ⟨g, 0, none⟩ = some c0 := by rw [Lib.cell_of_heap h]; rfl
 have e1 : w.cell? ⟨g, 1, none⟩ = some c1 := by rw [Lib.cell_of_heap h]; rfl
 have e2 : w.cell? ⟨g, 2, none⟩ = some c2 := by rw [Lib.cell_of_heap h]; rfl
 have e3 : w.cell? ⟨g, 3, none⟩ = some c3 := by rw [Lib.cell_of_heap h]; rfl
 go_simp
theorem build_p (w : World) (e : Ev) : (Instr.buildSlice 32 1 #[(0, .agg #[.int .i64 e.id, .int .i64 e.time, .int .u8 e.kind, .int .i64 e.val])]).run Tryd.prog w = .ok (.slice (some ⟨w.heap.size, 0, none⟩) 1 1) (w.alloc (.cells (encE e).toArray 37)) := by
 unfold encE
 go_simp
theorem build_r (w : World) (e : Ev) : (Instr.buildSlice 33 1 #[(0, .agg #[.int .i64 e.id, .int .i64 e.time, .int .u8 e.kind, .int .i64 e.val])]).run Tryd.prog w = .ok (.slice (some ⟨w.heap.size, 0, none⟩) 1 1) (w.alloc (.cells (encE e).toArray 59)) := by
 unfold encE
 go_simp
theorem own_drew {w : World} {b : Nat} {e : TypeId} {s n : Nat} {v : Value} {xs : List Value} (h : w.ownsRow b e s v n xs) : w.drew.ownsRow b e s v n xs := h
theorem keeps_set {w : World} {g i : Nat} {e t : TypeId} {cs : Array Value} {u : Value} (h : w.heap[g]? = some (.cells cs t (0, 0))) (hne : e ≠ t) : Reg.Keeps e w (w.setCell ⟨g, i, none⟩ u) := by
 refine ⟨fun _ _ _ _ _ ho => own_set ho h hne, fun g' cs' hh => ?_⟩; refine (Below.heap_setCell w ⟨g, i, none⟩ u g' ?_).trans hh; intro e2; have e3 : g' = g := e2; subst e3; rw [h] at hh
 injection hh with hh
 injection hh with _ ht
 exact hne ht.symm
section
variable {a : Act} {w : World} {x y : Operand} {d : Option Tmp} {ty : TypeId} {pos : String} {af : Array Edge} {gd : Option (Nat × Bool)}
theorem run_st_ints {g j : Nat} {u : Value} {q : Option Addr} {n c : Nat} (h1 : a.eval x = .pointer (some ⟨g, j, none⟩)) (h2 : a.eval y = .slice q n c) (hc : w.cell? ⟨g, j, none⟩ = some u) (hf : w.frozen? ⟨g, j, none⟩ = false) :
  (execOp a.eval { dst := none, op := .store 54 x y, type := ty, pos := pos, after := af, guard := none }).run Tryd.prog w = .ok .skip (w.setCell ⟨g, j, none⟩ (.slice q n c)) := by
 simp only [execOp, h1, h2]
 go_simp
theorem run_st_evs {g j : Nat} {u : Value} {q : Option Addr} {n c : Nat} (h1 : a.eval x = .pointer (some ⟨g, j, none⟩)) (h2 : a.eval y = .slice q n c) (hc : w.cell? ⟨g, j, none⟩ = some u) (hf : w.frozen? ⟨g, j, none⟩ = false) :
  (execOp a.eval { dst := none, op := .store 32 x y, type := ty, pos := pos, after := af, guard := none }).run Tryd.prog w = .ok .skip (w.setCell ⟨g, j, none⟩ (.slice q n c)) := by
 simp only [execOp, h1, h2]
 go_simp
theorem run_st_evs18 {g j : Nat} {u : Value} {q : Option Addr} {n c : Nat} (h1 : a.eval x = .pointer (some ⟨g, j, none⟩)) (h2 : a.eval y = .slice q n c) (hc : w.cell? ⟨g, j, none⟩ = some u) (hf : w.frozen? ⟨g, j, none⟩ = false) :
  (execOp a.eval { dst := none, op := .store 33 x y, type := ty, pos := pos, after := af, guard := none }).run Tryd.prog w = .ok .skip (w.setCell ⟨g, j, none⟩ (.slice q n c)) := by
 simp only [execOp, h1, h2]
 go_simp
theorem app_nil {W : World} {ca : Option Addr} {cc : Nat} {counts : List Int} (hb : Below W.heap.size W w) (h1 : a.eval x = .slice none 0 0) (h2 : a.eval y = .slice ca counts.length cc) (hc : Ints W W.heap.size (.slice ca counts.length cc) counts) (hl : counts.length <= 10000000) :
  ∃ v' w', (execOp a.eval { dst := d, op := .call { callee := .builtin .append, args := #[x, y], argTypes := #[54, 54] }, type := ty, pos := pos, after := af, guard := gd }).run Tryd.prog w = .ok (.value v') w' /\ w'.ownsRow W.heap.size 3 1 v' counts.length (counts.map (Value.int .i64)) /\ Below w.heap.size w w' := by
 obtain ⟨i0, hi, hz0, hz1, hz2⟩ := info_parts infoInt
 have key : ∃ v' w', (Builtin.append_ #[54, 54] ty #[.slice none 0 0, .slice ca counts.length cc]).run Tryd.prog w = .ok v' w' /\ w'.ownsRow W.heap.size 3 1 v' counts.length (counts.map (Value.int .i64)) /\ Below w.heap.size w w' := by
  obtain ⟨hx, A', c', e, hcc, hr⟩ := hc
  injection e with e1 _ e3
  subst e1 e3
  rcases ca with _ | ad
  ·have h0 : counts = [] := by
    rcases counts with _ | ⟨q, r⟩
    ·rfl
    ·obtain ⟨_, _, h, _⟩ := hr (by simp)
     cases h
   subst h0; refine ⟨.slice none 0 0, w, ?_, World.ownsRow_nil _ _ _ _, Below.refl _ _⟩
   simp [Builtin.append_, run_underlying Tryd.underlying54, sizeOf, typeInfo, hi, Builtin.lenOf, Builtin.firstCells]
  ·obtain ⟨v', w', a1, a2, a3, _, _⟩ := run_append_own_at (P := Tryd.prog) w W.heap.size 54 ty 3 i0 _ 1 8 Tryd.underlying54 hi hz0 hz1 hz2 rfl (by decide) (.slice none 0 0) 0 [] (World.ownsRow_nil _ _ _ _) ad counts.length cc (counts.map (Value.int .i64)) (by simp) (fun j u hu => by
    obtain ⟨b, o, e, hbb, hx2⟩ := hr (by
     have := (List.getElem?_eq_some_iff.1 hu).1
     simp at this; omega)
    injection e with e
    subst e; rw [lit_add]
    exact (hb.cell (p := ⟨b, o + j, none⟩) hbb).trans (hx2 j u hu)) (fun u hu => by obtain ⟨n, _, rfl⟩ := List.mem_map.1 hu; rfl) (by unfold maxLen; omega) (by omega) hb.size
   rw [Nat.zero_add, List.nil_append] at a2; exact ⟨v', w', a1, a2, ⟨a3.os, a3.tape, a3.output, a3.size, fun k hk => a3.block k hk (by simp [Value.ownBlock])⟩⟩
 obtain ⟨v', w', h3, h4, h5⟩ := key; refine ⟨v', w', ?_, h4, h5⟩
 simp only [execOp, resolve, invoke, builtin, h1, h2, List.map_toArray, List.map_cons, List.map_nil, Sem.run_bind, Sem.run_pure, h3, Result.andThen_ok]
end
theorem bytes_law (counts : List Int) (l : List Ev) (s : ByteArray) (cv lv : Value) (W : World) (hc : Ints W W.heap.size cv counts) (hcf : ∀ x ∈ counts, WE.fit64 x) (hl : Evs W W.heap.size lv l) (hlf : ∀ x ∈ l, x.fits) (hcl : counts.length <= 1100000) (hll : l.length <= 1100000) (hs : s.size <= 1100000)
  (hwk : ∀ w, Below W.heap.size W w -> Calls Tryd.prog 11 #[] w fun e w' => e = .returned (.bool true) /\ Below w.heap.size w w') :
  Calls Tryd.prog 7 #[cv, lv, .string s] W fun e w' => e = .returned (.bool true) /\ Below W.heap.size W w' := by
 have mixed : Tryd.prog.follows .mixedOrders = true := by kernel_rfl
 obtain ⟨ca, cc, rfl⟩ := hc.shape; obtain ⟨la, lc, rfl⟩ := hl.shape; have HC := Hyd hc; have HL := Hyd hl; have HCF := Hyd hcf; have HLF := Hyd hlf; have HWK := Hyd hwk
 obtain ⟨bl, hbl⟩ : ∃ bl, ((s.size : Int) % 2 == 0) = bl := ⟨_, rfl⟩
 clear hc hl hcf hlf hwk
 have hcl' : counts.length <= 10000000 := by omega
 have HXA0 := Hyd (show ((W.alloc (.cells #[.slice none 0 0, .slice none 0 0, .bool false] 56)).alloc (.cells #[.slice none 0 0, .slice none 0 0, .bool false] 58)).heap[W.heap.size]? = some (.cells #[.slice none 0 0, .slice none 0 0, .bool false] 56 (0, 0)) from heap_alloc (heap_new rfl)); have HXB0 := Hyd (show ((W.alloc (.cells #[.slice none 0 0, .slice none 0 0, .bool false] 56)).alloc (.cells #[.slice none 0 0, .slice none 0 0, .bool false] 58)).heap[W.heap.size + 1]? = some (.cells #[.slice none 0 0, .slice none 0 0, .bool false] 58 (0, 0)) from heap_new (by simp)); have HBW := Hyd (below_alloc0 (o := .cells #[.slice none 0 0, .slice none 0 0, .bool false] 58) (below_alloc0 (o := .cells #[.slice none 0 0, .slice none 0 0, .bool false] 56) (Below.refl W.heap.size W)))
 go_enter Tryd.func7, Tryd.ntmps7
 go_upto_region 3 with (fail)
 obtain ⟨A, hA⟩ : ∃ A, W.heap.size = A := ⟨_, rfl⟩
 obtain ⟨B, hB⟩ : ∃ B, W.heap.size + 1 = B := ⟨_, rfl⟩
 rw [hB] at HXB0 ⊢; rw [hA] at HXA0 ⊢
 have hA1 : W.heap.size <= A := by omega
 have hA2 : A <= W.heap.size := by omega
 have hAB : A < B := by omega
 clear hA hB; generalize (W.alloc (.cells #[.slice none 0 0, .slice none 0 0, .bool false] 56)).alloc (.cells #[.slice none 0 0, .slice none 0 0, .bool false] 58) = W2 at *; have hne : (s.size : Int) % 2 = (s.size : Int) % 2 := rfl; obtain ⟨y0, y1, y2, f0, f1, f2⟩ := cells3 HXA0.out; obtain ⟨z0, z1, z2, g0, g1, g2⟩ := cells3 HXB0.out; have HXA1 := Hyd (bother (bset HXA0.out 2 (.bool bl)) B 2 (.bool bl) (by omega)); have HXB1 := Hyd (bset (bother HXB0.out A 2 (.bool bl) (by omega)) 2 (.bool bl)); have HB1 := Hyd ((HBW.out.setCell (p := ⟨A, 2, none⟩) hA1 (.bool bl)).setCell (p := ⟨B, 2, none⟩) (by show W.heap.size <= B; omega) (.bool bl))
 go_upto_region 4 with (fail)
 clear y0 y1 y2 f0 f1 f2 z0 z1 z2 g0 g1 g2 hne hbl HXA0 HXB0 HBW; generalize (W2.setCell ⟨A, 2, none⟩ (.bool bl)).setCell ⟨B, 2, none⟩ (.bool bl) = W3 at *; have HXA := Hyd (show W3.drew.heap[A]? = some (.cells #[.slice none 0 0, .slice none 0 0, .bool bl] 56 (0, 0)) from HXA1.out); have HXB := Hyd (show W3.drew.heap[B]? = some (.cells #[.slice none 0 0, .slice none 0 0, .bool bl] 58 (0, 0)) from HXB1.out); have HB0 := HB1; go_wp2_with fail
 refine Reg.stand_order (W := W) (h := 12) (t := 0)
  [⟨0, 29, [], 99, [], none, fun v _ => v = .pointer (some ⟨A, 0, none⟩)⟩,
   ⟨1, 30, [], 99, [], none, fun v _ => v = .slice none 0 0⟩,
   ⟨2, 31, [], 99, [], none, fun v _ => v = .slice ca counts.length cc⟩,
   ⟨3, 32, [3], 99, [], none, fun v w' => w'.ownsRow W.heap.size 3 1 v counts.length (counts.map (Value.int .i64))⟩,
   ⟨4, 33, [], 99, [], none, fun v _ => v = .pointer (some ⟨B, 0, none⟩)⟩,
   ⟨5, 34, [], 99, [], none, fun v _ => v = .slice none 0 0⟩,
   ⟨6, 35, [], 99, [], none, fun v _ => v = .slice ca counts.length cc⟩,
   ⟨7, 36, [3], 99, [], none, fun v w' => w'.ownsRow W.heap.size 3 1 v counts.length (counts.map (Value.int .i64))⟩,
   ⟨8, 37, [], 99, [], none, fun v _ => v = .pointer (some ⟨A, 0, none⟩)⟩,
   ⟨9, 19, [3, 56], 99, [], some 56, fun _ w' => ∃ a c, w'.ownsRow W.heap.size 3 1 (.slice a counts.length c) counts.length (counts.map (Value.int .i64)) /\ w'.heap[A]? = some (.cells #[.slice a counts.length c, .slice none 0 0, .bool bl] 56 (0, 0))⟩,
   ⟨10, 38, [], 99, [], none, fun v _ => v = .pointer (some ⟨B, 0, none⟩)⟩,
   ⟨11, 20, [3, 58], 99, [], some 58, fun _ w' => ∃ a c, w'.ownsRow W.heap.size 3 1 (.slice a counts.length c) counts.length (counts.map (Value.int .i64)) /\ w'.heap[B]? = some (.cells #[.slice a counts.length c, .slice none 0 0, .bool bl] 58 (0, 0))⟩]
  [⟨[56], 9, fun w => w.heap[A]? = some (.cells #[.slice none 0 0, .slice none 0 0, .bool bl] 56 (0, 0))⟩,
   ⟨[58], 11, fun w => w.heap[B]? = some (.cells #[.slice none 0 0, .slice none 0 0, .bool bl] 58 (0, 0))⟩]
  (by kernel_rfl) rfl (by kernel_rfl) (by kernel_rfl) (by kernel_rfl) (show [0, 1, 2, 3, 4, 5, 6, 7, 8, 9, 10, 11].Nodup by decide) (show ∀ i, i < 12 -> i ∈ [0, 1, 2, 3, 4, 5, 6, 7, 8, 9, 10, 11] by decide) ?_ (show [29, 30, 31, 32, 33, 34, 35, 36, 37, 19, 38, 20].Nodup by decide) (show ∀ s ∈ [29, 30, 31, 32, 33, 34, 35, 36, 37, 19, 38, 20], s < 111 by decide) (by kernel_rfl) ?_ ?_ HB0.out ?_ ?_ ?_
 ·intro f hf
  simp only [List.mem_cons, List.not_mem_nil, or_false] at hf
  rcases hf with rfl | rfl | rfl | rfl | rfl | rfl | rfl | rfl | rfl | rfl | rfl | rfl <;> simp
 ·intro f hf v w1 w2 hk hF
  simp only [List.mem_cons, List.not_mem_nil, or_false] at hf
  rcases hf with rfl | rfl | rfl | rfl | rfl | rfl | rfl | rfl | rfl | rfl | rfl | rfl
  ·exact hF
  ·exact hF
  ·exact hF
  ·exact (hk 3 (by simp)).1 _ _ _ _ _ hF
  ·exact hF
  ·exact hF
  ·exact hF
  ·exact (hk 3 (by simp)).1 _ _ _ _ _ hF
  ·exact hF
  ·obtain ⟨x, y, h1, h2⟩ := hF; exact ⟨x, y, (hk 3 (by simp)).1 _ _ _ _ _ h1, (hk 56 (by simp)).2 _ _ h2⟩
  ·exact hF
  ·obtain ⟨x, y, h1, h2⟩ := hF; exact ⟨x, y, (hk 3 (by simp)).1 _ _ _ _ _ h1, (hk 58 (by simp)).2 _ _ h2⟩
 ·intro f hf w1 w2 hk hG
  simp only [List.mem_cons, List.not_mem_nil, or_false] at hf
  rcases hf with rfl | rfl
  ·exact (hk 56 (by simp)).2 _ _ hG
  ·exact (hk 58 (by simp)).2 _ _ hG
 ·intro f hf
  simp only [List.mem_cons, List.not_mem_nil, or_false] at hf
  rcases hf with rfl | rfl
  ·exact HXA.out
  ·exact HXB.out
 ·intro f hf a w1 hs hg' hst; have t0 : a.eval (.tmp 0) = .slice ca counts.length cc := Reg.eval_tmp ((hs.out 0 (show 0 ∉ [29, 30, 31, 32, 33, 34, 35, 36, 37, 19, 38, 20] by decide)).trans rfl); have t7 : a.eval (.tmp 7) = .pointer (some ⟨A, 0, none⟩) := Reg.eval_tmp ((hs.out 7 (show 7 ∉ [29, 30, 31, 32, 33, 34, 35, 36, 37, 19, 38, 20] by decide)).trans rfl); have t8 : a.eval (.tmp 8) = .pointer (some ⟨B, 0, none⟩) := Reg.eval_tmp ((hs.out 8 (show 8 ∉ [29, 30, 31, 32, 33, 34, 35, 36, 37, 19, 38, 20] by decide)).trans rfl)
  simp only [List.mem_cons, List.not_mem_nil, or_false] at hf
  rcases hf with rfl | rfl | rfl | rfl | rfl | rfl | rfl | rfl | rfl | rfl | rfl | rfl
  ·exact Reg.step_val rfl rfl rfl (Ord.run_fld t7 (fldA0 w1 _)) rfl hs.below (fun e => Reg.Keeps.refl e _)
  ·obtain ⟨v1, hv1, rfl⟩ : ∃ v, a.tmps[29]? = some v /\ v = .pointer (some ⟨A, 0, none⟩) := hg' _ (Reg.at_fact 0 rfl) (by kernel_rfl) (by simp [Reg.okTil])
   have hx : w1.heap[A]? = some (.cells #[.slice none 0 0, .slice none 0 0, .bool bl] 56 (0, 0)) := hst _ (Reg.at_stand 0 rfl) (by first | (simp [Reg.okTil]; done) | kernel_rfl); exact Reg.step_val rfl rfl rfl (Reg.run_load (Reg.eval_tmp hv1) (load_ints ((Lib.cell_of_heap hx 0).trans rfl))) rfl hs.below (fun e => Reg.Keeps.refl e _)
  ·exact Reg.step_val rfl rfl rfl (Reg.run_move t0) rfl hs.below (fun e => Reg.Keeps.refl e _)
  ·obtain ⟨v1, hv1, rfl⟩ : ∃ v, a.tmps[30]? = some v /\ v = .slice none 0 0 := hg' _ (Reg.at_fact 1 rfl) (by kernel_rfl) (by simp [Reg.okTil])
   obtain ⟨v2, hv2, rfl⟩ : ∃ v, a.tmps[31]? = some v /\ v = .slice ca counts.length cc := hg' _ (Reg.at_fact 2 rfl) (by kernel_rfl) (by simp [Reg.okTil])
   obtain ⟨v', w', hr, ho, hb⟩ := app_nil (w := w1) (pos := _) (af := _) (d := some 32) hs.below (Reg.eval_tmp hv1) (Reg.eval_tmp hv2) HC.out hcl'; exact Reg.step_val rfl rfl rfl hr ho (hs.below.trans (hb.mono hs.below.size)) (fun e => Reg.Keeps.below e hb)
  ·exact Reg.step_val rfl rfl rfl (Ord.run_fld t8 (fldB0 w1 _)) rfl hs.below (fun e => Reg.Keeps.refl e _)
  ·obtain ⟨v1, hv1, rfl⟩ : ∃ v, a.tmps[33]? = some v /\ v = .pointer (some ⟨B, 0, none⟩) := hg' _ (Reg.at_fact 4 rfl) (by kernel_rfl) (by simp [Reg.okTil])
   have hx : w1.heap[B]? = some (.cells #[.slice none 0 0, .slice none 0 0, .bool bl] 58 (0, 0)) := hst _ (Reg.at_stand 1 rfl) (by first | (simp [Reg.okTil]; done) | kernel_rfl); exact Reg.step_val rfl rfl rfl (Reg.run_load (Reg.eval_tmp hv1) (load_ints ((Lib.cell_of_heap hx 0).trans rfl))) rfl hs.below (fun e => Reg.Keeps.refl e _)
  ·exact Reg.step_val rfl rfl rfl (Reg.run_move t0) rfl hs.below (fun e => Reg.Keeps.refl e _)
  ·obtain ⟨v1, hv1, rfl⟩ : ∃ v, a.tmps[34]? = some v /\ v = .slice none 0 0 := hg' _ (Reg.at_fact 5 rfl) (by kernel_rfl) (by simp [Reg.okTil])
   obtain ⟨v2, hv2, rfl⟩ : ∃ v, a.tmps[35]? = some v /\ v = .slice ca counts.length cc := hg' _ (Reg.at_fact 6 rfl) (by kernel_rfl) (by simp [Reg.okTil])
   obtain ⟨v', w', hr, ho, hb⟩ := app_nil (w := w1) (pos := _) (af := _) (d := some 36) hs.below (Reg.eval_tmp hv1) (Reg.eval_tmp hv2) HC.out hcl'; exact Reg.step_val rfl rfl rfl hr ho (hs.below.trans (hb.mono hs.below.size)) (fun e => Reg.Keeps.below e hb)
  ·exact Reg.step_val rfl rfl rfl (Ord.run_fld t7 (fldA0 w1 _)) rfl hs.below (fun e => Reg.Keeps.refl e _)
  ·obtain ⟨v1, hv1, rfl⟩ : ∃ v, a.tmps[37]? = some v /\ v = .pointer (some ⟨A, 0, none⟩) := hg' _ (Reg.at_fact 8 rfl) (by kernel_rfl) (by simp [Reg.okTil])
   obtain ⟨v2, hv2, ho2⟩ : ∃ v, a.tmps[32]? = some v /\ w1.ownsRow W.heap.size 3 1 v counts.length (counts.map (Value.int .i64)) := hg' _ (Reg.at_fact 3 rfl) (by kernel_rfl) (by simp [Reg.okTil])
   obtain ⟨a2, c2, rfl⟩ := (Sl.of_own ho2).shape; have hx : w1.heap[A]? = some (.cells #[.slice none 0 0, .slice none 0 0, .bool bl] 56 (0, 0)) := hst _ (Reg.at_stand 0 rfl) (by first | (simp [Reg.okTil]; done) | kernel_rfl); refine Reg.step_store rfl rfl rfl (run_st_ints (Reg.eval_tmp hv1) (Reg.eval_tmp hv2) ((Lib.cell_of_heap hx 0).trans rfl) (Lib.frozen_of_heap hx 0)) (by rw [hs.size]; exact (by decide : 19 < 111)) (fun v => ?_) (hs.below.setCell (p := ⟨A, 0, none⟩) (by show W.heap.size <= A; omega) _) (fun e he => keeps_set hx (fun h => he (by rw [h]))); exact ⟨a2, c2, own_set ho2 hx (by decide), (bset hx 0 _).trans rfl⟩
  ·exact Reg.step_val rfl rfl rfl (Ord.run_fld t8 (fldB0 w1 _)) rfl hs.below (fun e => Reg.Keeps.refl e _)
  ·obtain ⟨v1, hv1, rfl⟩ : ∃ v, a.tmps[38]? = some v /\ v = .pointer (some ⟨B, 0, none⟩) := hg' _ (Reg.at_fact 10 rfl) (by kernel_rfl) (by simp [Reg.okTil])
   obtain ⟨v2, hv2, ho2⟩ : ∃ v, a.tmps[36]? = some v /\ w1.ownsRow W.heap.size 3 1 v counts.length (counts.map (Value.int .i64)) := hg' _ (Reg.at_fact 7 rfl) (by kernel_rfl) (by simp [Reg.okTil])
   obtain ⟨a2, c2, rfl⟩ := (Sl.of_own ho2).shape; have hx : w1.heap[B]? = some (.cells #[.slice none 0 0, .slice none 0 0, .bool bl] 58 (0, 0)) := hst _ (Reg.at_stand 1 rfl) (by first | (simp [Reg.okTil]; done) | kernel_rfl); refine Reg.step_store rfl rfl rfl (run_st_ints (Reg.eval_tmp hv1) (Reg.eval_tmp hv2) ((Lib.cell_of_heap hx 0).trans rfl) (Lib.frozen_of_heap hx 0)) (by rw [hs.size]; exact (by decide : 20 < 111)) (fun v => ?_) (hs.below.setCell (p := ⟨B, 0, none⟩) (by show W.heap.size <= B; omega) _) (fun e he => keeps_set hx (fun h => he (by rw [h]))); exact ⟨a2, c2, own_set ho2 hx (by decide), (bset hx 0 _).trans rfl⟩
 ·intro vals w1 hF hfx hb1
  obtain ⟨a1, c1, ho1, hx1⟩ : ∃ a c, w1.ownsRow W.heap.size 3 1 (.slice a counts.length c) counts.length (counts.map (Value.int .i64)) /\ w1.heap[A]? = some (.cells #[.slice a counts.length c, .slice none 0 0, .bool bl] 56 (0, 0)) := hF _ (Reg.at_fact 9 rfl) (show (12 + 0 : Nat) <= 99 by decide)
  obtain ⟨a2, c2, ho2, hx2⟩ : ∃ a c, w1.ownsRow W.heap.size 3 1 (.slice a counts.length c) counts.length (counts.map (Value.int .i64)) /\ w1.heap[B]? = some (.cells #[.slice a counts.length c, .slice none 0 0, .bool bl] 58 (0, 0)) := hF _ (Reg.at_fact 11 rfl) (show (12 + 0 : Nat) <= 99 by decide)
  simp only [List.map_cons, List.map_nil]
  generalize vals 29 = q29; generalize vals 30 = q30; generalize vals 31 = q31; generalize vals 32 = q32; generalize vals 19 = q19; generalize vals 33 = q33; generalize vals 34 = q34; generalize vals 35 = q35; generalize vals 36 = q36; generalize vals 37 = q37; generalize vals 38 = q38; generalize vals 20 = q20; have HO1 := Hyd ho1; have HO2 := Hyd ho2; have HX1 := Hyd hx1; have HX2 := Hyd hx2; have HB1 := Hyd hb1; clear hF hfx hb1 ho1 ho2 hx1 hx2; unfold Reg.puts Reg.puts Reg.puts Reg.puts Reg.puts Reg.puts Reg.puts Reg.puts Reg.puts Reg.puts Reg.puts Reg.puts Reg.puts
  go_simp
  go_wp2_with fail
  go_loopw [41] (fun i wr => ∃ (k : Nat) (av bv : Value), k <= l.length /\ i = .int .i64 k /\ Hid (wr.heap[A]? = some (.cells #[.slice a1 counts.length c1, av, .bool bl] 56 (0, 0))) /\ Hid (wr.heap[B]? = some (.cells #[.slice a2 counts.length c2, bv, .bool bl] 58 (0, 0))) /\
   Hid (wr.ownsRow W.heap.size 37 4 av k (cellsOf encE (l.take k))) /\ Hid (wr.ownsRow W.heap.size 59 4 bv k (cellsOf encE (l.take k))) /\ Hid (wr.ownsRow W.heap.size 3 1 (.slice a1 counts.length c1) counts.length (counts.map (Value.int .i64))) /\ Hid (wr.ownsRow W.heap.size 3 1 (.slice a2 counts.length c2) counts.length (counts.map (Value.int .i64))) /\ Hid (Below W.heap.size W wr)) (fun i _ => l.length - (intOf i).toNat)
  case atStart => exact ⟨0, .slice none 0 0, .slice none 0 0, Nat.zero_le _, rfl, HX1, HX2, Hyd (World.ownsRow_nil _ _ _ _), Hyd (World.ownsRow_nil _ _ _ _), HO1, HO2, HB1⟩
  case round =>
   clear HX1 HX2 HO1 HO2 HB1 HXA HXB HB0; obtain ⟨k, av, bv, hk, rfl, HXA', HXB', HOE', HOR', HI1', HI2', HB⟩ := hrel; obtain ⟨aa, ac, rfl⟩ := (Sl.of_own HOE'.out).shape; obtain ⟨ba, bc, rfl⟩ := (Sl.of_own HOR'.out).shape; have hAl := heap_lt HXA'.out; have hBl := heap_lt HXB'.out
   by_cases hlt : k < l.length
   ·obtain ⟨b, o, c', hc', hbb, g0, g1, g2, g3⟩ := Evs.at_ HL.out hlt
    obtain ⟨rfl, rfl⟩ : la = some ⟨b, o, none⟩ /\ lc = c' := by simpa using hc'
    clear hc'; have hc0 := (HB.out.cell (p := ⟨b, o + k * 4, none⟩) hbb).trans g0; have hc1 := (HB.out.cell (p := ⟨b, o + k * 4 + 1, none⟩) hbb).trans g1; have hc2 := (HB.out.cell (p := ⟨b, o + k * 4 + 2, none⟩) hbb).trans g2; have hc3 := (HB.out.cell (p := ⟨b, o + k * 4 + 3, none⟩) hbb).trans g3; have HTK := Hyd (List.take_succ_eq_append_getElem (l := l) (i := k) hlt); generalize l[k] = x at *; clear g0 g1 g2 g3
    go_upto_region 8 with (fail)
    clear hc0 hc1 hc2 hc3
    obtain ⟨L, hLL⟩ : ∃ L, wr.heap.size = L := ⟨_, rfl⟩
    rw [hLL]
    have hL1 : W.heap.size <= L := by rw [<- hLL]; exact HB.out.size
    obtain ⟨w8, hw8⟩ : ∃ w8, wr.alloc (.cells #[.int .i64 x.id, .int .i64 x.time, .int .u8 x.kind, .int .i64 x.val] 42) = w8 := ⟨_, rfl⟩
    rw [hw8]
    have hba : Below wr.heap.size wr w8 := by rw [<- hw8]; exact (Below.refl _ _).alloc (Nat.le_refl _) _
    have HXA := Hyd (show w8.drew.heap[A]? = some (.cells #[.slice a1 counts.length c1, .slice aa k ac, .bool bl] 56 (0, 0)) from (hba.block _ hAl).trans HXA'.out); have HXB := Hyd (show w8.drew.heap[B]? = some (.cells #[.slice a2 counts.length c2, .slice ba k bc, .bool bl] 58 (0, 0)) from (hba.block _ hBl).trans HXB'.out); have HXL := Hyd (show w8.drew.heap[L]? = some (.cells #[.int .i64 x.id, .int .i64 x.time, .int .u8 x.kind, .int .i64 x.val] 42 (0, 0)) by rw [<- hw8]; exact heap_new hLL.symm); have HOE := Hyd (show w8.drew.ownsRow W.heap.size 37 4 (.slice aa k ac) k (cellsOf encE (l.take k)) from own_drew (own_below HOE'.out hba)); have HOR := Hyd (show w8.drew.ownsRow W.heap.size 59 4 (.slice ba k bc) k (cellsOf encE (l.take k)) from own_drew (own_below HOR'.out hba))
    have HI1 := Hyd (show w8.drew.ownsRow W.heap.size 3 1 (.slice a1 counts.length c1) counts.length (counts.map (Value.int .i64)) from own_drew (own_below HI1'.out hba)); have HI2 := Hyd (show w8.drew.ownsRow W.heap.size 3 1 (.slice a2 counts.length c2) counts.length (counts.map (Value.int .i64)) from own_drew (own_below HI2'.out hba)); have HB8 := Hyd (HB.out.trans (hba.mono HB.out.size)); obtain ⟨ti, hii, hi0, hi1, hi2⟩ := info_parts WG.infoE; obtain ⟨tj, hji, hj0, hj1, hj2⟩ := info_parts WG.infoR; clear hw8 hba hLL HXA' HXB' HOE' HOR' HI1' HI2' HB; go_wp2_with fail
    refine Reg.stand_order (W := W) (h := 14) (t := 0)
     [⟨0, 45, [], 99, [], none, fun v _ => v = .pointer (some ⟨A, 1, none⟩)⟩,
      ⟨1, 46, [], 99, [], none, fun v _ => v = .slice aa k ac⟩,
      ⟨2, 47, [], 99, [], none, fun v _ => v = .agg #[.int .i64 x.id, .int .i64 x.time, .int .u8 x.kind, .int .i64 x.val]⟩,
      ⟨3, 48, [37], 4, [], none, fun v w' => ∃ g, v = .slice (some ⟨g, 0, none⟩) 1 1 /\ w'.heap[g]? = some (.cells (encE x).toArray 37 (0, 0))⟩,
      ⟨4, 49, [37], 99, [], some 37, fun v w' => w'.ownsRow W.heap.size 37 4 v (k + 1) ((cellsOf encE (l.take k)) ++ (encE x))⟩,
      ⟨5, 50, [], 99, [], none, fun v _ => v = .pointer (some ⟨B, 1, none⟩)⟩,
      ⟨6, 51, [], 99, [], none, fun v _ => v = .slice ba k bc⟩,
      ⟨7, 52, [], 99, [], none, fun v _ => v = .agg #[.int .i64 x.id, .int .i64 x.time, .int .u8 x.kind, .int .i64 x.val]⟩,
      ⟨8, 53, [59], 9, [], none, fun v w' => ∃ g, v = .slice (some ⟨g, 0, none⟩) 1 1 /\ w'.heap[g]? = some (.cells (encE x).toArray 59 (0, 0))⟩,
      ⟨9, 54, [59], 99, [], some 59, fun v w' => w'.ownsRow W.heap.size 59 4 v (k + 1) ((cellsOf encE (l.take k)) ++ (encE x))⟩,
      ⟨10, 55, [], 99, [], none, fun v _ => v = .pointer (some ⟨A, 1, none⟩)⟩,
      ⟨11, 42, [37, 56], 99, [], some 56, fun _ w' => ∃ a c, w'.ownsRow W.heap.size 37 4 (.slice a (k + 1) c) (k + 1) ((cellsOf encE (l.take k)) ++ (encE x)) /\ w'.heap[A]? = some (.cells #[.slice a1 counts.length c1, .slice a (k + 1) c, .bool bl] 56 (0, 0))⟩,
      ⟨12, 56, [], 99, [], none, fun v _ => v = .pointer (some ⟨B, 1, none⟩)⟩,
      ⟨13, 43, [59, 58], 99, [], some 58, fun _ w' => ∃ a c, w'.ownsRow W.heap.size 59 4 (.slice a (k + 1) c) (k + 1) ((cellsOf encE (l.take k)) ++ (encE x)) /\ w'.heap[B]? = some (.cells #[.slice a2 counts.length c2, .slice a (k + 1) c, .bool bl] 58 (0, 0))⟩]
     [⟨[56], 11, fun w => w.heap[A]? = some (.cells #[.slice a1 counts.length c1, .slice aa k ac, .bool bl] 56 (0, 0))⟩,
      ⟨[58], 13, fun w => w.heap[B]? = some (.cells #[.slice a2 counts.length c2, .slice ba k bc, .bool bl] 58 (0, 0))⟩,
      ⟨[42], 99, fun w => w.heap[L]? = some (.cells #[.int .i64 x.id, .int .i64 x.time, .int .u8 x.kind, .int .i64 x.val] 42 (0, 0))⟩,
      ⟨[37], 4, fun w => w.ownsRow W.heap.size 37 4 (.slice aa k ac) k (cellsOf encE (l.take k))⟩,
      ⟨[59], 9, fun w => w.ownsRow W.heap.size 59 4 (.slice ba k bc) k (cellsOf encE (l.take k))⟩,
      ⟨[3], 99, fun w => w.ownsRow W.heap.size 3 1 (.slice a1 counts.length c1) counts.length (counts.map (Value.int .i64)) /\ w.ownsRow W.heap.size 3 1 (.slice a2 counts.length c2) counts.length (counts.map (Value.int .i64))⟩]
     (by kernel_rfl) rfl (by kernel_rfl) (by kernel_rfl) (by kernel_rfl) (show [0, 1, 2, 3, 4, 5, 6, 7, 8, 9, 10, 11, 12, 13].Nodup by decide) (show ∀ i, i < 14 -> i ∈ [0, 1, 2, 3, 4, 5, 6, 7, 8, 9, 10, 11, 12, 13] by decide) ?_ (show [45, 46, 47, 48, 49, 50, 51, 52, 53, 54, 55, 42, 56, 43].Nodup by decide) (show ∀ s ∈ [45, 46, 47, 48, 49, 50, 51, 52, 53, 54, 55, 42, 56, 43], s < 111 by decide) (by kernel_rfl) ?_ ?_ HB8.out ?_ ?_ ?_
    ·intro f hf
     simp only [List.mem_cons, List.not_mem_nil, or_false] at hf
     rcases hf with rfl | rfl | rfl | rfl | rfl | rfl | rfl | rfl | rfl | rfl | rfl | rfl | rfl | rfl <;> simp
    ·intro f hf v w1 w2 hk hF
     simp only [List.mem_cons, List.not_mem_nil, or_false] at hf
     rcases hf with rfl | rfl | rfl | rfl | rfl | rfl | rfl | rfl | rfl | rfl | rfl | rfl | rfl | rfl
     ·exact hF
     ·exact hF
     ·exact hF
     ·obtain ⟨g, e1, h⟩ := hF; exact ⟨g, e1, (hk 37 (by simp)).2 _ _ h⟩
     ·exact (hk 37 (by simp)).1 _ _ _ _ _ hF
     ·exact hF
     ·exact hF
     ·exact hF
     ·obtain ⟨g, e1, h⟩ := hF; exact ⟨g, e1, (hk 59 (by simp)).2 _ _ h⟩
     ·exact (hk 59 (by simp)).1 _ _ _ _ _ hF
     ·exact hF
     ·obtain ⟨x1, y1, h1, h2⟩ := hF; exact ⟨x1, y1, (hk 37 (by simp)).1 _ _ _ _ _ h1, (hk 56 (by simp)).2 _ _ h2⟩
     ·exact hF
     ·obtain ⟨x1, y1, h1, h2⟩ := hF; exact ⟨x1, y1, (hk 59 (by simp)).1 _ _ _ _ _ h1, (hk 58 (by simp)).2 _ _ h2⟩
    ·intro f hf w1 w2 hk hG
     simp only [List.mem_cons, List.not_mem_nil, or_false] at hf
     rcases hf with rfl | rfl | rfl | rfl | rfl | rfl
     ·exact (hk 56 (by simp)).2 _ _ hG
     ·exact (hk 58 (by simp)).2 _ _ hG
     ·exact (hk 42 (by simp)).2 _ _ hG
     ·exact (hk 37 (by simp)).1 _ _ _ _ _ hG
     ·exact (hk 59 (by simp)).1 _ _ _ _ _ hG
     ·exact ⟨(hk 3 (by simp)).1 _ _ _ _ _ hG.1, (hk 3 (by simp)).1 _ _ _ _ _ hG.2⟩
    ·intro f hf
     simp only [List.mem_cons, List.not_mem_nil, or_false] at hf
     rcases hf with rfl | rfl | rfl | rfl | rfl | rfl
     ·exact HXA.out
     ·exact HXB.out
     ·exact HXL.out
     ·exact HOE.out
     ·exact HOR.out
     ·exact ⟨HI1.out, HI2.out⟩
    ·intro f hf a w1 hs hg' hst; have t7 : a.eval (.tmp 7) = .pointer (some ⟨A, 0, none⟩) := Reg.eval_tmp ((hs.out 7 (show 7 ∉ [45, 46, 47, 48, 49, 50, 51, 52, 53, 54, 55, 42, 56, 43] by decide)).trans rfl); have t8 : a.eval (.tmp 8) = .pointer (some ⟨B, 0, none⟩) := Reg.eval_tmp ((hs.out 8 (show 8 ∉ [45, 46, 47, 48, 49, 50, 51, 52, 53, 54, 55, 42, 56, 43] by decide)).trans rfl); have t10 : a.eval (.tmp 10) = .pointer (some ⟨L, 0, none⟩) := Reg.eval_tmp ((hs.out 10 (show 10 ∉ [45, 46, 47, 48, 49, 50, 51, 52, 53, 54, 55, 42, 56, 43] by decide)).trans rfl)
     simp only [List.mem_cons, List.not_mem_nil, or_false] at hf
     rcases hf with rfl | rfl | rfl | rfl | rfl | rfl | rfl | rfl | rfl | rfl | rfl | rfl | rfl | rfl
     ·exact Reg.step_val rfl rfl rfl (Ord.run_fld t7 (fld_run w1 _)) rfl hs.below (fun e => Reg.Keeps.refl e _)
     ·obtain ⟨v1, hv1, rfl⟩ : ∃ v, a.tmps[45]? = some v /\ v = .pointer (some ⟨A, 1, none⟩) := hg' _ (Reg.at_fact 0 rfl) (by kernel_rfl) (by simp [Reg.okTil])
      have hx : w1.heap[A]? = some (.cells #[.slice a1 counts.length c1, .slice aa k ac, .bool bl] 56 (0, 0)) := hst _ (Reg.at_stand 0 rfl) (by first | (simp [Reg.okTil]; done) | kernel_rfl); exact Reg.step_val rfl rfl rfl (Reg.run_load (Reg.eval_tmp hv1) (load_evs ((Lib.cell_of_heap hx 1).trans rfl))) rfl hs.below (fun e => Reg.Keeps.refl e _)
     ·have hx : w1.heap[L]? = some (.cells #[.int .i64 x.id, .int .i64 x.time, .int .u8 x.kind, .int .i64 x.val] 42 (0, 0)) := hst _ (Reg.at_stand 2 rfl) (by simp [Reg.okTil]); exact Reg.step_val rfl rfl rfl (Reg.run_load t10 (load_l21 hx)) rfl hs.below (fun e => Reg.Keeps.refl e _)
     ·obtain ⟨v1, hv1, rfl⟩ : ∃ v, a.tmps[47]? = some v /\ v = .agg #[.int .i64 x.id, .int .i64 x.time, .int .u8 x.kind, .int .i64 x.val] := hg' _ (Reg.at_fact 2 rfl) (by kernel_rfl) (by simp [Reg.okTil])
      exact Reg.step_val rfl rfl rfl (Reg.run_build (Reg.eval_tmp hv1) (build_p w1 x)) ⟨_, rfl, heap_new rfl⟩ (below_alloc0 hs.below) (fun e => Reg.Keeps.alloc e _ _)
     ·obtain ⟨v1, hv1, rfl⟩ : ∃ v, a.tmps[46]? = some v /\ v = .slice aa k ac := hg' _ (Reg.at_fact 1 rfl) (by kernel_rfl) (by simp [Reg.okTil])
      obtain ⟨v2, hv2, g, rfl, hh⟩ : ∃ v, a.tmps[48]? = some v /\ ∃ g, v = .slice (some ⟨g, 0, none⟩) 1 1 /\ w1.heap[g]? = some (.cells (encE x).toArray 37 (0, 0)) := hg' _ (Reg.at_fact 3 rfl) (by kernel_rfl) (by first | (simp [Reg.okTil]; done) | kernel_rfl)
      have hown : w1.ownsRow W.heap.size 37 4 (.slice aa k ac) k (cellsOf encE (l.take k)) := hst _ (Reg.at_stand 3 rfl) (by first | (simp [Reg.okTil]; done) | kernel_rfl); exact Reg.step_append rfl rfl rfl rfl hs.below Tryd.underlying32 hii hi0 hi1 hi2 rfl (by decide) hv1 hown hv2 (news := (encE x)) rfl (fun j u hu => World.news_of_block hh j u (by simpa using hu)) (encE_one x) (by decide) (by unfold maxLen; omega) (by omega) (fun v' w' h => h)
     ·exact Reg.step_val rfl rfl rfl (Ord.run_fld t8 (fldB1 w1 _)) rfl hs.below (fun e => Reg.Keeps.refl e _)
     ·obtain ⟨v1, hv1, rfl⟩ : ∃ v, a.tmps[50]? = some v /\ v = .pointer (some ⟨B, 1, none⟩) := hg' _ (Reg.at_fact 5 rfl) (by kernel_rfl) (by simp [Reg.okTil])
      have hx : w1.heap[B]? = some (.cells #[.slice a2 counts.length c2, .slice ba k bc, .bool bl] 58 (0, 0)) := hst _ (Reg.at_stand 1 rfl) (by first | (simp [Reg.okTil]; done) | kernel_rfl); exact Reg.step_val rfl rfl rfl (Reg.run_load (Reg.eval_tmp hv1) (load_evs18 ((Lib.cell_of_heap hx 1).trans rfl))) rfl hs.below (fun e => Reg.Keeps.refl e _)
     ·have hx : w1.heap[L]? = some (.cells #[.int .i64 x.id, .int .i64 x.time, .int .u8 x.kind, .int .i64 x.val] 42 (0, 0)) := hst _ (Reg.at_stand 2 rfl) (by simp [Reg.okTil]); exact Reg.step_val rfl rfl rfl (Reg.run_load t10 (load_l21 hx)) rfl hs.below (fun e => Reg.Keeps.refl e _)
     ·obtain ⟨v1, hv1, rfl⟩ : ∃ v, a.tmps[52]? = some v /\ v = .agg #[.int .i64 x.id, .int .i64 x.time, .int .u8 x.kind, .int .i64 x.val] := hg' _ (Reg.at_fact 7 rfl) (by kernel_rfl) (by simp [Reg.okTil])
      exact Reg.step_val rfl rfl rfl (Reg.run_build (Reg.eval_tmp hv1) (build_r w1 x)) ⟨_, rfl, heap_new rfl⟩ (below_alloc0 hs.below) (fun e => Reg.Keeps.alloc e _ _)
     ·obtain ⟨v1, hv1, rfl⟩ : ∃ v, a.tmps[51]? = some v /\ v = .slice ba k bc := hg' _ (Reg.at_fact 6 rfl) (by kernel_rfl) (by simp [Reg.okTil])
      obtain ⟨v2, hv2, g, rfl, hh⟩ : ∃ v, a.tmps[53]? = some v /\ ∃ g, v = .slice (some ⟨g, 0, none⟩) 1 1 /\ w1.heap[g]? = some (.cells (encE x).toArray 59 (0, 0)) := hg' _ (Reg.at_fact 8 rfl) (by kernel_rfl) (by first | (simp [Reg.okTil]; done) | kernel_rfl)
      have hown : w1.ownsRow W.heap.size 59 4 (.slice ba k bc) k (cellsOf encE (l.take k)) := hst _ (Reg.at_stand 4 rfl) (by first | (simp [Reg.okTil]; done) | kernel_rfl); exact Reg.step_append rfl rfl rfl rfl hs.below Tryd.underlying33 hji hj0 hj1 hj2 rfl (by decide) hv1 hown hv2 (news := (encE x)) rfl (fun j u hu => World.news_of_block hh j u (by simpa using hu)) (encE_one x) (by decide) (by unfold maxLen; omega) (by omega) (fun v' w' h => h)
     ·exact Reg.step_val rfl rfl rfl (Ord.run_fld t7 (fld_run w1 _)) rfl hs.below (fun e => Reg.Keeps.refl e _)
     ·obtain ⟨v1, hv1, rfl⟩ : ∃ v, a.tmps[55]? = some v /\ v = .pointer (some ⟨A, 1, none⟩) := hg' _ (Reg.at_fact 10 rfl) (by kernel_rfl) (by simp [Reg.okTil])
      obtain ⟨v2, hv2, ho2⟩ : ∃ v, a.tmps[49]? = some v /\ w1.ownsRow W.heap.size 37 4 v (k + 1) ((cellsOf encE (l.take k)) ++ (encE x)) := hg' _ (Reg.at_fact 4 rfl) (by kernel_rfl) (by first | (simp [Reg.okTil]; done) | kernel_rfl)
      obtain ⟨p2, q2, rfl⟩ := (Sl.of_own ho2).shape; have hx : w1.heap[A]? = some (.cells #[.slice a1 counts.length c1, .slice aa k ac, .bool bl] 56 (0, 0)) := hst _ (Reg.at_stand 0 rfl) (by first | (simp [Reg.okTil]; done) | kernel_rfl); refine Reg.step_store rfl rfl rfl (run_st_evs (Reg.eval_tmp hv1) (Reg.eval_tmp hv2) ((Lib.cell_of_heap hx 1).trans rfl) (Lib.frozen_of_heap hx 1)) (by rw [hs.size]; exact (by decide : 42 < 111)) (fun v => ?_) (hs.below.setCell (p := ⟨A, 1, none⟩) (by show W.heap.size <= A; omega) _) (fun e he => keeps_set hx (fun h => he (by rw [h]))); exact ⟨p2, q2, own_set ho2 hx (by decide), (bset hx 1 _).trans rfl⟩
     ·exact Reg.step_val rfl rfl rfl (Ord.run_fld t8 (fldB1 w1 _)) rfl hs.below (fun e => Reg.Keeps.refl e _)
     ·obtain ⟨v1, hv1, rfl⟩ : ∃ v, a.tmps[56]? = some v /\ v = .pointer (some ⟨B, 1, none⟩) := hg' _ (Reg.at_fact 12 rfl) (by kernel_rfl) (by simp [Reg.okTil])
      obtain ⟨v2, hv2, ho2⟩ : ∃ v, a.tmps[54]? = some v /\ w1.ownsRow W.heap.size 59 4 v (k + 1) ((cellsOf encE (l.take k)) ++ (encE x)) := hg' _ (Reg.at_fact 9 rfl) (by kernel_rfl) (by first | (simp [Reg.okTil]; done) | kernel_rfl)
      obtain ⟨p2, q2, rfl⟩ := (Sl.of_own ho2).shape; have hx : w1.heap[B]? = some (.cells #[.slice a2 counts.length c2, .slice ba k bc, .bool bl] 58 (0, 0)) := hst _ (Reg.at_stand 1 rfl) (by first | (simp [Reg.okTil]; done) | kernel_rfl); refine Reg.step_store rfl rfl rfl (run_st_evs18 (Reg.eval_tmp hv1) (Reg.eval_tmp hv2) ((Lib.cell_of_heap hx 1).trans rfl) (Lib.frozen_of_heap hx 1)) (by rw [hs.size]; exact (by decide : 43 < 111)) (fun v => ?_) (hs.below.setCell (p := ⟨B, 1, none⟩) (by show W.heap.size <= B; omega) _) (fun e he => keeps_set hx (fun h => he (by rw [h]))); exact ⟨p2, q2, own_set ho2 hx (by decide), (bset hx 1 _).trans rfl⟩
    ·intro vals w1 hF hfx hb1
     obtain ⟨p1, r1, ho1, hx1⟩ : ∃ a c, w1.ownsRow W.heap.size 37 4 (.slice a (k + 1) c) (k + 1) ((cellsOf encE (l.take k)) ++ (encE x)) /\ w1.heap[A]? = some (.cells #[.slice a1 counts.length c1, .slice a (k + 1) c, .bool bl] 56 (0, 0)) := hF _ (Reg.at_fact 11 rfl) (show (14 + 0 : Nat) <= 99 by decide)
     obtain ⟨p2, r2, ho2, hx2⟩ : ∃ a c, w1.ownsRow W.heap.size 59 4 (.slice a (k + 1) c) (k + 1) ((cellsOf encE (l.take k)) ++ (encE x)) /\ w1.heap[B]? = some (.cells #[.slice a2 counts.length c2, .slice a (k + 1) c, .bool bl] 58 (0, 0)) := hF _ (Reg.at_fact 13 rfl) (show (14 + 0 : Nat) <= 99 by decide)
     obtain ⟨hi1, hi2⟩ : w1.ownsRow W.heap.size 3 1 (.slice a1 counts.length c1) counts.length (counts.map (Value.int .i64)) /\ w1.ownsRow W.heap.size 3 1 (.slice a2 counts.length c2) counts.length (counts.map (Value.int .i64)) := hfx _ (Reg.at_stand 5 rfl) (show (14 + 0 : Nat) <= 99 by decide)
     simp only [List.map_cons, List.map_nil]
     generalize vals 45 = q45; generalize vals 46 = q46; generalize vals 47 = q47; generalize vals 48 = q48; generalize vals 49 = q49; generalize vals 50 = q50; generalize vals 51 = q51; generalize vals 52 = q52; generalize vals 53 = q53; generalize vals 54 = q54; generalize vals 55 = q55; generalize vals 42 = q42; generalize vals 56 = q56; generalize vals 43 = q43; have HO1 := Hyd ho1; have HO2 := Hyd ho2; have HX1 := Hyd hx1; have HX2 := Hyd hx2; have HJ1 := Hyd hi1; have HJ2 := Hyd hi2; have HB1 := Hyd hb1; clear hF hfx hb1 ho1 ho2 hx1 hx2 hi1 hi2; unfold Reg.puts Reg.puts Reg.puts Reg.puts Reg.puts Reg.puts Reg.puts Reg.puts Reg.puts Reg.puts Reg.puts Reg.puts Reg.puts Reg.puts Reg.puts; clear hii hi0 hi1 hi2 hji hj0 hj1 hj2
     go_simp
     go_wp2_with fail; go_roundw
     case rel => exact ⟨k + 1, _, _, by omega, by go_num, HX1, HX2, Hyd (by rw [HTK.out, cellsOf_snoc]; exact HO1.out), Hyd (by rw [HTK.out, cellsOf_snoc]; exact HO2.out), HJ1, HJ2, HB1⟩
     case measure => simp [intOf]; omega
   ·obtain rfl : k = l.length := by omega
    obtain ⟨wq, rfl⟩ : ∃ w' : World, w' = wr := ⟨_, rfl⟩
    have HOE := Hyd (show wq.ownsRow W.heap.size 37 4 (.slice aa l.length ac) l.length (cellsOf encE l) by have := HOE'.out; rwa [List.take_length] at this); have HOR := Hyd (show wq.ownsRow W.heap.size 59 4 (.slice ba l.length bc) l.length (cellsOf encE l) by have := HOR'.out; rwa [List.take_length] at this); have HGA := Hyd (fun w => rget_any s w (by omega)); have HGB := Hyd (fun w => rget21_any s w (by omega)); have hgl := getRun_len (s := s.data.toList); have hsl : s.data.toList.length = s.size := Array.length_toList; rw [hsl] at hgl; obtain ⟨gl1, gl2, gl3, gl4⟩ := hgl; have HG3 := Hyd gl3; have HG4 := Hyd gl4
    obtain ⟨G, hG⟩ : ∃ G, getRun s.data.toList = G := ⟨_, rfl⟩
    rw [hG] at HGA HGB HG3 HG4 gl1 gl2; unfold GetPost at HGA HGB
    obtain ⟨gc, hgc⟩ : ∃ q, (runR G).1 = q := ⟨_, rfl⟩
    obtain ⟨ge, hge⟩ : ∃ q, (runR G).2.1 = q := ⟨_, rfl⟩
    obtain ⟨gb, hgb⟩ : ∃ q, (runR G).2.2 = q := ⟨_, rfl⟩
    obtain ⟨gr, hgr⟩ : ∃ q, errR G = q := ⟨_, rfl⟩
    rw [hgc, hge, hgb, hgr] at HGA HGB; rw [hgc] at HG3 gl1; rw [hge] at HG4 gl2; clear gl3 gl4 hsl hG hgc hge hgb hgr HOE' HOR'; go_wp2_with fail; refine (HGA.out _).mono ?_; rintro e w1 ⟨v1, v2, rfl, hi1, he1, hb1⟩; obtain ⟨i1, j1, rfl⟩ := hi1.shape; obtain ⟨i2, j2, rfl⟩ := he1.shape; have HB1 := Hyd (HB.out.trans (hb1.mono HB.out.size)); have HB01 := Hyd hb1; have HIA := Hyd hi1; have HEA := Hyd he1; clear hi1 he1 hb1; go_wp2_with fail; refine (HGB.out _).mono ?_; rintro e w2 ⟨v1, v2, rfl, hi1, he1, hb2⟩; obtain ⟨i3, j3, rfl⟩ := hi1.shape; obtain ⟨i4, j4, rfl⟩ := he1.shape; have HB12 := Hyd hb2; have HIB := Hyd hi1; have HEB := Hyd he1; clear hi1 he1 hb2
    go_upto_region 12 with (fail)
    obtain ⟨wz, hwz⟩ : ∃ wz, w2.alloc (.cells #[.slice i3 gc.length j3, .slice i4 ge.length j4, .bool gb] 58) = wz := ⟨_, rfl⟩
    rw [hwz]
    have hb2z : Below w2.heap.size w2 wz := by rw [<- hwz]; exact (Below.refl _ _).alloc (Nat.le_refl _) _
    obtain ⟨wa, hwa⟩ : ∃ wa, w1.alloc (.cells #[.slice i1 gc.length j1, .slice i2 ge.length j2, .bool gb] 56) = wa := ⟨_, rfl⟩
    rw [hwa] at HB12
    have hb1a : Below w1.heap.size w1 wa := by rw [<- hwa]; exact (Below.refl _ _).alloc (Nat.le_refl _) _
    have hbaz : Below wa.heap.size wa wz := HB12.out.trans (hb2z.mono HB12.out.size); have hb1z : Below w1.heap.size w1 wz := hb1a.trans (hbaz.mono hb1a.size); have hbqz : Below wq.heap.size wq wz := HB01.out.trans (hb1z.mono HB01.out.size)
    have HZ11 := Hyd (show wz.heap[w1.heap.size]? = some (.cells #[.slice i1 gc.length j1, .slice i2 ge.length j2, .bool gb] 56 (0, 0)) by
     have h : wa.heap[w1.heap.size]? = some (.cells #[.slice i1 gc.length j1, .slice i2 ge.length j2, .bool gb] 56 (0, 0)) := by rw [<- hwa]; exact heap_new rfl
     exact (hbaz.block _ (heap_lt h)).trans h)
    have HZ13 := Hyd (show wz.heap[w2.heap.size]? = some (.cells #[.slice i3 gc.length j3, .slice i4 ge.length j4, .bool gb] 58 (0, 0)) by rw [<- hwz]; exact heap_new rfl); have HZA := Hyd ((hbqz.block _ hAl).trans HXA'.out); have HZB := Hyd ((hbqz.block _ hBl).trans HXB'.out)
    obtain ⟨K1, hK1⟩ : ∃ K1, w1.heap.size = K1 := ⟨_, rfl⟩
    obtain ⟨K2, hK2⟩ : ∃ K2, w2.heap.size = K2 := ⟨_, rfl⟩
    rw [hK1] at HZ11 ⊢; rw [hK2] at HZ13 ⊢; have HBZ := Hyd (HB.out.trans (hbqz.mono HB.out.size))
    obtain ⟨pl, hpl⟩ : ∃ pl, putRun counts l bl = pl := ⟨_, rfl⟩
    obtain ⟨ql, hql⟩ : ∃ ql, putRun gc ge gb = ql := ⟨_, rfl⟩
    have hplen : pl.length <= 100000000 := by
     have := putRun_len counts l bl; rw [hpl] at this; omega
    obtain ⟨sP, hsP⟩ : ∃ sP : ByteArray, (⟨pl.toArray⟩ : ByteArray) = sP := ⟨_, rfl⟩
    obtain ⟨sG, hsG⟩ : ∃ sG : ByteArray, (⟨ql.toArray⟩ : ByteArray) = sG := ⟨_, rfl⟩
    have gfit : ∀ x ∈ gc, WE.fit64 x := fun x hx => by have := HG3.out x hx; unfold WE.fit64; omega
    have sub : ∀ {w : World} {B : Nat} {n : Nat} {v : Value} {xs : List Value} {z : Nat}, Below B w wz -> Sl w B z v n xs -> B <= wz.heap.size -> Sl wz wz.heap.size z v n xs := fun hb h hB => (Sl.below h hb).more hB
    have HPA := Hyd (show PutsTo 19 (.agg #[.slice a1 counts.length c1, .slice aa l.length ac, .bool bl]) wz sP by
     rw [<- hsP, <- hpl]; exact puts_a (sub hbqz (Sl.of_own HI1'.out) hbqz.size) (sub hbqz (Sl.of_own HOE.out) hbqz.size) (by omega) (by omega) HCF.out HLF.out)
    have HPB := Hyd (show PutsTo 20 (.agg #[.slice a2 counts.length c2, .slice ba l.length bc, .bool bl]) wz sP by
     rw [<- hsP, <- hpl]; exact puts_b (sub hbqz (Sl.of_own HI2'.out) hbqz.size) (sub hbqz (Sl.of_own HOR.out) hbqz.size) (by omega) (by omega) HCF.out HLF.out)
    have HPG := Hyd (show PutsTo 19 (.agg #[.slice i1 gc.length j1, .slice i2 ge.length j2, .bool gb]) wz sG by
     rw [<- hsG, <- hql]; exact puts_a (sub hb1z HIA.out hb1z.size) (sub hb1z HEA.out hb1z.size) (by omega) (by omega) gfit HG4.out)
    have HPH := Hyd (show PutsTo 20 (.agg #[.slice i3 gc.length j3, .slice i4 ge.length j4, .bool gb]) wz sG by
     rw [<- hsG, <- hql]; exact puts_b (sub hb2z HIB.out hb2z.size) (sub hb2z HEB.out hb2z.size) (by omega) (by omega) gfit HG4.out)
    have HWZ := Hyd (fun w' (hb : Below wz.heap.size wz w') => HWK.out w' (HBZ.out.trans (hb.mono HBZ.out.size))); have HSP := Hyd (show sP.data.toList = pl by rw [<- hsP])
    have hspz : sP.size <= 100000000 := by rw [<- hsP]; simpa [ByteArray.size] using hplen
    clear hwz hb2z hwa hb1a hbaz hb1z hbqz hK1 hK2 hpl hql hsP hsG gfit sub HGA HGB; go_wp2_with fail
    refine Reg.stand_order (W := wz) (h := 21) (t := 0)
     [⟨0, 68, [], 99, [], none, fun v _ => v = .bool true⟩,
      ⟨1, 69, [], 99, [], none, fun v _ => v = .bool false⟩,
      ⟨2, 70, [], 99, [], none, fun v _ => v = .bool false⟩,
      ⟨3, 71, [], 99, [], none, fun v _ => v = .agg #[.slice a1 counts.length c1, .slice aa l.length ac, .bool bl]⟩,
      ⟨4, 72, [], 99, [], none, fun v _ => v = .string sP⟩,
      ⟨5, 73, [], 99, [], none, fun v _ => v = .agg #[.slice a2 counts.length c2, .slice ba l.length bc, .bool bl]⟩,
      ⟨6, 74, [], 99, [], none, fun v _ => v = .string sP⟩,
      ⟨7, 75, [], 99, [], none, fun v _ => v = .bool false⟩,
      ⟨8, 76, [], 99, [], none, fun v _ => v = .bool false⟩,
      ⟨9, 77, [], 99, [], none, fun v _ => v = .bool false⟩,
      ⟨10, 78, [], 99, [], none, fun v _ => v = .int .i64 gr⟩,
      ⟨11, 79, [], 99, [], none, fun v _ => v = .int .i64 gr⟩,
      ⟨12, 80, [], 99, [], none, fun v _ => v = .bool false⟩,
      ⟨13, 81, [], 99, [], none, fun v _ => v = .bool false⟩,
      ⟨14, 82, [], 99, [], none, fun v _ => v = .bool false⟩,
      ⟨15, 83, [], 99, [], none, fun v _ => v = .agg #[.slice i1 gc.length j1, .slice i2 ge.length j2, .bool gb]⟩,
      ⟨16, 84, [], 99, [], none, fun v _ => v = .string sG⟩,
      ⟨17, 85, [], 99, [], none, fun v _ => v = .agg #[.slice i3 gc.length j3, .slice i4 ge.length j4, .bool gb]⟩,
      ⟨18, 86, [], 99, [], none, fun v _ => v = .string sG⟩,
      ⟨19, 87, [], 99, [], none, fun v _ => v = .bool false⟩,
      ⟨20, 88, [], 99, [], none, fun v _ => v = .bool false⟩]
     []
     (by kernel_rfl) rfl (by kernel_rfl) (by kernel_rfl) (by kernel_rfl) (show [0, 1, 2, 3, 4, 5, 6, 7, 8, 9, 10, 11, 12, 13, 14, 15, 16, 17, 18, 19, 20].Nodup by decide) (show ∀ i, i < 21 -> i ∈ [0, 1, 2, 3, 4, 5, 6, 7, 8, 9, 10, 11, 12, 13, 14, 15, 16, 17, 18, 19, 20] by decide) ?_ (show [68, 69, 70, 71, 72, 73, 74, 75, 76, 77, 78, 79, 80, 81, 82, 83, 84, 85, 86, 87, 88].Nodup by decide) (show ∀ s ∈ [68, 69, 70, 71, 72, 73, 74, 75, 76, 77, 78, 79, 80, 81, 82, 83, 84, 85, 86, 87, 88], s < 111 by decide) (by kernel_rfl) ?_ ?_ (Below.refl _ _) ?_ ?_ ?_
    ·intro f hf
     simp only [List.mem_cons, List.not_mem_nil, or_false] at hf
     rcases hf with rfl | rfl | rfl | rfl | rfl | rfl | rfl | rfl | rfl | rfl | rfl | rfl | rfl | rfl | rfl | rfl | rfl | rfl | rfl | rfl | rfl <;> simp
    ·intro f hf v w1' w2 hk hF
     simp only [List.mem_cons, List.not_mem_nil, or_false] at hf
     rcases hf with rfl | rfl | rfl | rfl | rfl | rfl | rfl | rfl | rfl | rfl | rfl | rfl | rfl | rfl | rfl | rfl | rfl | rfl | rfl | rfl | rfl
     ·exact hF
     ·exact hF
     ·exact hF
     ·exact hF
     ·exact hF
     ·exact hF
     ·exact hF
     ·exact hF
     ·exact hF
     ·exact hF
     ·exact hF
     ·exact hF
     ·exact hF
     ·exact hF
     ·exact hF
     ·exact hF
     ·exact hF
     ·exact hF
     ·exact hF
     ·exact hF
     ·exact hF
    ·intro f hf; cases hf
    ·intro f hf; cases hf
    ·intro f hf a w1' hs hg' hst; have t7 : a.eval (.tmp 7) = .pointer (some ⟨A, 0, none⟩) := Reg.eval_tmp ((hs.out 7 (show 7 ∉ [68, 69, 70, 71, 72, 73, 74, 75, 76, 77, 78, 79, 80, 81, 82, 83, 84, 85, 86, 87, 88] by decide)).trans rfl); have t8 : a.eval (.tmp 8) = .pointer (some ⟨B, 0, none⟩) := Reg.eval_tmp ((hs.out 8 (show 8 ∉ [68, 69, 70, 71, 72, 73, 74, 75, 76, 77, 78, 79, 80, 81, 82, 83, 84, 85, 86, 87, 88] by decide)).trans rfl); have t11 : a.eval (.tmp 11) = .pointer (some ⟨K1, 0, none⟩) := Reg.eval_tmp ((hs.out 11 (show 11 ∉ [68, 69, 70, 71, 72, 73, 74, 75, 76, 77, 78, 79, 80, 81, 82, 83, 84, 85, 86, 87, 88] by decide)).trans rfl); have t12 : a.eval (.tmp 12) = .int .i64 gr := Reg.eval_tmp ((hs.out 12 (show 12 ∉ [68, 69, 70, 71, 72, 73, 74, 75, 76, 77, 78, 79, 80, 81, 82, 83, 84, 85, 86, 87, 88] by decide)).trans rfl); have t13 : a.eval (.tmp 13) = .pointer (some ⟨K2, 0, none⟩) := Reg.eval_tmp ((hs.out 13 (show 13 ∉ [68, 69, 70, 71, 72, 73, 74, 75, 76, 77, 78, 79, 80, 81, 82, 83, 84, 85, 86, 87, 88] by decide)).trans rfl)
     have t14 : a.eval (.tmp 14) = .int .i64 gr := Reg.eval_tmp ((hs.out 14 (show 14 ∉ [68, 69, 70, 71, 72, 73, 74, 75, 76, 77, 78, 79, 80, 81, 82, 83, 84, 85, 86, 87, 88] by decide)).trans rfl)
     simp only [List.mem_cons, List.not_mem_nil, or_false] at hf
     rcases hf with rfl | rfl | rfl | rfl | rfl | rfl | rfl | rfl | rfl | rfl | rfl | rfl | rfl | rfl | rfl | rfl | rfl | rfl | rfl | rfl | rfl
     ·refine Reg.step_call (f := 11) (args := #[]) rfl rfl rfl (by go_simp) hs.below ((HWZ.out w1' hs.below).mono ?_); rintro en w2' ⟨rfl, hb⟩; exact ⟨_, rfl, rfl, hb⟩
     ·obtain ⟨v1, hv1, rfl⟩ : ∃ v, a.tmps[68]? = some v /\ v = .bool true := hg' _ (Reg.at_fact 0 rfl) (by kernel_rfl) (by first | (simp [Reg.okTil]; done) | kernel_rfl)
      have u1 := Reg.eval_tmp hv1; exact Reg.step_val rfl rfl rfl (v := .bool false) (by go_simp) rfl hs.below (fun e => Reg.Keeps.refl e _)
     ·obtain ⟨v1, hv1, rfl⟩ : ∃ v, a.tmps[69]? = some v /\ v = .bool false := hg' _ (Reg.at_fact 1 rfl) (by kernel_rfl) (by first | (simp [Reg.okTil]; done) | kernel_rfl)
      have u1 := Reg.eval_tmp hv1; exact Reg.step_val rfl rfl rfl (v := .bool false) (Reg.run_move u1) rfl hs.below (fun e => Reg.Keeps.refl e _)
     ·obtain ⟨vg, hvg, rfl⟩ : ∃ v, a.tmps[70]? = some v /\ v = .bool false := hg' _ (Reg.at_fact 2 rfl) (by kernel_rfl) (by first | (simp [Reg.okTil]; done) | kernel_rfl)
      have hx := (hs.below.block _ (heap_lt HZA.out)).trans HZA.out; exact Reg.step_val_on rfl rfl rfl rfl hvg rfl (Reg.run_load t7 (load_runA hx)) rfl hs.below (fun e => Reg.Keeps.refl e _)
     ·obtain ⟨vg, hvg, rfl⟩ : ∃ v, a.tmps[70]? = some v /\ v = .bool false := hg' _ (Reg.at_fact 2 rfl) (by kernel_rfl) (by first | (simp [Reg.okTil]; done) | kernel_rfl)
      obtain ⟨v1, hv1, rfl⟩ : ∃ v, a.tmps[71]? = some v /\ v = .agg #[.slice a1 counts.length c1, .slice aa l.length ac, .bool bl] := hg' _ (Reg.at_fact 3 rfl) (by kernel_rfl) (by first | (simp [Reg.okTil]; done) | kernel_rfl)
      have u1 := Reg.eval_tmp hv1; refine Reg.step_call_on (f := 19) (args := #[.agg #[.slice a1 counts.length c1, .slice aa l.length ac, .bool bl]]) rfl rfl rfl rfl hvg rfl (by go_simp) hs.below ((HPA.out w1' hs.below).mono ?_); rintro en w2' ⟨rfl, hb⟩; exact ⟨_, rfl, rfl, hb⟩
     ·obtain ⟨vg, hvg, rfl⟩ : ∃ v, a.tmps[70]? = some v /\ v = .bool false := hg' _ (Reg.at_fact 2 rfl) (by kernel_rfl) (by first | (simp [Reg.okTil]; done) | kernel_rfl)
      have hx := (hs.below.block _ (heap_lt HZB.out)).trans HZB.out; exact Reg.step_val_on rfl rfl rfl rfl hvg rfl (Reg.run_load t8 (load_runB hx)) rfl hs.below (fun e => Reg.Keeps.refl e _)
     ·obtain ⟨vg, hvg, rfl⟩ : ∃ v, a.tmps[70]? = some v /\ v = .bool false := hg' _ (Reg.at_fact 2 rfl) (by kernel_rfl) (by first | (simp [Reg.okTil]; done) | kernel_rfl)
      obtain ⟨v1, hv1, rfl⟩ : ∃ v, a.tmps[73]? = some v /\ v = .agg #[.slice a2 counts.length c2, .slice ba l.length bc, .bool bl] := hg' _ (Reg.at_fact 5 rfl) (by kernel_rfl) (by first | (simp [Reg.okTil]; done) | kernel_rfl)
      have u1 := Reg.eval_tmp hv1; refine Reg.step_call_on (f := 20) (args := #[.agg #[.slice a2 counts.length c2, .slice ba l.length bc, .bool bl]]) rfl rfl rfl rfl hvg rfl (by go_simp) hs.below ((HPB.out w1' hs.below).mono ?_); rintro en w2' ⟨rfl, hb⟩; exact ⟨_, rfl, rfl, hb⟩
     ·obtain ⟨vg, hvg, rfl⟩ : ∃ v, a.tmps[70]? = some v /\ v = .bool false := hg' _ (Reg.at_fact 2 rfl) (by kernel_rfl) (by first | (simp [Reg.okTil]; done) | kernel_rfl)
      obtain ⟨v1, hv1, rfl⟩ : ∃ v, a.tmps[72]? = some v /\ v = .string sP := hg' _ (Reg.at_fact 4 rfl) (by kernel_rfl) (by first | (simp [Reg.okTil]; done) | kernel_rfl)
      have u1 := Reg.eval_tmp hv1
      obtain ⟨v2, hv2, rfl⟩ : ∃ v, a.tmps[74]? = some v /\ v = .string sP := hg' _ (Reg.at_fact 6 rfl) (by kernel_rfl) (by first | (simp [Reg.okTil]; done) | kernel_rfl)
      have u2 := Reg.eval_tmp hv2; exact Reg.step_val_on rfl rfl rfl rfl hvg rfl (v := .bool false) (by go_simp) rfl hs.below (fun e => Reg.Keeps.refl e _)
     ·obtain ⟨v1, hv1, rfl⟩ : ∃ v, a.tmps[70]? = some v /\ v = .bool false := hg' _ (Reg.at_fact 2 rfl) (by kernel_rfl) (by first | (simp [Reg.okTil]; done) | kernel_rfl)
      have u1 := Reg.eval_tmp hv1
      obtain ⟨v2, hv2, rfl⟩ : ∃ v, a.tmps[75]? = some v /\ v = .bool false := hg' _ (Reg.at_fact 7 rfl) (by kernel_rfl) (by first | (simp [Reg.okTil]; done) | kernel_rfl)
      have u2 := Reg.eval_tmp hv2; exact Reg.step_val rfl rfl rfl (v := .bool false) (Reg.run_pick u1 (by simpa using u2)) rfl hs.below (fun e => Reg.Keeps.refl e _)
     ·obtain ⟨v1, hv1, rfl⟩ : ∃ v, a.tmps[76]? = some v /\ v = .bool false := hg' _ (Reg.at_fact 8 rfl) (by kernel_rfl) (by first | (simp [Reg.okTil]; done) | kernel_rfl)
      have u1 := Reg.eval_tmp hv1; exact Reg.step_val rfl rfl rfl (v := .bool false) (Reg.run_move u1) rfl hs.below (fun e => Reg.Keeps.refl e _)
     ·obtain ⟨vg, hvg, rfl⟩ : ∃ v, a.tmps[77]? = some v /\ v = .bool false := hg' _ (Reg.at_fact 9 rfl) (by kernel_rfl) (by first | (simp [Reg.okTil]; done) | kernel_rfl)
      exact Reg.step_val_on rfl rfl rfl rfl hvg rfl (Reg.run_move t12) rfl hs.below (fun e => Reg.Keeps.refl e _)
     ·obtain ⟨vg, hvg, rfl⟩ : ∃ v, a.tmps[77]? = some v /\ v = .bool false := hg' _ (Reg.at_fact 9 rfl) (by kernel_rfl) (by first | (simp [Reg.okTil]; done) | kernel_rfl)
      exact Reg.step_val_on rfl rfl rfl rfl hvg rfl (Reg.run_move t14) rfl hs.below (fun e => Reg.Keeps.refl e _)
     ·obtain ⟨vg, hvg, rfl⟩ : ∃ v, a.tmps[77]? = some v /\ v = .bool false := hg' _ (Reg.at_fact 9 rfl) (by kernel_rfl) (by first | (simp [Reg.okTil]; done) | kernel_rfl)
      obtain ⟨v1, hv1, rfl⟩ : ∃ v, a.tmps[78]? = some v /\ v = .int .i64 gr := hg' _ (Reg.at_fact 10 rfl) (by kernel_rfl) (by first | (simp [Reg.okTil]; done) | kernel_rfl)
      have u1 := Reg.eval_tmp hv1
      obtain ⟨v2, hv2, rfl⟩ : ∃ v, a.tmps[79]? = some v /\ v = .int .i64 gr := hg' _ (Reg.at_fact 11 rfl) (by kernel_rfl) (by first | (simp [Reg.okTil]; done) | kernel_rfl)
      have u2 := Reg.eval_tmp hv2; exact Reg.step_val_on rfl rfl rfl rfl hvg rfl (v := .bool false) (by go_simp) rfl hs.below (fun e => Reg.Keeps.refl e _)
     ·obtain ⟨v1, hv1, rfl⟩ : ∃ v, a.tmps[77]? = some v /\ v = .bool false := hg' _ (Reg.at_fact 9 rfl) (by kernel_rfl) (by first | (simp [Reg.okTil]; done) | kernel_rfl)
      have u1 := Reg.eval_tmp hv1
      obtain ⟨v2, hv2, rfl⟩ : ∃ v, a.tmps[80]? = some v /\ v = .bool false := hg' _ (Reg.at_fact 12 rfl) (by kernel_rfl) (by first | (simp [Reg.okTil]; done) | kernel_rfl)
      have u2 := Reg.eval_tmp hv2; exact Reg.step_val rfl rfl rfl (v := .bool false) (Reg.run_pick u1 (by simpa using u2)) rfl hs.below (fun e => Reg.Keeps.refl e _)
     ·obtain ⟨v1, hv1, rfl⟩ : ∃ v, a.tmps[81]? = some v /\ v = .bool false := hg' _ (Reg.at_fact 13 rfl) (by kernel_rfl) (by first | (simp [Reg.okTil]; done) | kernel_rfl)
      have u1 := Reg.eval_tmp hv1; exact Reg.step_val rfl rfl rfl (v := .bool false) (Reg.run_move u1) rfl hs.below (fun e => Reg.Keeps.refl e _)
     ·obtain ⟨vg, hvg, rfl⟩ : ∃ v, a.tmps[82]? = some v /\ v = .bool false := hg' _ (Reg.at_fact 14 rfl) (by kernel_rfl) (by first | (simp [Reg.okTil]; done) | kernel_rfl)
      have hx := (hs.below.block _ (heap_lt HZ11.out)).trans HZ11.out; exact Reg.step_val_on rfl rfl rfl rfl hvg rfl (Reg.run_load t11 (load_runA hx)) rfl hs.below (fun e => Reg.Keeps.refl e _)
     ·obtain ⟨vg, hvg, rfl⟩ : ∃ v, a.tmps[82]? = some v /\ v = .bool false := hg' _ (Reg.at_fact 14 rfl) (by kernel_rfl) (by first | (simp [Reg.okTil]; done) | kernel_rfl)
      obtain ⟨v1, hv1, rfl⟩ : ∃ v, a.tmps[83]? = some v /\ v = .agg #[.slice i1 gc.length j1, .slice i2 ge.length j2, .bool gb] := hg' _ (Reg.at_fact 15 rfl) (by kernel_rfl) (by first | (simp [Reg.okTil]; done) | kernel_rfl)
      have u1 := Reg.eval_tmp hv1; refine Reg.step_call_on (f := 19) (args := #[.agg #[.slice i1 gc.length j1, .slice i2 ge.length j2, .bool gb]]) rfl rfl rfl rfl hvg rfl (by go_simp) hs.below ((HPG.out w1' hs.below).mono ?_); rintro en w2' ⟨rfl, hb⟩; exact ⟨_, rfl, rfl, hb⟩
     ·obtain ⟨vg, hvg, rfl⟩ : ∃ v, a.tmps[82]? = some v /\ v = .bool false := hg' _ (Reg.at_fact 14 rfl) (by kernel_rfl) (by first | (simp [Reg.okTil]; done) | kernel_rfl)
      have hx := (hs.below.block _ (heap_lt HZ13.out)).trans HZ13.out; exact Reg.step_val_on rfl rfl rfl rfl hvg rfl (Reg.run_load t13 (load_runB hx)) rfl hs.below (fun e => Reg.Keeps.refl e _)
     ·obtain ⟨vg, hvg, rfl⟩ : ∃ v, a.tmps[82]? = some v /\ v = .bool false := hg' _ (Reg.at_fact 14 rfl) (by kernel_rfl) (by first | (simp [Reg.okTil]; done) | kernel_rfl)
      obtain ⟨v1, hv1, rfl⟩ : ∃ v, a.tmps[85]? = some v /\ v = .agg #[.slice i3 gc.length j3, .slice i4 ge.length j4, .bool gb] := hg' _ (Reg.at_fact 17 rfl) (by kernel_rfl) (by first | (simp [Reg.okTil]; done) | kernel_rfl)
      have u1 := Reg.eval_tmp hv1; refine Reg.step_call_on (f := 20) (args := #[.agg #[.slice i3 gc.length j3, .slice i4 ge.length j4, .bool gb]]) rfl rfl rfl rfl hvg rfl (by go_simp) hs.below ((HPH.out w1' hs.below).mono ?_); rintro en w2' ⟨rfl, hb⟩; exact ⟨_, rfl, rfl, hb⟩
     ·obtain ⟨vg, hvg, rfl⟩ : ∃ v, a.tmps[82]? = some v /\ v = .bool false := hg' _ (Reg.at_fact 14 rfl) (by kernel_rfl) (by first | (simp [Reg.okTil]; done) | kernel_rfl)
      obtain ⟨v1, hv1, rfl⟩ : ∃ v, a.tmps[84]? = some v /\ v = .string sG := hg' _ (Reg.at_fact 16 rfl) (by kernel_rfl) (by first | (simp [Reg.okTil]; done) | kernel_rfl)
      have u1 := Reg.eval_tmp hv1
      obtain ⟨v2, hv2, rfl⟩ : ∃ v, a.tmps[86]? = some v /\ v = .string sG := hg' _ (Reg.at_fact 18 rfl) (by kernel_rfl) (by first | (simp [Reg.okTil]; done) | kernel_rfl)
      have u2 := Reg.eval_tmp hv2; exact Reg.step_val_on rfl rfl rfl rfl hvg rfl (v := .bool false) (by go_simp) rfl hs.below (fun e => Reg.Keeps.refl e _)
     ·obtain ⟨v1, hv1, rfl⟩ : ∃ v, a.tmps[82]? = some v /\ v = .bool false := hg' _ (Reg.at_fact 14 rfl) (by kernel_rfl) (by first | (simp [Reg.okTil]; done) | kernel_rfl)
      have u1 := Reg.eval_tmp hv1
      obtain ⟨v2, hv2, rfl⟩ : ∃ v, a.tmps[87]? = some v /\ v = .bool false := hg' _ (Reg.at_fact 19 rfl) (by kernel_rfl) (by first | (simp [Reg.okTil]; done) | kernel_rfl)
      have u2 := Reg.eval_tmp hv2; exact Reg.step_val rfl rfl rfl (v := .bool false) (Reg.run_pick u1 (by simpa using u2)) rfl hs.below (fun e => Reg.Keeps.refl e _)
    ·intro vals w1' hF hfx hb1; have e88 : vals 88 = .bool false := hF _ (Reg.at_fact 20 rfl) (show (21 + 0 : Nat) <= 99 by decide)
     simp only [List.map_cons, List.map_nil, e88]
     generalize vals 68 = q68; generalize vals 69 = q69; generalize vals 70 = q70; generalize vals 71 = q71; generalize vals 72 = q72; generalize vals 73 = q73; generalize vals 74 = q74; generalize vals 75 = q75; generalize vals 76 = q76; generalize vals 77 = q77; generalize vals 78 = q78; generalize vals 79 = q79; generalize vals 80 = q80; generalize vals 81 = q81; generalize vals 82 = q82; generalize vals 83 = q83; generalize vals 84 = q84; generalize vals 85 = q85; generalize vals 86 = q86; generalize vals 87 = q87; have HB3 := Hyd hb1; clear hF hfx e88 hb1; unfold Reg.puts Reg.puts Reg.puts Reg.puts Reg.puts Reg.puts Reg.puts Reg.puts Reg.puts Reg.puts Reg.puts Reg.puts Reg.puts Reg.puts Reg.puts Reg.puts Reg.puts Reg.puts Reg.puts Reg.puts Reg.puts Reg.puts; have HXA3 := Hyd ((HB3.out.block _ (heap_lt HZA.out)).trans HZA.out); have HXB3 := Hyd ((HB3.out.block _ (heap_lt HZB.out)).trans HZB.out)
     obtain ⟨y0, y1, y2, _, _, _⟩ := cells3 HXA3.out; have HPA1 := Hyd (HPA.out w1' HB3.out); have HBW3 := Hyd (HBZ.out.trans (HB3.out.mono HBZ.out.size))
     go_simp
     go_wp2_with fail; refine HPA1.out.mono ?_; rintro e wA ⟨rfl, hba⟩; have hgp := rget_any sP wA (by omega)
     have hgq := fun w => rget21_any sP w (by omega)
     have hgl := getRun_len (s := sP.data.toList); rw [HSP.out] at hgp hgl
     simp only [HSP.out] at hgq
     obtain ⟨gl1', gl2', gl3, gl4⟩ := hgl
     obtain ⟨G2, hG2⟩ : ∃ G, getRun pl = G := ⟨_, rfl⟩
     rw [hG2] at hgp gl1' gl2' gl3 gl4
     simp only [hG2] at hgq
     unfold GetPost at hgp hgq
     obtain ⟨rc, hgc⟩ : ∃ q, (runR G2).1 = q := ⟨_, rfl⟩
     obtain ⟨rr, hge⟩ : ∃ q, (runR G2).2.1 = q := ⟨_, rfl⟩
     obtain ⟨rb, hgb⟩ : ∃ q, (runR G2).2.2 = q := ⟨_, rfl⟩
     obtain ⟨gr2, hgr⟩ : ∃ q, errR G2 = q := ⟨_, rfl⟩
     simp only [hgc, hge, hgb, hgr] at hgp hgq gl1' gl2' gl3 gl4
     have HGP := Hyd hgp; have HGQ := Hyd hgq; have HR3 := Hyd gl3; have HR4 := Hyd gl4; have HBA := Hyd hba; clear hgp hgq gl3 gl4 hG2 hgc hge hgb hgr hba y0 y1 y2; go_wp2_with fail; refine HGP.out.mono ?_; rintro e wB ⟨v1, v2, rfl, hi1, he1, hb1⟩; obtain ⟨i5, j5, rfl⟩ := hi1.shape; obtain ⟨i6, j6, rfl⟩ := he1.shape; have HIC := Hyd hi1; have HEC := Hyd he1; have HBB := Hyd hb1; clear hi1 he1 hb1
     go_upto_region 15 with (fail)
     obtain ⟨wc, hwc⟩ : ∃ wc, wB.alloc (.cells #[.slice i5 rc.length j5, .slice i6 rr.length j6, .bool rb] 56) = wc := ⟨_, rfl⟩
     rw [hwc]; have HBC := Hyd (show Below wB.heap.size wB wc by rw [<- hwc]; exact (Below.refl _ _).alloc (Nat.le_refl _) _); have HZ15c := Hyd (show wc.heap[wB.heap.size]? = some (.cells #[.slice i5 rc.length j5, .slice i6 rr.length j6, .bool rb] 56 (0, 0)) by rw [<- hwc]; exact heap_new rfl)
     obtain ⟨K3, hK3⟩ : ∃ K3, wB.heap.size = K3 := ⟨_, rfl⟩
     rw [hK3] at HZ15c ⊢; have H3C := Hyd ((HBA.out.trans (HBB.out.mono HBA.out.size)).trans (HBC.out.mono (Nat.le_trans HBA.out.size HBB.out.size))); have HXBc := Hyd ((H3C.out.block _ (heap_lt HXB3.out)).trans HXB3.out); obtain ⟨z0, z1, z2, _, _, _⟩ := cells3 HXBc.out; have HPB1 := Hyd (HPB.out wc (HB3.out.trans (H3C.out.mono HB3.out.size))); clear hwc hK3; go_wp2_with fail; refine HPB1.out.mono ?_; rintro e wD ⟨rfl, hbd⟩; have HBD := Hyd hbd; clear hbd z0 z1 z2; go_wp2_with fail; refine (HGQ.out wD).mono ?_; rintro e wE ⟨v1, v2, rfl, hi1, he1, hb1⟩; obtain ⟨i7, j7, rfl⟩ := hi1.shape; obtain ⟨i8, j8, rfl⟩ := he1.shape; have HID := Hyd hi1; have HED := Hyd he1; have HBE := Hyd hb1; clear hi1 he1 hb1
     go_upto_region 16 with (fail)
     obtain ⟨wy, hwy⟩ : ∃ wy, wE.alloc (.cells #[.slice i7 rc.length j7, .slice i8 rr.length j8, .bool rb] 58) = wy := ⟨_, rfl⟩
     rw [hwy]
     have hey : Below wE.heap.size wE wy := by rw [<- hwy]; exact (Below.refl _ _).alloc (Nat.le_refl _) _
     have hdy : Below wD.heap.size wD wy := HBE.out.trans (hey.mono HBE.out.size); have hcy : Below wc.heap.size wc wy := HBD.out.trans (hdy.mono HBD.out.size); have hby : Below wB.heap.size wB wy := HBC.out.trans (hcy.mono HBC.out.size); have HZ15 := Hyd ((hcy.block _ (heap_lt HZ15c.out)).trans HZ15c.out); have HZ17 := Hyd (show wy.heap[wE.heap.size]? = some (.cells #[.slice i7 rc.length j7, .slice i8 rr.length j8, .bool rb] 58 (0, 0)) by rw [<- hwy]; exact heap_new rfl)
     obtain ⟨K4, hK4⟩ : ∃ K4, wE.heap.size = K4 := ⟨_, rfl⟩
     rw [hK4] at HZ17 ⊢
     obtain ⟨sH, hsH⟩ : ∃ sH : ByteArray, (⟨(putRun rc rr rb).toArray⟩ : ByteArray) = sH := ⟨_, rfl⟩
     have rfit : ∀ x ∈ rc, WE.fit64 x := fun x hx => by have := HR3.out x hx; unfold WE.fit64; omega
     have HPI := Hyd (show PutsTo 19 (.agg #[.slice i5 rc.length j5, .slice i6 rr.length j6, .bool rb]) wy sH by
      rw [<- hsH]; exact puts_a ((Sl.below HIC.out hby).more hby.size) ((Sl.below HEC.out hby).more hby.size) (by omega) (by omega) rfit HR4.out)
     have HPJ := Hyd (show PutsTo 20 (.agg #[.slice i7 rc.length j7, .slice i8 rr.length j8, .bool rb]) wy sH by
      rw [<- hsH]; exact puts_b ((Sl.below HID.out hey).more hey.size) ((Sl.below HED.out hey).more hey.size) (by omega) (by omega) rfit HR4.out)
     have HFB := Hyd (HBW3.out.trans ((H3C.out.trans (hcy.mono H3C.out.size)).mono HBW3.out.size)); clear hwy hey hdy hcy hby hK4 hsH rfit; go_wp2_with fail
     refine Reg.stand_order (W := wy) (h := 10) (t := 1)
      [⟨0, 101, [], 99, [], none, fun v _ => v = .int .i64 gr2⟩,
       ⟨1, 102, [], 99, [], none, fun v _ => v = .int .i64 gr2⟩,
       ⟨2, 103, [], 99, [], none, fun v _ => v = .bool true⟩,
       ⟨3, 104, [], 99, [], none, fun v _ => v = .bool true⟩,
       ⟨4, 105, [], 99, [], none, fun v _ => v = .agg #[.slice i5 rc.length j5, .slice i6 rr.length j6, .bool rb]⟩,
       ⟨5, 106, [], 99, [], none, fun v _ => v = .string sH⟩,
       ⟨6, 107, [], 99, [], none, fun v _ => v = .agg #[.slice i7 rc.length j7, .slice i8 rr.length j8, .bool rb]⟩,
       ⟨7, 108, [], 99, [], none, fun v _ => v = .string sH⟩,
       ⟨8, 109, [], 99, [], none, fun v _ => v = .bool true⟩,
       ⟨9, 110, [], 99, [], none, fun v _ => v = .bool true⟩]
      []
      (by kernel_rfl) rfl (by kernel_rfl) (by kernel_rfl) (by kernel_rfl) (show [0, 1, 2, 3, 4, 5, 6, 7, 8, 9].Nodup by decide) (show ∀ i, i < 10 -> i ∈ [0, 1, 2, 3, 4, 5, 6, 7, 8, 9] by decide) ?_ (show [101, 102, 103, 104, 105, 106, 107, 108, 109, 110].Nodup by decide) (show ∀ s ∈ [101, 102, 103, 104, 105, 106, 107, 108, 109, 110], s < 111 by decide) (by kernel_rfl) ?_ ?_ (Below.refl _ _) ?_ ?_ ?_
     ·intro f hf
      simp only [List.mem_cons, List.not_mem_nil, or_false] at hf
      rcases hf with rfl | rfl | rfl | rfl | rfl | rfl | rfl | rfl | rfl | rfl <;> simp
     ·intro f hf v w1' w2 hk hF
      simp only [List.mem_cons, List.not_mem_nil, or_false] at hf
      rcases hf with rfl | rfl | rfl | rfl | rfl | rfl | rfl | rfl | rfl | rfl
      ·exact hF
      ·exact hF
      ·exact hF
      ·exact hF
      ·exact hF
      ·exact hF
      ·exact hF
      ·exact hF
      ·exact hF
      ·exact hF
     ·intro f hf; cases hf
     ·intro f hf; cases hf
     ·intro f hf a w1' hs hg' hst; have t15 : a.eval (.tmp 15) = .pointer (some ⟨K3, 0, none⟩) := Reg.eval_tmp ((hs.out 15 (show 15 ∉ [101, 102, 103, 104, 105, 106, 107, 108, 109, 110] by decide)).trans rfl); have t16 : a.eval (.tmp 16) = .int .i64 gr2 := Reg.eval_tmp ((hs.out 16 (show 16 ∉ [101, 102, 103, 104, 105, 106, 107, 108, 109, 110] by decide)).trans rfl); have t17 : a.eval (.tmp 17) = .pointer (some ⟨K4, 0, none⟩) := Reg.eval_tmp ((hs.out 17 (show 17 ∉ [101, 102, 103, 104, 105, 106, 107, 108, 109, 110] by decide)).trans rfl); have t18 : a.eval (.tmp 18) = .int .i64 gr2 := Reg.eval_tmp ((hs.out 18 (show 18 ∉ [101, 102, 103, 104, 105, 106, 107, 108, 109, 110] by decide)).trans rfl)
      simp only [List.mem_cons, List.not_mem_nil, or_false] at hf
      rcases hf with rfl | rfl | rfl | rfl | rfl | rfl | rfl | rfl | rfl | rfl
      ·exact Reg.step_val rfl rfl rfl (Reg.run_move t16) rfl hs.below (fun e => Reg.Keeps.refl e _)
      ·exact Reg.step_val rfl rfl rfl (Reg.run_move t18) rfl hs.below (fun e => Reg.Keeps.refl e _)
      ·obtain ⟨v1, hv1, rfl⟩ : ∃ v, a.tmps[101]? = some v /\ v = .int .i64 gr2 := hg' _ (Reg.at_fact 0 rfl) (by kernel_rfl) (by first | (simp [Reg.okTil]; done) | kernel_rfl)
       have u1 := Reg.eval_tmp hv1
       obtain ⟨v2, hv2, rfl⟩ : ∃ v, a.tmps[102]? = some v /\ v = .int .i64 gr2 := hg' _ (Reg.at_fact 1 rfl) (by kernel_rfl) (by first | (simp [Reg.okTil]; done) | kernel_rfl)
       have u2 := Reg.eval_tmp hv2; exact Reg.step_val rfl rfl rfl (v := .bool true) (by go_simp) rfl hs.below (fun e => Reg.Keeps.refl e _)
      ·obtain ⟨v1, hv1, rfl⟩ : ∃ v, a.tmps[103]? = some v /\ v = .bool true := hg' _ (Reg.at_fact 2 rfl) (by kernel_rfl) (by first | (simp [Reg.okTil]; done) | kernel_rfl)
       have u1 := Reg.eval_tmp hv1; exact Reg.step_val rfl rfl rfl (v := .bool true) (Reg.run_move u1) rfl hs.below (fun e => Reg.Keeps.refl e _)
      ·obtain ⟨vg, hvg, rfl⟩ : ∃ v, a.tmps[104]? = some v /\ v = .bool true := hg' _ (Reg.at_fact 3 rfl) (by kernel_rfl) (by first | (simp [Reg.okTil]; done) | kernel_rfl)
       have hx := (hs.below.block _ (heap_lt HZ15.out)).trans HZ15.out; exact Reg.step_val_on rfl rfl rfl rfl hvg rfl (Reg.run_load t15 (load_runA hx)) rfl hs.below (fun e => Reg.Keeps.refl e _)
      ·obtain ⟨vg, hvg, rfl⟩ : ∃ v, a.tmps[104]? = some v /\ v = .bool true := hg' _ (Reg.at_fact 3 rfl) (by kernel_rfl) (by first | (simp [Reg.okTil]; done) | kernel_rfl)
       obtain ⟨v1, hv1, rfl⟩ : ∃ v, a.tmps[105]? = some v /\ v = .agg #[.slice i5 rc.length j5, .slice i6 rr.length j6, .bool rb] := hg' _ (Reg.at_fact 4 rfl) (by kernel_rfl) (by first | (simp [Reg.okTil]; done) | kernel_rfl)
       have u1 := Reg.eval_tmp hv1; refine Reg.step_call_on (f := 19) (args := #[.agg #[.slice i5 rc.length j5, .slice i6 rr.length j6, .bool rb]]) rfl rfl rfl rfl hvg rfl (by go_simp) hs.below ((HPI.out w1' hs.below).mono ?_); rintro en w2' ⟨rfl, hb⟩; exact ⟨_, rfl, rfl, hb⟩
      ·obtain ⟨vg, hvg, rfl⟩ : ∃ v, a.tmps[104]? = some v /\ v = .bool true := hg' _ (Reg.at_fact 3 rfl) (by kernel_rfl) (by first | (simp [Reg.okTil]; done) | kernel_rfl)
       have hx := (hs.below.block _ (heap_lt HZ17.out)).trans HZ17.out; exact Reg.step_val_on rfl rfl rfl rfl hvg rfl (Reg.run_load t17 (load_runB hx)) rfl hs.below (fun e => Reg.Keeps.refl e _)
      ·obtain ⟨vg, hvg, rfl⟩ : ∃ v, a.tmps[104]? = some v /\ v = .bool true := hg' _ (Reg.at_fact 3 rfl) (by kernel_rfl) (by first | (simp [Reg.okTil]; done) | kernel_rfl)
       obtain ⟨v1, hv1, rfl⟩ : ∃ v, a.tmps[107]? = some v /\ v = .agg #[.slice i7 rc.length j7, .slice i8 rr.length j8, .bool rb] := hg' _ (Reg.at_fact 6 rfl) (by kernel_rfl) (by first | (simp [Reg.okTil]; done) | kernel_rfl)
       have u1 := Reg.eval_tmp hv1; refine Reg.step_call_on (f := 20) (args := #[.agg #[.slice i7 rc.length j7, .slice i8 rr.length j8, .bool rb]]) rfl rfl rfl rfl hvg rfl (by go_simp) hs.below ((HPJ.out w1' hs.below).mono ?_); rintro en w2' ⟨rfl, hb⟩; exact ⟨_, rfl, rfl, hb⟩
      ·obtain ⟨vg, hvg, rfl⟩ : ∃ v, a.tmps[104]? = some v /\ v = .bool true := hg' _ (Reg.at_fact 3 rfl) (by kernel_rfl) (by first | (simp [Reg.okTil]; done) | kernel_rfl)
       obtain ⟨v1, hv1, rfl⟩ : ∃ v, a.tmps[106]? = some v /\ v = .string sH := hg' _ (Reg.at_fact 5 rfl) (by kernel_rfl) (by first | (simp [Reg.okTil]; done) | kernel_rfl)
       have u1 := Reg.eval_tmp hv1
       obtain ⟨v2, hv2, rfl⟩ : ∃ v, a.tmps[108]? = some v /\ v = .string sH := hg' _ (Reg.at_fact 7 rfl) (by kernel_rfl) (by first | (simp [Reg.okTil]; done) | kernel_rfl)
       have u2 := Reg.eval_tmp hv2; exact Reg.step_val_on rfl rfl rfl rfl hvg rfl (v := .bool true) (by go_simp) rfl hs.below (fun e => Reg.Keeps.refl e _)
      ·obtain ⟨v1, hv1, rfl⟩ : ∃ v, a.tmps[104]? = some v /\ v = .bool true := hg' _ (Reg.at_fact 3 rfl) (by kernel_rfl) (by first | (simp [Reg.okTil]; done) | kernel_rfl)
       have u1 := Reg.eval_tmp hv1
       obtain ⟨v2, hv2, rfl⟩ : ∃ v, a.tmps[109]? = some v /\ v = .bool true := hg' _ (Reg.at_fact 8 rfl) (by kernel_rfl) (by first | (simp [Reg.okTil]; done) | kernel_rfl)
       have u2 := Reg.eval_tmp hv2; exact Reg.step_val rfl rfl rfl (v := .bool true) (Reg.run_pick u1 (by simpa using u2)) rfl hs.below (fun e => Reg.Keeps.refl e _)
     ·intro vals w1' hF hfx hb1; have e110 : vals 110 = .bool true := hF _ (Reg.at_fact 9 rfl) (show (10 + 1 : Nat) <= 99 by decide)
      simp only [List.map_cons, List.map_nil, e110]
      generalize vals 101 = q101; generalize vals 102 = q102; generalize vals 103 = q103; generalize vals 104 = q104; generalize vals 105 = q105; generalize vals 106 = q106; generalize vals 107 = q107; generalize vals 108 = q108; generalize vals 109 = q109; have HB3' := Hyd hb1; clear hF hfx e110 hb1; unfold Reg.puts Reg.puts Reg.puts Reg.puts Reg.puts Reg.puts Reg.puts Reg.puts Reg.puts Reg.puts Reg.puts; go_wp2_with fail; go_ret; exact ⟨rfl, HFB.out.trans (HB3'.out.mono HFB.out.size)⟩
end Go.Proofs.YtcojnojdgigmdaaDoor.WB2
