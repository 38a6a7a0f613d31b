/- The walk of oxbowtop.events: good events of any ones. -/
import Derived.Test.YtcojnojdgigmdaaDoorWTop1
import Derived.Test.YtcojnojdgigmdaaDoorB10
import Derived.Test.YtcojnojdgigmdaaDoorB02
import Derived.Test.YtcojnojdgigmdaaDoorB13
import Derived.IntWalk
namespace Go.Proofs.YtcojnojdgigmdaaDoor.WR
open Go Go.RowKit Go.Sort Go.Proofs.YtcojnojdgigmdaaDoor Go.Proofs.YtcojnojdgigmdaaDoor.PL Go.Proofs.YtcojnojdgigmdaaDoor.PR Go.Proofs.YtcojnojdgigmdaaDoor.Mem Go.Proofs.YtcojnojdgigmdaaDoor.WS

/-- The slice reads as these events (their numbers apart). -/
def Tps (w : World) (B : Nat) (v : Value) (l : List Ev) : Prop := ∃ A c, v = .slice A l.length c ∧ l.length ≤ c ∧ (0 < l.length → ∃ b o : Nat, A = some ⟨b, o, none⟩ ∧ b < B ∧ ∀ i (h : i < l.length), w.cell? ⟨b, o + i * 3, none⟩ = some (.int .i64 l[i].time) ∧ w.cell? ⟨b, o + i * 3 + 1, none⟩ = some (.int .u8 l[i].kind) ∧ w.cell? ⟨b, o + i * 3 + 2, none⟩ = some (.int .i64 l[i].val))
open Go.ChangeShapes Go.WideShapes Go.Deep in
/-- A slice of such events that came in. -/
theorem open_tops {H : Type} {enc : TypeId × Value → H} {P : Program} {w : World} {t e : TypeId} {fs : Array Field} {fuel : Nat} {v : Value} {x : DataW H × List MemPlace} (ht : P.underlying t = some (.slice e)) (he : P.underlying e = some (.struct fs))
    (hone : oneCellFields P fs = true) (hC : P.cellsOf e = fs.size) (h3 : fs.size = 3) (hds : ∀ (j : Nat) (f : Field), fs[j]? = some f → ∃ d, [TypeDesc.int .i64, .int .u8, .int .i64][j]? = some d ∧ P.underlying f.type = some d ∧ Op.plainK d = true)
    (h : DataW.trod enc P w 0 (fun _ => true) true fuel t [v] = some x) :
    ∃ l : List Ev, Tps w w.heap.size v l ∧ (∀ e ∈ l, e.fits) ∧ ((l = [] ∧ x.1 = .nil) ∨ ∃ elems spare, x.1 = .slice elems spare ∧ elems.length = l.length) := by
  rcases Op.open_structs ht he hone hC hds h with ⟨hcs, hx⟩ | ⟨a, len, cap, elems, spare, hcs, hl, hx, hel, hcell⟩
  · have hv : v = .slice none 0 0 := by simpa using hcs
    subst hv
    exact ⟨[], ⟨none, 0, rfl, Nat.le_refl _, fun h => absurd h (by simp)⟩, by simp, .inl ⟨rfl, hx⟩⟩
  · have hv : v = .slice (some a) len cap := by simpa using hcs
    subst hv
    rw [h3] at hcell
    have hex : ∀ i, i < len → ∃ e : Ev, e.fits ∧ w.cell? (a.add (i * 3)) = some (.int .i64 e.time) ∧ w.cell? (a.add (i * 3 + 1)) = some (.int .u8 e.kind) ∧ w.cell? (a.add (i * 3 + 2)) = some (.int .i64 e.val) := by
      intro i hi
      obtain ⟨d0, v0, e0, c0, k0⟩ := hcell i hi 0 (by omega)
      obtain ⟨d1, v1, e1, c1, k1⟩ := hcell i hi 1 (by omega)
      obtain ⟨d2, v2, e2, c2, k2⟩ := hcell i hi 2 (by omega)
      simp only [List.getElem?_cons_zero, List.getElem?_cons_succ, Option.some.injEq] at e0 e1 e2
      subst e0; subst e1; subst e2
      obtain ⟨n0, rfl, w0⟩ := k0
      obtain ⟨n1, rfl, w1⟩ := k1
      obtain ⟨n2, rfl, w2⟩ := k2
      exact ⟨⟨0, n0, n1, n2⟩, ⟨by show _ ≤ (0 : Int) ∧ (0 : Int) ≤ _; omega, Op.wf_i64 w0, Op.wf_u8 w1, Op.wf_i64 w2⟩, c0, c1, c2⟩
    obtain ⟨l, hll, hp⟩ := Op.pick len hex
    refine ⟨l, ⟨_, cap, by rw [hll], by omega, fun hn => ?_⟩, ?_, .inr ⟨elems, spare, hx, by omega⟩⟩
    · have hp0 := hp 0 hn
      have hblk : a.block < w.heap.size := by
        have := World.block_lt_of_cell? w _ hp0.2.1
        rwa [Mem.block_add] at this
      have hlit : ∃ b o, a = ⟨b, o, none⟩ := by
        have := hp0.2.1
        rw [Nat.zero_mul] at this
        have e : a.add 0 = a := by simp [Addr.add]
        rw [e] at this
        exact lit_of_cell this
      obtain ⟨b, o, rfl⟩ := hlit
      refine ⟨b, o, rfl, hblk, fun i hi => ?_⟩
      have := hp i hi
      rw [Mem.lit_add, Mem.lit_add, Mem.lit_add] at this
      exact this.2
    · intro e he'
      obtain ⟨i, hi, rfl⟩ := List.getElem_of_mem he'
      exact (hp i hi).1
/-- The event that is made of the i-th one; of the first so many. -/
def evT (i : Nat) (e : Ev) : Ev := ⟨(i : Int) + 1, nearI e.time 60, 65 + e.kind % 3, nearI e.val 9⟩
def evsT (l : List Ev) (k : Nat) : List Ev := (List.range k).map fun i => evT i (l.getD i ⟨0, 0, 0, 0⟩)
theorem evsT_len (l : List Ev) (k : Nat) : (evsT l k).length = k := by simp [evsT]
theorem evsT_succ (l : List Ev) (k : Nat) (h : k < l.length) : evsT l (k + 1) = evsT l k ++ [evT k l[k]] := by
  unfold evsT
  rw [List.range_succ, List.map_append, List.map_singleton, List.getD_eq_getElem?_getD, List.getElem?_eq_getElem h]; rfl
theorem evsT_ok {l : List Ev} {k : Nat} {e : Ev} (he : e ∈ evsT l k) : 1 ≤ e.id ∧ e.id ≤ k ∧ (0 ≤ e.time ∧ e.time < 60) ∧ (65 ≤ e.kind ∧ e.kind ≤ 67) ∧ (0 ≤ e.val ∧ e.val < 9) := by
  unfold evsT at he
  obtain ⟨i, hi, rfl⟩ := List.mem_map.1 he
  rw [List.mem_range] at hi
  have h1 := nearI_in (l.getD i ⟨0, 0, 0, 0⟩).time 60 (by omega)
  have h2 := nearI_in (l.getD i ⟨0, 0, 0, 0⟩).val 9 (by omega)
  refine ⟨?_, ?_, h1, ?_, h2⟩ <;> simp only [evT] <;> omega
theorem evsT_dist (l : List Ev) (k : Nat) : DistE (evsT l k) := by
  unfold DistE evsT
  rw [List.pairwise_map]
  refine List.Pairwise.imp ?_ (List.pairwise_lt_range)
  intro a b h
  simp only [evT]; omega
theorem load_i64 {w : World} {g j : Nat} {n : Int} (h : w.cell? ⟨g, j, none⟩ = some (.int .i64 n)) : (Instr.loadAt 2 (.pointer (some ⟨g, j, none⟩))).run Tryd.prog w = .ok (.int .i64 n) w := by go_simp
theorem load_u8 {w : World} {g j : Nat} {n : Int} (h : w.cell? ⟨g, j, none⟩ = some (.int .u8 n)) : (Instr.loadAt 5 (.pointer (some ⟨g, j, none⟩))).run Tryd.prog w = .ok (.int .u8 n) w := by go_simp
theorem run_buildT {a : Act} {w : World} {x y z u : Operand} {n1 n2 n3 n4 : Int} {d : Option Tmp} {ty : TypeId} {pos : String} {af : Array Edge} (hx : a.eval x = .int .i64 n1) (hy : a.eval y = .int .i64 n2) (hz : a.eval z = .int .u8 n3) (hu : a.eval u = .int .i64 n4) :
    (execOp a.eval { dst := d, op := .build 37 #[(0, x), (1, y), (2, z), (3, u)], type := ty, pos := pos, after := af, guard := none }).run Tryd.prog w = .ok (.value (.agg #[.int .i64 n1, .int .i64 n2, .int .u8 n3, .int .i64 n4])) w := by
  simp only [execOp, Sem.run_bind]
  have e : Array.map (fun x => (x.1, a.eval x.2)) #[(0, x), (1, y), (2, z), (3, u)] = #[(0, .int .i64 n1), (1, .int .i64 n2), (2, .int .u8 n3), (3, .int .i64 n4)] := by simp [hx, hy, hz, hu]
  rw [e]
  go_simp
theorem infoEv : (Tryd.prog.info? 37).map (fun i => (i.zero, i.size, i.bytes)) = some (some (.agg #[.int .i64 0, .int .i64 0, .int .u8 0, .int .i64 0]), 4, 32) := by kernel_rfl
theorem build_evT (w : World) (e : Ev) : (Instr.buildSlice 32 1 #[(0, evV e)]).run Tryd.prog w = .ok (.slice (some ⟨w.heap.size, 0, none⟩) 1 1) (w.alloc (.cells (encE e).toArray 37)) := by
  unfold encE
  go_simp
/-- .. under way. -/
def TvR (W : World) (l : List Ev) (m : Nat) (va i : Value) (wr : World) : Prop := ∃ k, k ≤ m ∧ i = .int .i64 (k : Nat) ∧ wr.ownsRow W.heap.size 37 4 va k (cellsOf encE (evsT l k)) ∧ Below W.heap.size W wr
set_option maxRecDepth 100000 in
set_option maxHeartbeats 3200000 in
theorem events_top (M : Nat) (v : Value) (l : List Ev) (W : World) (hM : M ≤ 1000) (hv : Tps W W.heap.size v l) (hf : ∀ x ∈ l, x.fits) :
    Calls Tryd.prog 25 #[v, .int .i64 (M : Nat)] W fun e w' => ∃ va, e = .returned va ∧ w'.ownsRow W.heap.size 37 4 va (min l.length M) (cellsOf encE (evsT l (min l.length M))) ∧ Below W.heap.size W w' := by
  obtain ⟨A, c, rfl, hlc, _⟩ := id hv
  have HV := Lib.hid hv; have HF := Lib.hid hf
  clear hv hf
  obtain ⟨m, hm⟩ : ∃ m, min l.length M = m := ⟨_, rfl⟩
  rw [hm]
  have hml : m ≤ l.length := by omega
  have hm8 : m ≤ 1000 := by omega
  have hmi : min (l.length : Int) (M : Int) = (m : Int) := by omega
  have hm0 : (0 : Int) ≤ (m : Int) := by omega
  have hmc : (m : Int) ≤ (c : Int) := by omega
  clear hm
  go_enter Tryd.func25, Tryd.ntmps25
  go_wp2_with fail
  go_loopw [5, 15] (fun va i wr => TvR W l m va i wr) (fun _ i _ => m - (intOf i).toNat)
  case atStart => exact ⟨0, Nat.zero_le _, rfl, World.ownsRow_nil _ _ _ _, Below.refl _ _⟩
  case round =>
    obtain ⟨k, hk, rfl, hoa, hb⟩ := hrel
    by_cases hlt : k < m
    · have hki : (k : Int) < (m : Int) := by omega
      have hk0 : (0 : Int) ≤ (k : Int) := by omega
      have hkl : k < l.length := by omega
      obtain ⟨A', c', hc', _, hcc⟩ := HV.out
      obtain ⟨b, o, rfl, hbl, hcell⟩ := hcc (by omega)
      obtain ⟨rfl, rfl⟩ : A = some ⟨b, o, none⟩ ∧ c = c' := by simpa using hc'
      obtain ⟨g0, g1, g2⟩ := hcell k hkl
      have HFE := Lib.hid (HF.out _ (List.getElem_mem hkl))
      have HSU := Lib.hid (evsT_succ l k hkl)
      obtain ⟨e, he⟩ : ∃ e, l[k] = e := ⟨_, rfl⟩
      rw [he] at g0 g1 g2 HFE HSU
      have hc0 := (hb.cell (p := ⟨b, o + k * 3, none⟩) hbl).trans g0
      have hc1 := (hb.cell (p := ⟨b, o + k * 3 + 1, none⟩) hbl).trans g1
      have hc2 := (hb.cell (p := ⟨b, o + k * 3 + 2, none⟩) hbl).trans g2
      obtain ⟨aa, ac, rfl⟩ := (Sl.of_own hoa).shape
      have HOA := Lib.hid hoa; have HB := Lib.hid hb
      have hWr := hb.size
      obtain ⟨wx, hwx⟩ : ∃ wx, wx = wr.alloc (.cells #[.int .i64 e.time, .int .u8 e.kind, .int .i64 e.val] 113) := ⟨_, rfl⟩
      have HBX := Lib.hid (show wx.heap[wr.heap.size]? = some (.cells #[.int .i64 e.time, .int .u8 e.kind, .int .i64 e.val] 113 (0, 0)) by rw [hwx]; exact heap_new rfl)
      have hGX : Below wr.heap.size wr wx := by rw [hwx]; exact (Below.refl _ _).alloc (Nat.le_refl _) _
      have HOX := Lib.hid (own_below hoa hGX)
      have HBWX := Lib.hid (hb.trans (hGX.mono hWr))
      have HWX := Lib.hid hwx
      clear hc' hcc hcell hbl g0 g1 g2 he hoa hb hwx hGX
      go_upto_region 5 with (fail)
      rw [← HWX.out]
      clear hc0 hc1 hc2
      have HW1 := Lib.hid (show IntKind.i64.wrap ((k : Int) + 1) = (k : Int) + 1 from IntWalk.i64_in _ (by omega))
      have HM3 := Lib.hid (show e.kind.tmod 3 = e.kind % 3 from Int.tmod_eq_emod_of_nonneg HFE.out.2.2.1.1)
      have HW2 := Lib.hid (show IntKind.u8.wrap (65 + e.kind % 3) = 65 + e.kind % 3 by
        have := HFE.out.2.2.1
        exact (by decide : ∀ n : Fin 3, IntKind.u8.wrap (65 + (n.val : Int)) = 65 + (n.val : Int)) ⟨(e.kind % 3).toNat, by omega⟩ |> fun h => by
          have e4 : (((e.kind % 3).toNat : Nat) : Int) = e.kind % 3 := Int.toNat_of_nonneg (by omega)
          rw [← e4]; exact h)
      obtain ⟨bx, hbx⟩ : ∃ bx, wr.heap.size = bx := ⟨_, rfl⟩
      rw [hbx] at HBX ⊢
      have hWx : W.heap.size ≤ bx := by omega
      obtain ⟨i0, hi, hz0, hz1, hz2⟩ := info_parts infoEv
      refine Reg.stand_order (W := W) (h := 16) (t := 1)
        [⟨0, 20, [], 99, [], none, fun v _ => v = .slice aa k ac⟩,
         ⟨1, 21, [], 99, [], none, fun v _ => v = .int .i64 (k : Int)⟩,
         ⟨2, 22, [], 99, [], none, fun v _ => v = .int .i64 ((k : Int) + 1)⟩,
         ⟨3, 23, [], 99, [], none, fun v _ => v = .pointer (some ⟨bx, 0, none⟩)⟩,
         ⟨4, 24, [], 99, [], none, fun v _ => v = .int .i64 e.time⟩,
         ⟨5, 25, [], 99, [], none, fun v _ => v = .int .i64 (nearI e.time 60)⟩,
         ⟨6, 26, [], 99, [], none, fun v _ => v = .pointer (some ⟨bx, 1, none⟩)⟩,
         ⟨7, 27, [], 99, [], none, fun v _ => v = .int .u8 e.kind⟩,
         ⟨8, 28, [], 99, [], none, fun v _ => v = .int .u8 (e.kind % 3)⟩,
         ⟨9, 29, [], 99, [], none, fun v _ => v = .int .u8 (65 + e.kind % 3)⟩,
         ⟨10, 30, [], 99, [], none, fun v _ => v = .pointer (some ⟨bx, 2, none⟩)⟩,
         ⟨11, 31, [], 99, [], none, fun v _ => v = .int .i64 e.val⟩,
         ⟨12, 32, [], 99, [], none, fun v _ => v = .int .i64 (nearI e.val 9)⟩,
         ⟨13, 33, [], 99, [], none, fun v _ => v = evV (evT k e)⟩,
         ⟨14, 34, [37], 15, [], none, fun v w' => ∃ q, v = .slice (some ⟨q, 0, none⟩) 1 1 ∧ w'.heap[q]? = some (.cells (encE (evT k e)).toArray 37 (0, 0))⟩,
         ⟨15, 35, [37], 99, [], some 37, fun v w' => w'.ownsRow W.heap.size 37 4 v (k + 1) (cellsOf encE (evsT l k) ++ encE (evT k e))⟩]
        [⟨[113], 99, fun w' => w'.heap[bx]? = some (.cells #[.int .i64 e.time, .int .u8 e.kind, .int .i64 e.val] 113 (0, 0))⟩,
         ⟨[37], 15, fun w' => w'.ownsRow W.heap.size 37 4 (.slice aa k ac) k (cellsOf encE (evsT l k))⟩]
        (by kernel_rfl) rfl (by kernel_rfl) (by kernel_rfl) (by kernel_rfl) (show [0, 1, 2, 3, 4, 5, 6, 7, 8, 9, 10, 11, 12, 13, 14, 15].Nodup by decide) (show ∀ i, i < 16 → i ∈ [0, 1, 2, 3, 4, 5, 6, 7, 8, 9, 10, 11, 12, 13, 14, 15] by decide) ?_ (show [20, 21, 22, 23, 24, 25, 26, 27, 28, 29, 30, 31, 32, 33, 34, 35].Nodup by decide) (show ∀ s ∈ [20, 21, 22, 23, 24, 25, 26, 27, 28, 29, 30, 31, 32, 33, 34, 35], s < 38 by decide) (by kernel_rfl) ?_ ?_ HBWX.out ?_ ?_ ?_
      · intro f hf
        simp only [List.mem_cons, List.not_mem_nil, or_false] at hf
        rcases hf with rfl | rfl | rfl | rfl | rfl | rfl | rfl | rfl | rfl | rfl | rfl | rfl | rfl | rfl | rfl | rfl <;> simp
      · intro f hf v w1 w2 hk hF
        simp only [List.mem_cons, List.not_mem_nil, or_false] at hf
        rcases hf with rfl | rfl | rfl | rfl | rfl | rfl | rfl | rfl | rfl | rfl | rfl | rfl | rfl | rfl | rfl | rfl
        · exact hF
        · exact hF
        · exact hF
        · exact hF
        · exact hF
        · exact hF
        · exact hF
        · exact hF
        · exact hF
        · exact hF
        · exact hF
        · exact hF
        · exact hF
        · exact hF
        · obtain ⟨q, e1, e2⟩ := hF
          exact ⟨q, e1, (hk 37 (by simp)).2 _ _ e2⟩
        · exact (hk 37 (by simp)).1 _ _ _ _ _ hF
      · intro f hf w1 w2 hk hG
        simp only [List.mem_cons, List.not_mem_nil, or_false] at hf
        rcases hf with rfl | rfl
        · exact (hk 113 (by simp)).2 _ _ hG
        · exact (hk 37 (by simp)).1 _ _ _ _ _ hG
      · intro f hf
        simp only [List.mem_cons, List.not_mem_nil, or_false] at hf
        rcases hf with rfl | rfl
        · exact HBX.out
        · exact HOX.out.drew
      · intro f hf a w1 hs hg' hst
        have t5 : a.eval (.tmp 5) = .slice aa k ac := Reg.eval_tmp ((hs.out 5 (show 5 ∉ [20, 21, 22, 23, 24, 25, 26, 27, 28, 29, 30, 31, 32, 33, 34, 35] by decide)).trans rfl)
        have t6 : a.eval (.tmp 6) = .int .i64 (k : Int) := Reg.eval_tmp ((hs.out 6 (show 6 ∉ [20, 21, 22, 23, 24, 25, 26, 27, 28, 29, 30, 31, 32, 33, 34, 35] by decide)).trans rfl)
        have t7 : a.eval (.tmp 7) = .pointer (some ⟨bx, 0, none⟩) := Reg.eval_tmp ((hs.out 7 (show 7 ∉ [20, 21, 22, 23, 24, 25, 26, 27, 28, 29, 30, 31, 32, 33, 34, 35] by decide)).trans rfl)
        simp only [List.mem_cons, List.not_mem_nil, or_false] at hf
        rcases hf with rfl | rfl | rfl | rfl | rfl | rfl | rfl | rfl | rfl | rfl | rfl | rfl | rfl | rfl | rfl | rfl
        · have u1 := t5
          exact Reg.step_val rfl rfl rfl (Reg.run_move u1) rfl hs.below (fun e => Reg.Keeps.refl e _)
        · have u1 := t6
          exact Reg.step_val rfl rfl rfl (Reg.run_move u1) rfl hs.below (fun e => Reg.Keeps.refl e _)
        · obtain ⟨v1, hv1, rfl⟩ : ∃ v, a.tmps[21]? = some v ∧ v = .int .i64 (k : Int) := hg' _ (Reg.at_fact 1 rfl) (by kernel_rfl) (by simp [Reg.okTil])
          have u1 := Reg.eval_tmp hv1
          have hw1 := HW1.out
          exact Reg.step_val rfl rfl rfl (w' := w1) (v := .int .i64 ((k : Int) + 1)) (by go_simp) rfl hs.below (fun e => Reg.Keeps.refl e _)
        · have u1 := t7
          exact Reg.step_val (w' := w1) (v := .pointer (some ⟨bx, 0, none⟩)) rfl rfl rfl (Ord.run_fld u1 (by go_simp)) rfl hs.below (fun e => Reg.Keeps.refl e _)
        · obtain ⟨v1, hv1, rfl⟩ : ∃ v, a.tmps[23]? = some v ∧ v = .pointer (some ⟨bx, 0, none⟩) := hg' _ (Reg.at_fact 3 rfl) (by kernel_rfl) (by simp [Reg.okTil])
          have u1 := Reg.eval_tmp hv1
          exact Reg.step_val rfl rfl rfl (Reg.run_load u1 (load_i64 ((Lib.cell_of_heap (hst _ (Reg.at_stand 0 rfl) (by simp [Reg.okTil])) 0).trans rfl))) rfl hs.below (fun e => Reg.Keeps.refl e _)
        · obtain ⟨v1, hv1, rfl⟩ : ∃ v, a.tmps[24]? = some v ∧ v = .int .i64 e.time := hg' _ (Reg.at_fact 4 rfl) (by kernel_rfl) (by simp [Reg.okTil])
          have u1 := Reg.eval_tmp hv1
          refine Reg.step_call (f := 21) (args := #[.int .i64 e.time, .int .i64 60]) rfl rfl rfl (by go_simp) hs.below ((near_top e.time 60 w1 HFE.out.2.1 (by omega)).mono ?_)
          rintro en w2 ⟨rfl, rfl⟩
          exact ⟨_, rfl, rfl, Below.refl _ _⟩
        · have u1 := t7
          exact Reg.step_val (w' := w1) (v := .pointer (some ⟨bx, 1, none⟩)) rfl rfl rfl (Ord.run_fld u1 (by go_simp)) rfl hs.below (fun e => Reg.Keeps.refl e _)
        · obtain ⟨v1, hv1, rfl⟩ : ∃ v, a.tmps[26]? = some v ∧ v = .pointer (some ⟨bx, 1, none⟩) := hg' _ (Reg.at_fact 6 rfl) (by kernel_rfl) (by simp [Reg.okTil])
          have u1 := Reg.eval_tmp hv1
          exact Reg.step_val rfl rfl rfl (Reg.run_load u1 (load_u8 ((Lib.cell_of_heap (hst _ (Reg.at_stand 0 rfl) (by simp [Reg.okTil])) 1).trans rfl))) rfl hs.below (fun e => Reg.Keeps.refl e _)
        · obtain ⟨v1, hv1, rfl⟩ : ∃ v, a.tmps[27]? = some v ∧ v = .int .u8 e.kind := hg' _ (Reg.at_fact 7 rfl) (by kernel_rfl) (by simp [Reg.okTil])
          have u1 := Reg.eval_tmp hv1
          have hm3 := HM3.out
          exact Reg.step_val rfl rfl rfl (w' := w1) (v := .int .u8 (e.kind % 3)) (by go_simp) rfl hs.below (fun e => Reg.Keeps.refl e _)
        · obtain ⟨v1, hv1, rfl⟩ : ∃ v, a.tmps[28]? = some v ∧ v = .int .u8 (e.kind % 3) := hg' _ (Reg.at_fact 8 rfl) (by kernel_rfl) (by simp [Reg.okTil])
          have u1 := Reg.eval_tmp hv1
          have hw2 := HW2.out
          exact Reg.step_val rfl rfl rfl (w' := w1) (v := .int .u8 (65 + e.kind % 3)) (by go_simp) rfl hs.below (fun e => Reg.Keeps.refl e _)
        · have u1 := t7
          exact Reg.step_val (w' := w1) (v := .pointer (some ⟨bx, 2, none⟩)) rfl rfl rfl (Ord.run_fld u1 (by go_simp)) rfl hs.below (fun e => Reg.Keeps.refl e _)
        · obtain ⟨v1, hv1, rfl⟩ : ∃ v, a.tmps[30]? = some v ∧ v = .pointer (some ⟨bx, 2, none⟩) := hg' _ (Reg.at_fact 10 rfl) (by kernel_rfl) (by simp [Reg.okTil])
          have u1 := Reg.eval_tmp hv1
          exact Reg.step_val rfl rfl rfl (Reg.run_load u1 (load_i64 ((Lib.cell_of_heap (hst _ (Reg.at_stand 0 rfl) (by simp [Reg.okTil])) 2).trans rfl))) rfl hs.below (fun e => Reg.Keeps.refl e _)
        · obtain ⟨v1, hv1, rfl⟩ : ∃ v, a.tmps[31]? = some v ∧ v = .int .i64 e.val := hg' _ (Reg.at_fact 11 rfl) (by kernel_rfl) (by simp [Reg.okTil])
          have u1 := Reg.eval_tmp hv1
          refine Reg.step_call (f := 21) (args := #[.int .i64 e.val, .int .i64 9]) rfl rfl rfl (by go_simp) hs.below ((near_top e.val 9 w1 HFE.out.2.2.2 (by omega)).mono ?_)
          rintro en w2 ⟨rfl, rfl⟩
          exact ⟨_, rfl, rfl, Below.refl _ _⟩
        · obtain ⟨v1, hv1, rfl⟩ : ∃ v, a.tmps[22]? = some v ∧ v = .int .i64 ((k : Int) + 1) := hg' _ (Reg.at_fact 2 rfl) (by kernel_rfl) (by simp [Reg.okTil])
          obtain ⟨v2, hv2, rfl⟩ : ∃ v, a.tmps[25]? = some v ∧ v = .int .i64 (nearI e.time 60) := hg' _ (Reg.at_fact 5 rfl) (by kernel_rfl) (by simp [Reg.okTil])
          obtain ⟨v3, hv3, rfl⟩ : ∃ v, a.tmps[29]? = some v ∧ v = .int .u8 (65 + e.kind % 3) := hg' _ (Reg.at_fact 9 rfl) (by kernel_rfl) (by simp [Reg.okTil])
          obtain ⟨v4, hv4, rfl⟩ : ∃ v, a.tmps[32]? = some v ∧ v = .int .i64 (nearI e.val 9) := hg' _ (Reg.at_fact 12 rfl) (by kernel_rfl) (by simp [Reg.okTil])
          exact Reg.step_val rfl rfl rfl (run_buildT (Reg.eval_tmp hv1) (Reg.eval_tmp hv2) (Reg.eval_tmp hv3) (Reg.eval_tmp hv4)) rfl hs.below (fun e => Reg.Keeps.refl e _)
        · obtain ⟨v1, hv1, rfl⟩ : ∃ v, a.tmps[33]? = some v ∧ v = evV (evT k e) := hg' _ (Reg.at_fact 13 rfl) (by kernel_rfl) (by simp [Reg.okTil])
          exact Reg.step_val rfl rfl rfl (Reg.run_build (Reg.eval_tmp hv1) (build_evT w1 (evT k e))) ⟨_, rfl, heap_new rfl⟩ (hs.below.alloc hs.below.size _) (fun e => Reg.Keeps.alloc e _ _)
        · obtain ⟨v1, hv1, rfl⟩ : ∃ v, a.tmps[20]? = some v ∧ v = .slice aa k ac := hg' _ (Reg.at_fact 0 rfl) (by kernel_rfl) (by simp [Reg.okTil])
          obtain ⟨v2, hv2, q, rfl, hh⟩ : ∃ v, a.tmps[34]? = some v ∧ ∃ q, v = .slice (some ⟨q, 0, none⟩) 1 1 ∧ w1.heap[q]? = some (.cells (encE (evT k e)).toArray 37 (0, 0)) := hg' _ (Reg.at_fact 14 rfl) (by kernel_rfl) (by simp [Reg.okTil])
          have hown := hst _ (Reg.at_stand 1 rfl) (by simp [Reg.okTil])
          exact Reg.step_append rfl rfl rfl rfl hs.below Tryd.underlying32 hi hz0 hz1 hz2 rfl (by decide) hv1 hown hv2 (by rw [encE_len]) (fun j u hu => World.news_of_block hh j u (by simpa using hu)) (encE_one _) (by decide) (by unfold maxLen; omega) (by omega) (fun v' w' h => h)
      · intro vals w1 hF hfx hb1
        have h35 : w1.ownsRow W.heap.size 37 4 (vals 35) (k + 1) (cellsOf encE (evsT l k) ++ encE (evT k e)) := hF _ (Reg.at_fact 15 rfl) (show (16 + 1 : Nat) ≤ 99 by decide)
        have HREL := Lib.hid (show TvR W l m (vals 35) (.int .i64 ((k : Int) + 1)) w1 from ⟨k + 1, by omega, by go_num, by rw [HSU.out, cellsOf_snoc]; exact h35, hb1⟩)
        simp only [List.map_cons, List.map_nil]
        generalize vals 20 = p20 at HREL ⊢
        generalize vals 21 = p21 at HREL ⊢
        generalize vals 22 = p22 at HREL ⊢
        generalize vals 23 = p23 at HREL ⊢
        generalize vals 24 = p24 at HREL ⊢
        generalize vals 25 = p25 at HREL ⊢
        generalize vals 26 = p26 at HREL ⊢
        generalize vals 27 = p27 at HREL ⊢
        generalize vals 28 = p28 at HREL ⊢
        generalize vals 29 = p29 at HREL ⊢
        generalize vals 30 = p30 at HREL ⊢
        generalize vals 31 = p31 at HREL ⊢
        generalize vals 32 = p32 at HREL ⊢
        generalize vals 33 = p33 at HREL ⊢
        generalize vals 34 = p34 at HREL ⊢
        generalize vals 35 = p35 at HREL ⊢
        clear hF hfx h35 hb1
        unfold Reg.puts Reg.puts Reg.puts Reg.puts Reg.puts Reg.puts Reg.puts Reg.puts Reg.puts Reg.puts Reg.puts Reg.puts Reg.puts Reg.puts Reg.puts Reg.puts Reg.puts
        go_wp2_with fail
        go_roundw
        case rel => exact HREL.out
        case measure => simp [intOf]; omega
    · obtain rfl : k = m := by omega
      obtain ⟨aa, ac, rfl⟩ := (Sl.of_own hoa).shape
      have HP := Lib.hid (show ∃ va, Ending.returned (.slice aa k ac) = .returned va ∧ wr.ownsRow W.heap.size 37 4 va k (cellsOf encE (evsT l k)) ∧ Below W.heap.size W wr from ⟨_, rfl, hoa, hb⟩)
      clear hoa hb
      go_wp2_with fail
      first | go_ret | go_ret2
      exact HP.out
end Go.Proofs.YtcojnojdgigmdaaDoor.WR
