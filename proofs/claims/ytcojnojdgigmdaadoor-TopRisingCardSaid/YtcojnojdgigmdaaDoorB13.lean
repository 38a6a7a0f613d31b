/- The walks of wakes, events; what the rows list. -/
import Derived.Test.YtcojnojdgigmdaaDoorB12
import Derived.Test.YtcojnojdgigmdaaDoorWAll
import Derived.Test.YtcojnojdgigmdaaDoorRows
import Derived.Test.YtcojnojdgigmdaaDoorB01
import Derived.WalkKit
import Derived.ProofKit
import Derived.OpenShut
import Derived.ShutString
import Derived.ChangeOld
import Derived.JoinedCond
import Derived.Deep.Slices
import Derived.Deep.Fields
import Derived.ChangeSame
import Derived.Test.YtcojnojdgigmdaaDoorB10
import Derived.Lib.LaidTab
import Derived.Stop.LaidErr
import Derived.LaidMore
import Derived.Lay
import Derived.Handed
import Derived.SizedLaws
/- The walk of oxbowlaw21.wakes: matches that the document fixes. -/
namespace Go.Proofs.YtcojnojdgigmdaaDoor.WR
open Go Go.RowKit Go.Sort Go.Proofs.YtcojnojdgigmdaaDoor Go.Proofs.YtcojnojdgigmdaaDoor.PL Go.Proofs.YtcojnojdgigmdaaDoor.PR Go.Proofs.YtcojnojdgigmdaaDoor.Mem Go.Proofs.YtcojnojdgigmdaaDoor.WS Go.Proofs.YtcojnojdgigmdaaDoor.WL Go.Proofs.YtcojnojdgigmdaaDoor.PP Go.Proofs.YtcojnojdgigmdaaDoor.WP

/-- Each stands ahead of all behind it. -/
def StrictE (l : List Ev) : Prop := l.Pairwise fun x y => ltE x y = true
theorem ltE_asym {x y : Ev} (h : ltE x y = true) : ltE y x = false := by
  unfold ltE at *
  simp only [decide_eq_true_eq, decide_eq_false_iff_not] at *
  omega
theorem strict_unique : ∀ (a b : List Ev), a.Perm b → StrictE a → StrictE b → a = b := by
  intro a
  induction a with
  | nil => intro b h _ _; exact h.nil_eq
  | cons x a ih =>
    intro b h ha hb
    cases b with
    | nil => exact absurd h.length_eq (by simp)
    | cons y b =>
      have ha' := List.pairwise_cons.1 ha
      have hb' := List.pairwise_cons.1 hb
      have hxy : x = y := by
        rcases List.mem_cons.1 (h.mem_iff.1 List.mem_cons_self) with e | hx
        · exact e
        · rcases List.mem_cons.1 (h.mem_iff.2 List.mem_cons_self) with e | hy
          · exact e.symm
          · have h1 := ha'.1 y hy
            have h2 := hb'.1 x hx
            rw [ltE_asym h1] at h2; cases h2
      subst hxy
      rw [ih b (List.perm_cons x |>.1 h) ha'.2 hb'.2]
/-- No two have one number. -/
def DistE (l : List Ev) : Prop := l.Pairwise fun x y => x.id ≠ y.id
theorem DistE.perm {a b : List Ev} (h : a.Perm b) (hb : DistE b) : DistE a := h.symm.pairwise hb fun h => Ne.symm h
theorem SortedE.strict {l : List Ev} (h : SortedE l) (hd : DistE l) : StrictE l := by
  refine List.Pairwise.imp₂ ?_ h hd
  intro x y h1 h2
  unfold ltE at *
  simp only [decide_eq_true_eq, decide_eq_false_iff_not] at *
  omega
theorem sort_eq {a b l : List Ev} (ha : a.Perm l) (hb : b.Perm l) (sa : SortedE a) (sb : SortedE b) (hd : DistE l) : a = b :=
  strict_unique a b (ha.trans hb.symm) (sa.strict (DistE.perm ha hd)) (sb.strict (DistE.perm hb hd))

def txtW : List UInt8 := [83, 69, 81, 40, 65, 32, 97, 44, 33, 66, 32, 98, 44, 67, 32, 99, 41, 32, 87, 73, 84, 72, 73, 78, 32, 57]
def strW : ByteArray := ⟨#[83, 69, 81, 40, 65, 32, 97, 44, 33, 66, 32, 98, 44, 67, 32, 99, 41, 32, 87, 73, 84, 72, 73, 78, 32, 57]⟩
def ssW : List GS := [⟨65, 97, false, 1, 1⟩, ⟨66, 98, true, 1, 1⟩, ⟨67, 99, false, 1, 1⟩]
def lW : List Ev := [⟨1, 1, 65, 0⟩, ⟨2, 2, 67, 0⟩, ⟨3, 3, 66, 0⟩, ⟨4, 4, 67, 0⟩]
theorem parseW : pParse strW.data.toList = .inr ⟨[⟨65, 97, false, 1, 1⟩, ⟨66, 98, true, 1, 1⟩, ⟨67, 99, false, 1, 1⟩], [], 9⟩ := by kernel_rfl
theorem checkW : checkP ssW [] 9 = (0, 0) := by kernel_rfl
theorem runW : (runA (planR ssW [] 9) lW).2 = [[49, 124, 50]] := by kernel_rfl
theorem sortedW : SortedE lW := by unfold SortedE lW; decide
theorem distW : DistE lW := by unfold DistE lW; decide
/-- What Compile makes of that text. -/
theorem compW (W : World) : Calls Tryd.prog 22 #[.string strW] W fun e w' => Below W.heap.size W w' ∧ ∃ pa n pc, e = .returned (.tuple #[.agg #[.slice pa n pc, .int .i64 9], .int .i64 0]) ∧ OKP ssW [] 9 ∧ n = (planR ssW [] 9).steps.length ∧ PlnAt w' w'.heap.size (.slice pa n pc) (planR ssW [] 9).steps := by
  refine (compile_any strW W).mono ?_
  rintro e w' ⟨hb, h⟩
  rw [parseW] at h
  dsimp only at h
  have e1 : (List.map gS [⟨65, 97, false, 1, 1⟩, ⟨66, 98, true, 1, 1⟩, ⟨67, 99, false, 1, 1⟩]) = ssW := rfl
  have e2 : (List.map gC ([] : List Cnd)) = [] := rfl
  rw [e1, e2] at h
  rcases h with ⟨h, _⟩ | ⟨_, hok, vs, rfl, hpa⟩
  · exact absurd (show (checkP ssW [] ((9 : Nat) : Int)).2 = 0 by rw [show ((9 : Nat) : Int) = 9 from rfl, checkW]) h
  · have hpl := plan_pln hpa
    obtain ⟨pa, pc, rfl, _⟩ := id hpl
    exact ⟨hb, pa, _, pc, rfl, hok, rfl, hpl⟩
set_option maxRecDepth 100000 in
set_option maxHeartbeats 3200000 in
theorem wakes_any (W : World) (ht : Tab W) (hg : 0 < W.heap.size) : Calls Tryd.prog 11 #[] W fun e w' => e = .returned (.bool true) ∧ Below W.heap.size W w' := by
  have HC := Lib.hid (compW W)
  have HT := Lib.hid ht
  clear ht
  unfold strW at HC
  go_enter Tryd.func11, Tryd.ntmps11
  go_wp2_with fail
  refine HC.out.mono ?_
  rintro e w1 ⟨hb1, pa, n, pc, rfl, hok, hn, hpl⟩
  obtain ⟨w2, hw2⟩ : ∃ w2, w2 = (w1.alloc (.cells #[.slice pa n pc, .int .i64 9] 25)).alloc (.cells #[.int .i64 1, .int .i64 1, .int .u8 65, .int .i64 0, .int .i64 2, .int .i64 2, .int .u8 67, .int .i64 0, .int .i64 3, .int .i64 3, .int .u8 66, .int .i64 0, .int .i64 4, .int .i64 4, .int .u8 67, .int .i64 0] 37) := ⟨_, rfl⟩
  have hb12 : Below w1.heap.size w1 w2 := by rw [hw2]; exact ((Below.refl _ _).alloc (Nat.le_refl _) _).alloc (by simp) _
  have hown : w2.ownsRow 0 37 4 (.slice (some ⟨w1.heap.size + 1, 0, none⟩) 4 4) 4 (cellsOf encE lW) := by
    rw [hw2]
    exact Reg.own_new (w := w1.alloc (.cells #[.slice pa n pc, .int .i64 9] 25)) (cs := #[.int .i64 1, .int .i64 1, .int .u8 65, .int .i64 0, .int .i64 2, .int .i64 2, .int .u8 67, .int .i64 0, .int .i64 3, .int .i64 3, .int .u8 66, .int .i64 0, .int .i64 4, .int .i64 4, .int .u8 67, .int .i64 0]) (by simp) (Nat.zero_le _) rfl (by decide)
  have hz1 := hb1.size
  have hz2 := hb12.size
  have hbW : Below W.heap.size W w2 := hb1.trans (hb12.mono hz1)
  have HAL := Lib.hid (runAll_any (planR ssW [] 9) (.slice pa n pc) (.slice (some ⟨w1.heap.size + 1, 0, none⟩) 4 4) lW w1.heap.size w2 (planR_ok hok).1 (by have := (planR_ok hok).2; omega) (PlnAt.keep hpl fun a ha => hb12.cell ha) hz2 (Sl.of_own hown) (Lit.of_own hown) (by decide)
    (by
      intro e he
      simp only [lW, List.mem_cons, List.not_mem_nil, or_false] at he
      unfold OkEv Sm
      rcases he with rfl | rfl | rfl | rfl <;> simp) (Tab.of_eq HT.out (hbW.block _ hg)) (by omega))
  have HBW := Lib.hid hbW; have HW2 := Lib.hid hw2
  have w9 : (planR ssW [] 9).within = 9 := rfl
  rw [w9] at HAL
  clear hb1 hok hn hpl hw2 hb12 hown hbW w9
  go_wp2_with fail
  rw [← HW2.out]
  refine HAL.out.mono ?_
  rintro e w3 ⟨v, ls, rfl, hperm, hsort, hown, hb3⟩
  have hls : ls = lW := sort_eq hperm (List.Perm.refl _) hsort sortedW distW
  subst hls
  rw [runW] at hown
  obtain ⟨b, c, rfl, _, _⟩ := hown.form (by decide)
  have x0 := hown.cells (g := b) rfl 0 (.string ⟨#[49, 124, 50]⟩) rfl
  rw [lit_add, Nat.zero_add] at x0
  have HB3 := Lib.hid (HBW.out.trans (hb3.mono HBW.out.size))
  clear hperm hsort hown hb3
  go_wp2_with fail
  go_ret
  exact ⟨rfl, HB3.out⟩
end Go.Proofs.YtcojnojdgigmdaaDoor.WR
/- How the arguments read: slices of structs of plain fields as lists. -/
namespace Go.Proofs.YtcojnojdgigmdaaDoor.Op
open Go.RowKit Go.ChangeShapes Go.WideShapes Go.Deep Go.Proofs.YtcojnojdgigmdaaDoor Go.Proofs.YtcojnojdgigmdaaDoor.Mem

/-- What stands in a cell of a plain kind. -/
def cellIs : TypeDesc → Value → Prop
  | .int k, v => ∃ n, v = .int k n ∧ (Lit.int k n).wf = true
  | .bool, v => ∃ b, v = .bool b
  | .string, v => ∃ s : ByteArray, v = .string s ∧ s.size ≤ maxLen
  | _, _ => True

/-- Is the kind a plain one? -/
def plainK : TypeDesc → Bool
  | .int _ => true
  | .bool => true
  | .string => true
  | _ => false

section
variable {H : Type} {enc : TypeId × Value → H} {P : Program} {w : World}
theorem cell_of_trod {t : TypeId} {d : TypeDesc} {fuel : Nat} {v : Value} {x : DataW H × List MemPlace} (ht : P.underlying t = some d) (hd : plainK d = true)
    (h : DataW.trod enc P w 0 (fun _ => true) true fuel t [v] = some x) : cellIs d v := by
  cases d with
  | int k =>
    obtain ⟨n, hv, _, hw⟩ := DataW.trod_int ht h
    exact ⟨n, by simpa using hv, hw⟩
  | bool =>
    obtain ⟨b, hv, _⟩ := DataW.trod_bool ht h
    exact ⟨b, by simpa using hv⟩
  | string =>
    obtain ⟨s, hv, _, hs⟩ := DataW.trod_string ht h
    exact ⟨s, by simpa using hv, hs⟩
  | _ => cases hd

theorem open_structs {t e : TypeId} {fs : Array Field} {ds : List TypeDesc} {fuel : Nat} {cs : List Value} {x : DataW H × List MemPlace} (ht : P.underlying t = some (.slice e)) (he : P.underlying e = some (.struct fs))
    (hone : oneCellFields P fs = true) (hC : P.cellsOf e = fs.size) (hds : ∀ (j : Nat) (f : Field), fs[j]? = some f → ∃ d, ds[j]? = some d ∧ P.underlying f.type = some d ∧ plainK d = true)
    (h : DataW.trod enc P w 0 (fun _ => true) true fuel t cs = some x) :
    (cs = [.slice none 0 0] ∧ x.1 = .nil) ∨
    ∃ (a : Addr) (len cap : Nat) (elems spare : List (DataW H)), cs = [.slice (some a) len cap] ∧ len ≤ cap ∧ x.1 = .slice elems spare ∧ elems.length = len ∧
      ∀ i, i < len → ∀ j, j < fs.size → ∃ d v, ds[j]? = some d ∧ w.cell? (a.add (i * fs.size + j)) = some v ∧ cellIs d v := by
  rcases open_slice ht h with h0 | ⟨a, len, cap, m, n, D, Pl, hcs, hb, hl, hm, hmm, hx, hi⟩
  · exact .inl ⟨h0.1, by rw [h0.2]⟩
  · refine .inr ⟨a, len, cap, _, _, hcs, hl, by rw [hx], by simp, fun i him j hj => ?_⟩
    have hmm' : m = cap := by simpa using hmm
    obtain ⟨cs', hc, ht'⟩ := hi i (by omega)
    rw [hC] at hc
    obtain ⟨ys, n', hn', hy, hlen, hyl, hf⟩ := DataW.trod_struct he ht'
    obtain ⟨_, hcl, hat⟩ := World.cells?_some hc
    have hjf : fs[j]? = some fs[j] := by simp [hj]
    obtain ⟨d, hd, hu, hk⟩ := hds j _ hjf
    obtain ⟨ho, hkk⟩ := hone_of hone j _ hjf
    have hcell := hat j hj
    have h1 := hf j _ hjf
    rw [ho, hkk] at h1
    have hone' : (cs'.drop j).take 1 = [cs'[j]'(by omega)] := by
      rw [List.drop_eq_getElem_cons (by omega)]
      rfl
    rw [hone'] at h1
    have hys : ys[j]? = some (ys[j]'(by omega)) := List.getElem?_eq_getElem (by omega)
    refine ⟨d, cs'[j]'(by omega), hd, ?_, cell_of_trod hu hk (h1.trans hys)⟩
    rw [← Mem.add_add, hcell]
    exact List.getElem?_eq_getElem (by omega)
end

theorem pick {α : Type} {p : Nat → α → Prop} : ∀ n : Nat, (∀ i, i < n → ∃ x, p i x) → ∃ l : List α, l.length = n ∧ ∀ i (h : i < l.length), p i l[i]
  | 0, _ => ⟨[], rfl, fun i h => absurd h (by simp)⟩
  | n + 1, h => by
    obtain ⟨l, hl, hp⟩ := pick n (fun i hi => h i (by omega))
    obtain ⟨x, hx⟩ := h n (by omega)
    refine ⟨l ++ [x], by simp [hl], fun i hi => ?_⟩
    by_cases hin : i < l.length
    · rw [List.getElem_append_left hin]; exact hp i hin
    · have : i = l.length := by simp at hi; omega
      subst this
      rw [List.getElem_append_right (by omega)]
      simpa [hl] using hx

theorem wf_i64 {n : Int} (h : (Lit.int .i64 n).wf = true) : -9223372036854775808 ≤ n ∧ n ≤ 9223372036854775807 := by simpa [Lit.wf, IntKind.min, IntKind.max, IntKind.signed, IntKind.bits] using h
theorem wf_u8 {n : Int} (h : (Lit.int .u8 n).wf = true) : 0 ≤ n ∧ n ≤ 255 := by simpa [Lit.wf, IntKind.min, IntKind.max, IntKind.signed, IntKind.bits] using h

/-- A slice of events (whatever their type's name) that came in. -/
theorem open_events {H : Type} {enc : TypeId × Value → H} {P : Program} {w : World} {t e : TypeId} {fs : Array Field} {fuel : Nat} {v : Value} {x : DataW H × List MemPlace} (ht : P.underlying t = some (.slice e)) (he : P.underlying e = some (.struct fs))
    (hone : oneCellFields P fs = true) (hC : P.cellsOf e = fs.size) (h4 : fs.size = 4) (hds : ∀ (j : Nat) (f : Field), fs[j]? = some f → ∃ d, [TypeDesc.int .i64, .int .i64, .int .u8, .int .i64][j]? = some d ∧ P.underlying f.type = some d ∧ plainK d = true)
    (h : DataW.trod enc P w 0 (fun _ => true) true fuel t [v] = some x) :
    ∃ l : List Ev, Evs w w.heap.size v l ∧ (∀ e ∈ l, e.fits) ∧ ((l = [] ∧ x.1 = .nil) ∨ ∃ elems spare, x.1 = .slice elems spare ∧ elems.length = l.length) := by
  rcases open_structs ht he hone hC hds h with ⟨hcs, hx⟩ | ⟨a, len, cap, elems, spare, hcs, hl, hx, hel, hcell⟩
  · have hv : v = .slice none 0 0 := by simpa using hcs
    subst hv
    exact ⟨[], Sl.nil_ _ _ _, by simp, .inl ⟨rfl, hx⟩⟩
  · have hv : v = .slice (some a) len cap := by simpa using hcs
    subst hv
    rw [h4] at hcell
    have hex : ∀ i, i < len → ∃ e : Ev, e.fits ∧ w.cell? (a.add (i * 4)) = some (.int .i64 e.id) ∧ w.cell? (a.add (i * 4 + 1)) = some (.int .i64 e.time) ∧ w.cell? (a.add (i * 4 + 2)) = some (.int .u8 e.kind) ∧ w.cell? (a.add (i * 4 + 3)) = some (.int .i64 e.val) := by
      intro i hi
      obtain ⟨d0, v0, e0, c0, k0⟩ := hcell i hi 0 (by omega)
      obtain ⟨d1, v1, e1, c1, k1⟩ := hcell i hi 1 (by omega)
      obtain ⟨d2, v2, e2, c2, k2⟩ := hcell i hi 2 (by omega)
      obtain ⟨d3, v3, e3, c3, k3⟩ := hcell i hi 3 (by omega)
      simp only [List.getElem?_cons_zero, List.getElem?_cons_succ, Option.some.injEq] at e0 e1 e2 e3
      subst e0; subst e1; subst e2; subst e3
      obtain ⟨n0, rfl, w0⟩ := k0
      obtain ⟨n1, rfl, w1⟩ := k1
      obtain ⟨n2, rfl, w2⟩ := k2
      obtain ⟨n3, rfl, w3⟩ := k3
      exact ⟨⟨n0, n1, n2, n3⟩, ⟨wf_i64 w0, wf_i64 w1, wf_u8 w2, wf_i64 w3⟩, c0, c1, c2, c3⟩
    obtain ⟨l, hll, hp⟩ := pick len hex
    refine ⟨l, ⟨cellsOf_length encE_len l, _, cap, by rw [hll], by omega, fun hn => ?_⟩, ?_, .inr ⟨elems, spare, hx, by omega⟩⟩
    · have hp0 := hp 0 hn
      have hblk : a.block < w.heap.size := by
        have := World.block_lt_of_cell? w _ hp0.2.1
        rwa [Mem.block_add] at this
      have hlit : ∃ b o, a = ⟨b, o, none⟩ := by
        have := hp0.2.1
        rw [Nat.zero_mul] at this
        have e : a.add 0 = a := by simp [Addr.add]
        rw [e] at this
        exact lit_of_cell this
      obtain ⟨b, o, rfl⟩ := hlit
      refine ⟨b, o, rfl, hblk, fun j u hu => ?_⟩
      have hj : j < l.length * 4 := by
        have := (List.getElem?_eq_some_iff.1 hu).1
        rwa [cellsOf_length encE_len] at this
      have hq : j / 4 < l.length := by omega
      have hpj := hp (j / 4) hq
      have hje : j = j / 4 * 4 + j % 4 := by omega
      rw [hje, cellsOf_get encE_len l (j / 4) (j % 4) (by omega) hq] at hu
      have h4c : j % 4 = 0 ∨ j % 4 = 1 ∨ j % 4 = 2 ∨ j % 4 = 3 := by omega
      rw [hje, ← lit_add]
      rcases h4c with h | h | h | h <;> rw [h] at hu ⊢ <;> simp only [encE, List.getElem?_cons_zero, List.getElem?_cons_succ, Option.some.injEq] at hu <;> subst hu
      · exact hpj.2.1
      · exact hpj.2.2.1
      · exact hpj.2.2.2.1
      · exact hpj.2.2.2.2
    · intro e he'
      obtain ⟨i, hi, rfl⟩ := List.getElem_of_mem he'
      exact (hp i hi).1
end Go.Proofs.YtcojnojdgigmdaaDoor.Op
/- What the rows list (the table of ten's powers), as the walks want it; the wrap that keeps the world's shape beside what the row lists. -/
namespace Go.Proofs.YtcojnojdgigmdaaDoor.WS
open Go Go.RowKit Go.Proofs.YtcojnojdgigmdaaDoor Go.Proofs.YtcojnojdgigmdaaDoor.Mem

theorem gPow : Tryd.prog.globalNamed "internal/strconv.uint64pow10" = some 0 := by kernel_rfl
theorem tab_of {W : World} (h : laidMetH Tryd.prog Rows.runTurnedRow.laid W) : Tab W := by
  rw [MakeChecks.laidMetH_plain _ _ _ (by kernel_rfl)] at h
  have h3 := laidMet.tail (laidMet.tail h)
  exact Lib.tabIs_of_head gPow (by kernel_rfl) Tryd.underlying225 Tryd.underlying151 (by kernel_rfl) (by kernel_rfl) h3
theorem pow_lt {W : World} (h : Tab W) : 0 < W.heap.size := by
  have h0 := Lib.TabIs.cell h gPow 0 (by decide)
  rcases Nat.lt_or_ge 0 W.heap.size with h' | h'
  · exact h'
  · simp [World.cell?, Array.getElem?_eq_none h'] at h0
end Go.Proofs.YtcojnojdgigmdaaDoor.WS
namespace Go.Proofs.YtcojnojdgigmdaaDoor.Door
open Go

theorem returns_and_shaped {H : Type} {enc : TypeId × Value → H} {a : Assume} {C : Checked} {os : Os} {f : FuncId} {fn : Func} {s : ChangeSpec} {conds : List PathCond} {apart fresh handsOn again : Bool} {X : World → Array Value → Prop}
    (hX : ∀ (w w' : World) (args : Array Value), w.heap = w'.heap → X w args → X w' args)
    (own : ownKnob C.prog.godebug = none) (started : os.Started) (noInit : C.prog.inits.idxOf? f = none) (hfn : C.prog.funcs[f]? = some fn)
    (witness : ∃ (w : World) (tape : Tape) (i : Input), w.os = os ∧ (w.forCall tape i).Shaped C.prog ∧ i.vars = [] ∧ Input.okWide C.prog (w.forCall tape i) .any w.heap.size f i ∧
      ((s.pre enc C.prog fn conds apart (w.forCall tape i).memory i.args ∧ X (w.forCall tape i).memory i.args) ∧ sizedMet enc C.prog fn (OpenSpec.ofChange s) apart (w.forCall tape i).memory i.args) ∧ a.holds C.prog (lone (Frame.enter C.prog f i.args .normal) [] (w.forCall tape i)))
    (contract : ∀ (W : World) (base : Nat) (args : Array Value) (ds gs : List (DataW H)) (before : List MemPlace),
      (∀ (j : Nat) t v, fn.params[j]? = some t → args[j]? = some v → Value.okWide C.prog W .any base t v) →
      DataW.Whole enc C.prog fn.params.toList s.vars apart W args.toList ds gs before →
      conds.all (PathCond.test C.prog ⟨fn.params.toList, ds, s.plain.varTypes C.prog, gs⟩) = true →
      (DataW.weightsEach C.prog (fn.params.toList ++ s.plain.varTypes C.prog) (ds ++ gs)).all (· ≤ reachBytes) = true → X W args → W.ShapedOpen C.prog →
      Calls C.prog f args W fun e W' => ∃ v, e = .returned v ∧ s.post enc C.prog fn apart fresh handsOn again W args v W') :
    ReturnsInHanded a C os f .any (fun w args => (s.pre enc C.prog fn conds apart w args ∧ X w args) ∧ sizedMet enc C.prog fn (OpenSpec.ofChange s) apart w args) (s.post enc C.prog fn apart fresh handsOn again) := by
  refine returnsInHanded_of_calls own started noInit witness ?_
  intro w tape i _ hsh _ hok hpre _
  obtain ⟨_, _, _, fn', hfn', _, _, _, _, hval⟩ := hok
  have e : fn' = fn := Option.some.inj (hfn'.symm.trans hfn)
  subst e
  obtain ⟨⟨⟨ds, gs, before, hw, hc⟩, hx⟩, hz⟩ := hpre
  have hw' := DataW.Whole.of_heap (w' := w.forCall tape i) (by rfl) hw
  refine (contract (w.forCall tape i) w.heap.size i.args ds gs before hval hw' hc (hz.weights hw) (hX _ _ _ (by rfl) hx) hsh).mono fun e W' ⟨v, he, hp⟩ => ?_
  subst he
  exact ChangeSpec.post_blind hp
end Go.Proofs.YtcojnojdgigmdaaDoor.Door
