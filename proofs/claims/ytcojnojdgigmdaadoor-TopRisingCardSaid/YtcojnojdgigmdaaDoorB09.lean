/- The walks of a run: of, holds, all, fits, bars. -/
import Derived.Test.YtcojnojdgigmdaaDoorChecked
import Derived.Test.YtcojnojdgigmdaaDoorB01
import Derived.WalkKit
import Derived.Outline
import Derived.Lib.Hide
import Derived.WalkSpells
import Derived.WalkLawsBesides
import Derived.BigQuiet
import Derived.Deep.QuietTactic
import Derived.Lib.Builder
import Derived.Shelf.SlSortCmp.QuietGrown
/- The walk of (run.Run).of: the events that a step took. -/
namespace Go.Proofs.YtcojnojdgigmdaaDoor.WR
open Go Go.RowKit Go.Sort Go.Proofs.YtcojnojdgigmdaaDoor Go.Proofs.YtcojnojdgigmdaaDoor.PL Go.Proofs.YtcojnojdgigmdaaDoor.PR Go.Proofs.YtcojnojdgigmdaaDoor.Mem

def cntV (l : List Nat) : List Value := l.map fun n : Nat => Value.int .i64 (n : Int)
/-- The run reads so, below block B. -/
def RunAt (w : World) (B : Nat) (v : Value) (r : RRun) : Prop := ∃ cv ev, v = .agg #[cv, ev, .bool r.blocked] ∧ Sl w B 1 cv r.counts.length (cntV r.counts) ∧ Evs w B ev r.evs
/-- A run's counts are of its events; there are not many. -/
structure WfR (r : RRun) : Prop where
  sum : r.counts.sum = r.evs.length
  few : r.evs.length ≤ 1000000
  steps : r.counts.length ≤ 1000000
theorem sum_take_le (l : List Nat) (k : Nat) : (l.take k).sum ≤ l.sum := by
  have h := congrArg List.sum (List.take_append_drop k l)
  rw [List.sum_append] at h
  omega
theorem sum_take_succ (l : List Nat) (k : Nat) (h : k < l.length) : (l.take (k + 1)).sum = (l.take k).sum + l[k] := by
  rw [List.take_succ_eq_append_getElem h, List.sum_append]; simp
theorem cnt_cell {w : World} {B : Nat} {cv : Value} {l : List Nat} (h : Sl w B 1 cv l.length (cntV l)) {i : Nat} (hi : i < l.length) : ∃ b o c, cv = .slice (some ⟨b, o, none⟩) l.length c ∧ b < B ∧ w.cell? ⟨b, o + i, none⟩ = some (.int .i64 (l[i] : Int)) := by
  obtain ⟨b, o, c, hv, hb, hx⟩ := Sl.elem h hi
  refine ⟨b, o, c, hv, hb, ?_⟩
  have := hx 0 (.int .i64 (l[i] : Int)) (by omega) (by simp [cntV, hi])
  simpa using this

/-- A part of a slice. -/
theorem Evs.sub {w : World} {B : Nat} {a : Option Addr} {c : Nat} {l : List Ev} (h : Evs w B (.slice a l.length c) l) {S n : Nat} (hn : S + n ≤ l.length) : Evs w B (.slice (a.map fun x => x.add (S * 4)) n (c - S)) ((l.drop S).take n) := by
  obtain ⟨h1, A, c', hv, hc, hr⟩ := h
  injection hv with e1 e2 e3
  subst e1 e3
  have hl : ((l.drop S).take n).length = n := by rw [List.length_take, List.length_drop]; omega
  unfold Evs
  rw [hl]
  refine ⟨by rw [cellsOf_length encE_len, hl], _, _, rfl, by omega, fun hn0 => ?_⟩
  obtain ⟨b, o, e, hb, hx⟩ := hr (by omega)
  subst e
  refine ⟨b, o + S * 4, by rw [Option.map_some, lit_add], hb, fun j u hu => ?_⟩
  have hj : j < n * 4 := by
    rcases Nat.lt_or_ge j (n * 4) with h' | h'
    · exact h'
    · rw [List.getElem?_eq_none (by rw [cellsOf_length encE_len, hl]; exact h')] at hu; cases hu
  have e2 : o + S * 4 + j = o + (S * 4 + j) := by omega
  rw [e2]
  refine hx _ u ?_
  have hi : j / 4 < n := by omega
  have ej : j = j / 4 * 4 + j % 4 := by omega
  rw [ej, cellsOf_get encE_len _ _ _ (by omega) (by rw [hl]; exact hi)] at hu
  have ek : S * 4 + j = (S + j / 4) * 4 + j % 4 := by omega
  rw [ek, cellsOf_get encE_len _ _ _ (by omega) (by omega)]
  simpa using hu
def OfRel (cs : List Nat) (m : Nat) (wa : World) (f u : Value) (wr : World) : Prop := ∃ k : Nat, k ≤ m ∧ u = .int .i64 k ∧ f = .int .i64 ((cs.take k).sum : Nat) ∧ wr = wa
def OfPost (w : World) (B : Nat) (l : List Ev) (e : Ending) (w' : World) : Prop := ∃ v, e = .returned v ∧ Grw w w' ∧ Evs w' B v l
set_option maxRecDepth 100000 in
set_option maxHeartbeats 1600000 in
theorem of_any (v : Value) (r : RRun) (step B : Nat) (w : World) (hr : RunAt w B v r) (hB : B ≤ w.heap.size) (hw : WfR r) (hst : step ≤ 1000000) :
    Calls Tryd.prog 98 #[v, .int .i64 step] w (OfPost w B (ofR r step)) := by
  obtain ⟨cv, ev, rfl, hc, he⟩ := hr
  obtain ⟨ca, cc, rfl⟩ := Sl.shape hc
  obtain ⟨ea, ec, rfl⟩ := Sl.shape he
  obtain ⟨hsum, hfew, hsts⟩ := hw
  have HC := Lib.hid hc; have HE := Lib.hid he; have HSUM := Lib.hid hsum
  have HOF := Lib.hid (show ofR r step = if step < r.counts.length then (r.evs.drop (r.counts.take step).sum).take (r.counts.getD step 0) else [] from rfl)
  obtain ⟨R, hR⟩ : ∃ R, ofR r step = R := ⟨_, rfl⟩
  rw [hR] at HOF ⊢
  obtain ⟨cs, evs, bl⟩ := r
  simp only at HC HE HSUM HOF hfew hsts ⊢
  clear hc he hsum hR
  have mixed : Tryd.prog.follows .mixedOrders = true := by kernel_rfl
  obtain ⟨hcl, hcx⟩ : cs.length ≤ cc ∧ evs.length ≤ ec := by
    obtain ⟨_, A1, c1, e1, h1, _⟩ := HC.out
    obtain ⟨_, A2, c2, e2, h2, _⟩ := HE.out
    injection e1 with _ _ e1
    injection e2 with _ _ e2
    omega
  have X0 := Lib.hid (show (w.alloc (.cells #[.slice ca cs.length cc, .slice ea evs.length ec, .bool bl] 56)).heap[w.heap.size]? = _ from heap_new rfl)
  obtain ⟨wa, hwa⟩ : ∃ wa, wa = w.alloc (.cells #[.slice ca cs.length cc, .slice ea evs.length ec, .bool bl] 56) := ⟨_, rfl⟩
  have HG := Lib.hid (show Grw w wa by rw [hwa]; exact (Grw.refl _).alloc _)
  have hza : w.heap.size < wa.heap.size := by rw [hwa]; simp
  rw [← hwa] at X0
  have HWA := Lib.hid hwa
  have y0 : wa.cell? ⟨w.heap.size, 0, none⟩ = some (.slice ca cs.length cc) := (Lib.cell_of_heap X0.out 0).trans rfl
  have y1 : wa.cell? ⟨w.heap.size, 1, none⟩ = some (.slice ea evs.length ec) := (Lib.cell_of_heap X0.out 1).trans rfl
  clear hwa
  have hstep0 : (0 : Int) ≤ (step : Int) := by omega
  go_enter Tryd.func98, Tryd.ntmps98
  by_cases hlt : step < cs.length
  · have hmin : min (step : Int) (cs.length : Int) = (step : Int) := by omega
    have hlt' : (step : Int) < (cs.length : Int) := by omega
    go_wp2_with fail
    rw [← HWA.out]
    go_loopw [5, 17] (OfRel cs (step) wa) (fun _ u _ => step - (intOf u).toNat)
    case atStart => exact ⟨0, by omega, rfl, rfl, rfl⟩
    case round =>
      obtain ⟨k, hk, rfl, rfl, rfl⟩ := hrel
      have hs1 := sum_take_le cs k
      by_cases hkm : k < step
      · have hkm' : (k : Int) < (step : Int) := by omega
        have hk0 : (0 : Int) ≤ (k : Int) := by omega
        have hkl : k < cs.length := by omega
        obtain ⟨b, o, c, hv, hb, x⟩ := cnt_cell HC.out hkl
        obtain ⟨rfl, rfl⟩ : ca = some ⟨b, o, none⟩ ∧ cc = c := by simpa using hv
        have x0 := HG.out.cell (Nat.lt_of_lt_of_le hb hB) x
        have HS := Lib.hid (sum_take_succ cs k hkl)
        have hs2 := sum_take_le cs (k + 1)
        rw [HS.out] at hs2
        obtain ⟨n, hn⟩ : ∃ n, cs[k] = n := ⟨_, rfl⟩
        rw [hn] at x0 HS hs2
        have htot := HSUM.out
        obtain ⟨S, hS⟩ : ∃ S, (cs.take k).sum = S := ⟨_, rfl⟩
        rw [hS] at hs1 hs2 HS ⊢
        clear x hv hn hS
        go_wp2_with fail
        go_roundw
        case rel => exact ⟨k + 1, by omega, by go_num, by rw [HS.out]; go_num, rfl⟩
        case measure => simp [intOf]; omega
      · obtain rfl : k = step := by omega
        obtain ⟨b, o, c, hv, hb, x⟩ := cnt_cell HC.out hlt
        obtain ⟨rfl, rfl⟩ : ca = some ⟨b, o, none⟩ ∧ cc = c := by simpa using hv
        have x0 := HG.out.cell (Nat.lt_of_lt_of_le hb hB) x
        have hs2 := sum_take_le cs (k + 1)
        rw [sum_take_succ cs k hlt] at hs2
        have HF := Lib.hid (show R = (evs.drop (cs.take k).sum).take cs[k] by rw [HOF.out, if_pos hlt, List.getD_eq_getElem?_getD, List.getElem?_eq_getElem hlt]; rfl)
        obtain ⟨n, hn⟩ : ∃ n, cs[k] = n := ⟨_, rfl⟩
        rw [hn] at x0 hs2 HF
        have htot := HSUM.out
        obtain ⟨S, hS⟩ : ∃ S, (cs.take k).sum = S := ⟨_, rfl⟩
        rw [hS] at hs1 hs2 HF ⊢
        clear x hv hn hS HOF
        by_cases hcap : ec = S
        · obtain rfl : n = 0 := by omega
          have HF0 := Lib.hid (show R = [] by rw [HF.out, List.take_zero])
          subst hcap
          go_wp2_with fail
          go_quiet (fail)
          go_wp2_with fail
          go_ret
          exact ⟨_, rfl, HG.out.drewN _, by rw [HF0.out]; exact ⟨rfl, _, _, rfl, Nat.le_refl _, fun h => absurd h (by decide)⟩⟩
        · go_wp2_with fail
          go_quiet (fail)
          go_wp2_with fail
          go_ret
          exact ⟨_, rfl, HG.out.drewN _, by
            rw [HF.out]
            show Evs _ B (.slice (Option.map (fun x => x.add (S * 4)) ea) (S + n - S) (ec - S)) _
            rw [Nat.add_sub_cancel_left]
            exact Evs.sub (S := S) (n := n) ((HE.out.keep fun p hp => (HG.out.below.cell (Nat.lt_of_lt_of_le hp hB))).drewN _) (by omega)⟩
  · have hmin : min (step : Int) (cs.length : Int) = (cs.length : Int) := by omega
    have hlt' : ¬ (step : Int) < (cs.length : Int) := by omega
    go_wp2_with fail
    all_goals
      rw [← HWA.out]
      go_loopw [5, 17] (OfRel cs (cs.length) wa) (fun _ u _ => cs.length - (intOf u).toNat)
      case atStart => exact ⟨0, by omega, rfl, rfl, rfl⟩
      case round =>
        obtain ⟨k, hk, rfl, rfl, rfl⟩ := hrel
        have hs1 := sum_take_le cs k
        by_cases hkm : k < cs.length
        · have hkm' : (k : Int) < (cs.length : Int) := by omega
          have hk0 : (0 : Int) ≤ (k : Int) := by omega
          have hkl : k < cs.length := by omega
          obtain ⟨b, o, c, hv, hb, x⟩ := cnt_cell HC.out hkl
          obtain ⟨rfl, rfl⟩ : ca = some ⟨b, o, none⟩ ∧ cc = c := by simpa using hv
          have x0 := HG.out.cell (Nat.lt_of_lt_of_le hb hB) x
          have HS := Lib.hid (sum_take_succ cs k hkl)
          have hs2 := sum_take_le cs (k + 1)
          rw [HS.out] at hs2
          obtain ⟨n, hn⟩ : ∃ n, cs[k] = n := ⟨_, rfl⟩
          rw [hn] at x0 HS hs2
          have htot := HSUM.out
          obtain ⟨S, hS⟩ : ∃ S, (cs.take k).sum = S := ⟨_, rfl⟩
          rw [hS] at hs1 hs2 HS ⊢
          clear x hv hn hS
          go_wp2_with fail
          go_roundw
          case rel => exact ⟨k + 1, by omega, by go_num, by rw [HS.out]; go_num, rfl⟩
          case measure => simp [intOf]; omega
        · obtain rfl : k = cs.length := by omega
          have HF := Lib.hid (show R = [] by rw [HOF.out, if_neg hlt])
          go_wp2_with fail
          go_ret
          exact ⟨_, rfl, HG.out, by rw [HF.out]; exact Sl.nil_ _ _ _⟩
end Go.Proofs.YtcojnojdgigmdaaDoor.WR
/- The walks of pattern.Op.Holds and run.holds: does an event hold a test? -/
namespace Go.Proofs.YtcojnojdgigmdaaDoor.WR
open Go Go.RowKit Go.Sort Go.Proofs.YtcojnojdgigmdaaDoor Go.Proofs.YtcojnojdgigmdaaDoor.PL Go.Proofs.YtcojnojdgigmdaaDoor.PR Go.Proofs.YtcojnojdgigmdaaDoor.Mem

set_option maxRecDepth 100000 in
theorem holdsP (o a b : Int) (w : World) : Calls Tryd.prog 102 #[.int .i64 o, .int .i64 a, .int .i64 b] w fun e w' => e = .returned (.bool (hB o a b)) ∧ w = w' := by
  by_cases h0 : o = 0
  · subst h0
    rw [show hB 0 a b = (decide (a < b)) from rfl]
    go_enter Tryd.func102, Tryd.ntmps102
    go_wp2
    go_ret
    exact ⟨rfl, rfl⟩
  have n0 : (o == 0) = false := by rw [beq_eq_false_iff_ne]; exact h0
  by_cases h1 : o = 1
  · subst h1
    rw [show hB 1 a b = (decide (a ≤ b)) from rfl]
    go_enter Tryd.func102, Tryd.ntmps102
    go_wp2
    go_ret
    exact ⟨rfl, rfl⟩
  have n1 : (o == 1) = false := by rw [beq_eq_false_iff_ne]; exact h1
  by_cases h2 : o = 2
  · subst h2
    rw [show hB 2 a b = (a == b) from rfl]
    go_enter Tryd.func102, Tryd.ntmps102
    go_wp2
    go_ret
    exact ⟨rfl, rfl⟩
  have n2 : (o == 2) = false := by rw [beq_eq_false_iff_ne]; exact h2
  by_cases h3 : o = 3
  · subst h3
    rw [show hB 3 a b = (a != b) from rfl]
    go_enter Tryd.func102, Tryd.ntmps102
    go_wp2
    go_ret
    exact ⟨rfl, rfl⟩
  have n3 : (o == 3) = false := by rw [beq_eq_false_iff_ne]; exact h3
  by_cases h4 : o = 4
  · subst h4
    rw [show hB 4 a b = (decide (b ≤ a)) from rfl]
    go_enter Tryd.func102, Tryd.ntmps102
    go_wp2
    go_ret
    exact ⟨rfl, rfl⟩
  have n4 : (o == 4) = false := by rw [beq_eq_false_iff_ne]; exact h4
  by_cases h5 : o = 5
  · subst h5
    rw [show hB 5 a b = (decide (b < a)) from rfl]
    go_enter Tryd.func102, Tryd.ntmps102
    go_wp2
    go_ret
    exact ⟨rfl, rfl⟩
  have n5 : (o == 5) = false := by rw [beq_eq_false_iff_ne]; exact h5
  have hE : hB o a b = false := by unfold hB; rw [if_neg h0, if_neg h1, if_neg h2, if_neg h3, if_neg h4, if_neg h5]
  rw [hE]
  clear h0 h1 h2 h3 h4 h5 hE
  go_enter Tryd.func102, Tryd.ntmps102
  go_wp2
  go_ret
  exact ⟨rfl, rfl⟩


/-- A number far from the edges. -/
def Sm (n : Int) : Prop := -1152921504606846976 ≤ n ∧ n ≤ 1152921504606846976
abbrev evV (e : Ev) : Value := .agg #[.int .i64 e.id, .int .i64 e.time, .int .u8 e.kind, .int .i64 e.val]
abbrev testV (t : PT) : Value := .agg #[.int .i64 t.op, .int .i64 t.step, .int .i64 t.add, .bool t.turn]
/-- What a test may ask of. -/
def OkT (t : PT) : Prop := Sm t.add ∧ (t.step = -1 ∨ t.step = -2 ∨ (0 ≤ t.step ∧ t.step ≤ 1000000))
def SmE (l : List Ev) : Prop := ∀ y ∈ l, Sm y.val
theorem ofR_sub {r : RRun} {step : Nat} : ∀ y ∈ ofR r step, y ∈ r.evs := by
  intro y hy
  unfold ofR at hy
  split at hy
  · exact List.mem_of_mem_drop (List.mem_of_mem_take hy)
  · cases hy
theorem ofR_len (r : RRun) (step : Nat) : (ofR r step).length ≤ r.evs.length := by
  unfold ofR
  split
  · rw [List.length_take, List.length_drop]; omega
  · simp

set_option maxRecDepth 100000 in
set_option maxHeartbeats 6400000 in
theorem holds_any (t : PT) (v : Value) (r : RRun) (step B : Nat) (e : Ev) (w : World) (ht : OkT t) (hr : RunAt w B v r) (hBw : B ≤ w.heap.size) (hw : WfR r) (hst : step ≤ 1000000) (he : Sm e.val) (hs : SmE r.evs) :
    Calls Tryd.prog 83 #[testV t, v, .int .i64 step, evV e] w fun en w' => en = .returned (.bool (holdsT t r step e)) ∧ Grw w w' := by
  obtain ⟨⟨ha0, ha1⟩, hts⟩ := ht
  obtain ⟨he0, he1⟩ := he
  have mixed : Tryd.prog.follows .mixedOrders = true := by kernel_rfl
  have HRA := Lib.hid hr; have HW := Lib.hid hw; have HS := Lib.hid hs
  obtain ⟨cv, ev, rfl, _, _⟩ := hr
  clear hw hs
  have HH := Lib.hid (show holdsT t r step e = if t.step = -1 then hB t.op e.val t.add
    else if t.step = -2 then
      match (ofR r step).getLast? with
      | none => true
      | some y => hB t.op e.val (y.val + t.add)
    else (ofR r t.step.toNat).all fun y => if t.turn then hB t.op y.val (e.val + t.add) else hB t.op e.val (y.val + t.add) from rfl)
  obtain ⟨R, hR⟩ : ∃ R, holdsT t r step e = R := ⟨_, rfl⟩
  rw [hR] at HH ⊢
  clear hR
  obtain ⟨op, ts, ad, tn⟩ := t
  obtain ⟨ei, et, ek, el⟩ := e
  simp only at ha0 ha1 hts he0 he1 HH ⊢
  obtain ⟨wa, hwa⟩ : ∃ wa, wa = ((w.alloc (.cells #[.int .i64 op, .int .i64 ts, .int .i64 ad, .bool tn] 182)).alloc (.cells #[cv, ev, .bool r.blocked] 56)).alloc (.cells #[.int .i64 ei, .int .i64 et, .int .u8 ek, .int .i64 el] 37) := ⟨_, rfl⟩
  have hza : wa.heap.size = w.heap.size + 3 := by rw [hwa]; simp
  have HG := Lib.hid (show Grw w wa by rw [hwa]; exact (((Grw.refl _).alloc _).alloc _).alloc _)
  have XT := Lib.hid (show wa.heap[w.heap.size]? = some (.cells #[.int .i64 op, .int .i64 ts, .int .i64 ad, .bool tn] 182 (0, 0)) by rw [hwa]; exact heap_alloc (heap_alloc (heap_new rfl)))
  have XR := Lib.hid (show wa.heap[w.heap.size + 1]? = some (.cells #[cv, ev, .bool r.blocked] 56 (0, 0)) by rw [hwa]; exact heap_alloc (heap_new (by simp)))
  have XE := Lib.hid (show wa.heap[w.heap.size + 2]? = some (.cells #[.int .i64 ei, .int .i64 et, .int .u8 ek, .int .i64 el] 37 (0, 0)) by rw [hwa]; exact heap_new (by simp))
  have HWA := Lib.hid hwa
  have t0 : wa.cell? ⟨w.heap.size, 0, none⟩ = some (.int .i64 op) := (Lib.cell_of_heap XT.out 0).trans rfl
  have t1 : wa.cell? ⟨w.heap.size, 1, none⟩ = some (.int .i64 ts) := (Lib.cell_of_heap XT.out 1).trans rfl
  have t2 : wa.cell? ⟨w.heap.size, 2, none⟩ = some (.int .i64 ad) := (Lib.cell_of_heap XT.out 2).trans rfl
  have t3 : wa.cell? ⟨w.heap.size, 3, none⟩ = some (.bool tn) := (Lib.cell_of_heap XT.out 3).trans rfl
  have e3 : wa.cell? ⟨w.heap.size + 2, 3, none⟩ = some (.int .i64 el) := (Lib.cell_of_heap XE.out 3).trans rfl
  have HRW := Lib.hid (show RunAt wa B (.agg #[cv, ev, .bool r.blocked]) r by
    obtain ⟨cv', ev', e1, h1, h2⟩ := HRA.out
    exact ⟨cv', ev', e1, h1.keep fun p hp => HG.out.below.cell (Nat.lt_of_lt_of_le hp hBw), h2.keep fun p hp => HG.out.below.cell (Nat.lt_of_lt_of_le hp hBw)⟩)
  clear hwa
  go_enter Tryd.func83, Tryd.ntmps83
  by_cases h1 : ts = -1
  · have n1 : (ts == -1) = true := by rw [h1]; rfl
    have HE := Lib.hid (show R = hB op el ad by rw [HH.out, if_pos h1])
    clear h1 hts
    go_wp2_with fail
    rw [← HWA.out]
    refine (holdsP op el ad wa).mono ?_
    rintro e1 w2 ⟨rfl, rfl⟩
    go_wp2_with fail
    go_ret
    exact ⟨by rw [HE.out]; rfl, HG.out⟩
  · have n1 : (ts == -1) = false := by rw [beq_eq_false_iff_ne]; exact h1
    by_cases h2 : ts = -2
    · have n2 : (ts == -2) = true := by rw [h2]; rfl
      have HE := Lib.hid (show R = (match (ofR r step).getLast? with | none => true | some y => hB op el (y.val + ad)) by rw [HH.out, if_neg h1, if_pos h2])
      have r0 : wa.cell? ⟨w.heap.size + 1, 0, none⟩ = some cv := (Lib.cell_of_heap XR.out 0).trans rfl
      have r1 : wa.cell? ⟨w.heap.size + 1, 1, none⟩ = some ev := (Lib.cell_of_heap XR.out 1).trans rfl
      have r2 : wa.cell? ⟨w.heap.size + 1, 2, none⟩ = some (.bool r.blocked) := (Lib.cell_of_heap XR.out 2).trans rfl
      have HOF := Lib.hid (of_any _ r step B wa HRW.out (by omega) HW.out hst)
      clear h1 h2 hts
      go_wp2_with fail
      rw [← HWA.out]
      refine HOF.out.mono ?_
      rintro e1 w2 ⟨vl, rfl, hg2, hl⟩
      obtain ⟨la, lc, rfl⟩ := Sl.shape hl
      have hlen := ofR_len r step
      have HSM := Lib.hid (show SmE (ofR r step) from fun y hy => HS.out y (ofR_sub y hy))
      have hfew := HW.out.few
      obtain ⟨L, hL⟩ : ∃ L, ofR r step = L := ⟨_, rfl⟩
      rw [hL] at hl hlen HE HSM ⊢
      have HLL := Lib.hid hl; have HG2 := Lib.hid (HG.out.trans hg2)
      have q0 := hg2.cell (show w.heap.size < wa.heap.size by omega) t0
      have q2 := hg2.cell (show w.heap.size < wa.heap.size by omega) t2
      have q3 := hg2.cell (show w.heap.size + 2 < wa.heap.size by omega) e3
      have hz2 := hg2.size
      clear hl hL hg2 HOF t0 t1 t2 t3 e3 r0 r1 r2
      by_cases hn : L.length = 0
      · obtain rfl : L = [] := List.eq_nil_of_length_eq_zero hn
        have HR := Lib.hid (show R = true from HE.out)
        clear hn
        go_wp2_with fail
        go_quiet (fail)
        go_wp2_with fail
        go_ret
        exact ⟨by rw [HR.out]; rfl, HG2.out.drewN _⟩
      · have hlt : L.length - 1 < L.length := by omega
        obtain ⟨b, o, c, hv, hb, _, _, _, x3⟩ := Evs.at_ HLL.out hlt
        obtain ⟨rfl, rfl⟩ : la = some ⟨b, o, none⟩ ∧ lc = c := by simpa using hv
        obtain ⟨y, hy⟩ : ∃ y, L[L.length - 1] = y := ⟨_, rfl⟩
        have hsm := HSM.out y (hy ▸ List.getElem_mem hlt)
        have HR := Lib.hid (show R = hB op el (y.val + ad) by
          rw [HE.out, List.getLast?_eq_getElem?, List.getElem?_eq_getElem hlt, hy])
        rw [hy] at x3
        obtain ⟨hs0, hs1⟩ := hsm
        have hn0 : ((L.length : Int) == 0) = false := by rw [beq_eq_false_iff_ne]; omega
        have hll : (L.length : Int) ≤ 1000000 := by omega
        have hl1 : (1 : Int) ≤ (L.length : Int) := by omega
        have hl1n : 1 ≤ L.length := by omega
        have hl0n : 0 < L.length := by omega
        have hli0 : (0 : Int) ≤ (L.length : Int) - 1 := by omega
        have hli1 : (L.length : Int) - 1 < (L.length : Int) := by omega
        have hwr : IntKind.i64.wrap (y.val + ad) = y.val + ad := IntWalk.i64_in _ (by omega)
        have hwl : IntKind.i64.wrap ((L.length : Int) - 1) = (L.length : Int) - 1 := IntWalk.i64_in _ (by omega)
        have htn : ((L.length : Int) - 1).toNat = L.length - 1 := by omega
        have HP := Lib.hid (fun w => (holdsP op el (y.val + ad) w).mono fun _ _ ⟨h, hw⟩ => And.intro h hw.symm)
        clear hy hv
        go_wp2_with fail
        go_quiet ((go_at_call 102; exact Calls.quiet_of_same (HP.out _)))
        go_wp2_with fail
        go_ret
        exact ⟨by rw [HR.out]; rfl, HG2.out.drewN _⟩
    · have n2 : (ts == -2) = false := by rw [beq_eq_false_iff_ne]; exact h2
      have hts0 : 0 ≤ ts ∧ ts ≤ 1000000 := by omega
      obtain ⟨k, rfl⟩ : ∃ k : Nat, ts = (k : Int) := ⟨ts.toNat, by omega⟩
      have hk : k ≤ 1000000 := by omega
      have HE := Lib.hid (show R = (ofR r k).all fun y => if tn then hB op y.val (el + ad) else hB op el (y.val + ad) by rw [HH.out, if_neg h1, if_neg h2]; rfl)
      have r0 : wa.cell? ⟨w.heap.size + 1, 0, none⟩ = some cv := (Lib.cell_of_heap XR.out 0).trans rfl
      have r1 : wa.cell? ⟨w.heap.size + 1, 1, none⟩ = some ev := (Lib.cell_of_heap XR.out 1).trans rfl
      have r2 : wa.cell? ⟨w.heap.size + 1, 2, none⟩ = some (.bool r.blocked) := (Lib.cell_of_heap XR.out 2).trans rfl
      have HOF := Lib.hid (of_any _ r k B wa HRW.out (by omega) HW.out hk)
      clear h1 h2 hts hts0
      go_wp2_with fail
      rw [← HWA.out]
      refine HOF.out.mono ?_
      rintro e1 w2 ⟨vl, rfl, hg2, hl⟩
      obtain ⟨la, lc, rfl⟩ := Sl.shape hl
      have hlen := ofR_len r k
      have HSM := Lib.hid (show SmE (ofR r k) from fun y hy => HS.out y (ofR_sub y hy))
      have hfew := HW.out.few
      obtain ⟨L, hL⟩ : ∃ L, ofR r k = L := ⟨_, rfl⟩
      rw [hL] at hl hlen HE HSM ⊢
      have HLL := Lib.hid hl; have HG2 := Lib.hid (HG.out.trans hg2)
      have HGA := Lib.hid hg2
      have hll : L.length ≤ 1000000 := by omega
      clear hl hL hg2 HOF t0 t1 t2 t3 e3 r0 r1 r2
      go_wp2_with fail
      go_loopw [55] (fun u wr => ∃ i : Nat, i ≤ L.length ∧ u = .int .i64 i ∧ (∀ y ∈ L.take i, (if tn then hB op y.val (el + ad) else hB op el (y.val + ad)) = true) ∧ Grw w2 wr) (fun u _ => L.length - (intOf u).toNat)
      case atStart => exact ⟨0, by omega, rfl, by simp, Grw.refl _⟩
      case round =>
        obtain ⟨i, hi, rfl, hall, hgr⟩ := hrel
        have HALL := Lib.hid hall
        have HGR := Lib.hid hgr
        have HGW := Lib.hid (HGA.out.trans hgr)
        clear hgr hall
        by_cases hlt : i < L.length
        · have hlt' : (i : Int) < (L.length : Int) := by omega
          have hi0 : (0 : Int) ≤ (i : Int) := by omega
          obtain ⟨b, o, c, hv, hb, x0, x1, x2, x3⟩ := Evs.at_ HLL.out hlt
          obtain ⟨rfl, rfl⟩ : la = some ⟨b, o, none⟩ ∧ lc = c := by simpa using hv
          have HTK := Lib.hid (List.take_succ_eq_append_getElem (l := L) (i := i) hlt)
          have HMEM := Lib.hid (List.getElem_mem hlt)
          obtain ⟨y, hy⟩ : ∃ y, L[i] = y := ⟨_, rfl⟩
          rw [hy] at x0 x1 x2 x3 HTK HMEM
          obtain ⟨hs0, hs1⟩ := HSM.out y HMEM.out
          have hbw : b < w2.heap.size := Nat.lt_of_lt_of_le hb (Nat.le_trans hBw (Nat.le_trans HG.out.size HGA.out.size))
          have z0 := HGR.out.cell hbw x0
          have z1 := HGR.out.cell hbw x1
          have z2 := HGR.out.cell hbw x2
          have z3 := HGR.out.cell hbw x3
          obtain ⟨yi, yt, yk, yv⟩ := y
          simp only at z0 z1 z2 z3 hs0 hs1 HTK HMEM
          clear x0 x1 x2 x3 hv hy hb
          obtain ⟨wb, hwb⟩ : ∃ wb, wb = wr.alloc (.cells #[.int .i64 yi, .int .i64 yt, .int .u8 yk, .int .i64 yv] 37) := ⟨_, rfl⟩
          have HGB := Lib.hid (show Grw wr wb by rw [hwb]; exact (Grw.refl _).alloc _)
          have XY := Lib.hid (show wb.heap[wr.heap.size]? = some (.cells #[.int .i64 yi, .int .i64 yt, .int .u8 yk, .int .i64 yv] 37 (0, 0)) by rw [hwb]; exact heap_new rfl)
          have HWB := Lib.hid hwb
          have HAB := Lib.hid (HGW.out.trans HGB.out)
          have q0 := HAB.out.cell (show w.heap.size < wa.heap.size by omega) ((Lib.cell_of_heap XT.out 0).trans rfl)
          have q2 := HAB.out.cell (show w.heap.size < wa.heap.size by omega) ((Lib.cell_of_heap XT.out 2).trans rfl)
          have q3 := HAB.out.cell (show w.heap.size < wa.heap.size by omega) ((Lib.cell_of_heap XT.out 3).trans rfl)
          have qe := HAB.out.cell (show w.heap.size + 2 < wa.heap.size by omega) ((Lib.cell_of_heap XE.out 3).trans rfl)
          have qy : wb.cell? ⟨wr.heap.size, 3, none⟩ = some (.int .i64 yv) := (Lib.cell_of_heap XY.out 3).trans rfl
          clear hwb
          go_wp2_with fail
          rw [← HWB.out]
          go_quiet (fail)
          have hwy : IntKind.i64.wrap (yv + ad) = yv + ad := IntWalk.i64_in _ (by omega)
          have hwe : IntKind.i64.wrap (el + ad) = el + ad := IntWalk.i64_in _ (by omega)
          have HGQ := Lib.hid ((HGR.out.trans HGB.out).drewN nq)
          cases tn with
          | false =>
            have HP := Lib.hid (fun w => holdsP op el (yv + ad) w)
            obtain ⟨bb, hbb⟩ : ∃ bb, hB op el (yv + ad) = bb := ⟨_, rfl⟩
            rw [hbb] at HP
            cases bb with
            | false =>
              have HR := Lib.hid (show R = false by
                rw [HE.out, List.all_eq_false]
                exact ⟨_, HMEM.out, by rw [if_neg (show ¬ (false = true) by decide)]; show ¬ hB op el (yv + ad) = true; rw [hbb]; decide⟩)
              clear hbb
              go_wp2_with fail
              refine (HP.out _).mono ?_
              rintro e1 w5 ⟨rfl, rfl⟩
              go_wp2_with fail
              go_ret
              exact ⟨by rw [HR.out]; rfl, HG2.out.trans HGQ.out⟩
            | true =>
              have HN := Lib.hid (show ∀ y ∈ L.take (i + 1), (if false = true then hB op y.val (el + ad) else hB op el (y.val + ad)) = true by
                rw [HTK.out]
                intro y hy
                rcases List.mem_append.1 hy with hy | hy
                · exact HALL.out y hy
                · simp only [List.mem_cons, List.not_mem_nil, or_false] at hy
                  subst hy
                  rw [if_neg (show ¬ (false = true) by decide)]
                  exact hbb)
              clear hbb
              go_wp2_with fail
              refine (HP.out _).mono ?_
              rintro e1 w5 ⟨rfl, rfl⟩
              go_wp2_with fail
              go_roundw
              case rel => exact ⟨i + 1, by omega, by go_num, HN.out, HGQ.out⟩
              case measure => simp [intOf]; omega
          | true =>
            have HP := Lib.hid (fun w => holdsP op yv (el + ad) w)
            obtain ⟨bb, hbb⟩ : ∃ bb, hB op yv (el + ad) = bb := ⟨_, rfl⟩
            rw [hbb] at HP
            cases bb with
            | false =>
              have HR := Lib.hid (show R = false by
                rw [HE.out, List.all_eq_false]
                exact ⟨_, HMEM.out, by rw [if_pos (show true = true from rfl)]; show ¬ hB op yv (el + ad) = true; rw [hbb]; decide⟩)
              clear hbb
              go_wp2_with fail
              refine (HP.out _).mono ?_
              rintro e1 w5 ⟨rfl, rfl⟩
              go_wp2_with fail
              go_ret
              exact ⟨by rw [HR.out]; rfl, HG2.out.trans HGQ.out⟩
            | true =>
              have HN := Lib.hid (show ∀ y ∈ L.take (i + 1), (if true = true then hB op y.val (el + ad) else hB op el (y.val + ad)) = true by
                rw [HTK.out]
                intro y hy
                rcases List.mem_append.1 hy with hy | hy
                · exact HALL.out y hy
                · simp only [List.mem_cons, List.not_mem_nil, or_false] at hy
                  subst hy
                  rw [if_pos (show true = true from rfl)]
                  exact hbb)
              clear hbb
              go_wp2_with fail
              refine (HP.out _).mono ?_
              rintro e1 w5 ⟨rfl, rfl⟩
              go_wp2_with fail
              go_roundw
              case rel => exact ⟨i + 1, by omega, by go_num, HN.out, HGQ.out⟩
              case measure => simp [intOf]; omega
        · obtain rfl : i = L.length := by omega
          have HR := Lib.hid (show R = true by
            rw [HE.out, List.all_eq_true]
            intro y hy
            exact HALL.out y (by rw [List.take_length]; exact hy))
          go_wp2_with fail
          go_ret
          exact ⟨by rw [HR.out]; rfl, HG2.out.trans HGR.out⟩
end Go.Proofs.YtcojnojdgigmdaaDoor.WR
/- The walks of run.all (its closure, slices.ContainsFunc, slices.IndexFunc at tests) and run.fits. -/
namespace Go.Proofs.YtcojnojdgigmdaaDoor.WR
open Go Go.RowKit Go.Sort Go.Proofs.YtcojnojdgigmdaaDoor Go.Proofs.YtcojnojdgigmdaaDoor.PL Go.Proofs.YtcojnojdgigmdaaDoor.PR Go.Proofs.YtcojnojdgigmdaaDoor.Mem

/-- The place of the first one; -1: none. -/
def idxB {α : Type} (l : List α) (p : α → Bool) : Int := match l.findIdx? p with
  | some i => i
  | none => -1
theorem idx_any {α : Type} {l : List α} {p : α → Bool} (h : l.any p = true) : 0 ≤ idxB l p := by
  unfold idxB
  cases hf : l.findIdx? p with
  | some i => exact Int.natCast_nonneg i
  | none =>
    rw [List.findIdx?_eq_none_iff] at hf
    obtain ⟨x, hx, hp⟩ := List.any_eq_true.1 h
    rw [hf x hx] at hp; cases hp
theorem idx_none {α : Type} {l : List α} {p : α → Bool} (h : l.any p = false) : idxB l p = -1 := by
  unfold idxB
  cases hf : l.findIdx? p with
  | none => rfl
  | some i =>
    obtain ⟨hi, hp, _⟩ := List.findIdx?_eq_some_iff_getElem.1 hf
    rw [List.any_eq_false] at h
    exact absurd hp (h _ (List.getElem_mem hi))
theorem idx_hit {α : Type} {l : List α} {p : α → Bool} {i : Nat} (hi : i < l.length) (hp : p l[i] = true) (hb : ∀ x ∈ l.take i, p x = false) : idxB l p = i := by
  have h : l.findIdx? p = some i := by
    rw [List.findIdx?_eq_some_iff_getElem]
    refine ⟨hi, hp, fun j hj => ?_⟩
    have := hb l[j] (by rw [List.mem_take_iff_getElem]; exact ⟨j, by omega, rfl⟩)
    simp [this]
  unfold idxB
  rw [h]
theorem idx_miss {α : Type} {l : List α} {p : α → Bool} (hb : ∀ x ∈ l, p x = false) : idxB l p = -1 := idx_none (by rw [List.any_eq_false]; intro x hx h; rw [hb x hx] at h; cases h)
theorem encT_len (t : PT) : ([Value.int .i64 t.op, .int .i64 t.step, .int .i64 t.add, .bool t.turn] : List Value).length = 4 := rfl
def encT (t : PT) : List Value := [.int .i64 t.op, .int .i64 t.step, .int .i64 t.add, .bool t.turn]
/-- The slice reads as these tests. -/
def TstAt (w : World) (B : Nat) (v : Value) (l : List PT) : Prop := Sl w B 4 v l.length (cellsOf encT l)
theorem TstAt.at_ {w : World} {B : Nat} {v : Value} {l : List PT} (h : TstAt w B v l) {i : Nat} (hi : i < l.length) :
    ∃ (b o c : Nat), v = .slice (some ⟨b, o, none⟩) l.length c ∧ b < B ∧ w.cell? ⟨b, o + i * 4, none⟩ = some (.int .i64 l[i].op) ∧ w.cell? ⟨b, o + i * 4 + 1, none⟩ = some (.int .i64 l[i].step) ∧
      w.cell? ⟨b, o + i * 4 + 2, none⟩ = some (.int .i64 l[i].add) ∧ w.cell? ⟨b, o + i * 4 + 3, none⟩ = some (.bool l[i].turn) := by
  obtain ⟨b, o, c, hv, hb, hx⟩ := Sl.elem h hi
  refine ⟨b, o, c, hv, hb, ?_, ?_, ?_, ?_⟩
  · exact hx 0 _ (by omega) (by rw [cellsOf_get (enc := encT) (fun _ => rfl) l i 0 (by omega) hi]; rfl)
  · exact hx 1 _ (by omega) (by rw [cellsOf_get (enc := encT) (fun _ => rfl) l i 1 (by omega) hi]; rfl)
  · exact hx 2 _ (by omega) (by rw [cellsOf_get (enc := encT) (fun _ => rfl) l i 2 (by omega) hi]; rfl)
  · exact hx 3 _ (by omega) (by rw [cellsOf_get (enc := encT) (fun _ => rfl) l i 3 (by omega) hi]; rfl)
theorem RunAt.grw {w w' : World} {B : Nat} {v : Value} {r : RRun} (h : RunAt w B v r) (hB : B ≤ w.heap.size) (hg : Grw w w') : RunAt w' B v r := by
  obtain ⟨cv, ev, e, h1, h2⟩ := h
  exact ⟨cv, ev, e, h1.keep fun p hp => hg.below.cell (Nat.lt_of_lt_of_le hp hB), h2.keep fun p hp => hg.below.cell (Nat.lt_of_lt_of_le hp hB)⟩

/-- What a closure that asks of a run has captured: the run's box, the step's, the event's. -/
structure Cap (w : World) (b1 b2 b3 : Nat) (cv ev : Value) (bl : Bool) (step : Nat) (e : Ev) : Prop where
  c0 : w.cell? ⟨b1, 0, none⟩ = some cv
  c1 : w.cell? ⟨b1, 1, none⟩ = some ev
  c2 : w.cell? ⟨b1, 2, none⟩ = some (.bool bl)
  s0 : w.cell? ⟨b2, 0, none⟩ = some (.int .i64 step)
  e0 : w.cell? ⟨b3, 0, none⟩ = some (.int .i64 e.id)
  e1 : w.cell? ⟨b3, 1, none⟩ = some (.int .i64 e.time)
  e2 : w.cell? ⟨b3, 2, none⟩ = some (.int .u8 e.kind)
  e3 : w.cell? ⟨b3, 3, none⟩ = some (.int .i64 e.val)
  l1 : b1 < w.heap.size
  l2 : b2 < w.heap.size
  l3 : b3 < w.heap.size
theorem Cap.grw {w w' : World} {b1 b2 b3 : Nat} {cv ev : Value} {bl : Bool} {step : Nat} {e : Ev} (h : Cap w b1 b2 b3 cv ev bl step e) (hg : Grw w w') : Cap w' b1 b2 b3 cv ev bl step e :=
  ⟨hg.cell h.l1 h.c0, hg.cell h.l1 h.c1, hg.cell h.l1 h.c2, hg.cell h.l2 h.s0, hg.cell h.l3 h.e0, hg.cell h.l3 h.e1, hg.cell h.l3 h.e2, hg.cell h.l3 h.e3, Nat.lt_of_lt_of_le h.l1 hg.size, Nat.lt_of_lt_of_le h.l2 hg.size, Nat.lt_of_lt_of_le h.l3 hg.size⟩

set_option maxRecDepth 100000 in
set_option maxHeartbeats 1600000 in
theorem clos_any (t : PT) (cv ev : Value) (r : RRun) (step B b1 b2 b3 : Nat) (e : Ev) (w : World) (hc : Cap w b1 b2 b3 cv ev r.blocked step e) (ht : OkT t) (hr : RunAt w B (.agg #[cv, ev, .bool r.blocked]) r) (hBw : B ≤ w.heap.size) (hw : WfR r) (hst : step ≤ 1000000) (he : Sm e.val) (hs : SmE r.evs) :
    Calls Tryd.prog 82 #[testV t, .pointer (some ⟨b1, 0, none⟩), .pointer (some ⟨b2, 0, none⟩), .pointer (some ⟨b3, 0, none⟩)] w fun en w' => en = .returned (.bool (!holdsT t r step e)) ∧ Grw w w' := by
  obtain ⟨wa, hwa⟩ : ∃ wa, wa = w.alloc (.cells #[.int .i64 t.op, .int .i64 t.step, .int .i64 t.add, .bool t.turn] 182) := ⟨_, rfl⟩
  have hg : Grw w wa := by rw [hwa]; exact (Grw.refl _).alloc _
  have HG := Lib.hid hg
  have HC := Lib.hid (hc.grw hg)
  have HH := Lib.hid (holds_any t (.agg #[cv, ev, .bool r.blocked]) r step B e wa ht (hr.grw hBw hg) (Nat.le_trans hBw hg.size) hw hst he hs)
  have X := Lib.hid (show wa.heap[w.heap.size]? = some (.cells #[.int .i64 t.op, .int .i64 t.step, .int .i64 t.add, .bool t.turn] 182 (0, 0)) by rw [hwa]; exact heap_new rfl)
  have HW := Lib.hid hwa
  obtain ⟨c0, c1, c2, s0, e0, e1, e2, e3, l1, l2, l3⟩ := hc
  have n1 : b1 ≠ w.heap.size := by omega
  have n2 : b2 ≠ w.heap.size := by omega
  have n3 : b3 ≠ w.heap.size := by omega
  clear hwa hg
  go_enter Tryd.func82, Tryd.ntmps82
  go_wp2_with fail
  rw [← HW.out]
  refine HH.out.mono ?_
  rintro en w2 ⟨rfl, hg2⟩
  have HG2 := Lib.hid (HG.out.trans hg2)
  clear hg2
  go_wp2_with fail
  go_ret
  exact ⟨rfl, HG2.out⟩

set_option maxRecDepth 100000 in
set_option maxHeartbeats 1600000 in
theorem indexT_any (l : List PT) (vl cv ev : Value) (r : RRun) (step B b1 b2 b3 : Nat) (e : Ev) (w : World) (hl : TstAt w B vl l) (hc : Cap w b1 b2 b3 cv ev r.blocked step e) (ht : ∀ t ∈ l, OkT t) (hlen : l.length ≤ 1000000) (hr : RunAt w B (.agg #[cv, ev, .bool r.blocked]) r) (hBw : B ≤ w.heap.size) (hw : WfR r) (hst : step ≤ 1000000) (he : Sm e.val) (hs : SmE r.evs) :
    Calls Tryd.prog 101 #[vl, .func (.func 82) #[] #[.pointer (some ⟨b1, 0, none⟩), .pointer (some ⟨b2, 0, none⟩), .pointer (some ⟨b3, 0, none⟩)]] w
      fun en w' => en = .returned (.int .i64 (idxB l fun t => !holdsT t r step e)) ∧ Grw w w' := by
  obtain ⟨a, c, rfl⟩ := Sl.shape hl
  have HL := Lib.hid hl; have HC := Lib.hid hc; have HT := Lib.hid ht; have HR := Lib.hid hr; have HW := Lib.hid hw; have HS := Lib.hid hs
  clear hl hc ht hr hw hs
  go_enter Tryd.func101, Tryd.ntmps101
  go_wp2_with fail
  go_loopw [5, 8] (fun _ u wr => ∃ i : Nat, u = .int .i64 i ∧ i ≤ l.length ∧ Grw w wr ∧ ∀ t ∈ l.take i, (!holdsT t r step e) = false) (fun _ u _ => l.length - (intOf u).toNat)
  case atStart => exact ⟨0, rfl, by omega, Grw.refl _, by simp⟩
  case round =>
    obtain ⟨i, rfl, hi, hg, hall⟩ := hrel
    have HG := Lib.hid hg
    have HA := Lib.hid hall
    have hsz := hg.size
    clear hg hall
    by_cases hlt : i < l.length
    · have hlt' : (i : Int) < (l.length : Int) := by omega
      have hi0 : (0 : Int) ≤ (i : Int) := by omega
      obtain ⟨g, o, c', e', hgb, d0, d1, d2, d3⟩ := TstAt.at_ HL.out hlt
      obtain ⟨rfl, rfl⟩ : a = some ⟨g, o, none⟩ ∧ c = c' := by simpa using e'
      have hgw : g < w.heap.size := Nat.lt_of_lt_of_le hgb hBw
      have x0 := HG.out.cell hgw d0
      have x1 := HG.out.cell hgw d1
      have x2 := HG.out.cell hgw d2
      have x3 := HG.out.cell hgw d3
      have HTK := Lib.hid (List.take_succ_eq_append_getElem (l := l) (i := i) hlt)
      have HMEM := Lib.hid (List.getElem_mem hlt)
      have HHIT := Lib.hid (fun h => idx_hit (p := fun t => !holdsT t r step e) hlt h HA.out)
      obtain ⟨t, ht⟩ : ∃ t, l[i] = t := ⟨_, rfl⟩
      rw [ht] at x0 x1 x2 x3 HTK HMEM HHIT
      have HCL := Lib.hid (clos_any t cv ev r step B b1 b2 b3 e wr (HC.out.grw HG.out) (HT.out t HMEM.out) (HR.out.grw hBw HG.out) (Nat.le_trans hBw hsz) HW.out hst he HS.out)
      clear e' d0 d1 d2 d3 ht
      obtain ⟨hv, hhv⟩ : ∃ hv, (!holdsT t r step e) = hv := ⟨_, rfl⟩
      rw [hhv] at HCL HHIT
      have HV := Lib.hid hhv
      clear hhv
      go_wp2_with fail
      refine HCL.out.mono ?_
      rintro en w' ⟨rfl, hg'⟩
      have HG' := Lib.hid (HG.out.trans hg')
      clear hg' HCL
      cases hv with
      | true =>
        have HE := Lib.hid (HHIT.out rfl)
        clear HHIT
        go_wp2_with fail
        go_ret
        exact ⟨by rw [HE.out]; rfl, HG'.out⟩
      | false =>
        have HN := Lib.hid (show ∀ t ∈ l.take (i + 1), (!holdsT t r step e) = false by
          rw [HTK.out]
          intro y hy
          rcases List.mem_append.1 hy with hy | hy
          · exact HA.out y hy
          · simp only [List.mem_cons, List.not_mem_nil, or_false] at hy
            subst hy
            exact HV.out)
        clear HHIT
        go_wp2_with fail
        go_roundw
        case rel => exact ⟨i + 1, by go_num, by omega, HG'.out, HN.out⟩
        case measure => simp [intOf]; omega
    · obtain rfl : i = l.length := by omega
      have HE := Lib.hid (idx_miss (l := l) (p := fun t => !holdsT t r step e) (by have h := HA.out; rwa [List.take_length] at h))
      go_wp2_with fail
      go_ret
      exact ⟨by rw [HE.out]; rfl, HG.out⟩
set_option maxRecDepth 100000 in
set_option maxHeartbeats 1600000 in
theorem containsT_any (l : List PT) (vl cv ev : Value) (r : RRun) (step B b1 b2 b3 : Nat) (e : Ev) (w : World) (hl : TstAt w B vl l) (hc : Cap w b1 b2 b3 cv ev r.blocked step e) (ht : ∀ t ∈ l, OkT t) (hlen : l.length ≤ 1000000) (hr : RunAt w B (.agg #[cv, ev, .bool r.blocked]) r) (hBw : B ≤ w.heap.size) (hw : WfR r) (hst : step ≤ 1000000) (he : Sm e.val) (hs : SmE r.evs) :
    Calls Tryd.prog 81 #[vl, .func (.func 82) #[] #[.pointer (some ⟨b1, 0, none⟩), .pointer (some ⟨b2, 0, none⟩), .pointer (some ⟨b3, 0, none⟩)]] w
      fun en w' => en = .returned (.bool (!allT l r step e)) ∧ Grw w w' := by
  have HI := Lib.hid (indexT_any l vl cv ev r step B b1 b2 b3 e w hl hc ht hlen hr hBw hw hst he hs)
  have hna : (!allT l r step e) = l.any fun t => !holdsT t r step e := by unfold allT; rw [List.not_all_eq_any_not]
  rw [hna]
  clear hl hc ht hr hw hs hna
  obtain ⟨a, ha⟩ : ∃ a, (l.any fun t => !holdsT t r step e) = a := ⟨_, rfl⟩
  rw [ha]
  cases a with
  | true =>
    have h0 := idx_any ha
    obtain ⟨i, hi⟩ : ∃ i, (idxB l fun t => !holdsT t r step e) = i := ⟨_, rfl⟩
    rw [hi] at h0 HI
    clear hi ha
    go_enter Tryd.func81, Tryd.ntmps81
    go_wp2_with fail
    refine HI.out.mono ?_
    rintro en w' ⟨rfl, hg'⟩
    have HG := Lib.hid hg'
    clear hg'
    go_wp2_with fail
    go_ret
    exact ⟨rfl, HG.out⟩
  | false =>
    rw [idx_none ha] at HI
    clear ha
    go_enter Tryd.func81, Tryd.ntmps81
    go_wp2_with fail
    refine HI.out.mono ?_
    rintro en w' ⟨rfl, hg'⟩
    have HG := Lib.hid hg'
    clear hg'
    go_wp2_with fail
    go_ret
    exact ⟨rfl, HG.out⟩
set_option maxRecDepth 100000 in
set_option maxHeartbeats 1600000 in
theorem all_any (l : List PT) (vl v : Value) (r : RRun) (step B : Nat) (e : Ev) (w : World) (hl : TstAt w B vl l) (ht : ∀ t ∈ l, OkT t) (hlen : l.length ≤ 1000000) (hr : RunAt w B v r) (hBw : B ≤ w.heap.size) (hw : WfR r) (hst : step ≤ 1000000) (he : Sm e.val) (hs : SmE r.evs) :
    Calls Tryd.prog 62 #[vl, v, .int .i64 step, evV e] w fun en w' => en = .returned (.bool (allT l r step e)) ∧ Grw w w' := by
  have HRA := Lib.hid hr
  obtain ⟨cv, ev, rfl, _, _⟩ := hr
  obtain ⟨w1, hw1⟩ : ∃ w1, w1 = ((w.alloc (.cells #[cv, ev, .bool r.blocked] 56)).alloc (.cells #[.int .i64 step] 3)).alloc (.cells #[.int .i64 e.id, .int .i64 e.time, .int .u8 e.kind, .int .i64 e.val] 37) := ⟨_, rfl⟩
  have hg : Grw w w1 := by rw [hw1]; exact (((Grw.refl _).alloc _).alloc _).alloc _
  have hz1 : w1.heap.size = w.heap.size + 3 := by rw [hw1]; simp
  have XR : w1.heap[w.heap.size]? = some (.cells #[cv, ev, .bool r.blocked] 56 (0, 0)) := by rw [hw1]; exact heap_alloc (heap_alloc (heap_new rfl))
  have XS : w1.heap[w.heap.size + 1]? = some (.cells #[.int .i64 step] 3 (0, 0)) := by rw [hw1]; exact heap_alloc (heap_new (by simp))
  have XE : w1.heap[w.heap.size + 2]? = some (.cells #[.int .i64 e.id, .int .i64 e.time, .int .u8 e.kind, .int .i64 e.val] 37 (0, 0)) := by rw [hw1]; exact heap_new (by simp)
  have hcap : Cap w1 w.heap.size (w.heap.size + 1) (w.heap.size + 2) cv ev r.blocked step e :=
    ⟨(Lib.cell_of_heap XR 0).trans rfl, (Lib.cell_of_heap XR 1).trans rfl, (Lib.cell_of_heap XR 2).trans rfl, (Lib.cell_of_heap XS 0).trans rfl, (Lib.cell_of_heap XE 0).trans rfl, (Lib.cell_of_heap XE 1).trans rfl, (Lib.cell_of_heap XE 2).trans rfl, (Lib.cell_of_heap XE 3).trans rfl, by omega, by omega, by omega⟩
  have HK := Lib.hid (containsT_any l vl cv ev r step B w.heap.size (w.heap.size + 1) (w.heap.size + 2) e w1 (Sl.keep hl fun p hp => hg.below.cell (Nat.lt_of_lt_of_le hp hBw)) hcap ht hlen (HRA.out.grw hBw hg) (Nat.le_trans hBw hg.size) hw hst he hs)
  have HG := Lib.hid hg
  have HW := Lib.hid hw1
  have hmf : ∀ (fn : Fn) (first cap : Array Value) (w : World), (Instr.makeFunc fn first cap).run Tryd.prog w = .ok (.func fn first cap) w := fun _ _ _ _ => rfl
  obtain ⟨R, hR⟩ : ∃ R, allT l r step e = R := ⟨_, rfl⟩
  rw [hR] at HK ⊢
  clear hl ht hw hs hg hw1 XR XS XE hcap hR
  go_enter Tryd.func62, Tryd.ntmps62
  go_wp2_with fail
  rw [← HW.out]
  refine HK.out.mono ?_
  rintro en w2 ⟨rfl, hg2⟩
  have HG2 := Lib.hid (HG.out.trans hg2)
  clear hg2
  cases R with
  | true =>
    go_wp2_with fail
    go_ret
    exact ⟨rfl, HG2.out⟩
  | false =>
    go_wp2_with fail
    go_ret
    exact ⟨rfl, HG2.out⟩
end Go.Proofs.YtcojnojdgigmdaaDoor.WR
/- How a plan reads, for runs; the walks of run.fits and run.Until. -/
namespace Go.Proofs.YtcojnojdgigmdaaDoor.WR
open Go Go.RowKit Go.Sort Go.Proofs.YtcojnojdgigmdaaDoor Go.Proofs.YtcojnojdgigmdaaDoor.PL Go.Proofs.YtcojnojdgigmdaaDoor.PR Go.Proofs.YtcojnojdgigmdaaDoor.Mem

/-- The slice reads as these bars. -/
def BarAt (w : World) (B : Nat) (v : Value) (bs : List RBar) : Prop := ∃ ad c, v = .slice ad bs.length c ∧ ∀ i (h : i < bs.length), ∃ b o, ad = some ⟨b, o, none⟩ ∧ b < B ∧ w.cell? ⟨b, o + i * 2, none⟩ = some (.int .u8 bs[i].kind) ∧ ∃ vt, w.cell? ⟨b, o + i * 2 + 1, none⟩ = some vt ∧ TstAt w B vt bs[i].tests
/-- The slice reads as these steps. -/
def PlnAt (w : World) (B : Nat) (v : Value) (ps : List RPos) : Prop := ∃ ad c, v = .slice ad ps.length c ∧ ∀ q (h : q < ps.length), ∃ b o, ad = some ⟨b, o, none⟩ ∧ b < B ∧ w.cell? ⟨b, o + q * 5, none⟩ = some (.int .u8 ps[q].kind) ∧ w.cell? ⟨b, o + q * 5 + 1, none⟩ = some (.int .i64 ps[q].lo) ∧ w.cell? ⟨b, o + q * 5 + 2, none⟩ = some (.int .i64 ps[q].hi) ∧
  (∃ vt, w.cell? ⟨b, o + q * 5 + 3, none⟩ = some vt ∧ TstAt w B vt ps[q].tests) ∧ ∃ vb, w.cell? ⟨b, o + q * 5 + 4, none⟩ = some vb ∧ BarAt w B vb ps[q].bars
theorem BarAt.grw {w w' : World} {B : Nat} {v : Value} {bs : List RBar} (h : BarAt w B v bs) (hB : B ≤ w.heap.size) (hg : Grw w w') : BarAt w' B v bs := by
  obtain ⟨ad, c, e, hr⟩ := h
  refine ⟨ad, c, e, fun i hi => ?_⟩
  obtain ⟨b, o, e1, hb, h1, vt, h2, h3⟩ := hr i hi
  have hbw := Nat.lt_of_lt_of_le hb hB
  exact ⟨b, o, e1, hb, hg.cell hbw h1, vt, hg.cell hbw h2, Sl.keep h3 fun p hp => hg.below.cell (Nat.lt_of_lt_of_le hp hB)⟩
theorem PlnAt.grw {w w' : World} {B : Nat} {v : Value} {ps : List RPos} (h : PlnAt w B v ps) (hB : B ≤ w.heap.size) (hg : Grw w w') : PlnAt w' B v ps := by
  obtain ⟨ad, c, e, hr⟩ := h
  refine ⟨ad, c, e, fun i hi => ?_⟩
  obtain ⟨b, o, e1, hb, h0, h1, h2, ⟨vt, h3, h4⟩, vb, h5, h6⟩ := hr i hi
  have hbw := Nat.lt_of_lt_of_le hb hB
  exact ⟨b, o, e1, hb, hg.cell hbw h0, hg.cell hbw h1, hg.cell hbw h2, ⟨vt, hg.cell hbw h3, Sl.keep h4 fun p hp => hg.below.cell (Nat.lt_of_lt_of_le hp hB)⟩, vb, hg.cell hbw h5, h6.grw hB hg⟩
/-- A plan that can be run: its numbers are small. -/
structure OkP (p : RPlan) : Prop where
  few : p.steps.length ≤ 1000000
  cnt : ∀ s ∈ p.steps, 1 ≤ s.lo ∧ s.lo ≤ s.hi ∧ s.hi ≤ 1000000
  tst : ∀ s ∈ p.steps, (∀ t ∈ s.tests, OkT t) ∧ s.tests.length ≤ 1000000
  bar : ∀ s ∈ p.steps, s.bars.length ≤ 1000000 ∧ ∀ b ∈ s.bars, (∀ t ∈ b.tests, OkT t) ∧ b.tests.length ≤ 1000000
  win : Sm p.within

set_option maxRecDepth 100000 in
set_option maxHeartbeats 1600000 in
theorem fits_any (p : RPlan) (vs v : Value) (r : RRun) (step B : Nat) (e : Ev) (w : World) (hp : OkP p) (hpl : PlnAt w B vs p.steps) (hlt : step < p.steps.length) (hr : RunAt w B v r) (hBw : B ≤ w.heap.size) (hw : WfR r) (he : Sm e.val) (hs : SmE r.evs) :
    Calls Tryd.prog 56 #[.agg #[vs, .int .i64 p.within], v, .int .i64 step, evV e] w fun en w' => en = .returned (.bool (fitsS p.steps[step] r step e)) ∧ Grw w w' := by
  have HRA := Lib.hid hr; have HPL := Lib.hid hpl
  obtain ⟨cv, ev, rfl, _, _⟩ := hr
  obtain ⟨ad, c, e0, hq⟩ := hpl
  obtain ⟨b, o, rfl, hb, x0, x1, x2, ⟨vt, x3, hvt⟩, vb, x4, hvb⟩ := hq step hlt
  subst e0
  have hmem := List.getElem_mem hlt
  have HTS := Lib.hid (hp.tst _ hmem)
  have hfew := hp.few
  obtain ⟨s, hsd⟩ : ∃ s, p.steps[step] = s := ⟨_, rfl⟩
  rw [hsd] at x0 x1 x2 hvt hvb HTS ⊢
  obtain ⟨k, lo, hi, ts, bs⟩ := s
  simp only at x0 x1 x2 hvt hvb HTS
  obtain ⟨ta, tc, rfl⟩ := Sl.shape hvt
  obtain ⟨ba, bc, rfl, _⟩ := hvb
  obtain ⟨w1, hw1⟩ : ∃ w1, w1 = (((w.alloc (.cells #[.slice (some ⟨b, o, none⟩) p.steps.length c, .int .i64 p.within] 25)).alloc (.cells #[cv, ev, .bool r.blocked] 56)).alloc (.cells #[.int .i64 e.id, .int .i64 e.time, .int .u8 e.kind, .int .i64 e.val] 37)).alloc (.cells #[.int .u8 k, .int .i64 lo, .int .i64 hi, .slice ta ts.length tc, .slice ba bs.length bc] 47) := ⟨_, rfl⟩
  have hg : Grw w w1 := by rw [hw1]; exact ((((Grw.refl _).alloc _).alloc _).alloc _).alloc _
  have hg0 : Grw w (((w.alloc (.cells #[.slice (some ⟨b, o, none⟩) p.steps.length c, .int .i64 p.within] 25)).alloc (.cells #[cv, ev, .bool r.blocked] 56)).alloc (.cells #[.int .i64 e.id, .int .i64 e.time, .int .u8 e.kind, .int .i64 e.val] 37)) := (((Grw.refl _).alloc _).alloc _).alloc _
  have hz1 : w1.heap.size = w.heap.size + 4 := by rw [hw1]; simp
  have hbw : b < w.heap.size := Nat.lt_of_lt_of_le hb hBw
  have hAL := Lib.hid (all_any ts (.slice ta ts.length tc) (.agg #[cv, ev, .bool r.blocked]) r step B e w1 (Sl.keep hvt fun p hp => hg.below.cell (Nat.lt_of_lt_of_le hp hBw)) HTS.out.1 HTS.out.2 (HRA.out.grw hBw hg) (Nat.le_trans hBw hg.size) hw (by omega) he hs)
  have XP := Lib.hid (show w1.heap[w.heap.size]? = some (.cells #[.slice (some ⟨b, o, none⟩) p.steps.length c, .int .i64 p.within] 25 (0, 0)) by rw [hw1]; exact heap_alloc (heap_alloc (heap_alloc (heap_new rfl))))
  have XR := Lib.hid (show w1.heap[w.heap.size + 1]? = some (.cells #[cv, ev, .bool r.blocked] 56 (0, 0)) by rw [hw1]; exact heap_alloc (heap_alloc (heap_new (by simp))))
  have z0 := hg0.cell hbw x0
  have z1 := hg0.cell hbw x1
  have z2 := hg0.cell hbw x2
  have z3 := hg0.cell hbw x3
  have z4 := hg0.cell hbw x4
  clear x0 x1 x2 x3 x4 hg0
  have HG := Lib.hid hg
  have HW := Lib.hid hw1
  have HF := Lib.hid (show fitsS ⟨k, lo, hi, ts, bs⟩ r step e = ((e.kind == k) && allT ts r step e) from rfl)
  have hst0 : (0 : Int) ≤ (step : Int) := by omega
  have hst1 : (step : Int) < (p.steps.length : Int) := by omega
  have hz : b ≠ w.heap.size := by omega
  have hza : b ≠ w.heap.size + 1 := by omega
  have hzb : b ≠ w.heap.size + 1 + 1 := by omega
  have hzc : b ≠ w.heap.size + 2 := by omega
  clear hg hw1 hvt hq hw hs hmem hsd
  go_enter Tryd.func56, Tryd.ntmps56
  cases hk : (e.kind == k) with
  | false =>
    have HR := Lib.hid (show fitsS ⟨k, lo, hi, ts, bs⟩ r step e = false by rw [HF.out, hk]; rfl)
    go_wp2_with fail
    go_ret
    exact ⟨by rw [HR.out]; rfl, by rw [← HW.out]; exact HG.out⟩
  | true =>
    obtain ⟨R, hR⟩ : ∃ R, allT ts r step e = R := ⟨_, rfl⟩
    have HR := Lib.hid (show fitsS ⟨k, lo, hi, ts, bs⟩ r step e = R by rw [HF.out, hk, hR]; rfl)
    rw [hR] at hAL
    clear hR
    go_wp2_with fail
    rw [← HW.out]
    refine hAL.out.mono ?_
    rintro en w2 ⟨rfl, hg2⟩
    have HG2 := Lib.hid (HG.out.trans hg2)
    clear hg2
    go_wp2_with fail
    go_ret
    exact ⟨by rw [HR.out]; rfl, HG2.out⟩
end Go.Proofs.YtcojnojdgigmdaaDoor.WR
/- The walks of Advance's closure over bars, and of slices.ContainsFunc, slices.IndexFunc at it: does a bar of the step stand against the event? -/
namespace Go.Proofs.YtcojnojdgigmdaaDoor.WR
open Go Go.RowKit Go.Sort Go.Proofs.YtcojnojdgigmdaaDoor Go.Proofs.YtcojnojdgigmdaaDoor.PL Go.Proofs.YtcojnojdgigmdaaDoor.PR Go.Proofs.YtcojnojdgigmdaaDoor.Mem

/-- Does the bar stand against the event? -/
def barB (b : RBar) (r : RRun) (step : Nat) (e : Ev) : Bool := (e.kind == b.kind) && allT b.tests r step e

set_option maxRecDepth 100000 in
set_option maxHeartbeats 1600000 in
theorem closB_any (b : RBar) (vt cv ev : Value) (r : RRun) (step B b1 b2 b3 : Nat) (e : Ev) (w : World) (hc : Cap w b1 b2 b3 cv ev r.blocked step e) (ht : ∀ t ∈ b.tests, OkT t) (hlen : b.tests.length ≤ 1000000) (hvt : TstAt w B vt b.tests) (hr : RunAt w B (.agg #[cv, ev, .bool r.blocked]) r) (hBw : B ≤ w.heap.size) (hw : WfR r) (hst : step ≤ 1000000) (he : Sm e.val) (hs : SmE r.evs) :
    Calls Tryd.prog 61 #[.agg #[.int .u8 b.kind, vt], .pointer (some ⟨b3, 0, none⟩), .pointer (some ⟨b1, 0, none⟩), .pointer (some ⟨b2, 0, none⟩)] w fun en w' => en = .returned (.bool (barB b r step e)) ∧ Grw w w' := by
  obtain ⟨ta, tc, rfl⟩ := Sl.shape hvt
  obtain ⟨wa, hwa⟩ : ∃ wa, wa = w.alloc (.cells #[.int .u8 b.kind, .slice ta b.tests.length tc] 49) := ⟨_, rfl⟩
  have hg : Grw w wa := by rw [hwa]; exact (Grw.refl _).alloc _
  have HG := Lib.hid hg
  have HC := Lib.hid (hc.grw hg)
  have HH := Lib.hid (all_any b.tests (.slice ta b.tests.length tc) (.agg #[cv, ev, .bool r.blocked]) r step B e wa (Sl.keep hvt fun p hp => hg.below.cell (Nat.lt_of_lt_of_le hp hBw)) ht hlen (hr.grw hBw hg) (Nat.le_trans hBw hg.size) hw hst he hs)
  have X := Lib.hid (show wa.heap[w.heap.size]? = some (.cells #[.int .u8 b.kind, .slice ta b.tests.length tc] 49 (0, 0)) by rw [hwa]; exact heap_new rfl)
  have HW := Lib.hid hwa
  obtain ⟨c0, c1, c2, s0, e0, e1, e2, e3, l1, l2, l3⟩ := hc
  have n1 : b1 ≠ w.heap.size := by omega
  have n2 : b2 ≠ w.heap.size := by omega
  have n3 : b3 ≠ w.heap.size := by omega
  have HB := Lib.hid (show barB b r step e = ((e.kind == b.kind) && allT b.tests r step e) from rfl)
  clear hwa hg hvt hr hw hs ht
  go_enter Tryd.func61, Tryd.ntmps61
  cases hk : (e.kind == b.kind) with
  | false =>
    have HR := Lib.hid (show barB b r step e = false by rw [HB.out, hk]; rfl)
    go_wp2_with fail
    go_ret
    exact ⟨by rw [HR.out]; rfl, by rw [← HW.out]; exact HG.out⟩
  | true =>
    obtain ⟨R, hR⟩ : ∃ R, allT b.tests r step e = R := ⟨_, rfl⟩
    have HR := Lib.hid (show barB b r step e = R by rw [HB.out, hk, hR]; rfl)
    rw [hR] at HH
    clear hR
    go_wp2_with fail
    rw [← HW.out]
    refine HH.out.mono ?_
    rintro en w2 ⟨rfl, hg2⟩
    have HG2 := Lib.hid (HG.out.trans hg2)
    clear hg2
    go_wp2_with fail
    go_ret
    exact ⟨by rw [HR.out]; rfl, HG2.out⟩

theorem BarAt.at_ {w : World} {B : Nat} {v : Value} {bs : List RBar} (h : BarAt w B v bs) {i : Nat} (hi : i < bs.length) :
    ∃ (b o c : Nat) (vt : Value), v = .slice (some ⟨b, o, none⟩) bs.length c ∧ b < B ∧ w.cell? ⟨b, o + i * 2, none⟩ = some (.int .u8 bs[i].kind) ∧ w.cell? ⟨b, o + i * 2 + 1, none⟩ = some vt ∧ TstAt w B vt bs[i].tests := by
  obtain ⟨ad, c, e, hr⟩ := h
  obtain ⟨b, o, e1, hb, h1, vt, h2, h3⟩ := hr i hi
  exact ⟨b, o, c, vt, by rw [e, e1], hb, h1, h2, h3⟩
set_option maxRecDepth 100000 in
set_option maxHeartbeats 1600000 in
theorem indexB_any (l : List RBar) (vl cv ev : Value) (r : RRun) (step B b1 b2 b3 : Nat) (e : Ev) (w : World) (hl : BarAt w B vl l) (hc : Cap w b1 b2 b3 cv ev r.blocked step e) (ht : ∀ b ∈ l, (∀ t ∈ b.tests, OkT t) ∧ b.tests.length ≤ 1000000) (hlen : l.length ≤ 1000000) (hr : RunAt w B (.agg #[cv, ev, .bool r.blocked]) r) (hBw : B ≤ w.heap.size) (hw : WfR r) (hst : step ≤ 1000000) (he : Sm e.val) (hs : SmE r.evs) :
    Calls Tryd.prog 80 #[vl, .func (.func 61) #[] #[.pointer (some ⟨b3, 0, none⟩), .pointer (some ⟨b1, 0, none⟩), .pointer (some ⟨b2, 0, none⟩)]] w
      fun en w' => en = .returned (.int .i64 (idxB l fun b => barB b r step e)) ∧ Grw w w' := by
  obtain ⟨a, c, rfl⟩ : ∃ a c, vl = .slice a l.length c := by
    obtain ⟨a, c, h, _⟩ := hl
    exact ⟨a, c, h⟩
  have HL := Lib.hid hl; have HC := Lib.hid hc; have HT := Lib.hid ht; have HR := Lib.hid hr; have HW := Lib.hid hw; have HS := Lib.hid hs
  clear hl hc ht hr hw hs
  go_enter Tryd.func80, Tryd.ntmps80
  go_wp2_with fail
  go_loopw [5, 8] (fun _ u wr => ∃ i : Nat, u = .int .i64 i ∧ i ≤ l.length ∧ Grw w wr ∧ ∀ b ∈ l.take i, barB b r step e = false) (fun _ u _ => l.length - (intOf u).toNat)
  case atStart => exact ⟨0, rfl, by omega, Grw.refl _, by simp⟩
  case round =>
    obtain ⟨i, rfl, hi, hg, hall⟩ := hrel
    have HG := Lib.hid hg
    have HA := Lib.hid hall
    have hsz := hg.size
    clear hg hall
    by_cases hlt : i < l.length
    · have hlt' : (i : Int) < (l.length : Int) := by omega
      have hi0 : (0 : Int) ≤ (i : Int) := by omega
      obtain ⟨g, o, c', vt, e', hgb, d0, d1, d2⟩ := HL.out.at_ hlt
      obtain ⟨rfl, rfl⟩ : a = some ⟨g, o, none⟩ ∧ c = c' := by simpa using e'
      have hgw : g < w.heap.size := Nat.lt_of_lt_of_le hgb hBw
      have HTK := Lib.hid (List.take_succ_eq_append_getElem (l := l) (i := i) hlt)
      have HMEM := Lib.hid (List.getElem_mem hlt)
      have HHIT := Lib.hid (fun h => idx_hit (p := fun b => barB b r step e) hlt h HA.out)
      obtain ⟨t, ht⟩ : ∃ t, l[i] = t := ⟨_, rfl⟩
      rw [ht] at d0 d2 HTK HMEM HHIT
      obtain ⟨ta, tc, rfl⟩ := Sl.shape d2
      have x0 := HG.out.cell hgw d0
      have x1 := HG.out.cell hgw d1
      have HCL := Lib.hid (closB_any t (.slice ta t.tests.length tc) cv ev r step B b1 b2 b3 e wr (HC.out.grw HG.out) (HT.out t HMEM.out).1 (HT.out t HMEM.out).2 (Sl.keep d2 fun p hp => HG.out.below.cell (Nat.lt_of_lt_of_le hp hBw)) (HR.out.grw hBw HG.out) (Nat.le_trans hBw hsz) HW.out hst he HS.out)
      clear e' d0 d1 d2 ht
      obtain ⟨hv, hhv⟩ : ∃ hv, barB t r step e = hv := ⟨_, rfl⟩
      rw [hhv] at HCL HHIT
      have HV := Lib.hid hhv
      clear hhv
      go_wp2_with fail
      refine HCL.out.mono ?_
      rintro en w' ⟨rfl, hg'⟩
      have HG' := Lib.hid (HG.out.trans hg')
      clear hg' HCL
      cases hv with
      | true =>
        have HE := Lib.hid (HHIT.out rfl)
        clear HHIT
        go_wp2_with fail
        go_ret
        exact ⟨by rw [HE.out]; rfl, HG'.out⟩
      | false =>
        have HN := Lib.hid (show ∀ t ∈ l.take (i + 1), barB t r step e = false by
          rw [HTK.out]
          intro y hy
          rcases List.mem_append.1 hy with hy | hy
          · exact HA.out y hy
          · simp only [List.mem_cons, List.not_mem_nil, or_false] at hy
            subst hy
            exact HV.out)
        clear HHIT
        go_wp2_with fail
        go_roundw
        case rel => exact ⟨i + 1, by go_num, by omega, HG'.out, HN.out⟩
        case measure => simp [intOf]; omega
    · obtain rfl : i = l.length := by omega
      have HE := Lib.hid (idx_miss (l := l) (p := fun b => barB b r step e) (by have h := HA.out; rwa [List.take_length] at h))
      go_wp2_with fail
      go_ret
      exact ⟨by rw [HE.out]; rfl, HG.out⟩
set_option maxRecDepth 100000 in
set_option maxHeartbeats 1600000 in
theorem containsB_any (l : List RBar) (vl cv ev : Value) (r : RRun) (step B b1 b2 b3 : Nat) (e : Ev) (w : World) (hl : BarAt w B vl l) (hc : Cap w b1 b2 b3 cv ev r.blocked step e) (ht : ∀ b ∈ l, (∀ t ∈ b.tests, OkT t) ∧ b.tests.length ≤ 1000000) (hlen : l.length ≤ 1000000) (hr : RunAt w B (.agg #[cv, ev, .bool r.blocked]) r) (hBw : B ≤ w.heap.size) (hw : WfR r) (hst : step ≤ 1000000) (he : Sm e.val) (hs : SmE r.evs) :
    Calls Tryd.prog 60 #[vl, .func (.func 61) #[] #[.pointer (some ⟨b3, 0, none⟩), .pointer (some ⟨b1, 0, none⟩), .pointer (some ⟨b2, 0, none⟩)]] w
      fun en w' => en = .returned (.bool (l.any fun b => barB b r step e)) ∧ Grw w w' := by
  have HI := Lib.hid (indexB_any l vl cv ev r step B b1 b2 b3 e w hl hc ht hlen hr hBw hw hst he hs)
  clear hl hc ht hr hw hs
  obtain ⟨a, ha⟩ : ∃ a, (l.any fun b => barB b r step e) = a := ⟨_, rfl⟩
  rw [ha]
  cases a with
  | true =>
    have h0 := idx_any ha
    obtain ⟨i, hi⟩ : ∃ i, (idxB l fun b => barB b r step e) = i := ⟨_, rfl⟩
    rw [hi] at h0 HI
    clear hi ha
    go_enter Tryd.func60, Tryd.ntmps60
    go_wp2_with fail
    refine HI.out.mono ?_
    rintro en w' ⟨rfl, hg'⟩
    have HG := Lib.hid hg'
    clear hg'
    go_wp2_with fail
    go_ret
    exact ⟨rfl, HG.out⟩
  | false =>
    rw [idx_none ha] at HI
    clear ha
    go_enter Tryd.func60, Tryd.ntmps60
    go_wp2_with fail
    refine HI.out.mono ?_
    rintro en w' ⟨rfl, hg'⟩
    have HG := Lib.hid hg'
    clear hg'
    go_wp2_with fail
    go_ret
    exact ⟨rfl, HG.out⟩
end Go.Proofs.YtcojnojdgigmdaaDoor.WR
