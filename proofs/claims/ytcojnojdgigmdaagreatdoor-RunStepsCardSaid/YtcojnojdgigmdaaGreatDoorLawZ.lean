/- What the laws of runs share: the events, run.All at a plan that planned made. -/
import Derived.Test.YtcojnojdgigmdaaGreatDoorB12
import Derived.Test.YtcojnojdgigmdaaGreatDoorB13
namespace Go.Proofs.YtcojnojdgigmdaaGreatDoor.WR
open Go Go.RowKit Go.Sort Go.Proofs.YtcojnojdgigmdaaGreatDoor Go.Proofs.YtcojnojdgigmdaaGreatDoor.PL Go.Proofs.YtcojnojdgigmdaaGreatDoor.PR Go.Proofs.YtcojnojdgigmdaaGreatDoor.Mem Go.Proofs.YtcojnojdgigmdaaGreatDoor.WS Go.Proofs.YtcojnojdgigmdaaGreatDoor.WL

theorem evsK_ok (l : List Ev) (k : Nat) (hk : k <= 1000) : ∀ e ∈ evsK l k, OkEv e := by
 intro e he; obtain ⟨i, hi, rfl⟩ := List.mem_map.1 he; have hik := List.mem_range.1 hi; unfold OkEv Sm evE; have h1 := nearI_in (l.getD i ⟨0, 0, 0, 0⟩).time 60 (by omega); have h2 := nearI_in (l.getD i ⟨0, 0, 0, 0⟩).val 9 (by omega); refine ⟨⟨?_, ?_⟩, ⟨?_, ?_⟩, ?_, ?_⟩ <;> simp only [] <;> omega
theorem evsK_get (l : List Ev) (k i : Nat) (h : i < (evsK l k).length) : (evsK l k)[i] = evE i (l.getD i ⟨0, 0, 0, 0⟩) := by
 have h2 : i < k := by rwa [evsK_len] at h
 have e : (evsK l k)[i]? = some (evE i (l.getD i ⟨0, 0, 0, 0⟩)) := by
  unfold evsK; rw [List.getElem?_map, List.getElem?_range h2]; rfl
 rw [List.getElem?_eq_getElem h] at e
 injection e
theorem evsK_dist (l : List Ev) (k : Nat) : DistE (evsK l k) := by
 unfold DistE; rw [List.pairwise_iff_getElem]; intro i j hi hj hij; rw [evsK_get, evsK_get]
 show ((i : Int) + 1) ≠ (j : Int) + 1
 omega
theorem runA_len (ss : List GS) (cs : List GC) (wi : Int) (E ls : List Ev) (hE : ∀ e ∈ E, OkEv e) (hn : E.length <= 18) (h : ls.Perm E) : (runA (planR ss cs wi) ls).2.length <= 9223372036854775807 := by
 have h1 := (runA_ok (planR ss cs wi) OkEv ls (fun e he => hE e (h.mem_iff.1 he))).2.2
 have h2 : ls.length <= 18 := by rw [h.length_eq]; exact hn
 have h3 : 4 ^ ls.length <= 4 ^ 18 := Nat.pow_le_pow_right (by omega) h2
 have h4 : 4 ^ 18 = 68719476736 := by decide
 omega
theorem all_call {ss : List GS} {cs : List GC} {wi : Int} {pa : Option Addr} {n pc B : Nat} (hok : OKP ss cs wi) (hn : n = (planR ss cs wi).steps.length) (v : Value) (E : List Ev) (w0 W : World) (hpl : PlnAt w0 B (.slice pa n pc) (planR ss cs wi).steps) (hB : B <= w0.heap.size) {b : Nat} (ho : w0.ownsRow b 44 4 v E.length (cellsOf encE E)) (hE : ∀ e ∈ E, OkEv e) (hn19 : E.length <= 19) (ht : Tab w0) (hg : 0 < w0.heap.size) (hb : Below w0.heap.size w0 W) :
  Calls Tryz.prog 10 #[.agg #[.slice pa n pc, .int .i64 wi], v] W fun en w' => ∃ v ls, en = .returned v /\ ls.Perm E /\ SortedE ls /\ w'.ownsRow W.heap.size 9 1 v (runA (planR ss cs wi) ls).2.length ((runA (planR ss cs wi) ls).2.map strV) /\ Below W.heap.size W w' := by
 subst hn; have hbs := hb.size; have ho2 := own_below ho hb; exact runAll_any (planR ss cs wi) _ v E B W (planR_ok hok).1 (by have := (planR_ok hok).2; omega) (PlnAt.keep hpl fun a ha => hb.cell (Nat.lt_of_lt_of_le ha hB)) (by omega) (Sl.of_own ho2) (Lit.of_own ho2) hn19 hE (Tab.of_eq ht (hb.block _ hg)) (by omega)
end Go.Proofs.YtcojnojdgigmdaaGreatDoor.WR
