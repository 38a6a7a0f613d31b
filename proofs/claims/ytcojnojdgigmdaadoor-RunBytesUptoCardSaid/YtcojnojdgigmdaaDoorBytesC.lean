/- RunBytes, proved where the arguments are of bulk at most 1048576: every run has the document's bytes, and every bytes the document's run, or its error. The card: its listed variables are tied to the program's text. -/
import Derived.Test.YtcojnojdgigmdaaDoorLawRB
import Derived.Test.YtcojnojdgigmdaaDoorB13
import Derived.Test.YtcojnojdgigmdaaDoorTie
import Derived.Test.YtcojnojdgigmdaaDoorCards
import Derived.ProofKit
import Derived.OpenShut
import Derived.ChangeMaps
import Derived.LaidMore
import Derived.Lay
import Derived.SevenTiedAt
import Derived.Deep.DeepHandedRow
set_option maxRecDepth 100000
namespace Go.Proofs.YtcojnojdgigmdaaDoor.runBytes
open Go.ChangeShapes Go.WideShapes Go.ChangeAt Go.RowKit Go.Proofs.YtcojnojdgigmdaaDoor.Mem
open Go.ChangeMaps (open_string shut_string)

theorem own : ownKnob Tryd.prog.godebug = none := by kernel_rfl
theorem laidOut : laidOutB Tryd.prog = true := by kernel_rfl
theorem events {H : Type} {enc : TypeId × Value -> H} {w : World} {fuel : Nat} {v : Value} {x : DataW H × List MemPlace} (h : DataW.trod enc Tryd.prog w 0 (fun _ => true) true fuel 22 [v] = some x) :
  ∃ l : List Ev, Evs w w.heap.size v l /\ (∀ e ∈ l, e.fits) /\ ((l = [] /\ x.1 = .nil) \/ ∃ elems spare, x.1 = .slice elems spare /\ elems.length = l.length) := by
 refine Op.open_events Tryd.underlying22 Tryd.underlying42 (by kernel_rfl) (by kernel_rfl) rfl ?_ h; intro j f hf
 match j, hf with
 | 0, hf => injection hf with hf; subst hf; exact ⟨_, rfl, Tryd.underlying2, rfl⟩
 | 1, hf => injection hf with hf; subst hf; exact ⟨_, rfl, Tryd.underlying2, rfl⟩
 | 2, hf => injection hf with hf; subst hf; exact ⟨_, rfl, Tryd.underlying5, rfl⟩
 | 3, hf => injection hf with hf; subst hf; exact ⟨_, rfl, Tryd.underlying2, rfl⟩
 | j + 4, hf => simp at hf
theorem counts {H : Type} {enc : TypeId × Value -> H} {w : World} {fuel : Nat} {v : Value} {x : DataW H × List MemPlace} (h : DataW.trod enc Tryd.prog w 0 (fun _ => true) true fuel 54 [v] = some x) :
  ∃ l : List Int, Ints w w.heap.size v l /\ (∀ n ∈ l, WE.fit64 n) /\ ((l = [] /\ x.1 = .nil) \/ ∃ elems spare, x.1 = .slice elems spare /\ elems.length = l.length) := by
 rcases open_ints Tryd.underlying54 Tryd.underlying3 (by kernel_rfl) h with ⟨hcs, hx⟩ | ⟨a, len, cap, zs, hcs, _, hl, _, hz, hx, hcell, hwf⟩
 ·have hv : v = .slice none 0 0 := by simpa using hcs
  subst hv; exact ⟨[], Sl.nil_ _ _ _, by simp, .inl ⟨rfl, by rw [hx]⟩⟩
 ·have hv : v = .slice (some a) len cap := by simpa using hcs
  subst hv
  have hz' : zs.length = cap := by simpa using hz
  have hlen : (zs.take len).length = len := by rw [List.length_take]; omega
  refine ⟨zs.take len, ⟨by simp, some a, cap, by rw [hlen], by omega, fun hn => ?_⟩, ?_, .inr ⟨_, _, by rw [hx], by simp [ChangeShapes.lits]⟩⟩
  ·have hc0 := hcell 0 (by omega)
   have e0 : a.add 0 = a := by simp [Addr.add]
   rw [e0] at hc0; have hblk : a.block < w.heap.size := World.block_lt_of_cell? w _ hc0; obtain ⟨b, o, rfl⟩ := Mem.lit_of_cell hc0; refine ⟨b, o, rfl, hblk, fun j u hu => ?_⟩
   have hj : j < len := by
    have := (List.getElem?_eq_some_iff.1 hu).1; rw [List.length_map] at this; omega
   have hc := hcell j (by omega); rw [<- lit_add, hc]; rw [List.getElem?_map, List.getElem?_take_of_lt hj, List.getElem?_eq_getElem (by omega)] at hu
   simp only [Option.map_some, Option.some.injEq] at hu
   rw [<- hu, List.getD_eq_getElem?_getD, List.getElem?_eq_getElem (by omega)]
   rfl
  ·intro n hn; exact Op.wf_i64 (hwf n (List.mem_of_mem_take hn))
theorem bulk_len {H : Type} (l : List (DataW H)) : l.length <= Rows.uptoBulkAll l := by
 induction l with
 | nil => simp [Rows.uptoBulkAll]
 | cons x r ih =>
  have : 1 <= Rows.uptoBulk x := by
   cases x with
   | lit l => cases l <;> simp [Rows.uptoBulk]
   | _ => simp [Rows.uptoBulk]
  simp only [Rows.uptoBulkAll, List.length_cons]; omega
theorem one_len {H : Type} {n : Nat} {x : DataW H} (h : (n = 0 /\ x = .nil) \/ ∃ elems spare, x = .slice elems spare /\ elems.length = n) : n <= Rows.uptoBulk x := by
 rcases h with ⟨rfl, _⟩ | ⟨elems, spare, rfl, hel⟩
 ·exact Nat.zero_le _
 ·have := bulk_len elems
  simp only [Rows.uptoBulk]
  omega

theorem reads (os : Os) {H : Type} (enc : TypeId × Value -> H) : ∃ places, DataW.whole enc Tryd.prog (((World.laidAll Tryd.prog os Rows.runBytesUptoRow.laid)).forCall (fun _ _ => 0) ⟨#[], #[.slice none 0 0, .slice none 0 0, .string .empty], []⟩).memory Tryd.f7.params.toList Rows.runBytesSpec.vars false #[.slice none 0 0, .slice none 0 0, .string .empty].toList 8 = some ([.nil, .nil, .lit (.string [])], [], places) :=
 ⟨[], by kernel_rfl⟩

theorem lifted (os : Os) (started : os.Started) (H : Type) (enc : TypeId × Value -> H) (F : Stop.Interp) :
  ReturnsInHanded {} Tryd.checked os 7 .any ((Rows.OpenSpec.upto Rows.runBytesSpec).preRow enc Tryd.prog Tryd.f7 Rows.runBytesUptoRow.domain false Rows.runBytesUptoRow.laid) (((Rows.OpenSpec.upto Rows.runBytesSpec).at F).post enc Tryd.prog Tryd.f7 false true false false) := by
 obtain ⟨places, hx⟩ := reads os enc
 refine returnsInHanded_of_row (C := Tryd.checked) (s := Rows.OpenSpec.upto Rows.runBytesSpec) own started (by kernel_rfl) Tryd.func7
  (witness_row_at (enc := enc) (C := Tryd.checked) false (World.laidAll Tryd.prog os Rows.runBytesUptoRow.laid) #[.slice none 0 0, .slice none 0 0, .string .empty] (World.laidAll_os _ _ _) (by kernel_rfl) (by kernel_rfl) (by kernel_rfl)
   (OpenSpec.preRow_of_cond 8 hx (by kernel_rfl) (fun k hk => by cases hk; kernel_rfl) (by kernel_rfl) (laidMet_laidAll _ (by kernel_rfl) (by kernel_rfl)))) ?_
 intro W base args ds gs before hval0 hW _ hcond hsz hL _ _; have hk := hcond _ rfl; have htab : WS.Tab W := WS.tab_of hL; have hpow := WS.pow_lt htab
 have hval : ∀ (j : Nat) t v, Tryd.f7.params[j]? = some t -> args[j]? = some v -> Value.okWide Tryd.prog W .any base t v := hval0
 have hW' := hW; obtain ⟨p, q, hA0, hV, rfl, hfz, hnd⟩ := hW; have hA : DataW.TrodAll enc Tryd.prog W 0 (fun _ => true) true Tryd.f7.params.toList args.toList ds p := hA0; rw [Tryd.params7] at hA hval; obtain ⟨v0, vs0, d0, ds0, p0, q0, hargs, rfl, rfl, h0, r0⟩ := trodAll_cons hA; obtain ⟨v1, vs1, d1, ds1, p1, q1, rfl, rfl, rfl, h1, r1⟩ := trodAll_cons r0; obtain ⟨v2, vs2, d2, ds2, p2, q2, rfl, rfl, rfl, h2, r2⟩ := trodAll_cons r1; obtain ⟨rfl, rfl, rfl⟩ := trodAll_nil r2
 obtain rfl : args = #[v0, v1, v2] := by cases args; simp_all
 obtain ⟨rfl, rfl⟩ := trodVars_none hV; obtain ⟨sa0, len0, cap0, rfl⟩ := okWide_slice Tryd.underlying54 (hval 0 54 v0 rfl rfl); obtain ⟨sa1, len1, cap1, rfl⟩ := okWide_slice Tryd.underlying22 (hval 1 22 v1 rfl rfl); have k0 := h0
 have lt0 : ∀ x ∈ p0, x.block < W.heap.size := by obtain ⟨m, hm⟩ := k0; exact DataW.trod_lt m _ _ _ hm
 have k1 := h1
 have lt1 : ∀ x ∈ p1, x.block < W.heap.size := by obtain ⟨m, hm⟩ := k1; exact DataW.trod_lt m _ _ _ hm
 obtain ⟨s, rfl, rfl, rfl, hmax⟩ := open_string Tryd.underlying9 (hval 2 9 v2 rfl rfl) h2; obtain ⟨fuel0, hf0⟩ := h0; obtain ⟨l0, hl0, hfit0, hlen0⟩ := counts hf0; obtain ⟨fuel1, hf1⟩ := h1; obtain ⟨l1, hl1, hfit1, hlen1⟩ := events hf1
 have hb : Rows.uptoBulkAll [d0, d1, DataW.lit (H := H) (.string s.data.toList)] <= 1048576 := by
  have h := of_decide_eq_true hk
  simpa using h
 simp only [Rows.uptoBulkAll] at hb
 have hz0 : l0.length <= Rows.uptoBulk d0 := one_len (hlen0.imp (fun h => ⟨by rw [h.1]; rfl, h.2⟩) id); have hz1 : l1.length <= Rows.uptoBulk d1 := one_len (hlen1.imp (fun h => ⟨by rw [h.1]; rfl, h.2⟩) id)
 have hz2 : s.size <= 1100000 := by
  have es : s.data.toList.length = s.size := Array.length_toList
  simp only [Rows.uptoBulk] at hb
  omega
 clear hA0 hval0
 simp only [List.append_nil] at hW'
 refine (WB2.bytes_law l0 l1 s _ _ W hl0 hfit0 hl1 hfit1 (by omega) (by omega) hz2 ?_).mono fun e W' ⟨he, bel⟩ => ?_
 ·intro w hw; exact WR.wakes_any w (WR.Tab.of_eq htab (hw.block _ hpow)) (Nat.lt_of_lt_of_le hpow hw.size)
 subst he; exact ⟨_, rfl, _, _, _, [], _, [], hW', trodAll_mk1 (shut_bool Tryd.underlying4 _), (trodAll_cons_mk (Below.trod laidOut (by kernel_rfl) (of_decide_eq_true (by kernel_rfl)) k0 bel lt0) (trodAll_cons_mk (Below.trod laidOut (by kernel_rfl) (of_decide_eq_true (by kernel_rfl)) k1 bel lt1) (trodAll_cons_mk (shut_string Tryd.underlying9 hmax) trodAll_mk0))), rfl, bel.frame _, fun h => by cases h⟩

theorem said : Rows.RunBytesUptoSaid :=
 OpenClaim.holds_of_cond 7 Tryd.f7 rfl rfl rfl rfl rfl rfl rfl ⟨rfl, rfl, rfl, rfl, rfl⟩ rfl rfl rfl rfl rfl (by kernel_rfl) Tryd.func7 (by kernel_rfl)
  (of_decide_eq_true (by kernel_rfl)) (by unfold Func.isWrapper; first | (rw [if_pos (by decide +kernel)]; kernel_rfl) | (rw [if_neg (by decide +kernel)]; exact ⟨rfl, rfl⟩))
  (fun os started H enc _ F => by rw [OpenClaim.pre_eq_preRow]; exact lifted os started H enc F)

theorem plain (f : FuncId) (fn : Func) (hf : Tryd.pinned.checked.prog.funcNamed "oxbow/oxbowlaw21.RunBytes" = some f) (hfn : Tryd.pinned.checked.prog.funcs[f]? = some fn) :
  true = Tryd.pinned.checked.prog.looks [] /\ ∀ (j : Nat) t, fn.params[j]? = some t -> Tryd.pinned.checked.prog.wantsStandIn t = false := by
 obtain rfl : f = 7 := Option.some.inj ((show Tryd.prog.funcNamed "oxbow/oxbowlaw21.RunBytes" = some 7 by kernel_rfl).symm.trans hf) |>.symm; obtain rfl : fn = Tryd.f7 := (Option.some.inj (Tryd.func7.symm.trans hfn)).symm; refine ⟨by kernel_rfl, fun j t ht => ?_⟩; rw [Tryd.params7] at ht
 have hm : t ∈ [54, 22, 9] := by simpa using Array.mem_of_getElem? ht
 have hall : ([54, 22, 9].all fun u => !Tryd.prog.wantsStandIn u) = true := by kernel_rfl
 exact (show Tryd.prog.wantsStandIn t = false by simpa using List.all_eq_true.1 hall t hm)

theorem proved : Rows.RunBytesUptoCardSaid :=
 Claim7.holds_tied_plain_at .later [] _ _ _ _ said (fun _ h => by cases h) (by kernel_rfl) (fun _ h => by cases h) runBytesUpto_row_tie rfl ⟨rfl, rfl⟩ (by kernel_rfl) rfl plain (by kernel_rfl)
end Go.Proofs.YtcojnojdgigmdaaDoor.runBytes
