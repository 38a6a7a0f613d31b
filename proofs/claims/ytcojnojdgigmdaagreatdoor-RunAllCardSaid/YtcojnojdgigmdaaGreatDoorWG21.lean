/- The walk of oxbowref21.grow: all rows of events that begin so and are matches. -/
import Derived.Test.YtcojnojdgigmdaaGreatDoorWG0
import Derived.Test.YtcojnojdgigmdaaGreatDoorWAll
set_option maxHeartbeats 12800000
set_option maxRecDepth 100000
namespace Go.Proofs.YtcojnojdgigmdaaGreatDoor.WR
open Go Go.RowKit Go.Sort Go.Proofs.YtcojnojdgigmdaaGreatDoor Go.Proofs.YtcojnojdgigmdaaGreatDoor.PL Go.Proofs.YtcojnojdgigmdaaGreatDoor.PR Go.Proofs.YtcojnojdgigmdaaGreatDoor.Mem Go.Proofs.YtcojnojdgigmdaaGreatDoor.WL

theorem infoMt : (Tryz.prog.info? 84).map (fun i => (i.zero, i.size, i.bytes)) = some (some (.agg #[.slice none 0 0, .slice none 0 0]), 2, 48) := by kernel_rfl
theorem load_poss20 {w : World} {g j : Nat} {u : Value} (h : w.cell? ⟨g, j, none⟩ = some u) : (Instr.loadAt 26 (.pointer (some ⟨g, j, none⟩))).run Tryz.prog w = .ok u w := by go_simp
theorem load_pos20 {w : World} {g j : Nat} {k lo hi : Int} {ng : Bool} {a : Option Addr} {n c : Nat} (h0 : w.cell? ⟨g, j, none⟩ = some (.int .u8 k)) (h1 : w.cell? ⟨g, j + 1, none⟩ = some (.bool ng)) (h2 : w.cell? ⟨g, j + 2, none⟩ = some (.int .i64 lo)) (h3 : w.cell? ⟨g, j + 3, none⟩ = some (.int .i64 hi)) (h4 : w.cell? ⟨g, j + 4, none⟩ = some (.slice a n c)) :
  (Instr.loadAt 107 (.pointer (some ⟨g, j, none⟩))).run Tryz.prog w = .ok (.agg #[.int .u8 k, .bool ng, .int .i64 lo, .int .i64 hi, .slice a n c]) w := by go_simp
section
variable {a : Act} {w : World} {d : Option Tmp} {ty : TypeId} {pos : String} {af : Array Edge} {gd : Option (Nat × Bool)}
theorem ix_pos20 {x y : Operand} {g n c k : Nat} (h1 : a.eval x = .slice (some ⟨g, 0, none⟩) n c) (h2 : a.eval y = .int .i64 k) (hl : k < n) :
  (execOp a.eval { dst := d, op := .indexAddr 26 x y, type := ty, pos := pos, after := af, guard := gd }).run Tryz.prog w = .ok (.value (.pointer (some ⟨g, k * 5, none⟩))) w := by
 have h3 : (k : Int) < (n : Int) := by omega
 have h4 : (0 : Int) <= (k : Int) := by omega
 simp only [execOp, h1, h2]
 go_simp
theorem run_alloc_pos20 : (execOp a.eval { dst := d, op := .alloc 107, type := ty, pos := pos, after := af, guard := none }).run Tryz.prog w = .ok (.value (.pointer (some ⟨w.heap.size, 0, none⟩))) (w.alloc (.cells #[.int .u8 0, .bool false, .int .i64 0, .int .i64 0, .slice none 0 0] 107)) := by
 simp only [execOp]
 go_simp
end
structure GrowIn (p : RPlan) (ss : List GS) (ts : Nat -> List PT) (l : List Ev) (m : Mt) : Prop where
 pl : PlnOk ss ts p
 n8 : l.length <= 8
 ok : ∀ e ∈ l, OkEv e
 okm : OkM l m
 ls : lastS m < p.steps.length
 fr : fromM m <= l.length
 le : m.length <= fromM m
theorem GrowIn.more {p : RPlan} {ss : List GS} {ts : Nat -> List PT} {l : List Ev} {m : Mt} {i s : Nat} (h : GrowIn p ss ts l m) (hf : fromM m <= i) (hi : i < l.length) (hs : s < p.steps.length) (hs2 : s <= 1000000) : GrowIn p ss ts l (m ++ [(i, s)]) := by
 have hle := h.le; have hn := h.n8; refine ⟨h.pl, h.n8, h.ok, ⟨by rw [List.length_append, List.length_singleton]; omega, fun x hx => ?_, fun x hx => ?_⟩, by rw [lastS_snoc]; exact hs, by rw [fromM_snoc]; exact hi, by rw [fromM_snoc, List.length_append, List.length_singleton]; omega⟩
 ·rcases List.mem_append.1 hx with hx | hx
  ·exact h.okm.at_ x hx
  ·rw [List.mem_singleton.1 hx]; exact hi
 ·rcases List.mem_append.1 hx with hx | hx
  ·exact h.okm.st x hx
  ·rw [List.mem_singleton.1 hx]; exact hs2
theorem grow21 (p : RPlan) (ss : List GS) (ts : Nat -> List PT) (L B : Nat) (qs lv : Value) (l : List Ev) : ∀ (f : Nat) (g : MG) (w : World), l.length < f + fromM g.2.2 -> GrowIn p ss ts l g.2.2 -> DocAt w L B qs ss ts -> Evs w B lv l -> B <= w.heap.size -> OwnM 0 w g ->
  Calls Tryz.prog 29 #[.agg #[qs, .int .i64 p.within], lv, .agg #[g.1, g.2.1]] w fun e w' => ∃ v gs, e = .returned v /\ gs.map (·.2.2) = growM p l f g.2.2 /\ RowM w.heap.size w' v gs /\ Below w.heap.size w w' := by
 intro f
 induction f with
 | zero =>
  intro g w hf hin; have := hin.fr
  omega
 | succ f ih =>
 intro g w hf hin hd hl hB hg
 have mixed : Tryz.prog.follows .mixedOrders = true := by kernel_rfl
 have HIN := Hyd hin; have HD := Hyd hd; have HLV := Hyd hl; have HIH := Hyd ih; have HGM := Hyd hg; obtain ⟨va, vs, m⟩ := g
 simp only at hf HIN HGM hg ⊢
 obtain ⟨aa, ac, rfl⟩ := (Sl.of_own (show w.ownsRow 0 3 1 va m.length (atsV m) from hg.1)).shape; obtain ⟨sa, sc, rfl⟩ := (Sl.of_own (show w.ownsRow 0 3 1 vs m.length (stsV m) from hg.2)).shape; obtain ⟨la, lc, rfl⟩ := Sl.shape hl; obtain ⟨qa, qc, rfl, _⟩ := id hd; have hss := HIN.out.pl.n9; have hn8 := HIN.out.n8; have hlast := HIN.out.ls; have hfr := HIN.out.fr; have hml := HIN.out.le
 have hm8 : m.length <= 8 := by omega
 have hcm : countM m <= 8 := Nat.le_trans (List.length_filter_le _ _) hm8
 obtain ⟨w0, hw0⟩ : ∃ w0, w0 = (w.alloc (.cells #[.slice qa ss.length qc, .int .i64 p.within] 28)).alloc (.cells #[.slice aa m.length ac, .slice sa m.length sc] 84) := ⟨_, rfl⟩
 have hb0 : Below w.heap.size w w0 := by rw [hw0]; exact ((Below.refl _ _).alloc (Nat.le_refl _) _).alloc (by simp) _
 have HX := Hyd (show w0.heap[w.heap.size]? = some (.cells #[.slice qa ss.length qc, .int .i64 p.within] 28 (0, 0)) by rw [hw0]; exact heap_alloc (heap_new rfl)); have HY := Hyd (show w0.heap[w.heap.size + 1]? = some (.cells #[.slice aa m.length ac, .slice sa m.length sc] 84 (0, 0)) by rw [hw0]; exact heap_new (by simp)); have hz0 : w.heap.size < w0.heap.size := heap_lt HX.out; have hz1 : w.heap.size + 1 < w0.heap.size := heap_lt HY.out; have HW0 := Hyd hw0; have HB0 := Hyd hb0; have HST := Hyd (steps21 (.slice qa ss.length qc) p.within ss ts L w0 ((DocAt.keep hd fun a _ ha => hb0.cell (Nat.lt_of_lt_of_le ha hB)).more (Nat.le_refl _) (Nat.le_trans hB hb0.size)) (by omega)); have p0 : w0.cell? ⟨w.heap.size, 0, none⟩ = some (.slice qa ss.length qc) := (Lib.cell_of_heap HX.out 0).trans rfl; have p1 : w0.cell? ⟨w.heap.size, 1, none⟩ = some (.int .i64 p.within) := (Lib.cell_of_heap HX.out 1).trans rfl
 clear hin hd hl ih hg hb0 hw0
 go_enter Tryz.func29, Tryz.ntmps29
 go_upto_region 1 with (fail)
 rw [<- HW0.out]; go_wp2_with fail; refine HST.out.mono ?_; rintro e w2 ⟨pv, rfl, hpo, hb2⟩; obtain ⟨pa, pc, rfl⟩ := (Sl.of_own hpo).shape; have HPO := Hyd (show Sl w2 w2.heap.size 1 (.slice pa (plc ss ss.length).length pc) (plc ss ss.length).length ((plc ss ss.length).map fun n => .int .i64 (n : Nat)) from Sl.of_own hpo); have HBW := Hyd (HB0.out.trans (hb2.mono HB0.out.size)); have hsz2 := hb2.size; have HX2 := Hyd ((hb2.block _ hz0).trans HX.out); have HY2 := Hyd ((hb2.block _ hz1).trans HY.out)
 have hx2 : w.heap.size < w2.heap.size := by omega
 have hy2 : w.heap.size + 1 < w2.heap.size := by omega
 have HPL := Hyd HIN.out.pl.plc.len
 obtain ⟨np, hnp⟩ : ∃ np, (plc ss ss.length).length = np := ⟨_, rfl⟩
 have HNP := Hyd hnp; rw [hnp] at HPO ⊢
 have hnps : lastS m < np := by rw [<- hnp, HPL.out]; exact hlast
 have hnp1 : np <= p.steps.length := by rw [<- hnp, HPL.out]; exact Nat.le_refl _
 have hnp2 : p.steps.length <= np := by rw [<- hnp, HPL.out]; exact Nat.le_refl _
 have hnp8 : np <= 8 := by rw [<- hnp]; exact Nat.le_trans (plc_len ss _) hss
 have HD2 := Hyd (show DocAt w2 L B (.slice qa ss.length qc) ss ts from DocAt.keep HD.out fun a _ ha => HBW.out.cell (Nat.lt_of_lt_of_le ha hB)); have HL2 := Hyd (show Evs w2 B (.slice la l.length lc) l from Sl.keep HLV.out fun a ha => HBW.out.cell (Nat.lt_of_lt_of_le ha hB)); have HG2 := Hyd (HGM.out.below HBW.out)
 have hB2 : B <= w2.heap.size := by omega
 clear hpo hb2 p0 p1 HST hnp; have yy0 : w2.cell? ⟨w.heap.size + 1, 0, none⟩ = some (.slice aa m.length ac) := (Lib.cell_of_heap HY2.out 0).trans rfl
 go_upto_if 25 with (fail)
 go_cut [8, 9, 10, 11] (fun s8 s9 s10 s11 wx => s9 = .int .i64 (lastS m : Nat) /\ s10 = .int .i64 (countM m : Nat) /\ s11 = .int .i64 (fromM m : Nat) /\ OutR w2 (ownG p m) s8 wx)
 case first =>
  as_aux_lemma =>
   by_cases hm0 : m = []
   ·subst hm0; have HZ := Hyd (show OutR w2 (ownG p []) (.slice none 0 0) w2 from ⟨[], by simp [ownG, doneM], RowM.empty _ _, Below.refl _ _⟩); go_wp2_with fail; go_meet; exact ⟨rfl, rfl, rfl, HZ.out⟩
   ·have hml : 0 < m.length := List.length_pos_iff.2 hm0
    have hl1 : m.length - 1 < m.length := by omega
    obtain ⟨vaq, vsq, hq, hma, hms⟩ := HG2.out.mt
    obtain ⟨rfl, rfl⟩ : Value.slice aa m.length ac = vaq /\ Value.slice sa m.length sc = vsq := by simpa using hq
    obtain ⟨b, o, c, hv, hb, x0⟩ := sl_at hma hl1
    obtain ⟨rfl, rfl⟩ : aa = some ⟨b, o, none⟩ /\ ac = c := by simpa using hv
    obtain ⟨b2, o2, c2, hv2, hb2, x1⟩ := sl_at hms hl1
    obtain ⟨rfl, rfl⟩ : sa = some ⟨b2, o2, none⟩ /\ sc = c2 := by simpa using hv2
    have hfm : fromM m = m[m.length - 1].1 + 1 := by
     unfold fromM; rw [List.getLast?_eq_getElem?, List.getElem?_eq_getElem hl1]
    have hlm : lastS m = m[m.length - 1].2 := by
     unfold lastS; rw [List.getLast?_eq_getElem?, List.getElem?_eq_getElem hl1]
    obtain ⟨la1, hla1⟩ : ∃ x, m[m.length - 1].1 = x := ⟨_, rfl⟩
    rw [hla1] at x0 hfm; rw [<- hlm] at x1
    obtain ⟨LS, hLS⟩ : ∃ LS, lastS m = LS := ⟨_, rfl⟩
    have HLS := Hyd hLS; rw [hLS] at x1 hnps; have HFM := Hyd hfm
    have hla8 : la1 + 1 <= 8 := by omega
    have yy1 : w2.cell? ⟨w.heap.size + 1, 1, none⟩ = some (.slice (some ⟨b2, o2, none⟩) m.length sc) := (Lib.cell_of_heap HY2.out 1).trans rfl; have hwl : IntKind.i64.wrap ((m.length : Int) - 1) = (m.length : Int) - 1 := IntWalk.i64_in _ (by omega)
    have hli0 : (0 : Int) <= (m.length : Int) - 1 := by omega
    have hli1 : (m.length : Int) - 1 < (m.length : Int) := by omega
    have htn : ((m.length : Int) - 1).toNat = m.length - 1 := by omega
    have hl1n : 1 <= m.length := hml
    have hsp : LS < (plc ss ss.length).length := by have := HNP.out; omega
    obtain ⟨b3, o3, c3, hv3, hb3, x3⟩ := sl_at (show Sl w2 w2.heap.size 1 (.slice pa (plc ss ss.length).length pc) (plc ss ss.length).length ((plc ss ss.length).map fun n => .int .i64 (n : Nat)) by rw [HNP.out]; exact HPO.out) hsp
    obtain ⟨rfl, rfl⟩ : pa = some ⟨b3, o3, none⟩ /\ pc = c3 := by simpa using hv3
    have hst' : LS < p.steps.length := by omega
    have hat := HIN.out.pl.plc.at_ LS hst' hsp
    obtain ⟨PL, hPL⟩ : ∃ PL, (plc ss ss.length)[LS] = PL := ⟨_, rfl⟩
    rw [hPL] at hat x3; obtain ⟨hbl, hk, hlo, hhi, _, _, _⟩ := hat
    have hpl : PL < ss.length := by omega
    obtain ⟨g5, c5, e5, hg5, d0, d1, d2, d3, _⟩ := DocAt.cells HD2.out hpl
    obtain ⟨rfl, rfl⟩ : qa = some ⟨g5, 0, none⟩ /\ qc = c5 := by simpa using e5
    rw [hlo] at d2
    obtain ⟨LO, hLO⟩ : ∃ LO, p.steps[LS].lo = LO := ⟨_, rfl⟩
    rw [hLO] at d2
    have HDN := Hyd (show doneM p m = (decide (LS + 1 = p.steps.length) && decide (LO <= (countM m : Int))) by
     unfold doneM; rw [hLS, List.getElem?_eq_getElem hst']
     simp only []
     rw [hLO]
     have : m.isEmpty = false := by simpa using hm0
     rw [this]
     simp only [Bool.not_false, Bool.true_and]
     congr 1)
    have HCT := Hyd (count21 (.agg #[.slice (some ⟨b, o, none⟩) m.length ac, .slice (some ⟨b2, o2, none⟩) m.length sc]) m w2.heap.size w2 HG2.out.mt (Nat.le_refl _) (by omega))
    obtain ⟨CM, hCM⟩ : ∃ CM, countM m = CM := ⟨_, rfl⟩
    have HCM := Hyd hCM; rw [hCM] at HDN HCT hcm; have x2 : w2.cell? ⟨w.heap.size, 0, none⟩ = some (.slice (some ⟨g5, 0, none⟩) ss.length qc) := (Lib.cell_of_heap HX2.out 0).trans rfl; clear hma hms hv hv2 hv3 hla1 hPL hbl hk hlo hhi e5 hLO hfm hlm hLS hCM hq d0 d1 d3; go_wp2_with fail; refine HCT.out.mono ?_; rintro e w3 ⟨rfl, hg3⟩; have HG3 := Hyd hg3; have t0 := hg3.cell (show w.heap.size + 1 < w2.heap.size by omega) yy0; have t1 := hg3.cell (show w.heap.size + 1 < w2.heap.size by omega) yy1; have t2 := hg3.cell hb x0; have t3 := hg3.cell hb3 x3; have t4 := hg3.cell (show g5 < w2.heap.size by omega) d2; have t5 := hg3.cell (show w.heap.size < w2.heap.size by omega) x2; have hg3s := hg3.size
    have hg5w : g5 < w3.heap.size := by omega
    have hb3w : b3 < w3.heap.size := by omega
    have hbw : w.heap.size < w3.heap.size := by omega
    clear x0 x1 x2 x3 d2 yy0 yy1 hg3; have hwn : IntKind.i64.wrap ((np : Int) - 1) = (np : Int) - 1 := IntWalk.i64_in _ (by omega)
    have hs0 : (0 : Int) <= (LS : Int) := by omega
    have hs1 : (LS : Int) < (np : Int) := by omega
    have hpl0 : (0 : Int) <= (PL : Int) := by omega
    have hpl1 : (PL : Int) < (ss.length : Int) := by omega
    by_cases hend : LS + 1 = p.steps.length
    ·have hd : ((LS : Int) == (np : Int) - 1) = true := by rw [beq_iff_eq]; omega
     by_cases hlo : LO <= (CM : Int)
     ·have HD1 := Hyd (show ownG p m = [m] by unfold ownG; rw [HDN.out, decide_eq_true hend, decide_eq_true hlo]; rfl); go_wp2_with fail
      go_quiet (fail)
      obtain ⟨wd, hwd⟩ : ∃ wd, w3.drewN nq = wd := ⟨_, rfl⟩
      rw [hwd]; have HGD := Hyd (show Mem.Grw w3 wd by rw [<- hwd]; exact (Mem.Grw.refl _).drewN _); have HGE := Hyd (HG3.out.trans HGD.out); have c0 := HGD.out.cell (show w.heap.size + 1 < w3.heap.size by omega) t0; have c1 := HGD.out.cell (show w.heap.size + 1 < w3.heap.size by omega) t1; have hwds := HGE.out.size; obtain ⟨i0, hi, hz0', hz1', hz2'⟩ := info_parts infoMt; have HEM := Hyd (HG2.out.below HGE.out.below); have HNA := Hyd (Reg.own_new (w := wd) (b := 0) (e := 84) (sz := 2) (n := 1) (cs := #[.slice (some ⟨b, o, none⟩) m.length ac, .slice (some ⟨b2, o2, none⟩) m.length sc]) rfl (Nat.zero_le _) rfl (by decide)); have HNB := Hyd (show Below wd.heap.size wd (wd.alloc (.cells #[.slice (some ⟨b, o, none⟩) m.length ac, .slice (some ⟨b2, o2, none⟩) m.length sc] 84)) from (Below.refl _ _).alloc (Nat.le_refl _) _)
      have HRE := Hyd (RowM.empty w2.heap.size wd); clear hwd t0 t1 t2 t3 t4 t5
      go_wp2_with (at_builtin; refine Reg.wpList_append_src _ rfl (.tmp 63) (.tmp 65) 81 rfl w2.heap.size 0 84 i0 _ 2 48 Tryz.underlying81 hi hz0' hz1' hz2' rfl (by decide) _ _ 0 1 _ _ rfl (own_below HRE.out.own HNB.out) rfl HNA.out ?d1 ?d2 ?d3 ?d4 ?_)
      case d1 => first | exact HEM.out.one | exact ⟨rfl, rfl⟩
      case d2 => decide
      case d4 => omega
      intro v' w5 ho5 hg5 _; have HSN := Hyd (RowM.snoc (gs := []) (g := (.slice (some ⟨b, o, none⟩) m.length ac, .slice (some ⟨b2, o2, none⟩) m.length sc, m)) HRE.out hwds HEM.out ho5 hg5); clear ho5 hg5 hi hz0' hz1' hz2' HRE HNA HNB; go_wp2_with fail; go_meet; exact ⟨by rw [HLS.out], by rw [HCM.out], by rw [HFM.out]; go_num, _, by rw [HD1.out]; rfl, HSN.out.1, HGE.out.below.trans HSN.out.2⟩
     ·have HD1 := Hyd (show ownG p m = [] by unfold ownG; rw [HDN.out, decide_eq_false hlo, Bool.and_false]; rfl); have hlo2 : ¬ LO <= (CM : Int) := hlo; go_wp2_with fail
      go_quiet (fail)
      go_wp2_with fail; go_meet; exact ⟨by rw [HLS.out], by rw [HCM.out], by rw [HFM.out]; go_num, [], by rw [HD1.out]; rfl, RowM.empty _ _, (HG3.out.drewN _).below⟩
    ·have hd : ((LS : Int) == (np : Int) - 1) = false := by rw [beq_eq_false_iff_ne]; omega
     have HD1 := Hyd (show ownG p m = [] by unfold ownG; rw [HDN.out, decide_eq_false hend, Bool.false_and]; rfl); go_wp2_with fail
     go_quiet (fail)
     go_wp2_with fail; go_meet; exact ⟨by rw [HLS.out], by rw [HCM.out], by rw [HFM.out]; go_num, [], by rw [HD1.out]; rfl, RowM.empty _ _, (HG3.out.drewN _).below⟩
 case rest =>
  obtain ⟨wo, rfl⟩ : ∃ w' : World, w' = wc := ⟨_, rfl⟩
  obtain ⟨rfl, rfl, rfl, hout⟩ := hcut; have HOUT0 := Hyd hout; clear hout; go_wp2_with fail
  go_loopw [8, 12] (fun ov u wr => ∃ i, fromM m <= i /\ i <= l.length /\ u = .int .i64 (i : Nat) /\ (∀ j, fromM m <= j -> j < i -> aliveM p l m j = true) /\ OutR w2 (accI p l f m i) ov wr) (fun _ u _ => l.length - (intOf u).toNat)
  case atStart => exact ⟨fromM m, Nat.le_refl _, hfr, rfl, fun j h1 h2 => by omega, by rw [accI_zero]; exact HOUT0.out⟩
  case round =>
   clear HOUT0; obtain ⟨i, hi1, hi2, rfl, hal, hout⟩ := hrel; have HAL := Hyd hal; obtain ⟨gs, hgs, hrow, hbel⟩ := hout; obtain ⟨oa, oc, rfl⟩ := (Sl.of_own hrow.own).shape; have HROW := Hyd hrow; have HBE := Hyd hbel; have HGS := Hyd hgs
   have hgl : gs.length <= 2000000 := by
    have := congrArg List.length hgs; rw [List.length_map] at this; rw [this]; exact accI_le p l f m i hn8 hi2
   have hbs := hbel.size; have y0 := (hbel.cell (p := ⟨w.heap.size + 1, 0, none⟩) hy2).trans ((Lib.cell_of_heap HY2.out 0).trans rfl); have x1 := (hbel.cell (p := ⟨w.heap.size, 1, none⟩) hx2).trans ((Lib.cell_of_heap HX2.out 1).trans rfl); clear hal hgs hrow hbel
   by_cases hlt : i < l.length
   ·have hii : (i : Int) < (l.length : Int) := by omega
    have hi0 : (0 : Int) <= (i : Int) := by omega
    obtain ⟨b, o, c, hv, hb, e0, e1, e2, e3⟩ := Evs.at_ HL2.out hlt
    obtain ⟨rfl, rfl⟩ : la = some ⟨b, o, none⟩ /\ lc = c := by simpa using hv
    have HEV := Hyd (evAt_eq hlt); have HSM := Hyd (HIN.out.ok _ (List.getElem_mem hlt))
    obtain ⟨ev, hev⟩ : ∃ ev, l[i] = ev := ⟨_, rfl⟩
    rw [hev] at e0 e1 e2 e3 HEV HSM
    have hb2 : b < w2.heap.size := by omega
    have HE0 := Hyd e0; have HE1 := Hyd e1; have HE2 := Hyd e2; have HE3 := Hyd e3; have z1 := (HBE.out.cell (p := ⟨b, o + i * 4 + 1, none⟩) hb2).trans e1; clear hv e0 e1 e2 e3 hev
    obtain ⟨AL, hAL⟩ : ∃ AL, aliveM p l m i = AL := ⟨_, rfl⟩
    have HALV := Hyd hAL
    go_upto_region 15 with (fail)
    go_cut [96] (fun s96 wx => s96 = .bool (!AL) /\ ∃ nq, wx = wr.drewN nq)
    case first =>
     as_aux_lemma =>
      have hir : (0 : Int) <= (i : Int) := hi0
      by_cases hm0 : m = []
      ·subst hm0
       have hALt : AL = true := by rw [<- hAL]; rfl
       clear hAL; subst hALt; go_wp2_with fail
       go_quiet (fail)
       go_wp2_with fail; go_meet; exact ⟨rfl, nq, rfl⟩
      ·have hml : 0 < m.length := List.length_pos_iff.2 hm0; obtain ⟨vaq, vsq, hq, hma, hms⟩ := HG2.out.mt
       obtain ⟨rfl, rfl⟩ : Value.slice aa m.length ac = vaq /\ Value.slice sa m.length sc = vsq := by simpa using hq
       obtain ⟨b6, o6, c6, hv6, hb6, x6⟩ := sl_at hma hml
       obtain ⟨rfl, rfl⟩ : aa = some ⟨b6, o6, none⟩ /\ ac = c6 := by simpa using hv6
       rw [Nat.add_zero] at x6; have hai := HIN.out.okm.at_ _ (List.getElem_mem hml)
       obtain ⟨P0, hP0⟩ : ∃ P0, m[0].1 = P0 := ⟨_, rfl⟩
       have hP0l : P0 < l.length := by rw [<- hP0]; exact hai
       obtain ⟨b7, o7, c7, hv7, hb7, _, u1, _, _⟩ := Evs.at_ HL2.out hP0l
       obtain ⟨⟨rfl, rfl⟩, rfl⟩ : (b = b7 /\ o = o7) /\ lc = c7 := by simpa using hv7
       have hsm0 := HIN.out.ok _ (List.getElem_mem hP0l); have hev0 := evAt_eq hP0l
       obtain ⟨t0, ht0⟩ : ∃ t0, l[P0].time = t0 := ⟨_, rfl⟩
       rw [ht0] at u1
       have hsm1 : Sm t0 := by rw [<- ht0]; exact hsm0.2.1
       have hsm2 : Sm ev.time := HSM.out.2.1
       have hALd : AL = !decide (p.within < ev.time - t0) := by
        rw [<- hAL]; unfold aliveM; rw [List.head?_eq_getElem?, List.getElem?_eq_getElem hml]
        simp only []
        rw [HEV.out, hP0, hev0, ht0]
       rw [hP0] at x6; have v6 := (HBE.out.cell (p := ⟨b6, o6, none⟩) hb6).trans x6; have v7 := (HBE.out.cell (p := ⟨b, o + P0 * 4 + 1, none⟩) hb2).trans u1
       have hwt : IntKind.i64.wrap (ev.time - t0) = ev.time - t0 := by
        obtain ⟨q1, q2⟩ := hsm1; obtain ⟨q3, q4⟩ := hsm2; exact IntWalk.i64_in _ (by omega)
       have hp0 : (0 : Int) <= (P0 : Int) := (by omega); have hp1 : (P0 : Int) < (l.length : Int) := (by omega); have hmli : (0 : Int) < (m.length : Int) := (by omega); have hwr1 : w.heap.size < wr.heap.size := (by omega); clear hq hma hms hv6 hv7 hai hP0 hsm0 hev0 ht0 x6 u1 hAL
       by_cases hw : p.within < ev.time - t0
       ·have hALf : AL = false := by rw [hALd, decide_eq_true hw]; rfl
        clear hALd; subst hALf; go_wp2_with fail
        go_quiet (fail)
        go_wp2_with fail; go_meet; exact ⟨rfl, nq, rfl⟩
       ·have hALf : AL = true := by rw [hALd, decide_eq_false hw]; rfl
        clear hALd; subst hALf; go_wp2_with fail
        go_quiet (fail)
        go_wp2_with fail; go_meet; exact ⟨by first | rfl | (rw [decide_eq_false (by omega)]; rfl), nq, rfl⟩
    case rest =>
     obtain ⟨rfl, nq, rfl⟩ := hcut
     obtain ⟨wd, hwd⟩ : ∃ wd, wr.drewN nq = wd := ⟨_, rfl⟩
     rw [hwd]
     have hbd : Below wr.heap.size wr wd := by rw [<- hwd]; exact (Mem.Grw.drewN (Mem.Grw.refl wr) nq).below
     have HBD := Hyd (HBE.out.trans (hbd.mono hbs)); have HRD := Hyd (HROW.out.below hbd); have hds := HBD.out.size; clear hwd hbd y0 x1 z1
     cases AL with
     | false =>
      have HEND := Hyd (show OutR w2 (growM p l (f + 1) m) (.slice oa gs.length oc) wd from ⟨gs, by rw [HGS.out]; exact accI_end p l f m i hi1 hi2 HAL.out (.inr HALV.out), HRD.out, HBD.out⟩); go_wp2_with fail; go_ret; obtain ⟨gs', h1, h2, h3⟩ := HEND.out; exact ⟨_, gs', rfl, h1, h2.le (by omega), HBW.out.trans (h3.mono HBW.out.size)⟩
     | true =>
      have HALI := Hyd (show ∀ j, fromM m <= j -> j < i + 1 -> aliveM p l m j = true from fun j h1 h2 => by
       by_cases hj : j < i
       ·exact HAL.out j h1 hj
       ·have : j = i := (by omega)
        rw [this]; exact HALV.out)
      have hnt : (!true) = false := rfl; rw [hnt]; clear hnt; go_wp2_with fail
      go_loopw [8, 13] (fun ov u wr => ∃ s, lastS m <= s /\ s <= lastS m + 2 /\ s <= np /\ u = .int .i64 (s : Nat) /\ OutR w2 (accI p l f m i ++ accS p l f m i s) ov wr) (fun _ u _ => lastS m + 3 - (intOf u).toNat)
      case atStart => exact ⟨lastS m, Nat.le_refl _, by omega, by omega, rfl, gs, by rw [accS_zero, List.append_nil]; exact HGS.out, HRD.out, HBD.out⟩
      case round =>
       clear HRD HBD HROW HBE HGS; obtain ⟨s, hs1, hs2, hs3, rfl, hout⟩ := hrel; obtain ⟨gs, hgs, hrow, hbel⟩ := hout; obtain ⟨oa, oc, rfl⟩ := (Sl.of_own hrow.own).shape; have HROW := Hyd hrow; have HBE := Hyd hbel; have HGS := Hyd hgs
       have hgl : gs.length <= 4000000 := by
        have h1 := congrArg List.length hgs; rw [List.length_map, List.length_append] at h1; have h2 := accI_le p l f m i hn8 hi2; have h3 := accS_le p l f m i s hn8 hlt hs2
        omega
       have hbs := hbel.size; have hwr1 : w.heap.size < wr.heap.size := (by omega); have hs0 : (0 : Int) <= (s : Int) := (by omega); clear hgs hrow hbel
       by_cases hc1 : s <= lastS m + 1
       ·have hc1i : (s : Int) <= (lastS m : Int) + 1 := (by omega)
        by_cases hsp : s < np
        ·have hspi : (s : Int) < (np : Int) := (by omega)
         have hsp' : s < (plc ss ss.length).length := by have := HNP.out; omega
         have hst' : s < p.steps.length := (by omega); obtain ⟨b3, o3, c3, hv3, hb3, x3⟩ := sl_at (show Sl w2 w2.heap.size 1 (.slice pa (plc ss ss.length).length pc) (plc ss ss.length).length ((plc ss ss.length).map fun n => .int .i64 (n : Nat)) by rw [HNP.out]; exact HPO.out) hsp'
         obtain ⟨rfl, rfl⟩ : pa = some ⟨b3, o3, none⟩ /\ pc = c3 := by simpa using hv3
         have hat := HIN.out.pl.plc.at_ s hst' hsp'
         obtain ⟨PL, hPL⟩ : ∃ PL, (plc ss ss.length)[s] = PL := ⟨_, rfl⟩
         rw [hPL] at hat x3; obtain ⟨hbl, hk, hlo, hhi, hts, _, _⟩ := hat; have hpl : PL < ss.length := (by omega); obtain ⟨g5, c5, e5, hg5, d0, d1, d2, d3, vt, d4, hvt⟩ := DocAt.cells HD2.out hpl
         obtain ⟨rfl, rfl⟩ : qa = some ⟨g5, 0, none⟩ /\ qc = c5 := by simpa using e5
         rw [hts] at hvt; rw [hk] at d0; rw [hlo] at d2; rw [hhi] at d3
         obtain ⟨x, hx⟩ : ∃ x, p.steps[s] = x := ⟨_, rfl⟩
         have HTT := Hyd (HIN.out.pl.ok.tst _ (List.getElem_mem hst')); rw [hx] at d0 d2 d3 hvt HTT; have HXS := Hyd hx
         obtain ⟨xk, hxk⟩ : ∃ k, x.kind = k := ⟨_, rfl⟩
         obtain ⟨xlo, hxlo⟩ : ∃ k, x.lo = k := ⟨_, rfl⟩
         obtain ⟨xhi, hxhi⟩ : ∃ k, x.hi = k := ⟨_, rfl⟩
         obtain ⟨ng, hng⟩ : ∃ b, (ss[PL]!).neg = b := ⟨_, rfl⟩
         rw [hxk] at d0; rw [hxlo] at d2; rw [hxhi] at d3; rw [hng] at d1; have HXK := Hyd hxk; have HXH := Hyd hxhi; obtain ⟨ta, tc, rfl⟩ := Sl.shape hvt; have HVT := Hyd hvt; have hg5r : g5 < wr.heap.size := (by omega); have hb3r : b3 < wr.heap.size := (by omega); have HC0 := Hyd ((HBE.out.cell (p := ⟨w.heap.size, 0, none⟩) hx2).trans (show w2.cell? ⟨w.heap.size, 0, none⟩ = some (.slice (some ⟨g5, 0, none⟩) ss.length qc) from (Lib.cell_of_heap HX2.out 0).trans rfl)); have HC1 := Hyd ((HBE.out.cell (p := ⟨b3, o3 + s, none⟩) hb3).trans x3); have hg52 : g5 < w2.heap.size := (by omega); have HC2 := Hyd ((HBE.out.cell (p := ⟨g5, PL * 5, none⟩) hg52).trans d0); have HC3 := Hyd ((HBE.out.cell (p := ⟨g5, PL * 5 + 1, none⟩) hg52).trans d1); have HC4 := Hyd ((HBE.out.cell (p := ⟨g5, PL * 5 + 2, none⟩) hg52).trans d2); have HC5 := Hyd ((HBE.out.cell (p := ⟨g5, PL * 5 + 3, none⟩) hg52).trans d3)
         have HC6 := Hyd ((HBE.out.cell (p := ⟨g5, PL * 5 + 4, none⟩) hg52).trans d4); clear hv3 hPL hbl hk hlo hhi hts e5 d0 d1 d2 d3 d4 hx hxk hxlo hxhi hng hvt x3
         go_upto_region 19 with (fail)
         refine Reg.stand_order (W := wr) (h := 9) (t := 1)
          [⟨0, 110, [], 99, [], none, fun v _ => v = .pointer (some ⟨w.heap.size, 0, none⟩)⟩,
           ⟨1, 111, [], 99, [], none, fun v _ => v = .slice (some ⟨g5, 0, none⟩) ss.length qc⟩,
           ⟨2, 112, [], 99, [], none, fun v _ => v = .slice (some ⟨b3, o3, none⟩) np pc⟩,
           ⟨3, 113, [], 99, [], none, fun v _ => v = .int .i64 (s : Nat)⟩,
           ⟨4, 114, [], 99, [], none, fun v _ => v = .pointer (some ⟨b3, o3 + s, none⟩)⟩,
           ⟨5, 115, [], 99, [], none, fun v _ => v = .int .i64 (PL : Nat)⟩,
           ⟨6, 116, [], 99, [], none, fun v _ => v = .pointer (some ⟨g5, PL * 5, none⟩)⟩,
           ⟨7, 117, [], 99, [], none, fun v _ => v = .agg #[.int .u8 xk, .bool ng, .int .i64 xlo, .int .i64 xhi, .slice ta x.tests.length tc]⟩,
           ⟨8, 14, [107], 99, [], none, fun v w' => ∃ g, v = .pointer (some ⟨g, 0, none⟩) /\ wr.heap.size <= g /\ w'.heap[g]? = some (.cells #[.int .u8 0, .bool false, .int .i64 0, .int .i64 0, .slice none 0 0] 107 (0, 0))⟩]
          []
          (by kernel_rfl) rfl (by kernel_rfl) (by kernel_rfl) (by kernel_rfl) (show [0, 1, 2, 3, 4, 5, 6, 7, 8].Nodup by decide) (show ∀ i, i < 9 -> i ∈ [0, 1, 2, 3, 4, 5, 6, 7, 8] by decide) ?_ (show [110, 111, 112, 113, 114, 115, 116, 117, 14].Nodup by decide) (show ∀ s ∈ [110, 111, 112, 113, 114, 115, 116, 117, 14], s < 197 by decide) (by kernel_rfl) ?_ ?_ (Below.refl _ _) ?_ ?_ ?_
         ·intro f hf
          simp only [List.mem_cons, List.not_mem_nil, or_false] at hf
          rcases hf with rfl | rfl | rfl | rfl | rfl | rfl | rfl | rfl | rfl <;> simp
         ·intro f hf v w1 w2 hk hF
          simp only [List.mem_cons, List.not_mem_nil, or_false] at hf
          rcases hf with rfl | rfl | rfl | rfl | rfl | rfl | rfl | rfl | rfl
          ·exact hF
          ·exact hF
          ·exact hF
          ·exact hF
          ·exact hF
          ·exact hF
          ·exact hF
          ·exact hF
          ·obtain ⟨g, e1, e2, e3⟩ := hF; exact ⟨g, e1, e2, (hk 107 (by simp)).2 _ _ e3⟩
         ·intro f hf; cases hf
         ·intro f hf; cases hf
         ·intro f hf a w1 hs hg' hst; have t3 : a.eval (.tmp 3) = .pointer (some ⟨w.heap.size, 0, none⟩) := Reg.eval_tmp ((hs.out 3 (show 3 ∉ [110, 111, 112, 113, 114, 115, 116, 117, 14] by decide)).trans rfl); have t7 : a.eval (.tmp 7) = .slice (some ⟨b3, o3, none⟩) np pc := Reg.eval_tmp ((hs.out 7 (show 7 ∉ [110, 111, 112, 113, 114, 115, 116, 117, 14] by decide)).trans rfl); have t13 : a.eval (.tmp 13) = .int .i64 (s : Nat) := Reg.eval_tmp ((hs.out 13 (show 13 ∉ [110, 111, 112, 113, 114, 115, 116, 117, 14] by decide)).trans rfl)
          simp only [List.mem_cons, List.not_mem_nil, or_false] at hf
          rcases hf with rfl | rfl | rfl | rfl | rfl | rfl | rfl | rfl | rfl
          ·have u1 := t3; exact Reg.step_val (w' := w1) (v := .pointer (some ⟨w.heap.size, 0, none⟩)) rfl rfl rfl (Ord.run_fld u1 (by go_simp)) rfl hs.below (fun e => Reg.Keeps.refl e _)
          ·obtain ⟨v1, hv1, rfl⟩ : ∃ v, a.tmps[110]? = some v /\ v = .pointer (some ⟨w.heap.size, 0, none⟩) := hg' _ (Reg.at_fact 0 rfl) (by kernel_rfl) (by simp [Reg.okTil])
           have u1 := Reg.eval_tmp hv1; exact Reg.step_val rfl rfl rfl (Reg.run_load u1 (load_poss20 ((hs.below.cell (p := ⟨w.heap.size, 0, none⟩) hwr1).trans HC0.out))) rfl hs.below (fun e => Reg.Keeps.refl e _)
          ·have u1 := t7; exact Reg.step_val rfl rfl rfl (Reg.run_move u1) rfl hs.below (fun e => Reg.Keeps.refl e _)
          ·have u1 := t13; exact Reg.step_val rfl rfl rfl (Reg.run_move u1) rfl hs.below (fun e => Reg.Keeps.refl e _)
          ·obtain ⟨v1, hv1, rfl⟩ : ∃ v, a.tmps[112]? = some v /\ v = .slice (some ⟨b3, o3, none⟩) np pc := hg' _ (Reg.at_fact 2 rfl) (by kernel_rfl) (by simp [Reg.okTil])
           obtain ⟨v2, hv2, rfl⟩ : ∃ v, a.tmps[113]? = some v /\ v = .int .i64 (s : Nat) := hg' _ (Reg.at_fact 3 rfl) (by kernel_rfl) (by simp [Reg.okTil])
           have u1 := Reg.eval_tmp hv1; have u2 := Reg.eval_tmp hv2; exact Reg.step_val (w' := w1) (v := .pointer (some ⟨b3, o3 + s, none⟩)) rfl rfl rfl (ix_int u1 u2 hsp) rfl hs.below (fun e => Reg.Keeps.refl e _)
          ·obtain ⟨v1, hv1, rfl⟩ : ∃ v, a.tmps[114]? = some v /\ v = .pointer (some ⟨b3, o3 + s, none⟩) := hg' _ (Reg.at_fact 4 rfl) (by kernel_rfl) (by simp [Reg.okTil])
           have u1 := Reg.eval_tmp hv1; exact Reg.step_val rfl rfl rfl (Reg.run_load u1 (load_int ((hs.below.cell (p := ⟨b3, o3 + s, none⟩) hb3r).trans HC1.out))) rfl hs.below (fun e => Reg.Keeps.refl e _)
          ·obtain ⟨v1, hv1, rfl⟩ : ∃ v, a.tmps[111]? = some v /\ v = .slice (some ⟨g5, 0, none⟩) ss.length qc := hg' _ (Reg.at_fact 1 rfl) (by kernel_rfl) (by simp [Reg.okTil])
           obtain ⟨v2, hv2, rfl⟩ : ∃ v, a.tmps[115]? = some v /\ v = .int .i64 (PL : Nat) := hg' _ (Reg.at_fact 5 rfl) (by kernel_rfl) (by simp [Reg.okTil])
           have u1 := Reg.eval_tmp hv1; have u2 := Reg.eval_tmp hv2; exact Reg.step_val (w' := w1) (v := .pointer (some ⟨g5, PL * 5, none⟩)) rfl rfl rfl (ix_pos20 u1 u2 hpl) rfl hs.below (fun e => Reg.Keeps.refl e _)
          ·obtain ⟨v1, hv1, rfl⟩ : ∃ v, a.tmps[116]? = some v /\ v = .pointer (some ⟨g5, PL * 5, none⟩) := hg' _ (Reg.at_fact 6 rfl) (by kernel_rfl) (by simp [Reg.okTil])
           have u1 := Reg.eval_tmp hv1; exact Reg.step_val rfl rfl rfl (Reg.run_load u1 (load_pos20 ((hs.below.cell (p := ⟨g5, PL * 5, none⟩) hg5r).trans HC2.out) ((hs.below.cell (p := ⟨g5, PL * 5 + 1, none⟩) hg5r).trans HC3.out) ((hs.below.cell (p := ⟨g5, PL * 5 + 2, none⟩) hg5r).trans HC4.out) ((hs.below.cell (p := ⟨g5, PL * 5 + 3, none⟩) hg5r).trans HC5.out) ((hs.below.cell (p := ⟨g5, PL * 5 + 4, none⟩) hg5r).trans HC6.out))) rfl hs.below (fun e => Reg.Keeps.refl e _)
          ·exact Reg.step_val rfl rfl rfl (run_alloc_pos20 (w := w1)) ⟨w1.heap.size, rfl, hs.below.size, heap_new rfl⟩ (hs.below.alloc hs.below.size _) (fun e => Reg.Keeps.alloc e _ _)
         ·intro vals w1 hF hfx hb1; have e117 : vals 117 = .agg #[.int .u8 xk, .bool ng, .int .i64 xlo, .int .i64 xhi, .slice ta x.tests.length tc] := hF _ (Reg.at_fact 7 rfl) (show (9 + 1 : Nat) <= 99 by decide)
          obtain ⟨g, e14, hgb, hgx⟩ : ∃ g, vals 14 = .pointer (some ⟨g, 0, none⟩) /\ wr.heap.size <= g /\ w1.heap[g]? = some (.cells #[.int .u8 0, .bool false, .int .i64 0, .int .i64 0, .slice none 0 0] 107 (0, 0)) := hF _ (Reg.at_fact 8 rfl) (show (9 + 1 : Nat) <= 99 by decide)
          simp only [List.map_cons, List.map_nil, e117, e14]
          generalize vals 110 = q110; generalize vals 111 = q111; generalize vals 112 = q112; generalize vals 113 = q113; generalize vals 114 = q114; generalize vals 115 = q115; generalize vals 116 = q116; have HB1 := Hyd hb1; have HGC := Hyd hgx; have HGB := Hyd hgb; have z0 : w1.cell? ⟨g, 0, none⟩ = some (.int .u8 0) := (Lib.cell_of_heap hgx 0).trans rfl; have z1 : w1.cell? ⟨g, 1, none⟩ = some (.bool false) := (Lib.cell_of_heap hgx 1).trans rfl; have z2 : w1.cell? ⟨g, 2, none⟩ = some (.int .i64 0) := (Lib.cell_of_heap hgx 2).trans rfl; have z3 : w1.cell? ⟨g, 3, none⟩ = some (.int .i64 0) := (Lib.cell_of_heap hgx 3).trans rfl; have z4 : w1.cell? ⟨g, 4, none⟩ = some (.slice none 0 0) := (Lib.cell_of_heap hgx 4).trans rfl; have f0 := frozen_of_row w1 _ 0 _ _ hgx; have f1 := frozen_of_row w1 _ 1 _ _ hgx; have f2 := frozen_of_row w1 _ 2 _ _ hgx; have f3 := frozen_of_row w1 _ 3 _ _ hgx
          have f4 := frozen_of_row w1 _ 4 _ _ hgx; clear hF hfx e117 e14 hb1 hgb hgx; unfold Reg.puts Reg.puts Reg.puts Reg.puts Reg.puts Reg.puts Reg.puts Reg.puts Reg.puts Reg.puts
          go_upto_region 20 with (fail)
          obtain ⟨w5, hw5⟩ : ∃ w5, w5 = ((((w1.setCell ⟨g, 0, none⟩ (.int .u8 xk)).setCell ⟨g, 1, none⟩ (.bool ng)).setCell ⟨g, 2, none⟩ (.int .i64 xlo)).setCell ⟨g, 3, none⟩ (.int .i64 xhi)).setCell ⟨g, 4, none⟩ (.slice ta x.tests.length tc) := ⟨_, rfl⟩
          have HX5 := Hyd (show w5.heap[g]? = some (.cells #[.int .u8 xk, .bool ng, .int .i64 xlo, .int .i64 xhi, .slice ta x.tests.length tc] 107 (0, 0)) by rw [hw5]; exact (blk_setc (blk_setc (blk_setc (blk_setc (blk_setc HGC.out 0 _) 1 _) 2 _) 3 _) 4 _).trans rfl)
          have hb5 : Below wr.heap.size wr w5 := by rw [hw5]; exact ((((HB1.out.setCell (p := ⟨g, 0, none⟩) HGB.out _).setCell (p := ⟨g, 1, none⟩) HGB.out _).setCell (p := ⟨g, 2, none⟩) HGB.out _).setCell (p := ⟨g, 3, none⟩) HGB.out _).setCell (p := ⟨g, 4, none⟩) HGB.out _
          rw [<- hw5]; clear hw5 z0 z1 z2 z3 z4 f0 f1 f2 f3 f4; have HBE5 := Hyd (HBE.out.trans (hb5.mono hbs)); have HROW5 := Hyd (HROW.out.below hb5); have hg5w : g < w5.heap.size := heap_lt HX5.out; have hgw2 : w2.heap.size <= g := Nat.le_trans hbs HGB.out; have h5s := HBE5.out.size; clear hb5 HROW HBE; have y0k : w5.cell? ⟨g, 0, none⟩ = some (.int .u8 xk) := (Lib.cell_of_heap HX5.out 0).trans rfl; have y2k : w5.cell? ⟨g, 3, none⟩ = some (.int .i64 xhi) := (Lib.cell_of_heap HX5.out 3).trans rfl
          have HKO := Hyd (show kidOk p l m i s = ((if s = lastS m then decide ((countM m : Int) < xhi) else (match p.steps[lastS m]? with | none => false | some y => decide (y.lo <= (countM m : Int))) && !barredM p l m (lastS m) i) && (((evAt l i).kind == xk) && allP x.tests (pmM l m) s (evAt l i))) by
           unfold kidOk; rw [List.getElem?_eq_getElem hst', HXS.out]
           simp only []
           rw [<- HXK.out, <- HXH.out]
           rfl)
          by_cases hse : s = lastS m
          ·by_cases hhi : (countM m : Int) < xhi
           ·as_aux_lemma =>
             have hsei : ((s : Int) == (lastS m : Int)) = true := by simp [hse]
             have hhi2 : ¬ xhi <= (countM m : Int) := (by omega); have hsgt : ¬ (lastS m : Int) < (s : Int) := (by omega); have hd21 : decide ((lastS m : Int) < (s : Int)) = false := decide_eq_false (by omega); have hd21n : decide (lastS m < s) = false := decide_eq_false (by omega); have hse2 : s <= lastS m := (by omega); have HSE := Hyd hse; have HHI := Hyd hhi; clear hse hhi hhi2
             have hhi2 : ¬ xhi <= (countM m : Int) := by have := HHI.out; omega
             go_wp2_with fail
             go_quiet (fail)
             obtain ⟨w6, hw6⟩ : ∃ w6, w5.drewN nq = w6 := ⟨_, rfl⟩
             rw [hw6]; have HG6 := Hyd (show Mem.Grw w5 w6 by rw [<- hw6]; exact (Mem.Grw.refl _).drewN _); have HBE6 := Hyd (HBE5.out.trans (HG6.out.below.mono h5s)); have HROW6 := Hyd (HROW5.out.below HG6.out.below); have HX6 := Hyd ((HG6.out.below.block _ hg5w).trans HX5.out); have hg6w : g < w6.heap.size := heap_lt HX6.out; have h6s := HBE6.out.size; clear hw6 y0k y2k; have hw6w : w.heap.size + 1 < w6.heap.size := (by omega); have hb6w : b < w6.heap.size := (by omega)
             have ya0 : ∀ n os, (grow (w6.drewN n) os).cell? ⟨g, 4, none⟩ = some (.slice ta x.tests.length tc) := cell_grown hg6w ((Lib.cell_of_heap HX6.out 4).trans rfl)
             have ya1 : ∀ n os, (grow (w6.drewN n) os).cell? ⟨w.heap.size + 1, 0, none⟩ = some (.slice aa m.length ac) := cell_grown hw6w ((HBE6.out.cell (p := ⟨w.heap.size + 1, 0, none⟩) hy2).trans ((Lib.cell_of_heap HY2.out 0).trans rfl))
             have ya2 : ∀ n os, (grow (w6.drewN n) os).cell? ⟨w.heap.size + 1, 1, none⟩ = some (.slice sa m.length sc) := cell_grown hw6w ((HBE6.out.cell (p := ⟨w.heap.size + 1, 1, none⟩) hy2).trans ((Lib.cell_of_heap HY2.out 1).trans rfl))
             have ue0 : ∀ n os, (grow (w6.drewN n) os).cell? ⟨b, o + i * 4, none⟩ = some (.int .i64 ev.id) := cell_grown hb6w ((HBE6.out.cell (p := ⟨b, o + i * 4, none⟩) hb2).trans HE0.out)
             have ue1 : ∀ n os, (grow (w6.drewN n) os).cell? ⟨b, o + i * 4 + 1, none⟩ = some (.int .i64 ev.time) := cell_grown hb6w ((HBE6.out.cell (p := ⟨b, o + i * 4 + 1, none⟩) hb2).trans HE1.out)
             have ue2 : ∀ n os, (grow (w6.drewN n) os).cell? ⟨b, o + i * 4 + 2, none⟩ = some (.int .u8 ev.kind) := cell_grown hb6w ((HBE6.out.cell (p := ⟨b, o + i * 4 + 2, none⟩) hb2).trans HE2.out)
             have ue3 : ∀ n os, (grow (w6.drewN n) os).cell? ⟨b, o + i * 4 + 3, none⟩ = some (.int .i64 ev.val) := cell_grown hb6w ((HBE6.out.cell (p := ⟨b, o + i * 4 + 3, none⟩) hb2).trans HE3.out)
             obtain ⟨A, hA⟩ : ∃ A, allP x.tests (pmM l m) s ev = A := ⟨_, rfl⟩
             have hbg : ∀ n os, Below w2.heap.size w2 (grow (w6.drewN n) os) := fun n os => HBE6.out.trans ((show Mem.Grw w6 (grow (w6.drewN n) os) from ⟨n, os, rfl⟩).below.mono h6s)
             have HQ := Hyd (fun n os => all21 x.tests (.slice ta x.tests.length tc) (.agg #[.slice aa m.length ac, .slice sa m.length sc]) (.slice (some ⟨b, o, none⟩) l.length lc) m l s w2.heap.size ev (grow (w6.drewN n) os)
              (Sl.keep (Sl.more HVT.out hB2) fun a ha => (hbg n os).cell ha) HTT.out.1 HTT.out.2 (HG2.out.mt.below (hbg n os)) (Sl.below (Sl.more HL2.out hB2) (hbg n os)) (hbg n os).size HIN.out.okm (by omega) HSM.out.1 (fun y hy => (HIN.out.ok y hy).1))
             rw [hA] at HQ; have HAV := Hyd hA; clear hA hbg; go_wp2_with fail
             go_quiet_grown (first | (go_at_call 45; exact Mem.Grw.grown (HQ.out _ _)) | exact Mem.Grw.grown (HQ.out _ _))
             have HG7 := Hyd (show Mem.Grw w6 (grow (w6.drewN nq) osq) from ⟨nq, osq, rfl⟩); have u2 := ue2 nq osq; change Exit.then _ _ Exit.normal _ (grow (w6.drewN nq) osq); clear ya0 ya1 ya2 ue0 ue1 ue2 ue3 HQ; generalize grow (w6.drewN nq) osq = w7 at *; have HBE7 := Hyd (HBE6.out.trans (HG7.out.below.mono h6s)); have HROW7 := Hyd (HROW6.out.below HG7.out.below); have u0 : w7.cell? ⟨g, 0, none⟩ = some (.int .u8 xk) := HG7.out.cell hg6w ((Lib.cell_of_heap HX6.out 0).trans rfl); have h7s := HBE7.out.size
             have hg7w : g < w7.heap.size := by have := HG7.out.size; omega
             have hb7w : b < w7.heap.size := (by omega)
             cases A with
             | false =>
              have HKN := Hyd (show kidOk p l m i s = false by rw [HKO.out, HEV.out, HAV.out, Bool.and_false, Bool.and_false]); go_wp2_with fail
              go_quiet (fail)
              have HBE8 := Hyd (HBE7.out.trans (((Mem.Grw.refl w7).drewN nq).below.mono h7s)); have HROW8 := Hyd (HROW7.out.below ((Mem.Grw.refl w7).drewN nq).below); have HRL := Hyd (show OutR w2 (accI p l f m i ++ accS p l f m i (s + 1)) (.slice oa gs.length oc) (w7.drewN nq) from ⟨gs, by rw [HGS.out, accS_succ _ _ _ _ _ _ hs1, kidG_no HKN.out]; simp, HROW8.out, HBE8.out⟩); go_wp2_with fail; go_roundw
              case rel => exact ⟨s + 1, by omega, by omega, by omega, by go_num, HRL.out⟩
              case measure => simp [intOf]; omega
             | true =>
              by_cases hkd : ev.kind = xk
              ·have hkq : (ev.kind != xk) = false := by simp [hkd]
               have HKP := Hyd (show kidOk p l m i s = true by rw [HKO.out, HEV.out, HAV.out, hkd]; rw [if_pos HSE.out, decide_eq_true HHI.out]; simp); go_wp2_with fail
               go_quiet (fail)
               obtain ⟨w8, hw8⟩ : ∃ w8, w7.drewN nq = w8 := ⟨_, rfl⟩
               rw [hw8]; have HB78 := Hyd (show Below w7.heap.size w7 w8 by rw [<- hw8]; exact ((Mem.Grw.refl w7).drewN nq).below); have HBE8 := Hyd (HBE7.out.trans (HB78.out.mono h7s)); have HROW8 := Hyd (HROW7.out.below HB78.out); have h8s := HBE8.out.size; clear hw8 u0 u2; have HMW := Hyd ((HG2.out.mt.below HBE8.out).more HBE8.out.size); have kb0 : w8.cell? ⟨w.heap.size + 1, 0, none⟩ = some (.slice aa m.length ac) := (HBE8.out.cell (p := ⟨w.heap.size + 1, 0, none⟩) hy2).trans ((Lib.cell_of_heap HY2.out 0).trans rfl); have kb1 : w8.cell? ⟨w.heap.size + 1, 1, none⟩ = some (.slice sa m.length sc) := (HBE8.out.cell (p := ⟨w.heap.size + 1, 1, none⟩) hy2).trans ((Lib.cell_of_heap HY2.out 1).trans rfl); have HWI := Hyd (with21 (.agg #[.slice aa m.length ac, .slice sa m.length sc]) m i s w8 HMW.out (by omega)); go_wp2_with fail; refine HWI.out.mono ?_; rintro e w9 ⟨vaN, vsN, rfl, hown, hb9⟩
               obtain ⟨A1, k1, hA1⟩ := (Sl.of_own (show w9.ownsRow w8.heap.size 3 1 vaN (m ++ [(i, s)]).length (atsV (m ++ [(i, s)])) from hown.1)).shape; obtain ⟨A2, k2, hA2⟩ := (Sl.of_own (show w9.ownsRow w8.heap.size 3 1 vsN (m ++ [(i, s)]).length (stsV (m ++ [(i, s)])) from hown.2)).shape
               obtain ⟨nn, hnn⟩ : ∃ nn, (m ++ [(i, s)]).length = nn := ⟨_, rfl⟩
               rw [hnn] at hA1 hA2; subst hA1 hA2
               obtain ⟨wa, hwa⟩ : ∃ wa, wa = w9.alloc (.cells #[.slice A1 nn k1, .slice A2 nn k2] 84) := ⟨_, rfl⟩
               have HBA := Hyd (show Below w8.heap.size w8 wa from hb9.trans (by rw [hwa]; exact ((Below.refl _ w9).alloc (Nat.le_refl _) _).mono hb9.size)); have HXA := Hyd (show wa.heap[w9.heap.size]? = some (.cells #[.slice A1 nn k1, .slice A2 nn k2] 84 (0, 0)) by rw [hwa]; exact heap_new rfl); have HOA := Hyd (show OwnM 0 wa (.slice A1 nn k1, .slice A2 nn k2, m ++ [(i, s)]) from (hown.le (Nat.zero_le _)).below (by rw [hwa]; exact (Below.refl _ w9).alloc (Nat.le_refl _) _)); have HWA := Hyd hwa; have HBEA := Hyd (HBE8.out.trans (HBA.out.mono h8s)); have HROWA := Hyd (HROW8.out.below HBA.out); have has := HBEA.out.size; have h9a : w9.heap.size < wa.heap.size := heap_lt HXA.out; clear hwa hown hb9 hnn kb0 kb1
               go_upto_region 28 with (fail)
               rw [<- HWA.out]
               obtain ⟨b9, hb9⟩ : ∃ b9, w9.heap.size = b9 := ⟨_, rfl⟩
               rw [hb9] at HXA ⊢; have kc0 : wa.cell? ⟨b9, 0, none⟩ = some (.slice A1 nn k1) := (Lib.cell_of_heap HXA.out 0).trans rfl; have kc1 : wa.cell? ⟨b9, 1, none⟩ = some (.slice A2 nn k2) := (Lib.cell_of_heap HXA.out 1).trans rfl; have kp0 : wa.cell? ⟨w.heap.size, 0, none⟩ = some (.slice (some ⟨g5, 0, none⟩) ss.length qc) := (HBEA.out.cell (p := ⟨w.heap.size, 0, none⟩) hx2).trans ((Lib.cell_of_heap HX2.out 0).trans rfl); have kp1 : wa.cell? ⟨w.heap.size, 1, none⟩ = some (.int .i64 p.within) := (HBEA.out.cell (p := ⟨w.heap.size, 1, none⟩) hx2).trans ((Lib.cell_of_heap HX2.out 1).trans rfl); have HGR := Hyd (HIH.out (.slice A1 nn k1, .slice A2 nn k2, m ++ [(i, s)]) wa (by rw [fromM_snoc]; omega) (HIN.out.more hi1 hlt hst' (by omega)) (DocAt.keep HD2.out fun a _ ha => HBEA.out.cell (Nat.lt_of_lt_of_le ha hB2)) (Sl.keep HL2.out fun a ha => HBEA.out.cell (Nat.lt_of_lt_of_le ha hB2)) (Nat.le_trans hB2 has) HOA.out)
               clear hb9 h9a; go_wp2_with fail; refine HGR.out.mono ?_; rintro e wb ⟨mv, gs', rfl, hgs', hrow', hbb⟩; obtain ⟨ra, rc, rfl⟩ := (Sl.of_own hrow'.own).shape; have HGS' := Hyd hgs'
               have hgl' : gs'.length <= 65536 := by
                have h1 := congrArg List.length hgs'; rw [List.length_map] at h1; rw [h1]; exact growM_le p l f _ hn8 (by rw [fromM_snoc]; omega)
               have HBEB := Hyd (HBEA.out.trans (hbb.mono has)); have HROWB := Hyd (HROWA.out.below hbb); have HMO := Hyd hrow'
               have HAP := Hyd (show Reg.Apart (.slice ra gs'.length rc) (.slice oa gs.length oc) from fun k h1 h2 => by
                have q1 := (Mem.own_lt hrow'.own k h1).1; have q2 := (Mem.own_lt HROWA.out.own k h2).2
                omega)
               clear hgs' hrow' hbb kc0 kc1 kp0 kp1 HGR HIH; go_wp2_with fail
               go_loopw [8, 19] (fun ov u wr => ∃ k, k <= gs'.length /\ u = .int .i64 (k : Nat) /\ ∃ hs : List MG, hs.map (·.2.2) = accI p l f m i ++ accS p l f m i s ++ (gs'.take k).map (·.2.2) /\ RowM w2.heap.size wr ov hs /\ Below w2.heap.size w2 wr /\ RowM wa.heap.size wr (.slice ra gs'.length rc) gs' /\ Reg.Apart (.slice ra gs'.length rc) ov) (fun _ u _ => gs'.length - (intOf u).toNat)
               case atStart => exact ⟨0, Nat.zero_le _, rfl, gs, by rw [HGS.out]; simp, HROWB.out, HBEB.out, HMO.out, HAP.out⟩
               case round =>
                obtain ⟨k, hk, rfl, hs', hm', hro, hbe, hmo, hap⟩ := hrel; obtain ⟨oa', oc', rfl⟩ := (Sl.of_own hro.own).shape
                have hhl : hs'.length <= 5000000 := by
                 have h1 := congrArg List.length hm'; rw [List.length_map, List.length_append, List.length_append, List.length_map, List.length_take] at h1; have h2 := accI_le p l f m i hn8 hi2; have h3 := accS_le p l f m i s hn8 hlt hs2
                 omega
                have HM2 := Hyd hm'; have HRO := Hyd hro; have HBE2 := Hyd hbe; have HMO2 := Hyd hmo; have HAP2 := Hyd hap; have hbes := hbe.size; clear hm' hro hbe hmo hap
                by_cases hkl : k < gs'.length
                ·have hki : (k : Int) < (gs'.length : Int) := (by omega); have hk0 : (0 : Int) <= (k : Int) := (by omega); obtain ⟨g8, c8, a1, d1, a2, d2, hv8, hg8, eq1, eq2, x1, x2, hel⟩ := HMO2.out.at_ hkl
                 obtain ⟨rfl, rfl⟩ : ra = some ⟨g8, 0, none⟩ /\ rc = c8 := by simpa using hv8
                 have HTK := Hyd (List.take_succ_eq_append_getElem (l := gs') (i := k) hkl)
                 obtain ⟨x9, hx9⟩ : ∃ x9, gs'[k] = x9 := ⟨_, rfl⟩
                 rw [hx9] at eq1 eq2 x1 x2 hel HTK; obtain ⟨p1, p2, m9⟩ := x9
                 simp only at eq1 eq2 x1 x2
                 subst eq1 eq2; have HEL := Hyd hel; obtain ⟨i0, hi9, hz0', hz1', hz2'⟩ := info_parts infoMt; have HNA := Hyd (Reg.own_new (w := wr) (b := 0) (e := 84) (sz := 2) (n := 1) (cs := #[.slice a1 m9.length d1, .slice a2 m9.length d2]) rfl (Nat.zero_le _) rfl (by decide)); have HNB := Hyd (show Below wr.heap.size wr (wr.alloc (.cells #[.slice a1 m9.length d1, .slice a2 m9.length d2] 84)) from (Below.refl _ _).alloc (Nat.le_refl _) _); clear hv8 hx9 hel
                 go_wp2_with (at_builtin; refine Reg.wpList_append_src _ rfl (.tmp 189) (.tmp 194) 81 rfl w2.heap.size 0 84 i0 _ 2 48 Tryz.underlying81 hi9 hz0' hz1' hz2' rfl (by decide) _ _ hs'.length 1 _ _ rfl (own_below HRO.out.own HNB.out) rfl HNA.out ?sd1 ?sd2 ?sd3 ?sd4 ?_)
                 case sd1 => first | exact HEL.out.one | exact ⟨rfl, rfl⟩
                 case sd2 => unfold maxLen; omega
                 case sd3 => omega
                 case sd4 => omega
                 intro v' w5 ho5 hg5 hv5; have HSN := Hyd (RowM.snoc (g := (.slice a1 m9.length d1, .slice a2 m9.length d2, m9)) HRO.out hbes HEL.out ho5 hg5); have HMO3 := Hyd (show RowM wa.heap.size w5 (.slice (some ⟨g8, 0, none⟩) gs'.length rc) gs' from ⟨Reg.own_apart (own_below HMO2.out.own HNB.out) HAP2.out hg5, fun y hy => ((HMO2.out.els y hy).below HNB.out).keeps (Reg.Keeps.grown (show 3 ≠ 84 by decide) (own_below HRO.out.own HNB.out) hg5)⟩); have HAP3 := Hyd (show Reg.Apart (.slice (some ⟨g8, 0, none⟩) gs'.length rc) v' from Reg.Apart.grown HAP2.out (own_below HMO2.out.own HNB.out) (by rcases hv5 with h | h; exact .inl h; exact .inr (by rw [h]; simp)))
                 have HRL := Hyd (show ∃ k', k' <= gs'.length /\ Value.int .i64 ((k : Int) + 1) = .int .i64 (k' : Nat) /\ ∃ hs : List MG, hs.map (·.2.2) = accI p l f m i ++ accS p l f m i s ++ (gs'.take k').map (·.2.2) /\ RowM w2.heap.size w5 v' hs /\ Below w2.heap.size w2 w5 /\ RowM wa.heap.size w5 (.slice (some ⟨g8, 0, none⟩) gs'.length rc) gs' /\ Reg.Apart (.slice (some ⟨g8, 0, none⟩) gs'.length rc) v' from
                  ⟨k + 1, hkl, rfl, _, by rw [List.map_append, HM2.out, HTK.out, List.map_append]; simp, HSN.out.1, HBE2.out.trans HSN.out.2, HMO3.out, HAP3.out⟩)
                 clear ho5 hg5 hv5 hi9 hz0' hz1' hz2' HNA HNB HSN HMO3 HAP3; go_wp2_with fail; go_roundw
                 case rel => exact HRL.out
                 case measure => simp [intOf]; omega
                ·obtain rfl : k = gs'.length := by omega
                 have HRL := Hyd (show ∃ s', lastS m <= s' /\ s' <= lastS m + 2 /\ s' <= np /\ Value.int .i64 ((s : Int) + 1) = .int .i64 (s' : Nat) /\ OutR w2 (accI p l f m i ++ accS p l f m i s') (.slice oa' hs'.length oc') wr from ⟨s + 1, by omega, by omega, by omega, rfl, hs', by rw [HM2.out, List.take_length, HGS'.out, accS_succ _ _ _ _ _ _ hs1, kidG_yes HKP.out, List.append_assoc], HRO.out, HBE2.out⟩); go_wp2_with fail; go_roundw
                 case rel => exact HRL.out
                 case measure => simp [intOf]; omega
              ·have hkq : (ev.kind != xk) = true := by simp [hkd]
               have HKN := Hyd (show kidOk p l m i s = false by
                have hk2 : (ev.kind == xk) = false := by rw [beq_eq_false_iff_ne]; exact hkd
                rw [HKO.out, HEV.out, hk2, Bool.false_and, Bool.and_false])
               go_wp2_with fail
               go_quiet (fail)
               have HBE8 := Hyd (HBE7.out.trans (((Mem.Grw.refl w7).drewN nq).below.mono h7s)); have HROW8 := Hyd (HROW7.out.below ((Mem.Grw.refl w7).drewN nq).below); have HRL := Hyd (show OutR w2 (accI p l f m i ++ accS p l f m i (s + 1)) (.slice oa gs.length oc) (w7.drewN nq) from ⟨gs, by rw [HGS.out, accS_succ _ _ _ _ _ _ hs1, kidG_no HKN.out]; simp, HROW8.out, HBE8.out⟩); go_wp2_with fail; go_roundw
               case rel => exact ⟨s + 1, by omega, by omega, by omega, by go_num, HRL.out⟩
               case measure => simp [intOf]; omega
           ·as_aux_lemma =>
             have HKN := Hyd (show kidOk p l m i s = false by rw [HKO.out, if_pos hse, decide_eq_false hhi, Bool.false_and])
             have hsei : ((s : Int) == (lastS m : Int)) = true := by simp [hse]
             have hhi2 : xhi <= (countM m : Int) := (by omega); have hse2 : s <= lastS m := (by omega); clear hse hhi; have HRL := Hyd (show OutR w2 (accI p l f m i ++ accS p l f m i (s + 1)) (.slice oa gs.length oc) w5 from ⟨gs, by rw [HGS.out, accS_succ _ _ _ _ _ _ hs1, kidG_no HKN.out]; simp, HROW5.out, HBE5.out⟩); go_wp2_with fail; go_roundw
             case rel => exact ⟨s + 1, by omega, by omega, by omega, by go_num, HRL.out⟩
             case measure => simp [intOf]; omega
          ·have hsn : s = lastS m + 1 := (by omega)
           as_aux_lemma =>
            have HSE := Hyd hse; have hsn1 : lastS m + 1 <= s := (by omega); have hsn2 : s <= lastS m + 1 := (by omega)
            have hsei : ((s : Int) == (lastS m : Int)) = false := by rw [beq_eq_false_iff_ne]; omega
            have hsgt : (lastS m : Int) < (s : Int) := (by omega)
            have hsl : lastS m < (plc ss ss.length).length := by have := HNP.out; omega
            obtain ⟨b4, o4, c4, hv4, hb4, x4⟩ := sl_at (show Sl w2 w2.heap.size 1 (.slice (some ⟨b3, o3, none⟩) (plc ss ss.length).length pc) (plc ss ss.length).length ((plc ss ss.length).map fun n => .int .i64 (n : Nat)) by rw [HNP.out]; exact HPO.out) hsl
            obtain ⟨⟨rfl, rfl⟩, rfl⟩ : (b3 = b4 /\ o3 = o4) /\ pc = c4 := by simpa using hv4
            have hat4 := HIN.out.pl.plc.at_ (lastS m) hlast hsl
            obtain ⟨PL4, hPL4⟩ : ∃ PL4, (plc ss ss.length)[lastS m] = PL4 := ⟨_, rfl⟩
            rw [hPL4] at hat4 x4; obtain ⟨hbl4, _, hlo4, _⟩ := hat4; have hpl4 : PL4 < ss.length := (by omega); obtain ⟨g6, c6, e6, _, _, _, d26, _⟩ := DocAt.cells HD2.out hpl4
            obtain ⟨rfl, rfl⟩ : g5 = g6 /\ qc = c6 := by simpa using e6
            rw [hlo4] at d26
            obtain ⟨LO, hLO⟩ : ∃ LO, p.steps[lastS m].lo = LO := ⟨_, rfl⟩
            rw [hLO] at d26; have HLO := Hyd hLO; have v4 := (HBE5.out.cell (p := ⟨b3, o3 + lastS m, none⟩) hb4).trans x4; have v5 := (HBE5.out.cell (p := ⟨g5, PL4 * 5 + 2, none⟩) hg52).trans d26; have v6 : w5.cell? ⟨w.heap.size, 0, none⟩ = some (.slice (some ⟨g5, 0, none⟩) ss.length qc) := (HBE5.out.cell (p := ⟨w.heap.size, 0, none⟩) hx2).trans ((Lib.cell_of_heap HX2.out 0).trans rfl); have hls0 : (0 : Int) <= (lastS m : Int) := (by omega); have hls1 : (lastS m : Int) < (np : Int) := (by omega); have hp40 : (0 : Int) <= (PL4 : Int) := (by omega); have hp41 : (PL4 : Int) < (ss.length : Int) := (by omega); clear hse hsn hv4 hPL4 hbl4 hlo4 e6 d26 x4 hLO
            by_cases hlo : LO <= (countM m : Int)
            ·have HLO2 := Hyd hlo; have hlo2 : ¬ (countM m : Int) < LO := (by omega); clear hlo; go_wp2_with fail
             go_quiet (fail)
             clear v4 v5 v6
             obtain ⟨w6, hw6⟩ : ∃ w6, w5.drewN nq = w6 := ⟨_, rfl⟩
             rw [hw6]; have HG6 := Hyd (show Mem.Grw w5 w6 by rw [<- hw6]; exact (Mem.Grw.refl _).drewN _); have HBE6 := Hyd (HBE5.out.trans (HG6.out.below.mono h5s)); have HROW6 := Hyd (HROW5.out.below HG6.out.below); have HX6 := Hyd ((HG6.out.below.block _ hg5w).trans HX5.out); have hg6w : g < w6.heap.size := heap_lt HX6.out; have h6s := HBE6.out.size; clear hw6 y0k y2k; have hw6w : w.heap.size + 1 < w6.heap.size := (by omega); have hb6w : b < w6.heap.size := (by omega)
             have ya0 : ∀ n os, (grow (w6.drewN n) os).cell? ⟨g, 4, none⟩ = some (.slice ta x.tests.length tc) := cell_grown hg6w ((Lib.cell_of_heap HX6.out 4).trans rfl)
             have ya1 : ∀ n os, (grow (w6.drewN n) os).cell? ⟨w.heap.size + 1, 0, none⟩ = some (.slice aa m.length ac) := cell_grown hw6w ((HBE6.out.cell (p := ⟨w.heap.size + 1, 0, none⟩) hy2).trans ((Lib.cell_of_heap HY2.out 0).trans rfl))
             have ya2 : ∀ n os, (grow (w6.drewN n) os).cell? ⟨w.heap.size + 1, 1, none⟩ = some (.slice sa m.length sc) := cell_grown hw6w ((HBE6.out.cell (p := ⟨w.heap.size + 1, 1, none⟩) hy2).trans ((Lib.cell_of_heap HY2.out 1).trans rfl))
             have ue0 : ∀ n os, (grow (w6.drewN n) os).cell? ⟨b, o + i * 4, none⟩ = some (.int .i64 ev.id) := cell_grown hb6w ((HBE6.out.cell (p := ⟨b, o + i * 4, none⟩) hb2).trans HE0.out)
             have ue1 : ∀ n os, (grow (w6.drewN n) os).cell? ⟨b, o + i * 4 + 1, none⟩ = some (.int .i64 ev.time) := cell_grown hb6w ((HBE6.out.cell (p := ⟨b, o + i * 4 + 1, none⟩) hb2).trans HE1.out)
             have ue2 : ∀ n os, (grow (w6.drewN n) os).cell? ⟨b, o + i * 4 + 2, none⟩ = some (.int .u8 ev.kind) := cell_grown hb6w ((HBE6.out.cell (p := ⟨b, o + i * 4 + 2, none⟩) hb2).trans HE2.out)
             have ue3 : ∀ n os, (grow (w6.drewN n) os).cell? ⟨b, o + i * 4 + 3, none⟩ = some (.int .i64 ev.val) := cell_grown hb6w ((HBE6.out.cell (p := ⟨b, o + i * 4 + 3, none⟩) hb2).trans HE3.out)
             obtain ⟨A, hA⟩ : ∃ A, allP x.tests (pmM l m) s ev = A := ⟨_, rfl⟩
             have hbg : ∀ n os, Below w2.heap.size w2 (grow (w6.drewN n) os) := fun n os => HBE6.out.trans ((show Mem.Grw w6 (grow (w6.drewN n) os) from ⟨n, os, rfl⟩).below.mono h6s)
             have HQ := Hyd (fun n os => all21 x.tests (.slice ta x.tests.length tc) (.agg #[.slice aa m.length ac, .slice sa m.length sc]) (.slice (some ⟨b, o, none⟩) l.length lc) m l s w2.heap.size ev (grow (w6.drewN n) os)
              (Sl.keep (Sl.more HVT.out hB2) fun a ha => (hbg n os).cell ha) HTT.out.1 HTT.out.2 (HG2.out.mt.below (hbg n os)) (Sl.below (Sl.more HL2.out hB2) (hbg n os)) (hbg n os).size HIN.out.okm (by omega) HSM.out.1 (fun y hy => (HIN.out.ok y hy).1))
             rw [hA] at HQ; have HAV := Hyd hA; clear hA hbg; go_wp2_with fail
             go_quiet_grown (first | (go_at_call 45; exact Mem.Grw.grown (HQ.out _ _)) | exact Mem.Grw.grown (HQ.out _ _))
             have HG7 := Hyd (show Mem.Grw w6 (grow (w6.drewN nq) osq) from ⟨nq, osq, rfl⟩); have u2 := ue2 nq osq; change Exit.then _ _ Exit.normal _ (grow (w6.drewN nq) osq); clear ya0 ya1 ya2 ue0 ue1 ue2 ue3 HQ; generalize grow (w6.drewN nq) osq = w7 at *; have HBE7 := Hyd (HBE6.out.trans (HG7.out.below.mono h6s)); have HROW7 := Hyd (HROW6.out.below HG7.out.below); have u0 : w7.cell? ⟨g, 0, none⟩ = some (.int .u8 xk) := HG7.out.cell hg6w ((Lib.cell_of_heap HX6.out 0).trans rfl); have h7s := HBE7.out.size
             have hg7w : g < w7.heap.size := by have := HG7.out.size; omega
             have hb7w : b < w7.heap.size := (by omega)
             cases A with
             | false =>
              have HKN := Hyd (show kidOk p l m i s = false by rw [HKO.out, HEV.out, HAV.out, Bool.and_false, Bool.and_false]); go_wp2_with fail
              go_quiet (fail)
              have HBE8 := Hyd (HBE7.out.trans (((Mem.Grw.refl w7).drewN nq).below.mono h7s)); have HROW8 := Hyd (HROW7.out.below ((Mem.Grw.refl w7).drewN nq).below); have HRL := Hyd (show OutR w2 (accI p l f m i ++ accS p l f m i (s + 1)) (.slice oa gs.length oc) (w7.drewN nq) from ⟨gs, by rw [HGS.out, accS_succ _ _ _ _ _ _ hs1, kidG_no HKN.out]; simp, HROW8.out, HBE8.out⟩); go_wp2_with fail; go_roundw
              case rel => exact ⟨s + 1, by omega, by omega, by omega, by go_num, HRL.out⟩
              case measure => simp [intOf]; omega
             | true =>
              by_cases hkd : ev.kind = xk
              ·have hkq : (ev.kind != xk) = false := by simp [hkd]
               have HKP := Hyd (show kidOk p l m i s = !barredM p l m (lastS m) i by rw [HKO.out, HEV.out, HAV.out, hkd]; rw [if_neg HSE.out, List.getElem?_eq_getElem hlast]; simp only []; rw [HLO.out, decide_eq_true HLO2.out]; simp); go_wp2_with fail
               go_quiet (fail)
               obtain ⟨w8, hw8⟩ : ∃ w8, w7.drewN nq = w8 := ⟨_, rfl⟩
               rw [hw8]; have HB78 := Hyd (show Below w7.heap.size w7 w8 by rw [<- hw8]; exact ((Mem.Grw.refl w7).drewN nq).below); have HBE8 := Hyd (HBE7.out.trans (HB78.out.mono h7s)); have HROW8 := Hyd (HROW7.out.below HB78.out); have h8s := HBE8.out.size; clear hw8 u0 u2
               have hm0 : m ≠ [] := by
                intro h; have q1 := HLO2.out; have q2 := (HIN.out.pl.ok.cnt _ (List.getElem_mem hlast)).1; rw [HLO.out] at q2
                have q3 : countM m = 0 := by rw [h]; rfl
                omega
               obtain ⟨BR, hBR⟩ : ∃ BR, barredM p l m (lastS m) i = BR := ⟨_, rfl⟩
               have HBR := Hyd (barred21 p (.slice (some ⟨g5, 0, none⟩) ss.length qc) (.slice (some ⟨b, o, none⟩) l.length lc) (.agg #[.slice aa m.length ac, .slice sa m.length sc]) ss ts L l m (lastS m) i w8 ((DocAt.keep HD2.out fun a _ ha => HBE8.out.cell (Nat.lt_of_lt_of_le ha hB2)).more (Nat.le_refl _) (by omega)) HIN.out.pl hlast (Sl.more (Sl.keep HL2.out fun a ha => HBE8.out.cell (Nat.lt_of_lt_of_le ha hB2)) (by omega)) (by omega) ((HG2.out.mt.below HBE8.out).more HBE8.out.size) hm0 HIN.out.okm hi1 (by omega) (fun y hy => (HIN.out.ok y hy).1)); rw [hBR] at HBR HKP; have kb0 : w8.cell? ⟨w.heap.size + 1, 0, none⟩ = some (.slice aa m.length ac) := (HBE8.out.cell (p := ⟨w.heap.size + 1, 0, none⟩) hy2).trans ((Lib.cell_of_heap HY2.out 0).trans rfl); have kb1 : w8.cell? ⟨w.heap.size + 1, 1, none⟩ = some (.slice sa m.length sc) := (HBE8.out.cell (p := ⟨w.heap.size + 1, 1, none⟩) hy2).trans ((Lib.cell_of_heap HY2.out 1).trans rfl)
               have kp0 : w8.cell? ⟨w.heap.size, 0, none⟩ = some (.slice (some ⟨g5, 0, none⟩) ss.length qc) := (HBE8.out.cell (p := ⟨w.heap.size, 0, none⟩) hx2).trans ((Lib.cell_of_heap HX2.out 0).trans rfl); have kp1 : w8.cell? ⟨w.heap.size, 1, none⟩ = some (.int .i64 p.within) := (HBE8.out.cell (p := ⟨w.heap.size, 1, none⟩) hx2).trans ((Lib.cell_of_heap HX2.out 1).trans rfl); clear hBR; go_wp2_with fail; refine HBR.out.mono ?_; rintro e w10 ⟨rfl, hb10⟩; have HBE10 := Hyd (HBE8.out.trans (hb10.mono h8s)); have HROW10 := Hyd (HROW8.out.below hb10); have h10s := HBE10.out.size; clear hb10 kb0 kb1 kp0 kp1 HBR
               cases BR with
               | true =>
                have HKN := Hyd (show kidOk p l m i s = false from HKP.out); have HRL := Hyd (show OutR w2 (accI p l f m i ++ accS p l f m i (s + 1)) (.slice oa gs.length oc) w10 from ⟨gs, by rw [HGS.out, accS_succ _ _ _ _ _ _ hs1, kidG_no HKN.out]; simp, HROW10.out, HBE10.out⟩); go_wp2_with fail; go_roundw
                case rel => exact ⟨s + 1, by omega, by omega, by omega, by go_num, HRL.out⟩
                case measure => simp [intOf]; omega
               | false =>
                have HKY := Hyd (show kidOk p l m i s = true from HKP.out); have HMW := Hyd ((HG2.out.mt.below HBE10.out).more HBE10.out.size); have kb0 : w10.cell? ⟨w.heap.size + 1, 0, none⟩ = some (.slice aa m.length ac) := (HBE10.out.cell (p := ⟨w.heap.size + 1, 0, none⟩) hy2).trans ((Lib.cell_of_heap HY2.out 0).trans rfl); have kb1 : w10.cell? ⟨w.heap.size + 1, 1, none⟩ = some (.slice sa m.length sc) := (HBE10.out.cell (p := ⟨w.heap.size + 1, 1, none⟩) hy2).trans ((Lib.cell_of_heap HY2.out 1).trans rfl); have HWI := Hyd (with21 (.agg #[.slice aa m.length ac, .slice sa m.length sc]) m i s w10 HMW.out (by omega)); go_wp2_with fail; refine HWI.out.mono ?_; rintro e w9 ⟨vaN, vsN, rfl, hown, hb9⟩; obtain ⟨A1, k1, hA1⟩ := (Sl.of_own (show w9.ownsRow w10.heap.size 3 1 vaN (m ++ [(i, s)]).length (atsV (m ++ [(i, s)])) from hown.1)).shape; obtain ⟨A2, k2, hA2⟩ := (Sl.of_own (show w9.ownsRow w10.heap.size 3 1 vsN (m ++ [(i, s)]).length (stsV (m ++ [(i, s)])) from hown.2)).shape
                obtain ⟨nn, hnn⟩ : ∃ nn, (m ++ [(i, s)]).length = nn := ⟨_, rfl⟩
                rw [hnn] at hA1 hA2; subst hA1 hA2
                obtain ⟨wa, hwa⟩ : ∃ wa, wa = w9.alloc (.cells #[.slice A1 nn k1, .slice A2 nn k2] 84) := ⟨_, rfl⟩
                have HBA := Hyd (show Below w10.heap.size w10 wa from hb9.trans (by rw [hwa]; exact ((Below.refl _ w9).alloc (Nat.le_refl _) _).mono hb9.size)); have HXA := Hyd (show wa.heap[w9.heap.size]? = some (.cells #[.slice A1 nn k1, .slice A2 nn k2] 84 (0, 0)) by rw [hwa]; exact heap_new rfl); have HOA := Hyd (show OwnM 0 wa (.slice A1 nn k1, .slice A2 nn k2, m ++ [(i, s)]) from (hown.le (Nat.zero_le _)).below (by rw [hwa]; exact (Below.refl _ w9).alloc (Nat.le_refl _) _)); have HWA := Hyd hwa; have HBEA := Hyd (HBE10.out.trans (HBA.out.mono h10s)); have HROWA := Hyd (HROW10.out.below HBA.out); have has := HBEA.out.size; have h9a : w9.heap.size < wa.heap.size := heap_lt HXA.out; clear hwa hown hb9 hnn kb0 kb1
                go_upto_region 28 with (fail)
                rw [<- HWA.out]
                obtain ⟨b9, hb9⟩ : ∃ b9, w9.heap.size = b9 := ⟨_, rfl⟩
                rw [hb9] at HXA ⊢; have kc0 : wa.cell? ⟨b9, 0, none⟩ = some (.slice A1 nn k1) := (Lib.cell_of_heap HXA.out 0).trans rfl; have kc1 : wa.cell? ⟨b9, 1, none⟩ = some (.slice A2 nn k2) := (Lib.cell_of_heap HXA.out 1).trans rfl; have kp0 : wa.cell? ⟨w.heap.size, 0, none⟩ = some (.slice (some ⟨g5, 0, none⟩) ss.length qc) := (HBEA.out.cell (p := ⟨w.heap.size, 0, none⟩) hx2).trans ((Lib.cell_of_heap HX2.out 0).trans rfl); have kp1 : wa.cell? ⟨w.heap.size, 1, none⟩ = some (.int .i64 p.within) := (HBEA.out.cell (p := ⟨w.heap.size, 1, none⟩) hx2).trans ((Lib.cell_of_heap HX2.out 1).trans rfl); have HGR := Hyd (HIH.out (.slice A1 nn k1, .slice A2 nn k2, m ++ [(i, s)]) wa (by rw [fromM_snoc]; omega) (HIN.out.more hi1 hlt hst' (by omega)) (DocAt.keep HD2.out fun a _ ha => HBEA.out.cell (Nat.lt_of_lt_of_le ha hB2)) (Sl.keep HL2.out fun a ha => HBEA.out.cell (Nat.lt_of_lt_of_le ha hB2)) (Nat.le_trans hB2 has) HOA.out)
                clear hb9 h9a; go_wp2_with fail; refine HGR.out.mono ?_; rintro e wb ⟨mv, gs', rfl, hgs', hrow', hbb⟩; obtain ⟨ra, rc, rfl⟩ := (Sl.of_own hrow'.own).shape; have HGS' := Hyd hgs'
                have hgl' : gs'.length <= 65536 := by
                 have h1 := congrArg List.length hgs'; rw [List.length_map] at h1; rw [h1]; exact growM_le p l f _ hn8 (by rw [fromM_snoc]; omega)
                have HBEB := Hyd (HBEA.out.trans (hbb.mono has)); have HROWB := Hyd (HROWA.out.below hbb); have HMO := Hyd hrow'
                have HAP := Hyd (show Reg.Apart (.slice ra gs'.length rc) (.slice oa gs.length oc) from fun k h1 h2 => by
                 have q1 := (Mem.own_lt hrow'.own k h1).1; have q2 := (Mem.own_lt HROWA.out.own k h2).2
                 omega)
                clear hgs' hrow' hbb kc0 kc1 kp0 kp1 HGR HIH; go_wp2_with fail
                go_loopw [8, 19] (fun ov u wr => ∃ k, k <= gs'.length /\ u = .int .i64 (k : Nat) /\ ∃ hs : List MG, hs.map (·.2.2) = accI p l f m i ++ accS p l f m i s ++ (gs'.take k).map (·.2.2) /\ RowM w2.heap.size wr ov hs /\ Below w2.heap.size w2 wr /\ RowM wa.heap.size wr (.slice ra gs'.length rc) gs' /\ Reg.Apart (.slice ra gs'.length rc) ov) (fun _ u _ => gs'.length - (intOf u).toNat)
                case atStart => exact ⟨0, Nat.zero_le _, rfl, gs, by rw [HGS.out]; simp, HROWB.out, HBEB.out, HMO.out, HAP.out⟩
                case round =>
                 obtain ⟨k, hk, rfl, hs', hm', hro, hbe, hmo, hap⟩ := hrel; obtain ⟨oa', oc', rfl⟩ := (Sl.of_own hro.own).shape
                 have hhl : hs'.length <= 5000000 := by
                  have h1 := congrArg List.length hm'; rw [List.length_map, List.length_append, List.length_append, List.length_map, List.length_take] at h1; have h2 := accI_le p l f m i hn8 hi2; have h3 := accS_le p l f m i s hn8 hlt hs2
                  omega
                 have HM2 := Hyd hm'; have HRO := Hyd hro; have HBE2 := Hyd hbe; have HMO2 := Hyd hmo; have HAP2 := Hyd hap; have hbes := hbe.size; clear hm' hro hbe hmo hap
                 by_cases hkl : k < gs'.length
                 ·have hki : (k : Int) < (gs'.length : Int) := (by omega); have hk0 : (0 : Int) <= (k : Int) := (by omega); obtain ⟨g8, c8, a1, d1, a2, d2, hv8, hg8, eq1, eq2, x1, x2, hel⟩ := HMO2.out.at_ hkl
                  obtain ⟨rfl, rfl⟩ : ra = some ⟨g8, 0, none⟩ /\ rc = c8 := by simpa using hv8
                  have HTK := Hyd (List.take_succ_eq_append_getElem (l := gs') (i := k) hkl)
                  obtain ⟨x9, hx9⟩ : ∃ x9, gs'[k] = x9 := ⟨_, rfl⟩
                  rw [hx9] at eq1 eq2 x1 x2 hel HTK; obtain ⟨p1, p2, m9⟩ := x9
                  simp only at eq1 eq2 x1 x2
                  subst eq1 eq2; have HEL := Hyd hel; obtain ⟨i0, hi9, hz0', hz1', hz2'⟩ := info_parts infoMt; have HNA := Hyd (Reg.own_new (w := wr) (b := 0) (e := 84) (sz := 2) (n := 1) (cs := #[.slice a1 m9.length d1, .slice a2 m9.length d2]) rfl (Nat.zero_le _) rfl (by decide)); have HNB := Hyd (show Below wr.heap.size wr (wr.alloc (.cells #[.slice a1 m9.length d1, .slice a2 m9.length d2] 84)) from (Below.refl _ _).alloc (Nat.le_refl _) _); clear hv8 hx9 hel
                  go_wp2_with (at_builtin; refine Reg.wpList_append_src _ rfl (.tmp 189) (.tmp 194) 81 rfl w2.heap.size 0 84 i0 _ 2 48 Tryz.underlying81 hi9 hz0' hz1' hz2' rfl (by decide) _ _ hs'.length 1 _ _ rfl (own_below HRO.out.own HNB.out) rfl HNA.out ?nd1 ?nd2 ?nd3 ?nd4 ?_)
                  case nd1 => first | exact HEL.out.one | exact ⟨rfl, rfl⟩
                  case nd2 => unfold maxLen; omega
                  case nd3 => omega
                  case nd4 => omega
                  intro v' w5 ho5 hg5 hv5; have HSN := Hyd (RowM.snoc (g := (.slice a1 m9.length d1, .slice a2 m9.length d2, m9)) HRO.out hbes HEL.out ho5 hg5); have HMO3 := Hyd (show RowM wa.heap.size w5 (.slice (some ⟨g8, 0, none⟩) gs'.length rc) gs' from ⟨Reg.own_apart (own_below HMO2.out.own HNB.out) HAP2.out hg5, fun y hy => ((HMO2.out.els y hy).below HNB.out).keeps (Reg.Keeps.grown (show 3 ≠ 84 by decide) (own_below HRO.out.own HNB.out) hg5)⟩); have HAP3 := Hyd (show Reg.Apart (.slice (some ⟨g8, 0, none⟩) gs'.length rc) v' from Reg.Apart.grown HAP2.out (own_below HMO2.out.own HNB.out) (by rcases hv5 with h | h; exact .inl h; exact .inr (by rw [h]; simp)))
                  have HRL := Hyd (show ∃ k', k' <= gs'.length /\ Value.int .i64 ((k : Int) + 1) = .int .i64 (k' : Nat) /\ ∃ hs : List MG, hs.map (·.2.2) = accI p l f m i ++ accS p l f m i s ++ (gs'.take k').map (·.2.2) /\ RowM w2.heap.size w5 v' hs /\ Below w2.heap.size w2 w5 /\ RowM wa.heap.size w5 (.slice (some ⟨g8, 0, none⟩) gs'.length rc) gs' /\ Reg.Apart (.slice (some ⟨g8, 0, none⟩) gs'.length rc) v' from
                   ⟨k + 1, hkl, rfl, _, by rw [List.map_append, HM2.out, HTK.out, List.map_append]; simp, HSN.out.1, HBE2.out.trans HSN.out.2, HMO3.out, HAP3.out⟩)
                  clear ho5 hg5 hv5 hi9 hz0' hz1' hz2' HNA HNB HSN HMO3 HAP3; go_wp2_with fail; go_roundw
                  case rel => exact HRL.out
                  case measure => simp [intOf]; omega
                 ·obtain rfl : k = gs'.length := by omega
                  have HRL := Hyd (show ∃ s', lastS m <= s' /\ s' <= lastS m + 2 /\ s' <= np /\ Value.int .i64 ((s : Int) + 1) = .int .i64 (s' : Nat) /\ OutR w2 (accI p l f m i ++ accS p l f m i s') (.slice oa' hs'.length oc') wr from ⟨s + 1, by omega, by omega, by omega, rfl, hs', by rw [HM2.out, List.take_length, HGS'.out, accS_succ _ _ _ _ _ _ hs1, kidG_yes HKY.out, List.append_assoc], HRO.out, HBE2.out⟩); go_wp2_with fail; go_roundw
                  case rel => exact HRL.out
                  case measure => simp [intOf]; omega
              ·have hkq : (ev.kind != xk) = true := by simp [hkd]
               have HKN := Hyd (show kidOk p l m i s = false by
                have hk2 : (ev.kind == xk) = false := by rw [beq_eq_false_iff_ne]; exact hkd
                rw [HKO.out, HEV.out, hk2, Bool.false_and, Bool.and_false])
               go_wp2_with fail
               go_quiet (fail)
               have HBE8 := Hyd (HBE7.out.trans (((Mem.Grw.refl w7).drewN nq).below.mono h7s)); have HROW8 := Hyd (HROW7.out.below ((Mem.Grw.refl w7).drewN nq).below); have HRL := Hyd (show OutR w2 (accI p l f m i ++ accS p l f m i (s + 1)) (.slice oa gs.length oc) (w7.drewN nq) from ⟨gs, by rw [HGS.out, accS_succ _ _ _ _ _ _ hs1, kidG_no HKN.out]; simp, HROW8.out, HBE8.out⟩); go_wp2_with fail; go_roundw
               case rel => exact ⟨s + 1, by omega, by omega, by omega, by go_num, HRL.out⟩
               case measure => simp [intOf]; omega
            ·have hlo2 : (countM m : Int) < LO := (by omega)
             have HKN := Hyd (show kidOk p l m i s = false by
              rw [HKO.out, if_neg HSE.out, List.getElem?_eq_getElem hlast]
              simp only []
              rw [HLO.out, decide_eq_false hlo, Bool.false_and, Bool.false_and])
             clear hlo; go_wp2_with fail
             go_quiet (fail)
             have HBE8 := Hyd (HBE5.out.trans (((Mem.Grw.refl w5).drewN nq).below.mono h5s)); have HROW8 := Hyd (HROW5.out.below ((Mem.Grw.refl w5).drewN nq).below); have HRL := Hyd (show OutR w2 (accI p l f m i ++ accS p l f m i (s + 1)) (.slice oa gs.length oc) (w5.drewN nq) from ⟨gs, by rw [HGS.out, accS_succ _ _ _ _ _ _ hs1, kidG_no HKN.out]; simp, HROW8.out, HBE8.out⟩); go_wp2_with fail; go_roundw
             case rel => exact ⟨s + 1, by omega, by omega, by omega, by go_num, HRL.out⟩
             case measure => simp [intOf]; omega
        ·have hspi : ¬ (s : Int) < (np : Int) := (by omega); have HRL := Hyd (show OutR w2 (accI p l f m (i + 1)) (.slice oa gs.length oc) wr from ⟨gs, by rw [HGS.out, accS_end p l f m i s (by omega) hs2 (by omega), accI_succ p l f m i hi1], HROW.out, HBE.out⟩); go_wp2_with fail; go_roundw
         case rel => exact ⟨i + 1, by omega, by omega, by go_num, HALI.out, HRL.out⟩
         case measure => simp [intOf]; omega
       ·have hc1i : ¬ (s : Int) <= (lastS m : Int) + 1 := (by omega); have HRL := Hyd (show OutR w2 (accI p l f m (i + 1)) (.slice oa gs.length oc) wr from ⟨gs, by rw [HGS.out, accS_end p l f m i s (by omega) hs2 (by omega), accI_succ p l f m i hi1], HROW.out, HBE.out⟩); go_wp2_with fail; go_roundw
        case rel => exact ⟨i + 1, by omega, by omega, by go_num, HALI.out, HRL.out⟩
        case measure => simp [intOf]; omega
   ·obtain rfl : i = l.length := by omega
    have HEND := Hyd (show OutR w2 (growM p l (f + 1) m) (.slice oa gs.length oc) wr from ⟨gs, by rw [HGS.out]; exact accI_end p l f m l.length hi1 (Nat.le_refl _) HAL.out (.inl rfl), HROW.out, HBE.out⟩); go_wp2_with fail; go_ret; obtain ⟨gs', h1, h2, h3⟩ := HEND.out; exact ⟨_, gs', rfl, h1, h2.le (by omega), HBW.out.trans (h3.mono HBW.out.size)⟩
end Go.Proofs.YtcojnojdgigmdaaGreatDoor.WR
