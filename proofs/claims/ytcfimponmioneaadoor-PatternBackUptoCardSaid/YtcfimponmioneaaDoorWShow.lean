/- The walk of pattern.Show: the text of a pattern. -/
import Derived.Test.YtcfimponmioneaaDoorWShC
import Derived.Test.YtcfimponmioneaaDoorGS
import Derived.Deep.AppendLies
namespace Go.Proofs.YtcfimponmioneaaDoor.WS
open Go Go.RowKit Go.Sort Go.Proofs.YtcfimponmioneaaDoor Go.Proofs.YtcfimponmioneaaDoor.PL Go.Proofs.YtcfimponmioneaaDoor.PS Go.Proofs.YtcfimponmioneaaDoor.Mem Go.Proofs.YtcfimponmioneaaDoor.WL

abbrev strV (x : List UInt8) : Value := .string ⟨x.toArray⟩
theorem infoStr : (Tryd.prog.info? 9).map (fun i => (i.zero, i.size, i.bytes)) = some (some (.string ⟨#[]⟩), 1, 16) := by kernel_rfl
/-- Texts under way. -/
structure Sw (W w : World) (v : Value) (l : List (List UInt8)) : Prop where
  bel : Below W.heap.size W w
  own : w.ownsRow W.heap.size 9 1 v l.length (l.map strV)
theorem Sw.push {W w w' : World} {v v' : Value} {l : List (List UInt8)} {x : List UInt8} (h : Sw W w v l) (hgr : w.grownBy w' v.ownBlock) (hown : w'.ownsRow W.heap.size 9 1 v' (l.length + 1) (l.map strV ++ [strV x])) : Sw W w' v' (l ++ [x]) :=
  ⟨below_grown h.bel h.own hgr h.bel.size (Nat.le_refl _), by rw [List.length_append, List.map_append]; exact hown⟩
theorem Sw.alloc {W w : World} {v : Value} {l : List (List UInt8)} (h : Sw W w v l) (o : Obj) : Sw W (w.alloc o) v l :=
  ⟨h.bel.alloc h.bel.size o, h.own.alloc _⟩
theorem Sw.below {W w w' : World} {v : Value} {l : List (List UInt8)} (h : Sw W w v l) (hb : Below w.heap.size w w') : Sw W w' v l :=
  ⟨h.bel.trans (hb.mono h.bel.size), own_below h.own hb⟩
theorem Sw.sl {W w w' : World} {v : Value} {l : List (List UInt8)} (h : Sw W w v l) (hb : Below w.heap.size w w') : Sl w' w'.heap.size 1 v l.length (l.map fun x => .string ⟨x.toArray⟩) :=
  Sl.more (Sl.below (Sl.of_own h.own) hb) hb.size

theorem map_take2 {α : Type} (f : α → List UInt8) (l : List α) (k : Nat) : ((l.take k).map f).map strV = (l.map (strV ∘ f)).take k := by rw [List.map_map, List.map_take]
set_option maxRecDepth 100000 in
set_option maxHeartbeats 6400000 in
theorem show_any (sv cv : Value) (wi : Int) (ss : List GS) (cs : List GC) (W : World) (h1 : Stps W W.heap.size sv ss) (h2 : Cnds W W.heap.size cv cs) (hn1 : ss.length ≤ 1048576) (hn2 : cs.length ≤ 1048576) (hf1 : ∀ s ∈ ss, fitS s) (hf2 : ∀ c ∈ cs, fitC c)
    (hw0 : -9223372036854775808 ≤ wi) (hw1 : wi ≤ 9223372036854775807) (ht : Tab W) (hg : 1 < W.heap.size) (hs : Signs W) :
    Calls Tryd.prog 7 #[.agg #[sv, cv, .int .i64 wi]] W fun e w' => e = .returned (.string ⟨(showP ss cs wi).toArray⟩) ∧ Below W.heap.size W w' := by
  obtain ⟨i0, hi, hz0, hz1, hz2⟩ := info_parts infoStr
  obtain ⟨sa, sc, rfl⟩ := Sl.shape h1
  obtain ⟨ca, cc, rfl⟩ := Sl.shape h2
  have H1 := Lib.hid h1; have H2 := Lib.hid h2; have HF1 := Lib.hid hf1; have HF2 := Lib.hid hf2
  have hgs := hs.lt
  have HT := Lib.hid (fun (w : World) (hb : Below W.heap.size W w) => ht.below hb hg)
  have HS := Lib.hid (fun (w : World) (hb : Below W.heap.size W w) => hs.below hb hgs)
  have HJ1 := Lib.hid (join_len showS [44] 49 ss fun s hs => showS_len (hf1 s hs))
  have HJ2 := Lib.hid (join_len showC andB 26 cs fun c hc => showC_len (hf2 c hc))
  have HSH := Lib.hid (show showP ss cs wi = seqB ++ Lib.join (ss.map showS) [44] ++ [41] ++ (if cs = [] then [] else whereB ++ Lib.join (cs.map showC) andB) ++ (withinB ++ Lib.itoa wi) from rfl)
  obtain ⟨R, hR⟩ : ∃ R, showP ss cs wi = R := ⟨_, rfl⟩
  rw [hR] at HSH ⊢
  have HX := Lib.hid (show (W.alloc (.cells #[.slice sa ss.length sc, .slice ca cs.length cc, .int .i64 wi] 29)).heap[W.heap.size]? = _ from heap_new rfl)
  have HB0 := Lib.hid (show Below W.heap.size W (W.alloc (.cells #[.slice sa ss.length sc, .slice ca cs.length cc, .int .i64 wi] 29)) from (Below.refl _ _).alloc (Nat.le_refl _) _)
  clear hR h1 h2 hf1 hf2 ht hs
  obtain ⟨wa, hwa⟩ : ∃ wa, wa = W.alloc (.cells #[.slice sa ss.length sc, .slice ca cs.length cc, .int .i64 wi] 29) := ⟨_, rfl⟩
  have hza : W.heap.size < wa.heap.size := by rw [hwa]; simp
  rw [← hwa] at HX HB0
  have HWA := Lib.hid hwa
  clear hwa
  go_enter Tryd.func7, Tryd.ntmps7
  go_wp2_with fail
  rw [← HWA.out]
  go_loopw [3, 13] (fun v u wr => ∃ (k : Nat) (vo : Value), k ≤ ss.length ∧ u = .int .i64 k ∧ vo = v ∧ Sw wa wr v ((ss.take k).map showS)) (fun _ u _ => ss.length - (intOf u).toNat)
  case atStart => exact ⟨0, _, by omega, rfl, rfl, Below.refl _ _, World.ownsRow_nil _ _ _ _⟩
  case round =>
    obtain ⟨k, vo, hk, rfl, rfl, hsw⟩ := hrel
    have HSW := Lib.hid hsw
    have hbel := hsw.bel
    have HBW := Lib.hid (HB0.out.trans (hbel.mono HB0.out.size))
    obtain ⟨oa, oc, rfl⟩ : ∃ a c, vo = .slice a k c := by
      have h := (Sl.of_own hsw.own).shape
      have e : ((ss.take k).map showS).length = k := by rw [List.length_map, List.length_take]; omega
      rwa [e] at h
    have hsz := hbel.size
    clear hsw
    by_cases hlt : k < ss.length
    · have hlt' : (k : Int) < (ss.length : Int) := by omega
      have hk0 : (0 : Int) ≤ (k : Int) := by omega
      obtain ⟨b, o, c, hc, hb, x0, x1, x2, x3, x4⟩ := H1.out.at_ hlt
      obtain ⟨rfl, rfl⟩ : sa = some ⟨b, o, none⟩ ∧ sc = c := by simpa using hc
      have HTK := Lib.hid (List.take_succ_eq_append_getElem (l := ss) (i := k) hlt)
      have hfit := HF1.out ss[k] (List.getElem_mem hlt)
      have hln := showS_len hfit
      obtain ⟨x, hx⟩ : ∃ x, ss[k] = x := ⟨_, rfl⟩
      rw [hx] at x0 x1 x2 x3 x4 HTK hfit hln
      have hbl := HBW.out
      have y0 := (hbl.cell (p := ⟨b, o + k * 5, none⟩) hb).trans x0
      have y1 := (hbl.cell (p := ⟨b, o + k * 5 + 1, none⟩) hb).trans x1
      have y2 := (hbl.cell (p := ⟨b, o + k * 5 + 2, none⟩) hb).trans x2
      have y3 := (hbl.cell (p := ⟨b, o + k * 5 + 3, none⟩) hb).trans x3
      have y4 := (hbl.cell (p := ⟨b, o + k * 5 + 4, none⟩) hb).trans x4
      have HA := Lib.hid (HSW.out.alloc (.cells #[.int .u8 x.k, .int .u8 x.nm, .bool x.neg, .int .i64 x.lo, .int .i64 x.hi] 48))
      have HSS := Lib.hid (showS_any x hfit (wr.alloc (.cells #[.int .u8 x.k, .int .u8 x.nm, .bool x.neg, .int .i64 x.lo, .int .i64 x.hi] 48)) (HT.out _ (hbl.alloc hbl.size _)))
      clear x0 x1 x2 x3 x4 hc hx hbel hbl hfit
      go_wp2_with fail
      refine HSS.out.mono ?_
      rintro e w2 ⟨rfl, hg2⟩
      have H2W := Lib.hid (HA.out.below hg2.below)
      have hs2 := H2W.out.bel.size
      have hlk : ((ss.take k).map showS).length = k := by rw [List.length_map, List.length_take]; omega
      have hown := H2W.out.own.alloc (.cells #[.string ⟨(showS x).toArray⟩] 9)
      rw [hlk] at hown
      have HOW := Lib.hid hown
      have HLK := Lib.hid hlk
      clear hg2 hown hlk y0 y1 y2 y3 y4 HSS HA
      go_wp2_with (at_builtin; refine wpList_append_lies _ rfl (.tmp 17) (.tmp 20) 56 rfl wa.heap.size 9 i0 _ 1 16 Tryd.underlying56 hi hz0 hz1 hz2 rfl (by decide) _ _ _ rfl HOW.out ⟨w2.heap.size, 0, none⟩ 1 1 [strV (showS x)] rfl rfl ?c1 ?c2 (by decide) ?c3 ?c4 ?c5 _ rfl ?_)
      case c1 =>
        intro j u hu
        exact new_cell w2 #[strV (showS x)] 9 j u (by simpa using hu)
      case c2 => intro u hu; simp only [List.mem_cons, List.not_mem_nil, or_false] at hu; subst hu; rfl
      case c3 => unfold maxLen; omega
      case c4 => omega
      case c5 => simp; omega
      intro g cap w3 hown3 hgr3 _ _
      have HN := Lib.hid (show Sw wa w3 _ ((ss.take (k + 1)).map showS) by
        rw [HTK.out, List.map_append]
        exact Sw.push (H2W.out.alloc _) hgr3 (by rw [HLK.out, map_take2]; exact hown3))
      clear hown3 hgr3 H2W HOW HSW
      go_wp2_with fail
      go_roundw
      case rel => exact ⟨k + 1, _, by omega, by go_num, rfl, HN.out⟩
      case measure => simp [intOf]; omega
    · obtain rfl : k = ss.length := by omega
      have HSW := Lib.hid (show Sw wa wr (.slice oa ss.length oc) (ss.map showS) by have h := HSW.out; rwa [List.take_length] at h)
      obtain ⟨w1, rfl⟩ : ∃ w1 : World, w1 = wr := ⟨_, rfl⟩
      have hx1 : w1.heap[W.heap.size]? = some (.cells #[.slice (sa) ss.length sc, .slice ca cs.length cc, .int .i64 wi] 29 (0, 0)) := (hbel.block _ hza).trans HX.out
      have HX1 := Lib.hid hx1
      have hz1w : W.heap.size < w1.heap.size := by omega
      have q1 := (Lib.cell_of_heap hx1 1).trans rfl
      clear hbel hx1
      go_wp2_with fail
      go_loopw [4, 26] (fun v u wq => ∃ (k : Nat) (vo : Value), k ≤ cs.length ∧ u = .int .i64 k ∧ vo = v ∧ Sw w1 wq v ((cs.take k).map showC)) (fun _ u _ => cs.length - (intOf u).toNat)
      case atStart => exact ⟨0, _, by omega, rfl, rfl, Below.refl _ _, World.ownsRow_nil _ _ _ _⟩
      case round =>
        clear hlt hk q1
        obtain ⟨k, vo, hk, rfl, rfl, hsw⟩ := hrel
        have HSW2 := Lib.hid hsw
        have hbel := hsw.bel
        have HBW2 := Lib.hid (HBW.out.trans (hbel.mono HBW.out.size))
        obtain ⟨o2a, o2c, rfl⟩ : ∃ a c, vo = .slice a k c := by
          have h := (Sl.of_own hsw.own).shape
          have e : ((cs.take k).map showC).length = k := by rw [List.length_map, List.length_take]; omega
          rwa [e] at h
        have hsz2 := hbel.size
        clear hsw
        by_cases hlt : k < cs.length
        · have hlt' : (k : Int) < (cs.length : Int) := by omega
          have hk0 : (0 : Int) ≤ (k : Int) := by omega
          obtain ⟨b, o, c, hc, hb, x0, x1, x2, x3⟩ := H2.out.at_ hlt
          obtain ⟨rfl, rfl⟩ : ca = some ⟨b, o, none⟩ ∧ cc = c := by simpa using hc
          have HTK := Lib.hid (List.take_succ_eq_append_getElem (l := cs) (i := k) hlt)
          have hfit := HF2.out cs[k] (List.getElem_mem hlt)
          obtain ⟨x, hx⟩ : ∃ x, cs[k] = x := ⟨_, rfl⟩
          rw [hx] at x0 x1 x2 x3 HTK hfit
          have hbl := HBW2.out
          have y0 := (hbl.cell (p := ⟨b, o + k * 4, none⟩) hb).trans x0
          have y1 := (hbl.cell (p := ⟨b, o + k * 4 + 1, none⟩) hb).trans x1
          have y2 := (hbl.cell (p := ⟨b, o + k * 4 + 2, none⟩) hb).trans x2
          have y3 := (hbl.cell (p := ⟨b, o + k * 4 + 3, none⟩) hb).trans x3
          have HA := Lib.hid (HSW2.out.alloc (.cells #[.int .u8 x.l, .int .i64 x.op, .int .u8 x.r, .int .i64 x.k] 54))
          have HSS := Lib.hid (showC_any x hfit (wr.alloc (.cells #[.int .u8 x.l, .int .i64 x.op, .int .u8 x.r, .int .i64 x.k] 54)) (HT.out _ (hbl.alloc hbl.size _)) (HS.out _ (hbl.alloc hbl.size _)))
          clear x0 x1 x2 x3 hc hx hbel hbl hfit
          go_wp2_with fail
          refine HSS.out.mono ?_
          rintro e w2 ⟨rfl, hg2⟩
          have H2W := Lib.hid (HA.out.below hg2.below)
          have hs2 := H2W.out.bel.size
          have hlk : ((cs.take k).map showC).length = k := by rw [List.length_map, List.length_take]; omega
          have hown := H2W.out.own.alloc (.cells #[.string ⟨(showC x).toArray⟩] 9)
          rw [hlk] at hown
          have HOW := Lib.hid hown
          have HLK := Lib.hid hlk
          clear hg2 hown hlk y0 y1 y2 y3 HSS HA
          go_wp2_with (at_builtin; refine wpList_append_lies _ rfl (.tmp 30) (.tmp 33) 56 rfl w1.heap.size 9 i0 _ 1 16 Tryd.underlying56 hi hz0 hz1 hz2 rfl (by decide) _ _ _ rfl HOW.out ⟨w2.heap.size, 0, none⟩ 1 1 [strV (showC x)] rfl rfl ?d1 ?d2 (by decide) ?d3 ?d4 ?d5 _ rfl ?_)
          case d1 =>
            intro j u hu
            exact new_cell w2 #[strV (showC x)] 9 j u (by simpa using hu)
          case d2 => intro u hu; simp only [List.mem_cons, List.not_mem_nil, or_false] at hu; subst hu; rfl
          case d3 => unfold maxLen; omega
          case d4 => omega
          case d5 => simp; omega
          intro g cap w3 hown3 hgr3 _ _
          have HN := Lib.hid (show Sw w1 w3 _ ((cs.take (k + 1)).map showC) by
            rw [HTK.out, List.map_append]
            exact Sw.push (H2W.out.alloc _) hgr3 (by rw [HLK.out, map_take2]; exact hown3))
          clear hown3 hgr3 H2W HOW HSW2
          go_wp2_with fail
          go_roundw
          case rel => exact ⟨k + 1, _, by omega, by go_num, rfl, HN.out⟩
          case measure => simp [intOf]; omega
        · obtain rfl : k = cs.length := by omega
          have HSW2 := Lib.hid (show Sw w1 wr (.slice o2a cs.length o2c) (cs.map showC) by have h := HSW2.out; rwa [List.take_length] at h)
          have hx2 : wr.heap[W.heap.size]? = some (.cells #[.slice sa ss.length sc, .slice ca cs.length cc, .int .i64 wi] 29 (0, 0)) := (hbel.block _ hz1w).trans HX1.out
          have HX2 := Lib.hid hx2
          have hzr : W.heap.size < wr.heap.size := by omega
          have hj1 := HJ1.out
          have hj2 := HJ2.out
          have e1 : ([44] : List UInt8).length = 1 := rfl
          have e2 : andB.length = 5 := rfl
          rw [e1] at hj1
          rw [e2] at hj2
          have HS1 := HSW.out.sl hbel
          rw [List.length_map] at HS1
          have HC1 := join_any (.slice oa ss.length oc) (ss.map showS) ⟨#[44]⟩ wr (by rw [List.length_map]; exact HS1) (by rw [List.length_map]; omega) (by show (Lib.join (ss.map showS) [44]).length ≤ _; omega)
          have hsl2 := Sl.of_own HSW2.out.own
          have HSL2 := Lib.hid hsl2
          obtain ⟨ja, hja⟩ : ∃ j, Lib.join (ss.map showS) [44] = j := ⟨_, rfl⟩
          obtain ⟨jb, hjb⟩ : ∃ j, Lib.join (cs.map showC) andB = j := ⟨_, rfl⟩
          have hjb' : Lib.join (cs.map showC) (⟨#[32, 65, 78, 68, 32]⟩ : ByteArray).data.toList = jb := hjb
          have hja' : Lib.join (ss.map showS) (⟨#[44]⟩ : ByteArray).data.toList = ja := hja
          rw [hja'] at HC1
          have HJA := Lib.hid hja; have HJB := Lib.hid hjb; have HJB' := Lib.hid hjb'
          rw [hja] at hj1
          rw [hjb] at hj2
          have hl1 : ja.length ≤ 60000000 := by omega
          have hl2 : jb.length ≤ 60000000 := by omega
          have HC := Lib.hid HC1
          clear HC1 HS1 hja hjb hjb' hja' hj1 hj2 e1 e2 hsl2 hx2 HSW hbel
          go_wp2_with fail
          refine HC.out.mono ?_
          rintro e w5 ⟨rfl, hb5⟩
          have HB5 := Lib.hid (HBW2.out.trans (hb5.mono HBW2.out.size))
          have hx5 := (hb5.block _ hzr).trans HX2.out
          have q2 := (Lib.cell_of_heap hx5 2).trans rfl
          have HX5 := Lib.hid hx5
          have HSL5 := Lib.hid (Sl.more (Sl.below HSL2.out hb5) hb5.size)
          have hz5 : W.heap.size < w5.heap.size := by have := hb5.size; omega
          have hwl := Lib.itoa_length_le wi hw0 hw1
          obtain ⟨wl, hwl'⟩ : ∃ l, Lib.itoa wi = l := ⟨_, rfl⟩
          rw [hwl'] at hwl
          have HWL := Lib.hid hwl'
          clear hb5 HC hx5 hwl'
          by_cases hcs : 0 < cs.length
          · have hcs' : (0 : Int) < (cs.length : Int) := by omega
            have HJF := Lib.hid (show R = ((((seqB ++ ja) ++ [41]) ++ (whereB ++ jb)) ++ withinB) ++ wl by
              rw [HSH.out, if_neg (by rintro rfl; simp at hcs), HJA.out, HJB.out, HWL.out]
              simp)
            have HC2 := join_any (.slice o2a cs.length o2c) (cs.map showC) ⟨#[32, 65, 78, 68, 32]⟩ w5 (by have h := HSL5.out; rw [List.length_map] at h; rw [List.length_map]; exact h) (by rw [List.length_map]; omega) (by rw [HJB'.out]; omega)
            rw [HJB'.out] at HC2
            have HC3 := Lib.hid HC2
            clear HC2 q2
            go_wp2_with fail
            refine HC3.out.mono ?_
            rintro e w6 ⟨rfl, hb6⟩
            have HB6 := Lib.hid (HB5.out.trans (hb6.mono HB5.out.size))
            have hx6 := (hb6.block _ hz5).trans HX5.out
            have q2 := (Lib.cell_of_heap hx6 2).trans rfl
            have HFM := format_any wi hw0 hw1 w6 (HT.out _ HB6.out)
            rw [HWL.out] at HFM
            have HF := Lib.hid HFM
            clear hb6 HC3 hx6 HFM
            go_wp2_with fail
            refine HF.out.mono ?_
            rintro e w7 ⟨rfl, hg7⟩
            have HB7 := Lib.hid (HB6.out.trans (hg7.below.mono HB6.out.size))
            clear hg7
            go_wp2_with fail
            go_ret
            exact ⟨by rw [HJF.out]; simp only [← mkapp]; rfl, HB7.out⟩
          · have hc0 : cs.length = 0 := by omega
            have hcs' : ¬ (0 : Int) < (cs.length : Int) := by omega
            have HJF := Lib.hid (show R = (((seqB ++ ja) ++ [41]) ++ withinB) ++ wl by
              rw [HSH.out, if_pos (List.eq_nil_of_length_eq_zero hc0), HJA.out, HWL.out]
              simp)
            have HFM := format_any wi hw0 hw1 w5 (HT.out _ HB5.out)
            rw [HWL.out] at HFM
            have HF := Lib.hid HFM
            clear HFM hc0 hcs
            go_wp2_with fail
            refine HF.out.mono ?_
            rintro e w7 ⟨rfl, hg7⟩
            have HB7 := Lib.hid (HB5.out.trans (hg7.below.mono HB5.out.size))
            clear hg7
            go_wp2_with fail
            go_ret
            exact ⟨by rw [HJF.out]; simp only [← mkapp]; rfl, HB7.out⟩
end Go.Proofs.YtcfimponmioneaaDoor.WS
