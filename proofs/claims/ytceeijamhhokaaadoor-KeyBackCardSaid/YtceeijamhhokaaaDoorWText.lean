/- The walk of key.text: the text at the beginning of bytes. -/
import Derived.Test.YtceeijamhhokaaaDoorWKWake
import Derived.Test.YtceeijamhhokaaaDoorPBack
namespace Go.Proofs.YtceeijamhhokaaaDoor.WK
open Go Go.RowKit Go.Proofs.YtceeijamhhokaaaDoor Go.Proofs.YtceeijamhhokaaaDoor.PK Go.Proofs.YtceeijamhhokaaaDoor.Mem

theorem res_txt {w : World} {B : Nat} {c0 c1 c2 r3 r4 : Value} {tmps : Array Value} (h2 : tmps[2]? = some (.pointer (some ⟨B, 0, none⟩))) (h3 : tmps[3]? = some r3) (h4 : tmps[4]? = some r4)
    (e0 : w.cell? ⟨B, 0, none⟩ = some c0) (e1 : w.cell? ⟨B, 1, none⟩ = some c1) (e2 : w.cell? ⟨B, 2, none⟩ = some c2) :
    (results Tryd.f37 tmps).run Tryd.prog w = .ok (.tuple #[.agg #[c0, c1, c2], r3, r4]) w := by
  simp [results, Tryd.results37, go_sem, h2, h3, h4, e0, e1, e2]

/-- What key.text returns. -/
def textV : Except Int (List UInt8 × Nat) → Value
  | .error e => .tuple #[.agg #[.bool false, .int .i64 0, .string ⟨#[]⟩], .int .i64 0, .int .i64 e]
  | .ok (t, n) => .tuple #[.agg #[.bool true, .int .i64 0, .string ⟨t.toArray⟩], .int .i64 n, .int .i64 0]

/-- The text under way. -/
structure Tx (W w : World) (v : Value) (out : List UInt8) : Prop where
  bel : Below W.heap.size W w
  box : w.heap[W.heap.size]? = some (.cells #[.bool false, .int .i64 0, .string ⟨#[]⟩] 34 (0, 0))
  own : w.ownsRow W.heap.size 5 1 v out.length (Lib.byteCells out)
theorem Tx.push {W w w' : World} {v v' : Value} {l m : List UInt8} (h : Tx W w v l) (hgr : w.grownBy w' v.ownBlock) (hown : w'.ownsRow W.heap.size 5 1 v' (l.length + m.length) (Lib.byteCells l ++ Lib.byteCells m)) : Tx W w' v' (l ++ m) :=
  ⟨below_grown h.bel h.own hgr h.bel.size (Nat.le_refl _), heap_kept h.box h.own (by decide) hgr, by
    rw [List.length_append]
    have e : Lib.byteCells (l ++ m) = Lib.byteCells l ++ Lib.byteCells m := by unfold Lib.byteCells; rw [List.map_append]
    rw [e]; exact hown⟩
theorem Tx.alloc {W w : World} {v : Value} {l : List UInt8} (h : Tx W w v l) (o : Obj) : Tx W (w.alloc o) v l :=
  ⟨h.bel.alloc h.bel.size o, heap_alloc h.box, h.own.alloc _⟩

theorem nat_ne {b c : UInt8} {n : Int} (h : b ≠ c) (hn : (c.toNat : Int) = n) : ((b.toNat : Int) == n) = false := by
  rw [beq_eq_false_iff_ne]
  intro e
  exact h (UInt8.toNat_inj.1 (by omega))
theorem set_blk {w : World} {g : Nat} {cs : Array Value} {t : TypeId} (h : w.heap[g]? = some (.cells cs t (0, 0))) (i : Nat) (v : Value) : (w.setCell ⟨g, i, none⟩ v).heap[g]? = some (.cells (cs.setIfInBounds i v) t (0, 0)) := by
  simp [World.setCell, Array.getElem?_modify, h]
/-- The result's block, written. -/
theorem Tx.fin {W w : World} {v : Value} {l : List UInt8} (h : Tx W w v l) (c0 c1 c2 : Value) :
    Below W.heap.size W (((w.setCell ⟨W.heap.size, 0, none⟩ c0).setCell ⟨W.heap.size, 1, none⟩ c1).setCell ⟨W.heap.size, 2, none⟩ c2) ∧
    (((w.setCell ⟨W.heap.size, 0, none⟩ c0).setCell ⟨W.heap.size, 1, none⟩ c1).setCell ⟨W.heap.size, 2, none⟩ c2).heap[W.heap.size]? = some (.cells #[c0, c1, c2] 34 (0, 0)) :=
  ⟨((h.bel.setCell (p := ⟨W.heap.size, 0, none⟩) (Nat.le_refl _) _).setCell (p := ⟨W.heap.size, 1, none⟩) (Nat.le_refl _) _).setCell (p := ⟨W.heap.size, 2, none⟩) (Nat.le_refl _) _, set_blk (set_blk (set_blk h.box 0 c0) 1 c1) 2 c2⟩

set_option maxRecDepth 100000 in
set_option maxHeartbeats 3200000 in
theorem txt_any (s : ByteArray) (W : World) (hs : s.size ≤ 140737488355328) :
    Calls Tryd.prog 37 #[.string s] W fun e w' => e = .returned (textV (textR 0 [] s.data.toList)) ∧ Below W.heap.size W w' := by
  obtain ⟨i0, hi, hz0, hz1, hz2⟩ := info_parts infoByte
  obtain ⟨R, hR⟩ : ∃ R, textR 0 [] s.data.toList = R := ⟨_, rfl⟩
  rw [hR]
  have HR0 := Lib.hid (show R = textR 0 [] (s.data.toList.drop 0) by rw [List.drop_zero]; exact hR.symm)
  have HL := Lib.hid (show s.data.toList.length = s.size from Array.length_toList)
  clear hR
  go_enter Tryd.func37, Tryd.ntmps37
  go_wp2_with fail
  go_loopw [5, 6] (fun t i wr => ∃ (k : Nat) (out : List UInt8) (vo : Value), k ≤ s.size ∧ i = .int .i64 k ∧ vo = t ∧ out.length ≤ 4096 ∧ R = textR k out (s.data.toList.drop k) ∧ Tx W wr t out) (fun _ i _ => s.size - (intOf i).toNat)
  case atStart => exact ⟨0, [], _, by omega, rfl, rfl, by simp, HR0.out, (Below.refl _ _).alloc (Nat.le_refl _) _, heap_new rfl, World.ownsRow_nil _ _ _ _⟩
  case round =>
    obtain ⟨k, out, vo, hk, rfl, rfl, hol, hR, htx⟩ := hrel
    obtain ⟨oa, oc, rfl⟩ : ∃ a c, vo = .slice a out.length c := (Sl.of_own htx.own).shape
    have HR := Lib.hid hR; have HX := Lib.hid htx
    clear hR htx
    have y0 := (Lib.cell_of_heap HX.out.box 0).trans rfl
    have y1 := (Lib.cell_of_heap HX.out.box 1).trans rfl
    have y2 := (Lib.cell_of_heap HX.out.box 2).trans rfl
    have f0 := Lib.frozen_of_heap HX.out.box 0
    have f1 := Lib.frozen_of_heap HX.out.box 1
    have f2 := Lib.frozen_of_heap HX.out.box 2
    by_cases hlt : k < s.size
    · have hlt' : (k : Int) < (s.size : Int) := by omega
      have hk0 : (0 : Int) ≤ (k : Int) := by omega
      have hdrop : s.data.toList.drop k = s[k] :: s.data.toList.drop (k + 1) := by
        rw [List.drop_eq_getElem_cons (by rw [HL.out]; exact hlt)]; rfl
      by_cases hb : s[k] = 0
      · have hb' : ((s[k].toNat : Int) == 0) = true := by rw [hb]; rfl
        by_cases hlt2 : k + 1 < s.size
        · have hlt2' : (k : Int) + 1 < (s.size : Int) := by omega
          have hk1 : (0 : Int) ≤ (k : Int) + 1 := by omega
          have hne : ((k : Int) + 1 == (s.size : Int)) = false := by rw [beq_eq_false_iff_ne]; omega
          have ht1 : ((k : Int) + 1).toNat = k + 1 := by omega
          have hd2 : s.data.toList.drop k = s[k] :: s[k + 1] :: s.data.toList.drop (k + 2) := by
            rw [hdrop, List.drop_eq_getElem_cons (by rw [HL.out]; exact hlt2)]; rfl
          by_cases hc : s[k + 1] = 1
          · have hc' : ((s[k + 1].toNat : Int) == 1) = true := by rw [hc]; rfl
            have HE := Lib.hid (show R = .ok (out, k + 2) by
              have h := HR.out
              rw [hd2, hb, textR_zero, if_pos hc] at h
              exact h)
            have hconv := conv_own HX.out.own
            have HT := Lib.hid (text_any ⟨out.toArray⟩ wr)
            go_wp2_with fail
            refine HT.out.mono ?_
            rintro e w2 ⟨rfl, hb2⟩
            have HX2 := Lib.hid (show Tx W w2 (.slice oa out.length oc) out from ⟨HX.out.bel.trans (hb2.mono HX.out.bel.size), (hb2.block _ (heap_lt HX.out.box)).trans HX.out.box, own_below HX.out.own hb2⟩)
            clear hb2 y0 y1 y2 f0 f1 f2 hconv HT HX
            have y0 := (Lib.cell_of_heap HX2.out.box 0).trans rfl
            have y1 := (Lib.cell_of_heap HX2.out.box 1).trans rfl
            have y2 := (Lib.cell_of_heap HX2.out.box 2).trans rfl
            have f0 := Lib.frozen_of_heap HX2.out.box 0
            have f1 := Lib.frozen_of_heap HX2.out.box 1
            have f2 := Lib.frozen_of_heap HX2.out.box 2
            go_wp2_with fail
            obtain ⟨fb, fx⟩ := Tx.fin HX2.out (.bool true) (.int .i64 0) (.string ⟨out.toArray⟩)
            refine bodyPost_ret (res_txt rfl rfl rfl ((Lib.cell_of_heap fx 0).trans rfl) ((Lib.cell_of_heap fx 1).trans rfl) ((Lib.cell_of_heap fx 2).trans rfl)) rfl ?_
            exact ⟨by rw [HE.out]; show _ = Ending.returned (.tuple #[_, .int .i64 ((k + 2 : Nat) : Int), _]); congr 5, fb⟩
          · have hc' : ((s[k + 1].toNat : Int) == 1) = false := nat_ne hc (by decide)
            by_cases hc2 : s[k + 1] = 255
            · have hc2' : ((s[k + 1].toNat : Int) != 255) = false := by rw [hc2]; rfl
              by_cases ho : out.length = 4096
              · have ho' : ((out.length : Int) == 4096) = true := by rw [ho]; rfl
                have HE := Lib.hid (show R = .error 5 by
                  have h := HR.out
                  rw [hd2, hb, textR_zero, if_neg hc, if_neg (by rw [hc2]; decide), if_pos ho] at h
                  exact h)
                clear ho
                go_wp2_with fail
                obtain ⟨fb, fx⟩ := Tx.fin HX.out (.bool false) (.int .i64 0) (.string ⟨#[]⟩)
                refine bodyPost_ret (res_txt rfl rfl rfl ((Lib.cell_of_heap fx 0).trans rfl) ((Lib.cell_of_heap fx 1).trans rfl) ((Lib.cell_of_heap fx 2).trans rfl)) rfl ?_
                exact ⟨by rw [HE.out]; rfl, fb⟩
              · have ho' : ((out.length : Int) == 4096) = false := by rw [beq_eq_false_iff_ne]; omega
                have HN := Lib.hid (show R = textR (k + 2) (out ++ [s[k]]) (s.data.toList.drop (k + 2)) by
                  have h := HR.out
                  rw [hd2, hb, textR_zero, if_neg hc, if_neg (by rw [hc2]; decide), if_neg ho] at h
                  rw [hb]
                  exact h)
                clear hdrop hd2 hb
                clear y0 y1 y2 f0 f1 f2
                have HXA := Lib.hid (HX.out.alloc (.cells #[.int .u8 (s[k].toNat : Int)] 5))
                go_wp2_with (at_builtin; refine wpList_append_lies _ rfl (.tmp 47) (.tmp 49) 63 rfl W.heap.size 5 i0 _ 1 1 Tryd.underlying63 hi hz0 hz1 hz2 rfl (by decide) _ _ _ rfl (HX.out.own.alloc _) ⟨wr.heap.size, 0, none⟩ 1 1 (Lib.byteCells [s[k]]) rfl rfl ?c1 ?c2 (by decide) ?c3 ?c4 ?c5 _ rfl ?_)
                case c1 =>
                  intro j u hu
                  exact new_cell wr (Lib.byteCells [s[k]]).toArray 5 j u (by simpa using hu)
                case c2 => exact bytes_one _
                case c3 => unfold maxLen; omega
                case c4 => omega
                case c5 => have := HX.out.bel.size; simp; omega
                intro g cap w2 hown2 hgr2 _ _
                have HX2 := Lib.hid (Tx.push (m := [s[k]]) (HX.out.alloc _) hgr2 hown2)
                clear hgr2 hown2 HX
                go_wp2_with fail
                go_roundw
                case rel => exact ⟨k + 2, out ++ [s[k]], _, by omega, by go_num, rfl, by simp; omega, HN.out, HX2.out⟩
                case measure => simp [intOf]; omega
            · have hc2' : ((s[k + 1].toNat : Int) != 255) = true := by rw [bne, nat_ne hc2 (by decide)]; rfl
              have HE := Lib.hid (show R = .error 4 by
                have h := HR.out
                rw [hd2, hb, textR_zero, if_neg hc, if_pos hc2] at h
                exact h)
              go_wp2_with fail
              obtain ⟨fb, fx⟩ := Tx.fin HX.out (.bool false) (.int .i64 0) (.string ⟨#[]⟩)
              refine bodyPost_ret (res_txt rfl rfl rfl ((Lib.cell_of_heap fx 0).trans rfl) ((Lib.cell_of_heap fx 1).trans rfl) ((Lib.cell_of_heap fx 2).trans rfl)) rfl ?_
              exact ⟨by rw [HE.out]; rfl, fb⟩
        · have e2 : s.size = k + 1 := by omega
          have heq : ((k : Int) + 1 == (s.size : Int)) = true := by rw [beq_iff_eq]; omega
          have HE := Lib.hid (show R = .error 3 by
            have h := HR.out
            rw [hdrop, hb, List.drop_of_length_le (by rw [HL.out]; omega), textR_cut] at h
            exact h)
          go_wp2_with fail
          obtain ⟨fb, fx⟩ := Tx.fin HX.out (.bool false) (.int .i64 0) (.string ⟨#[]⟩)
          refine bodyPost_ret (res_txt rfl rfl rfl ((Lib.cell_of_heap fx 0).trans rfl) ((Lib.cell_of_heap fx 1).trans rfl) ((Lib.cell_of_heap fx 2).trans rfl)) rfl ?_
          exact ⟨by rw [HE.out]; rfl, fb⟩
      · have hb' : ((s[k].toNat : Int) == 0) = false := nat_ne hb (by decide)
        by_cases ho : out.length = 4096
        · have ho' : ((out.length : Int) == 4096) = true := by rw [ho]; rfl
          have HE := Lib.hid (show R = .error 5 by
            have h := HR.out
            rw [hdrop, textR_byte _ _ hb, if_pos ho] at h
            exact h)
          clear ho
          go_wp2_with fail
          obtain ⟨fb, fx⟩ := Tx.fin HX.out (.bool false) (.int .i64 0) (.string ⟨#[]⟩)
          refine bodyPost_ret (res_txt rfl rfl rfl ((Lib.cell_of_heap fx 0).trans rfl) ((Lib.cell_of_heap fx 1).trans rfl) ((Lib.cell_of_heap fx 2).trans rfl)) rfl ?_
          exact ⟨by rw [HE.out]; rfl, fb⟩
        · have ho' : ((out.length : Int) == 4096) = false := by rw [beq_eq_false_iff_ne]; omega
          have HN := Lib.hid (show R = textR (k + 1) (out ++ [s[k]]) (s.data.toList.drop (k + 1)) by
            have h := HR.out
            rw [hdrop, textR_byte _ _ hb, if_neg ho] at h
            exact h)
          clear hdrop hb
          clear y0 y1 y2 f0 f1 f2
          have HXA := Lib.hid (HX.out.alloc (.cells #[.int .u8 (s[k].toNat : Int)] 5))
          go_wp2_with (at_builtin; refine wpList_append_lies _ rfl (.tmp 47) (.tmp 49) 63 rfl W.heap.size 5 i0 _ 1 1 Tryd.underlying63 hi hz0 hz1 hz2 rfl (by decide) _ _ _ rfl (HX.out.own.alloc _) ⟨wr.heap.size, 0, none⟩ 1 1 (Lib.byteCells [s[k]]) rfl rfl ?c1 ?c2 (by decide) ?c3 ?c4 ?c5 _ rfl ?_)
          case c1 =>
            intro j u hu
            exact new_cell wr (Lib.byteCells [s[k]]).toArray 5 j u (by simpa using hu)
          case c2 => exact bytes_one _
          case c3 => unfold maxLen; omega
          case c4 => omega
          case c5 => have := HX.out.bel.size; simp; omega
          intro g cap w2 hown2 hgr2 _ _
          have HX2 := Lib.hid (Tx.push (m := [s[k]]) (HX.out.alloc _) hgr2 hown2)
          clear hgr2 hown2 HX
          go_wp2_with fail
          go_roundw
          case rel => exact ⟨k + 1, out ++ [s[k]], _, by omega, by go_num, rfl, by simp; omega, HN.out, HX2.out⟩
          case measure => simp [intOf]; omega
    · obtain rfl : k = s.size := by omega
      have HE := Lib.hid (show R = .error 3 by
        have h := HR.out
        rw [List.drop_of_length_le (by rw [HL.out]; omega), textR_end] at h
        exact h)
      go_wp2_with fail
      obtain ⟨fb, fx⟩ := Tx.fin HX.out (.bool false) (.int .i64 0) (.string ⟨#[]⟩)
      refine bodyPost_ret (res_txt rfl rfl rfl ((Lib.cell_of_heap fx 0).trans rfl) ((Lib.cell_of_heap fx 1).trans rfl) ((Lib.cell_of_heap fx 2).trans rfl)) rfl ?_
      exact ⟨by rw [HE.out]; rfl, fb⟩
end Go.Proofs.YtceeijamhhokaaaDoor.WK
