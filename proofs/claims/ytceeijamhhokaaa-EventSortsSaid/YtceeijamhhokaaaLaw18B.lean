/- The walks of layer 18's statements on bytes: wakes, EventPuts, EventBack. -/
import Derived.Test.YtceeijamhhokaaaWRGet
import Derived.BigQuiet
import Derived.Deep.QuietTactic
import Derived.RegionTactic
import Derived.Deep.RegionHeld3
import Derived.Deep.AppendLies
namespace Go.Proofs.Ytceeijamhhokaaa.L18
open Go.RowKit Go.Proofs.Ytceeijamhhokaaa Go.Proofs.Ytceeijamhhokaaa.Mem Go.Proofs.Ytceeijamhhokaaa.PE

theorem wake_put : putEs [⟨1, 2, 65, -1⟩] = [2, 4, 130, 1, 1] := by rfl
theorem evs_one (W : World) (e : Ev) (t : TypeId) : Evs (W.alloc (.cells #[.int .i64 e.id, .int .i64 e.time, .int .u8 e.kind, .int .i64 e.val] t)) (W.heap.size + 1) (.slice (some ⟨W.heap.size, 0, none⟩) 1 1) [e] :=
  Sl.new W t #[.int .i64 e.id, .int .i64 e.time, .int .u8 e.kind, .int .i64 e.val] 1 4 rfl W.heap.size rfl

set_option maxRecDepth 100000 in
set_option maxHeartbeats 400000 in
theorem wakes_any (W : World) : Calls Try.prog 8 #[] W fun e w' => e = .returned (.bool true) ∧ Below W.heap.size W w' := by
  go_enter Try.func8, Try.ntmps8
  go_wp2_with fail
  have hE := evs_one W ⟨1, 2, 65, -1⟩ 27
  refine (WE.put_any _ [⟨1, 2, 65, -1⟩] _ (hE.more (by simp)) (by simp) (by intro x hx; simp at hx; subst hx; unfold Ev.fits; simp only; omega)).mono ?_
  rintro e w1 ⟨rfl, hb1⟩
  rw [wake_put]
  have hb1 : Below W.heap.size W w1 := ((Below.refl _ _).alloc (Nat.le_refl _) _).trans (hb1.mono (by simp))
  go_wp2_with fail
  refine (WE.good_any ⟨1, 0, 65, 0⟩ _).mono ?_
  rintro e w2 ⟨rfl, hb2⟩
  have hb2 : Below W.heap.size W w2 := hb1.trans (hb2.mono hb1.size)
  have hg1 : WE.goodN ⟨1, 0, 65, 0⟩ = 0 := by decide
  rw [hg1]
  clear hg1
  go_wp2_with fail
  refine (WE.good_any ⟨0, 0, 0, 0⟩ _).mono ?_
  rintro e w3 ⟨rfl, hb3⟩
  have hb3 : Below W.heap.size W w3 := hb2.trans (hb3.mono hb2.size)
  have hg1 : WE.goodN ⟨0, 0, 0, 0⟩ = 2 := by decide
  rw [hg1]
  clear hg1
  go_wp2_with fail
  go_ret
  exact ⟨rfl, hb3⟩

theorem own_ne_old {w : World} {base : Nat} {e : TypeId} {size : Nat} {v : Value} {n : Nat} {xs : List Value} (h : w.ownsRow base e size v n xs) : v.ownBlock ≠ some w.heap.size := by
  intro he
  have := (own_lt h _ he).2
  omega
theorem box_cell (w : World) (cs : Array Value) (t : TypeId) (j : Nat) : (w.alloc (.cells cs t)).cell? ⟨w.heap.size, j, none⟩ = cs[j]? := World.cell?_alloc_at _ _ _ _ rfl
theorem infoL : (Try.prog.info? 27).map (fun i => (i.zero, i.size, i.bytes)) = some (some (.agg #[.int .i64 0, .int .i64 0, .int .u8 0, .int .i64 0]), 4, 32) := by kernel_rfl
theorem infoR : (Try.prog.info? 28).map (fun i => (i.zero, i.size, i.bytes)) = some (some (.agg #[.int .i64 0, .int .i64 0, .int .u8 0, .int .i64 0]), 4, 32) := by kernel_rfl


theorem take_snoc {α : Type} (l : List α) (k : Nat) (h : k < l.length) : l.take (k + 1) = l.take k ++ [l[k]] := by
  rw [List.take_succ_eq_append_getElem h]
theorem get_put_any (gl : List Ev) (w : World) (hg : ∀ x ∈ gl, good x) (hl : gl.length ≤ 10000000) :
    Calls Try.prog 6 #[.string ⟨(putEs gl).toArray⟩] w fun e w' => ∃ v, e = .returned (.tuple #[v, .int .i64 0]) ∧ Evs w' w'.heap.size v gl ∧ Below w.heap.size w w' := by
  have hpl := putEs_len gl
  have h := WG.get_any ⟨(putEs gl).toArray⟩ w (by simp only [ByteArray.size, List.size_toArray]; omega)
  have hge : getEs (ByteArray.mk (putEs gl).toArray).data.toList (ByteArray.mk (putEs gl).toArray).size 0 = .inr gl := by
    have := getEs_put gl hg [] (putEs gl).length (puts_ge gl)
    have e1 : (ByteArray.mk (putEs gl).toArray).data.toList = putEs gl := List.toList_toArray
    have e2 : (ByteArray.mk (putEs gl).toArray).size = (putEs gl).length := by simp [ByteArray.size]
    rw [e1, e2]
    exact this
  rw [hge] at h
  exact h
theorem below_dN {B : Nat} {a w : World} (h : Below B a w) (d : Nat) : Below B a (w.drewN d) := ⟨h.os, h.tape, h.output, h.size, h.block⟩
/-- The good ones. -/
def goods (l : List Ev) : List Ev := l.filter (fun e => decide (good e))
theorem goods_snoc_yes (l : List Ev) (e : Ev) (h : good e) : goods (l ++ [e]) = goods l ++ [e] := by simp [goods, List.filter_append, h]
theorem goods_snoc_no (l : List Ev) (e : Ev) (h : ¬ good e) : goods (l ++ [e]) = goods l := by simp [goods, List.filter_append, h]
theorem goods_len (l : List Ev) : (goods l).length ≤ l.length := List.length_filter_le _ _
theorem goods_good (l : List Ev) : ∀ x ∈ goods l, good x := by intro x hx; simpa [goods] using (List.mem_filter.1 hx).2

set_option maxRecDepth 100000 in
set_option maxHeartbeats 800000 in
theorem back_any (v : Value) (l : List Ev) (s : ByteArray) (W : World) (hv : Evs W W.heap.size v l) (hl : l.length ≤ 10000000) (hs : s.size ≤ 10000000) (hf : ∀ x ∈ l, x.fits) :
    Calls Try.prog 4 #[v, .string s] W fun e w' => e = .returned (.bool true) ∧ Below W.heap.size W w' := by
  obtain ⟨i0, hi, hz0, hz1, hz2⟩ := info_parts infoL
  obtain ⟨A, c, hvv⟩ := hv.shape
  subst hvv
  have Hv := Lib.hid hv; have Hf := Lib.hid hf
  clear hv hf
  go_enter Try.func4, Try.ntmps4
  go_wp2_with fail
  go_loopw [5, 15] (fun va i wr => ∃ k : Nat, k ≤ l.length ∧ i = .int .i64 k ∧ wr.ownsRow W.heap.size 27 4 va (goods (l.take k)).length (cellsOf encE (goods (l.take k))) ∧ Below W.heap.size W wr) (fun _ i _ => l.length - (intOf i).toNat)
  case atStart => exact ⟨0, by omega, rfl, World.ownsRow_nil _ _ _ _, Below.refl _ _⟩
  case round =>
    obtain ⟨k, hk, rfl, hown, hb⟩ := hrel
    have Hown := Lib.hid hown
    clear hown
    by_cases hlt : k < l.length
    · obtain ⟨b, o, c', hc', hbl, g0, g1, g2, g3⟩ := Hv.out.at_ hlt
      obtain ⟨rfl, rfl⟩ : A = some ⟨b, o, none⟩ ∧ c = c' := by simpa using hc'
      clear hc'
      have hc0 := (hb.cell (p := ⟨b, o + k * 4, none⟩) hbl).trans g0
      have hc1 := (hb.cell (p := ⟨b, o + k * 4 + 1, none⟩) hbl).trans g1
      have hc2 := (hb.cell (p := ⟨b, o + k * 4 + 2, none⟩) hbl).trans g2
      have hc3 := (hb.cell (p := ⟨b, o + k * 4 + 3, none⟩) hbl).trans g3
      clear g0 g1 g2 g3
      have hbz := hb.size
      have htk := take_snoc l k hlt
      have Htk := Lib.hid htk
      clear htk
      go_wp2_with fail
      refine (WE.good_any l[k] _).mono ?_
      rintro e w1 ⟨rfl, hb1⟩
      have hbw : Below W.heap.size W w1 := (hb.alloc hb.size _).trans (hb1.mono (by simp; omega))
      by_cases hg : good l[k]
      · have hgn : (WE.goodN l[k] == 0) = true := by rw [WE.goodN_ok hg]; rfl
        have hown1 := own_below Hown.out (((Below.refl _ _).alloc (Nat.le_refl _) _).trans (hb1.mono (by simp)))
        have c0 := (hb1.cell (p := ⟨wr.heap.size, 0, none⟩) (by simp)).trans (box_cell wr #[.int .i64 l[k].id, .int .i64 l[k].time, .int .u8 l[k].kind, .int .i64 l[k].val] 26 0)
        have c1 := (hb1.cell (p := ⟨wr.heap.size, 1, none⟩) (by simp)).trans (box_cell wr #[.int .i64 l[k].id, .int .i64 l[k].time, .int .u8 l[k].kind, .int .i64 l[k].val] 26 1)
        have c2 := (hb1.cell (p := ⟨wr.heap.size, 2, none⟩) (by simp)).trans (box_cell wr #[.int .i64 l[k].id, .int .i64 l[k].time, .int .u8 l[k].kind, .int .i64 l[k].val] 26 2)
        have c3 := (hb1.cell (p := ⟨wr.heap.size, 3, none⟩) (by simp)).trans (box_cell wr #[.int .i64 l[k].id, .int .i64 l[k].time, .int .u8 l[k].kind, .int .i64 l[k].val] 26 3)
        have hgl := goods_len (l.take k)
        have hkl : (l.take k).length ≤ k := List.length_take_le _ _
        go_wp2_with (at_builtin; refine wpList_append_own _ rfl (.tmp 22) (.tmp 24) 23 rfl W.heap.size 27 i0 _ 4 32 Try.underlying23 hi hz0 hz1 hz2 rfl (by decide) _ _ _ rfl (hown1.alloc _) ⟨w1.heap.size, 0, none⟩ 1 1 (encE l[k]) rfl rfl ?c1 ?c2 ?c3 ?c4 ?c5 ?_)
        case c1 => exact fun j u hu => new_cell _ _ _ j u hu
        case c2 => exact encE_one _
        case c3 => unfold maxLen; omega
        case c4 => omega
        case c5 => have := hbw.size; simp; omega
        intro v' w2 hown2 hgrow _
        have hbw2 : Below W.heap.size W w2 := below_grown (hbw.alloc hbw.size _) (hown1.alloc _) hgrow (by have := hbw.size; simp; omega) (Nat.le_refl _)
        have hlist : cellsOf encE (goods (l.take k)) ++ encE l[k] = cellsOf encE (goods (l.take (k + 1))) := by rw [Htk.out, goods_snoc_yes _ _ hg, cellsOf_snoc]
        have hlen : (goods (l.take k)).length + 1 = (goods (l.take (k + 1))).length := by rw [Htk.out, goods_snoc_yes _ _ hg]; simp
        rw [hlist, hlen] at hown2
        have Hown2 := Lib.hid hown2
        have Hgrow := Lib.hid hgrow; have Hown1 := Lib.hid hown1
        clear hown2 hgrow hown1 hlist hlen hb1 c0 c1 c2 c3 hgn
        go_wp2_with fail
        go_roundw
        case rel => exact ⟨k + 1, by omega, by go_num, Hown2.out, hbw2⟩
        case measure => simp [intOf]; omega
      · have hgn : (WE.goodN l[k] == 0) = false := by rw [WE.goodN_no hg]; rfl
        have hown1 := own_below Hown.out (((Below.refl _ _).alloc (Nat.le_refl _) _).trans (hb1.mono (by simp)))
        have Hown1 := Lib.hid hown1
        clear hown1 hb1
        go_wp2_with fail
        go_roundw
        case rel => exact ⟨k + 1, by omega, by go_num, by rw [Htk.out, goods_snoc_no _ _ hg]; exact Hown1.out, hbw⟩
        case measure => simp [intOf]; omega
    · obtain rfl : k = l.length := by omega
      rw [List.take_length] at Hown
      obtain ⟨gl, hgl⟩ : ∃ gl, gl = goods l := ⟨_, rfl⟩
      have hgg : ∀ x ∈ gl, good x := by rw [hgl]; exact goods_good l
      have hgn : gl.length ≤ l.length := by rw [hgl]; exact goods_len l
      rw [← hgl] at Hown
      clear hgl
      have hbz := hb.size
      have hput := WE.put_any _ gl wr (Sl.of_own Hown.out) (by omega) (fun x hx => good_fits (hgg x hx))
      have Hput := Lib.hid hput
      clear hput
      go_wp2_with fail
      refine Hput.out.mono ?_
      rintro e w1 ⟨rfl, hb1⟩
      have hbw1 : Below W.heap.size W w1 := hb.trans (hb1.mono hbz)
      have hbz1 := hbw1.size
      have hpl := putEs_len gl
      go_wp2_with fail
      have hget := get_put_any gl w1 hgg (by omega)
      refine hget.mono ?_
      clear hget
      rintro e w2 ⟨vb, rfl, hvb, hb2⟩
      obtain ⟨Ab, cb, rfl⟩ := hvb.shape
      have hva : Evs w2 w2.heap.size u5 gl := ((Sl.of_own Hown.out).below (hb1.trans (hb2.mono hb1.size))).more (by have := hb1.size; have := hb2.size; omega)
      obtain ⟨Aa, ca, rfl⟩ := hva.shape
      have hbw2 : Below W.heap.size W w2 := hbw1.trans (hb2.mono hbz1)
      have hbz2 := hbw2.size
      have Hva := Lib.hid hva; have Hvb := Lib.hid hvb
      clear hva hvb Hown hb1 hb2
      go_wp2_with fail
      refine (wakes_any w2).mono ?_
      rintro e w3 ⟨rfl, hb3⟩
      have hva := (Hva.out.below hb3).more hb3.size
      have hvb := (Hvb.out.below hb3).more hb3.size
      have hbw3 : Below W.heap.size W w3 := hbw2.trans (hb3.mono hbz2)
      have hbz3 := hbw3.size
      clear Hva Hvb hb3
      have Hva := Lib.hid hva; have Hvb := Lib.hid hvb
      clear hva hvb
      go_wp2_with fail
      go_loopw [48] (fun i wr => ∃ k d : Nat, k ≤ gl.length ∧ i = .int .i64 k ∧ wr = w3.drewN d) (fun i _ => gl.length - (intOf i).toNat)
      case atStart => exact ⟨0, 0, by omega, rfl, rfl⟩
      case round =>
        obtain ⟨k, d, hk, rfl, rfl⟩ := hrel
        by_cases hkl : k < gl.length
        · obtain ⟨ba, oa, ca', hca, hba, p0, p1, p2, p3⟩ := Evs.at_ Hva.out hkl
          obtain ⟨bb, ob, cb', hcb, hbb, q0, q1, q2, q3⟩ := Evs.at_ Hvb.out hkl
          obtain ⟨rfl, rfl⟩ : Aa = some ⟨ba, oa, none⟩ ∧ ca = ca' := by simpa using hca
          obtain ⟨rfl, rfl⟩ : Ab = some ⟨bb, ob, none⟩ ∧ cb = cb' := by simpa using hcb
          clear hca hcb
          have hki : (k : Int) < (gl.length : Int) := by omega
          have hki0 : (0 : Int) ≤ (k : Int) := by omega
          go_wp2_with fail
          go_quiet (fail)
          go_wp2_with fail
          go_roundw
          case rel => exact ⟨k + 1, d + nq, by omega, by go_num, rfl⟩
          case measure => simp [intOf]; omega
        · obtain rfl : k = gl.length := by omega
          have hg2 := WG.get_any s (w3.drewN d) (by omega)
          have Hg2 := Lib.hid hg2
          clear hg2
          go_wp2_with fail
          refine Hg2.out.mono ?_
          rintro e w4 ⟨vc, rfl, hvc, hb4⟩
          have hbw4 : Below W.heap.size W w4 := (below_dN hbw3 d).trans (hb4.mono hbz3)
          by_cases h0 : errOf (getEs s.data.toList s.size 0) = 0
          · obtain ⟨l2, hl2⟩ := getEs_zero h0
            obtain ⟨h1, h2, h3⟩ := getEs_len (by rw [Array.length_toList]; exact Nat.le_refl _) hl2
            have hsz : s.data.toList.length = s.size := Array.length_toList
            rw [hl2] at hvc ⊢
            have hbs : (⟨(putEs l2).toArray⟩ : ByteArray) = s := by rw [h1]
            have Hbs := Lib.hid hbs
            have Hvc := Lib.hid hvc
            clear h1 hl2 h0 hbs hvc
            go_wp2_with fail
            refine (WE.put_any vc l2 w4 Hvc.out (by omega) (fun x hx => good_fits (h2 x hx))).mono ?_
            rintro e w5 ⟨rfl, hb5⟩
            rw [Hbs.out]
            go_wp2_with fail
            go_ret
            exact ⟨rfl, hbw4.trans (hb5.mono hbw4.size)⟩
          · have h0' : (errOf (getEs s.data.toList s.size 0) == 0) = false := by rw [beq_eq_false_iff_ne]; exact h0
            go_wp2_with fail
            go_ret
            exact ⟨rfl, hbw4⟩
end Go.Proofs.Ytceeijamhhokaaa.L18
