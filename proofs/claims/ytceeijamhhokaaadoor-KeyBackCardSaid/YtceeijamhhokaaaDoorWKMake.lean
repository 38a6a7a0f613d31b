/- The walk of key.Make: the key of parts, or an error. -/
import Derived.Test.YtceeijamhhokaaaDoorWKey
import Derived.WalkSpells
import Derived.WalkLawsBesides
import Derived.BigQuiet
import Derived.Deep.QuietTactic
import Derived.Laws.IdiomStrings
namespace Go.Proofs.YtceeijamhhokaaaDoor.WK
open Go Go.RowKit Go.Proofs.YtceeijamhhokaaaDoor Go.Proofs.YtceeijamhhokaaaDoor.PK Go.Proofs.YtceeijamhhokaaaDoor.Mem

theorem encK_len (p : KP) : (encK p).length = 3 := rfl
/-- The slice reads as these parts. -/
def Prts (w : World) (B : Nat) (v : Value) (l : List KP) : Prop := Sl w B 3 v l.length (cellsOf encK l)
theorem Prts.at_ {w : World} {B : Nat} {v : Value} {l : List KP} (h : Prts w B v l) {i : Nat} (hi : i < l.length) :
    ∃ (b o c : Nat), v = .slice (some ⟨b, o, none⟩) l.length c ∧ b < B ∧ w.cell? ⟨b, o + i * 3, none⟩ = some (.bool l[i].txt) ∧ w.cell? ⟨b, o + i * 3 + 1, none⟩ = some (.int .i64 l[i].n) ∧ w.cell? ⟨b, o + i * 3 + 2, none⟩ = some (.string l[i].s) := by
  obtain ⟨b, o, c, hv, hb, hx⟩ := Sl.elem h hi
  refine ⟨b, o, c, hv, hb, ?_, ?_, ?_⟩
  · exact hx 0 _ (by omega) (by rw [cellsOf_get encK_len l i 0 (by omega) hi]; rfl)
  · exact hx 1 _ (by omega) (by rw [cellsOf_get encK_len l i 1 (by omega) hi]; rfl)
  · exact hx 2 _ (by omega) (by rw [cellsOf_get encK_len l i 2 (by omega) hi]; rfl)

/-- 'string(b)', b a row of the call's own. -/
theorem conv_own {w : World} {base : Nat} {v : Value} {l : List UInt8} (h : w.ownsRow base 5 1 v l.length (Lib.byteCells l)) :
    (convert 63 9 v).run Tryd.prog w = .ok (.string ⟨l.toArray⟩) w := by
  rcases h.2 with ⟨rfl, hx⟩ | ⟨g, cap, cur, hv, hb, hh, hnc, hr⟩
  · have hl : l = [] := List.eq_nil_of_length_eq_zero hx
    subst hl
    rw [run_convert_bytes_string w _ _ 5 none 0 0 Tryd.underlying63 Tryd.underlying5 Tryd.underlying9]
    rfl
  · subst hv
    refine run_convert_bytes_back w _ _ 5 ⟨g, 0, none⟩ cap l Tryd.underlying63 Tryd.underlying5 Tryd.underlying9 fun j hj => ?_
    have hc := h.cells (g := g) rfl j (.int .u8 (l[j].toNat : Int)) (by simp [Lib.byteCells, hj])
    exact hc

/-- The key under way. -/
structure Mk (W w : World) (v : Value) (l : List KP) : Prop where
  bel : Below W.heap.size W w
  own : w.ownsRow W.heap.size 5 1 v (keyB l).length (Lib.byteCells (keyB l))

set_option maxRecDepth 100000 in
set_option maxHeartbeats 3200000 in
theorem make_any (l : List KP) (v : Value) (W : World) (hm : MaxLen W) (hg : 0 < W.heap.size) (hv : Prts W W.heap.size v l) (hf : ∀ p ∈ l, fitK p) (hlen : l.length ≤ maxLen) :
    Calls Tryd.prog 12 #[v] W fun e w' => e = .returned (.tuple #[.string ⟨(makeS l).toArray⟩, .int .i64 (makeE l)]) ∧ Below W.heap.size W w' := by
  obtain ⟨a1, c1, rfl⟩ := Sl.shape hv
  have HV := Lib.hid hv; have HF := Lib.hid hf
  have hlen' : (l.length : Int) ≤ 9223372036854775807 := by unfold maxLen at hlen; omega
  clear hv hf
  go_enter Tryd.func12, Tryd.ntmps12
  by_cases hn : 16 < l.length
  · have hn' : (16 : Int) < (l.length : Int) := by omega
    have HE := Lib.hid (makeE_many hn)
    go_wp2_with fail
    go_ret2
    refine ⟨?_, Below.refl _ _⟩
    unfold makeS
    rw [HE.out]; rfl
  · have hn' : ¬ (16 : Int) < (l.length : Int) := by omega
    have hn2 : (l.length : Int) ≤ 16 := by omega
    go_wp2_with fail
    go_loopw [4, 12] (fun t u wr => ∃ (i : Nat) (vo : Value), i ≤ l.length ∧ u = .int .i64 i ∧ vo = t ∧ (∀ p ∈ l.take i, p.txt = true → p.s.size ≤ 4096) ∧ Mk W wr t (l.take i)) (fun _ u _ => l.length - (intOf u).toNat)
    case atStart => exact ⟨0, _, by omega, rfl, rfl, fun p hp => absurd hp (by simp), Below.refl _ _, World.ownsRow_nil _ _ _ _⟩
    case round =>
      obtain ⟨i, vo, hi, rfl, rfl, hok, hmk⟩ := hrel
      have HOK := Lib.hid hok; have HMK := Lib.hid hmk
      have hsz := hmk.bel.size
      clear hok hmk
      by_cases hlt : i < l.length
      · have hlt' : (i : Int) < (l.length : Int) := by omega
        have hi0 : (0 : Int) ≤ (i : Int) := by omega
        obtain ⟨b, o, c, hc, hb, x0, x1, x2⟩ := HV.out.at_ hlt
        obtain ⟨rfl, rfl⟩ : a1 = some ⟨b, o, none⟩ ∧ c1 = c := by simpa using hc
        have hfk := HF.out l[i] (List.getElem_mem hlt)
        have HT := Lib.hid (List.take_succ_eq_append_getElem (l := l) (i := i) hlt)
        have HMEM := Lib.hid (List.getElem_mem hlt)
        obtain ⟨p, hp⟩ : ∃ p, l[i] = p := ⟨_, rfl⟩
        rw [hp] at x0 x1 x2 hfk HT HMEM
        have y0 := (HMK.out.bel.cell (p := ⟨b, o + i * 3, none⟩) hb).trans x0
        have y1 := (HMK.out.bel.cell (p := ⟨b, o + i * 3 + 1, none⟩) hb).trans x1
        have y2 := (HMK.out.bel.cell (p := ⟨b, o + i * 3 + 2, none⟩) hb).trans x2
        clear x0 x1 x2 hc hp
        obtain ⟨ptx, hptx⟩ : ∃ b, p.txt = b := ⟨_, rfl⟩
        have HTX := Lib.hid hptx
        rw [hptx] at y0
        clear hptx
        by_cases hbad : ptx = true ∧ 4096 < p.s.size
        · obtain ⟨rfl, hbig⟩ := hbad
          have hbig' : (4096 : Int) < (p.s.size : Int) := by omega
          have HE := Lib.hid (makeE_long HMEM.out HTX.out hbig)
          go_wp2_with fail
          go_ret2
          refine ⟨?_, HMK.out.bel.alloc hsz _⟩
          unfold makeS
          rw [HE.out]; rfl
        · have hs4 : p.txt = true → p.s.size ≤ 4096 := fun h => by
            rcases Nat.lt_or_ge 4096 p.s.size with h' | h'
            · exact absurd ⟨HTX.out.symm.trans h, h'⟩ hbad
            · exact h'
          have hkl : (keyB (l.take i)).length ≤ 1048576 := by
            have := keyB_le _ HOK.out
            have e : (l.take i).length = i := by simp; omega
            rw [e] at this
            omega
          have hown := HMK.out.own.alloc (.cells #[.bool p.txt, .int .i64 p.n, .string p.s] 34)
          have hput := put_any p vo (keyB (l.take i)) W.heap.size (wr.alloc (.cells #[.bool p.txt, .int .i64 p.n, .string p.s] 34)) (hm.below (HMK.out.bel.alloc hsz _) hg) hg hfk hs4 hown (by simp; omega) hkl
          rw [HTX.out] at hput
          have HP := Lib.hid hput
          have HA := Lib.hid (HMK.out.bel.alloc hsz (.cells #[.bool ptx, .int .i64 p.n, .string p.s] 34))
          obtain ⟨td, tcap, rfl⟩ : ∃ ad c, vo = .slice ad (keyB (l.take i)).length c := (Sl.of_own HMK.out.own).shape
          have HS4 := Lib.hid hs4
          clear hput hown hs4
          cases ptx with
          | true =>
            have hsm : p.s.size ≤ 4096 := HS4.out HTX.out
            have hsm' : ¬ (4096 : Int) < (p.s.size : Int) := by omega
            go_wp2_with fail
            refine HP.out.mono ?_
            rintro e w2 ⟨v', rfl, hb2, hown2⟩
            have HN := Lib.hid (show Mk W w2 v' (l.take (i + 1)) by rw [HT.out]; exact ⟨HA.out.trans hb2, by rw [keyB_snoc]; exact hown2⟩)
            clear hb2 hown2 HP HA HMK
            go_wp2_with fail
            go_roundw
            case rel => exact ⟨i + 1, _, by omega, by go_num, rfl, fun q hq => by rw [HT.out] at hq; rcases List.mem_append.1 hq with hq | hq; exact HOK.out q hq; simp only [List.mem_cons, List.not_mem_nil, or_false] at hq; subst hq; exact HS4.out, HN.out⟩
            case measure => simp [intOf]; omega
          | false =>
            go_wp2_with fail
            refine HP.out.mono ?_
            rintro e w2 ⟨v', rfl, hb2, hown2⟩
            have HN := Lib.hid (show Mk W w2 v' (l.take (i + 1)) by rw [HT.out]; exact ⟨HA.out.trans hb2, by rw [keyB_snoc]; exact hown2⟩)
            clear hb2 hown2 HP HA HMK
            go_wp2_with fail
            go_roundw
            case rel => exact ⟨i + 1, _, by omega, by go_num, rfl, fun q hq => by rw [HT.out] at hq; rcases List.mem_append.1 hq with hq | hq; exact HOK.out q hq; simp only [List.mem_cons, List.not_mem_nil, or_false] at hq; subst hq; exact HS4.out, HN.out⟩
            case measure => simp [intOf]; omega
      · obtain rfl : i = l.length := by omega
        have e : l.take l.length = l := List.take_length
        have HOK := Lib.hid (show ∀ p ∈ l, p.txt = true → p.s.size ≤ 4096 by have := HOK.out; rwa [e] at this)
        have HMK := Lib.hid (show Mk W wr vo l by have := HMK.out; rwa [e] at this)
        clear e
        have HE := Lib.hid (makeE_ok (by omega) HOK.out)
        have hconv := conv_own HMK.out.own
        go_wp2_with fail
        go_ret2
        refine ⟨?_, HMK.out.bel⟩
        unfold makeS
        rw [HE.out]; rfl
end Go.Proofs.YtceeijamhhokaaaDoor.WK
