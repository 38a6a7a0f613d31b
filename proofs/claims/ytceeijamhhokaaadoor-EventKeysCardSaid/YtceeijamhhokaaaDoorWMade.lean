/- The walks of event.made, Key and Span, and of the document's (layer 18). -/
import Derived.Test.YtceeijamhhokaaaDoorWRef02
import Derived.Test.YtceeijamhhokaaaDoorWLists
import Derived.Test.YtceeijamhhokaaaDoorEPut
import Derived.Test.YtceeijamhhokaaaDoorWGood
namespace Go.Proofs.YtceeijamhhokaaaDoor.WK
open Go Go.RowKit Go.Proofs.YtceeijamhhokaaaDoor Go.Proofs.YtceeijamhhokaaaDoor.PK Go.Proofs.YtceeijamhhokaaaDoor.Mem

/-- The part "e", and a number as a part. -/
def eK : KP := ⟨true, 0, ⟨#[101]⟩⟩
def numK (n : Int) : KP := ⟨false, n, .empty⟩
def evParts (ns : List Int) : List KP := eK :: ns.map numK
def evKey (ns : List Int) : List UInt8 := keyB (evParts ns)
theorem evParts_len (ns : List Int) : (evParts ns).length = ns.length + 1 := by simp [evParts]
theorem evParts_snoc (ns : List Int) (n : Int) : evParts (ns ++ [n]) = evParts ns ++ [numK n] := by simp [evParts]
theorem evParts_fit {ns : List Int} (h : ∀ n ∈ ns, WE.fit64 n) : ∀ p ∈ evParts ns, fitK p := by
  intro p hp
  simp only [evParts, List.mem_cons, List.mem_map] at hp
  rcases hp with rfl | ⟨n, hn, rfl⟩
  · unfold fitK; decide
  · exact h n hn
theorem evParts_short {ns : List Int} : ∀ p ∈ evParts ns, p.txt = true → p.s.size ≤ 4096 := by
  intro p hp ht
  simp only [evParts, List.mem_cons, List.mem_map] at hp
  rcases hp with rfl | ⟨n, hn, rfl⟩
  · decide
  · cases ht
theorem makeS_ev {ns : List Int} (h : ns.length ≤ 15) : makeS (evParts ns) = evKey ns := by
  have e : makeE (evParts ns) = 0 := makeE_ok (by rw [evParts_len]; omega) evParts_short
  unfold makeS
  rw [if_pos e]
  rfl

set_option maxRecDepth 100000 in
set_option maxHeartbeats 3200000 in
theorem made_any (v : Value) (ns : List Int) (W : World) (hm : MaxLen W) (hg : 0 < W.heap.size) (hv : Ints W W.heap.size v ns) (hl : ns.length ≤ 15) (hf : ∀ n ∈ ns, WE.fit64 n) :
    Calls Tryd.prog 32 #[v] W fun e w' => e = .returned (.string ⟨(evKey ns).toArray⟩) ∧ Below W.heap.size W w' := by
  obtain ⟨i0, hi, hz0, hz1, hz2⟩ := info_parts infoP1
  obtain ⟨A, c, rfl⟩ := Sl.shape hv
  have HV := Lib.hid hv; have HF := Lib.hid hf
  have HT := Lib.hid (text_any ⟨#[101]⟩ W)
  have hl' : (ns.length : Int) ≤ 15 := by omega
  clear hv hf
  go_enter Tryd.func32, Tryd.ntmps32
  go_wp2_with fail
  refine HT.out.mono ?_
  rintro e w1 ⟨rfl, hb1⟩
  have HB1 := Lib.hid hb1
  clear hb1 HT
  go_wp2_with fail
  go_loopw [3, 12] (fun t i wr => ∃ (k : Nat) (vo : Value), k ≤ ns.length ∧ i = .int .i64 k ∧ vo = t ∧ wr.ownsRow W.heap.size 34 3 t (k + 1) (cellsOf encK (evParts (ns.take k))) ∧ Below W.heap.size W wr) (fun _ i _ => ns.length - (intOf i).toNat)
  case atStart =>
    refine ⟨0, _, by omega, rfl, rfl, ?_, HB1.out.alloc HB1.out.size _⟩
    exact World.ownsRow_lit (base := W.heap.size) (e := 34) (size := 3) w1 #[.bool true, .int .i64 0, .string ⟨#[101]⟩] 1 HB1.out.size (by decide) rfl
  case round =>
    obtain ⟨k, vo, hk, rfl, rfl, hown, hbel⟩ := hrel
    have HO := Lib.hid hown; have HB := Lib.hid hbel
    have hsz := hbel.size
    clear hown
    by_cases hlt : k < ns.length
    · have hlt' : (k : Int) < (ns.length : Int) := by omega
      have hk0 : (0 : Int) ≤ (k : Int) := by omega
      obtain ⟨b, o, c', hc', hbl, g0⟩ := HV.out.at_ hlt
      obtain ⟨rfl, rfl⟩ : A = some ⟨b, o, none⟩ ∧ c = c' := by simpa using hc'
      have hc0 := (hbel.cell (p := ⟨b, o + k, none⟩) hbl).trans g0
      have HL := Lib.hid (show cellsOf encK (evParts (ns.take (k + 1))) = cellsOf encK (evParts (ns.take k)) ++ encK (numK ns[k]) by rw [List.take_succ_eq_append_getElem hlt, evParts_snoc, cellsOf_snoc])
      obtain ⟨n, hn⟩ : ∃ n, ns[k] = n := ⟨_, rfl⟩
      rw [hn] at hc0 HL
      have HN := Lib.hid (num_any n wr)
      clear g0 hc' hn hbel
      go_wp2_with fail
      refine HN.out.mono ?_
      rintro e w2 ⟨rfl, hb2⟩
      have HO2 := Lib.hid (own_below HO.out hb2)
      have HB2 := Lib.hid (HB.out.trans (hb2.mono hsz))
      have hsz2 := HB2.out.size
      clear hb2 HN HO HB hc0
      go_wp2_with (at_builtin; refine wpList_append_lies _ rfl (.tmp 16) (.tmp 19) 23 rfl W.heap.size 34 i0 _ 3 32 Tryd.underlying23 hi hz0 hz1 hz2 rfl (by decide) _ _ _ rfl (HO2.out.alloc _) ⟨w2.heap.size, 0, none⟩ 1 1 (encK (numK n)) rfl rfl ?d1 ?d2 (by decide) ?d3 ?d4 ?d5 _ rfl ?_)
      case d1 =>
        intro j u hu
        exact new_cell w2 (encK (numK n)).toArray 34 j u (by simpa using hu)
      case d2 => exact encK_one _
      case d3 => unfold maxLen; omega
      case d4 => omega
      case d5 => simp; omega
      intro g cap w3 hown3 hgr3 _ _
      have HB3 := Lib.hid (below_grown0 (HB2.out.alloc hsz2 _) (HO2.out.alloc _) hgr3)
      have HO3 := Lib.hid hown3
      clear hown3 hgr3 HB2 HO2
      go_wp2_with fail
      go_roundw
      case rel => exact ⟨k + 1, _, by omega, by go_num, rfl, by rw [HL.out]; exact HO3.out, HB3.out⟩
      case measure => simp [intOf]; omega
    · obtain rfl : k = ns.length := by omega
      have e : ns.take ns.length = ns := List.take_length
      rw [e] at HO
      have hP : Prts wr wr.heap.size vo (evParts ns) := by
        have h := Sl.of_own HO.out
        have e2 := evParts_len ns
        rw [← e2] at h
        exact h
      have HM := Lib.hid (make_any (evParts ns) vo wr (hm.below hbel hg) (Nat.lt_of_lt_of_le hg hsz) hP (evParts_fit HF.out) (by rw [evParts_len]; unfold maxLen; omega))
      have HE := Lib.hid (makeS_ev hl)
      obtain ⟨ad, cc, rfl⟩ := Sl.shape hP
      clear hbel e hP
      go_wp2_with fail
      refine HM.out.mono ?_
      rintro e w2 ⟨rfl, hb2⟩
      rw [HE.out]
      go_wp2_with fail
      go_ret
      exact ⟨rfl, HB.out.trans (hb2.mono hsz)⟩

set_option maxRecDepth 100000 in
set_option maxHeartbeats 800000 in
theorem ekey_any (x : Ev) (W : World) (hm : MaxLen W) (hg : 0 < W.heap.size) (hx : x.fits) :
    Calls Tryd.prog 21 #[WE.evV x] W fun e w' => e = .returned (.string ⟨(evKey [x.time, x.id]).toArray⟩) ∧ Below W.heap.size W w' := by
  unfold WE.evV
  obtain ⟨w2, hw2⟩ : ∃ w2, w2 = (W.alloc (.cells #[.int .i64 x.id, .int .i64 x.time, .int .u8 x.kind, .int .i64 x.val] 47)).alloc (.cells #[.int .i64 x.time, .int .i64 x.id] 2) := ⟨_, rfl⟩
  have hb2 : Below W.heap.size W w2 := by rw [hw2]; exact ((Below.refl _ _).alloc (Nat.le_refl _) _).alloc (by simp) _
  have hI : Ints w2 w2.heap.size (.slice (some ⟨W.heap.size + 1, 0, none⟩) 2 2) [x.time, x.id] := by
    rw [hw2]
    have := Sl.new (W.alloc (.cells #[.int .i64 x.id, .int .i64 x.time, .int .u8 x.kind, .int .i64 x.val] 47)) 2 #[.int .i64 x.time, .int .i64 x.id] 2 1 rfl (W.heap.size + 1) (by simp)
    exact this.more (by simp)
  have HM := Lib.hid (made_any _ [x.time, x.id] w2 (hm.below hb2 hg) (Nat.lt_of_lt_of_le hg hb2.size) hI (by simp) (by
    intro n hn
    unfold Ev.fits at hx
    simp only [List.mem_cons, List.not_mem_nil, or_false] at hn
    unfold WE.fit64
    rcases hn with rfl | rfl <;> omega))
  have HB := Lib.hid hb2; have HW := Lib.hid hw2
  clear hb2 hI hw2
  go_enter Tryd.func21, Tryd.ntmps21
  go_wp2_with fail
  rw [← HW.out]
  refine HM.out.mono ?_
  rintro e w3 ⟨rfl, hb3⟩
  go_wp2_with fail
  go_ret
  exact ⟨rfl, HB.out.trans (hb3.mono HB.out.size)⟩

/-- The number of a span. -/
def spanN (t : Int) : Int := max (-1) (min t 9007199254740992) + 1
theorem spanN_fit (t : Int) : WE.fit64 (spanN t) := by unfold spanN WE.fit64; omega

set_option maxRecDepth 100000 in
set_option maxHeartbeats 800000 in
theorem span_any (t : Int) (W : World) (hm : MaxLen W) (hg : 0 < W.heap.size) (ht : WE.fit64 t) :
    Calls Tryd.prog 18 #[.int .i64 t] W fun e w' => e = .returned (.tuple #[.string ⟨(evKey []).toArray⟩, .string ⟨(evKey [spanN t]).toArray⟩]) ∧ Below W.heap.size W w' := by
  have HM := Lib.hid (made_any (.slice none 0 0) [] W hm hg (Sl.nil_ _ _ _) (by simp) (by simp))
  have hnf : WE.fit64 (spanN t) := spanN_fit t
  have key : ∀ w1 : World, Below W.heap.size W w1 → Calls Tryd.prog 32 #[.slice (some ⟨w1.heap.size, 0, none⟩) 1 1] (w1.alloc (.cells #[.int .i64 (max (-1) (min t 9007199254740992) + 1)] 2)) fun e w' => e = .returned (.string ⟨(evKey [spanN t]).toArray⟩) ∧ Below W.heap.size W w' := by
    intro w1 hb1
    show Calls Tryd.prog 32 #[.slice (some ⟨w1.heap.size, 0, none⟩) 1 1] (w1.alloc (.cells #[.int .i64 (spanN t)] 2)) _
    have hb2 := hb1.alloc hb1.size (.cells #[.int .i64 (spanN t)] 2)
    have hI : Ints (w1.alloc (.cells #[.int .i64 (spanN t)] 2)) (w1.alloc (.cells #[.int .i64 (spanN t)] 2)).heap.size (.slice (some ⟨w1.heap.size, 0, none⟩) 1 1) [spanN t] := by
      have := Sl.new w1 2 #[.int .i64 (spanN t)] 1 1 rfl w1.heap.size rfl
      exact this.more (by simp)
    refine (made_any _ [spanN t] _ (hm.below hb2 hg) (Nat.lt_of_lt_of_le hg hb2.size) hI (by simp) (by simpa using hnf)).mono ?_
    rintro e w3 ⟨rfl, hb3⟩
    exact ⟨rfl, hb2.trans (hb3.mono hb2.size)⟩
  have HK := Lib.hid key
  clear key hnf
  obtain ⟨n, hn⟩ : ∃ n, spanN t = n := ⟨_, rfl⟩
  rw [hn] at HK ⊢
  have HN := Lib.hid hn
  clear hn
  unfold WE.fit64 at ht
  go_enter Tryd.func18, Tryd.ntmps18
  go_wp2_with fail
  refine HM.out.mono ?_
  rintro e w1 ⟨rfl, hb1⟩
  have HK1 := Lib.hid (HK.out w1 hb1)
  clear HK HM
  go_wp2_with fail
  refine HK1.out.mono ?_
  rintro e w2 ⟨rfl, hb2⟩
  go_wp2_with fail
  go_ret2
  exact ⟨rfl, hb2⟩
end Go.Proofs.YtceeijamhhokaaaDoor.WK
