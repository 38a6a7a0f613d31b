/- The walks of layer 18's writing: varint.PutAll, event.Put. -/
import Derived.Test.YtceeijamhhokaaaDoorVPut
import Derived.Test.YtceeijamhhokaaaDoorWBld
import Derived.Test.YtceeijamhhokaaaDoorPEv
namespace Go.Proofs.YtceeijamhhokaaaDoor.WE
open Go.RowKit Go.Proofs.YtceeijamhhokaaaDoor Go.Proofs.YtceeijamhhokaaaDoor.Mem Go.Proofs.YtceeijamhhokaaaDoor.PE

def fit64 (n : Int) : Prop := -9223372036854775808 ≤ n ∧ n ≤ 9223372036854775807
theorem take_snoc {α : Type} (l : List α) (k : Nat) (h : k < l.length) : l.take (k + 1) = l.take k ++ [l[k]] := by
  rw [List.take_succ_eq_append_getElem h]

set_option maxRecDepth 100000 in
set_option maxHeartbeats 400000 in
theorem putAll_any (v : Value) (l : List Int) (W : World) (hv : Ints W W.heap.size v l) (hl : l.length ≤ 1000000000) (hf : ∀ x ∈ l, fit64 x) :
    Calls Tryd.prog 44 #[v] W fun e w' => e = .returned (.string ⟨(putL l).toArray⟩) ∧ Below W.heap.size W w' := by
  obtain ⟨A, c, hvv⟩ := hv.shape
  subst hvv
  have Hv := Lib.hid hv; have Hf := Lib.hid hf
  clear hv hf
  go_enter Tryd.func44, Tryd.ntmps44
  go_wp2
  go_loopw [8] (fun i wr => ∃ k : Nat, k ≤ l.length ∧ i = .int .i64 k ∧ WB.Bld W.heap.size W.heap.size (putL (l.take k)) wr ∧ Below W.heap.size W wr ∧ W.heap.size < wr.heap.size) (fun i _ => l.length - (intOf i).toNat)
  case atStart => exact ⟨0, by omega, rfl, WB.fresh W, (Below.refl _ _).alloc (Nat.le_refl _) _, by simp⟩
  case round =>
    obtain ⟨k, hk, rfl, hB, hb, hz⟩ := hrel
    have HB := Lib.hid hB; clear hB
    by_cases hlt : k < l.length
    · obtain ⟨b, o, c', hc', hbl, hcell⟩ := Hv.out.at_ hlt
      obtain ⟨rfl, rfl⟩ : A = some ⟨b, o, none⟩ ∧ c = c' := by simpa using hc'
      clear hc'
      have hc1 : wr.cell? ⟨b, o + k, none⟩ = some (.int .i64 l[k]) := (hb.cell (p := ⟨b, o + k, none⟩) hbl).trans hcell
      obtain ⟨hf1, hf2⟩ := Hf.out l[k] (List.getElem_mem hlt)
      go_wp2_with fail
      refine (WV.put_any _ _ hf1 hf2).mono ?_
      rintro e w1 ⟨rfl, hb1⟩
      have hB1 := HB.out.below hb1
      have HB1 := Lib.hid hB1
      clear hB1
      go_wp2_with fail
      have hz1 := hb1.size
      refine (WB.write_any W.heap.size W.heap.size (putL (l.take k)) _ w1 HB1.out ?_ ?_ (by omega)).mono ?_
      · have := (PV.putB_len l[k]).1; simp [ByteArray.size]; omega
      · have h1 := (PV.putB_len l[k]).2
        have h2 := putL_len (l.take k)
        have h3 : (l.take k).length ≤ k := List.length_take_le _ _
        simp only [ByteArray.size, List.size_toArray]; omega
      rintro e w2 ⟨rfl, hB2, hb2⟩
      have HB2 := Lib.hid hB2
      clear hB2
      go_wp2_with fail
      go_roundw
      case rel => exact ⟨k + 1, by omega, by go_num, by rw [take_snoc l k hlt, putL_snoc]; exact HB2.out, (hb.trans (hb1.mono (by omega))).trans hb2, by have := hb2.size; omega⟩
      case measure => simp [intOf]; omega
    · obtain rfl : k = l.length := by omega
      go_wp2_with fail
      refine (WB.string_any W.heap.size W.heap.size (putL (l.take l.length)) _ HB.out).mono ?_
      rintro e w1 ⟨rfl, hb1⟩
      go_wp2_with fail
      go_ret
      exact ⟨rfl, hb.trans hb1⟩

set_option maxRecDepth 100000 in
set_option maxHeartbeats 400000 in
theorem put_any (v : Value) (l : List Ev) (W : World) (hv : Evs W W.heap.size v l) (hl : l.length ≤ 1000000000) (hf : ∀ x ∈ l, x.fits) :
    Calls Tryd.prog 35 #[v] W fun e w' => e = .returned (.string ⟨(putEs l).toArray⟩) ∧ Below W.heap.size W w' := by
  obtain ⟨A, c, hvv⟩ := hv.shape
  subst hvv
  have Hv := Lib.hid hv; have Hf := Lib.hid hf
  clear hv hf
  go_enter Tryd.func35, Tryd.ntmps35
  go_wp2
  go_loopw [8] (fun i wr => ∃ k : Nat, k ≤ l.length ∧ i = .int .i64 k ∧ WB.Bld W.heap.size W.heap.size (putEs (l.take k)) wr ∧ Below W.heap.size W wr ∧ W.heap.size < wr.heap.size) (fun i _ => l.length - (intOf i).toNat)
  case atStart => exact ⟨0, by omega, rfl, WB.fresh W, (Below.refl _ _).alloc (Nat.le_refl _) _, by simp⟩
  case round =>
    obtain ⟨k, hk, rfl, hB, hb, hz⟩ := hrel
    have HB := Lib.hid hB; clear hB
    by_cases hlt : k < l.length
    · obtain ⟨b, o, c', hc', hbl, g0, g1, g2, g3⟩ := Hv.out.at_ hlt
      obtain ⟨rfl, rfl⟩ : A = some ⟨b, o, none⟩ ∧ c = c' := by simpa using hc'
      clear hc'
      have hc0 := (hb.cell (p := ⟨b, o + k * 4, none⟩) hbl).trans g0
      have hc1 := (hb.cell (p := ⟨b, o + k * 4 + 1, none⟩) hbl).trans g1
      have hc2 := (hb.cell (p := ⟨b, o + k * 4 + 2, none⟩) hbl).trans g2
      have hc3 := (hb.cell (p := ⟨b, o + k * 4 + 3, none⟩) hbl).trans g3
      clear g0 g1 g2 g3
      have hfit := Hf.out l[k] (List.getElem_mem hlt)
      have Hfit := Lib.hid hfit
      obtain ⟨⟨f1, f2⟩, ⟨f3, f4⟩, ⟨f5, f6⟩, ⟨f7, f8⟩⟩ := hfit
      go_wp2_with fail
      refine (putAll_any _ [l[k].id, l[k].time, l[k].kind, l[k].val] _ ?_ (by simp) ?_).mono ?_
      · have := Sl.new (wr.alloc (.cells #[.int .i64 l[k].id, .int .i64 l[k].time, .int .u8 l[k].kind, .int .i64 l[k].val] 47)) 2 #[.int .i64 l[k].id, .int .i64 l[k].time, .int .i64 l[k].kind, .int .i64 l[k].val] 4 1 rfl (wr.heap.size + 1) (by simp)
        exact this.more (by simp)
      · intro x hx
        have h := Hfit.out
        unfold Ev.fits at h
        simp only [List.mem_cons, List.not_mem_nil, or_false] at hx
        unfold fit64
        rcases hx with rfl | rfl | rfl | rfl <;> omega
      rintro e w1 ⟨rfl, hb1⟩
      have hb0 : Below wr.heap.size wr w1 := ((((Below.refl _ _).alloc (Nat.le_refl _) _).alloc (by simp) _).trans (hb1.mono (by simp; omega)))
      clear hb1
      have hB1 := HB.out.below hb0
      have HB1 := Lib.hid hB1
      clear hB1
      have hz1 := hb0.size
      go_wp2_with fail
      refine (WB.write_any W.heap.size W.heap.size (putEs (l.take k)) _ w1 HB1.out ?_ ?_ (by omega)).mono ?_
      · have := (putE_len l[k]).1; rw [putL_four]; simp only [ByteArray.size, List.size_toArray]; unfold putE at this; omega
      · have h1 := (putE_len l[k]).2
        have h2 := putEs_len (l.take k)
        have h3 : (l.take k).length ≤ k := List.length_take_le _ _
        rw [putL_four]; simp only [ByteArray.size, List.size_toArray]; unfold putE at h1; omega
      rintro e w2 ⟨rfl, hB2, hb2⟩
      have HB2 := Lib.hid hB2
      clear hB2
      go_wp2_with fail
      go_roundw
      case rel => exact ⟨k + 1, by omega, by go_num, by rw [take_snoc l k hlt, putEs_snoc, putE, ← putL_four]; exact HB2.out, (hb.trans (hb0.mono (by omega))).trans hb2, by have := hb2.size; omega⟩
      case measure => simp [intOf]; omega
    · obtain rfl : k = l.length := by omega
      go_wp2_with fail
      refine (WB.string_any W.heap.size W.heap.size (putEs (l.take l.length)) _ HB.out).mono ?_
      rintro e w1 ⟨rfl, hb1⟩
      go_wp2_with fail
      go_ret
      exact ⟨rfl, hb.trans hb1⟩
end Go.Proofs.YtceeijamhhokaaaDoor.WE
