/- The walk of oxbowlaw19.wakes: the program's Parse at two texts. -/
import Derived.Test.YtcfimponmioneaaDoorWPat7
namespace Go.Proofs.YtcfimponmioneaaDoor.WP
open Go.RowKit Go.Proofs.YtcfimponmioneaaDoor Go.Proofs.YtcfimponmioneaaDoor.PP Go.Proofs.YtcfimponmioneaaDoor.Mem

/-- A row's cells. -/
theorem own_cells {w : World} {b : Nat} {e : TypeId} {s n : Nat} {v : Value} {xs : List Value} (h : w.ownsRow b e s v n xs) (hn : 0 < n) :
    ∃ g cap, v = .slice (some ⟨g, 0, none⟩) n cap ∧ b ≤ g ∧ g < w.heap.size ∧ ∀ j u, xs[j]? = some u → w.cell? ⟨g, j, none⟩ = some u := by
  rcases h.2 with ⟨_, h0⟩ | ⟨g, cap, cur, rfl, hb, hg, _, _, _, htake⟩
  · omega
  · refine ⟨g, cap, rfl, hb, blk_lt hg, fun j u hu => ?_⟩
    rw [← htake, List.getElem?_take] at hu
    split at hu
    · rw [Lib.cell_of_heap hg]
      simpa using hu
    · cases hu

def txt1 : List UInt8 := [83, 69, 81, 40, 65, 32, 97, 44, 33, 66, 32, 98, 44, 67, 32, 99, 123, 49, 44, 51, 125, 41, 32, 87, 72, 69, 82, 69, 32, 99, 62, 61, 97, 43, 50, 32, 65, 78, 68, 32, 98, 33, 61, 53, 32, 87, 73, 84, 72, 73, 78, 32, 49, 48]
def txt2 : List UInt8 := [83, 69, 81, 40, 65, 32, 97, 41, 32, 87, 73, 84, 72, 73, 78, 32, 48, 49]
def str1 : ByteArray := ⟨#[83, 69, 81, 40, 65, 32, 97, 44, 33, 66, 32, 98, 44, 67, 32, 99, 123, 49, 44, 51, 125, 41, 32, 87, 72, 69, 82, 69, 32, 99, 62, 61, 97, 43, 50, 32, 65, 78, 68, 32, 98, 33, 61, 53, 32, 87, 73, 84, 72, 73, 78, 32, 49, 48]⟩
def str2 : ByteArray := ⟨#[83, 69, 81, 40, 65, 32, 97, 41, 32, 87, 73, 84, 72, 73, 78, 32, 48, 49]⟩
theorem str1_list : str1.data.toList = txt1 := by kernel_rfl
theorem str2_list : str2.data.toList = txt2 := by kernel_rfl
theorem parse1 : pParse txt1 = .inr ⟨[⟨65, 97, false, 1, 1⟩, ⟨66, 98, true, 1, 1⟩, ⟨67, 99, false, 1, 3⟩], [⟨99, 4, 97, 2⟩, ⟨98, 3, 0, 5⟩], 10⟩ := by kernel_rfl
theorem parse2 : pParse txt2 = .inl (17, 20) := by kernel_rfl

set_option maxRecDepth 100000 in
set_option maxHeartbeats 1600000 in
theorem wakes_any (W : World) : Calls Tryd.prog 6 #[] W fun e w' => e = .returned (.bool true) ∧ Below W.heap.size W w' := by
  have hp1 := parse_any str1 W
  rw [str1_list, parse1] at hp1
  have Hp1 := Lib.hid hp1
  clear hp1
  go_enter Tryd.func6, Tryd.ntmps6
  go_wp2_with fail
  refine Hp1.out.mono ?_
  rintro e w1 ⟨hb1, sl, cl, rfl, ho1, ho2⟩
  obtain ⟨g1, cap1, rfl, hg1, hl1, hc1⟩ := own_cells ho1 (by decide)
  obtain ⟨g2, cap2, rfl, hg2, hl2, hc2⟩ := own_cells ho2 (by decide)
  have e1 := hc1 14 (.int .i64 3) rfl
  have e2 := hc2 3 (.int .i64 2) rfl
  clear hc1 hc2 ho1 ho2
  go_wp2_with fail
  have hl3 : g1 ≠ w1.heap.size := by omega
  have hl4 : g2 ≠ w1.heap.size := by omega
  have hb2 : Below W.heap.size W (w1.alloc (.cells #[.slice (some ⟨g1, 0, none⟩) 3 cap1, .slice (some ⟨g2, 0, none⟩) 2 cap2, .int .i64 10] 29)) := hb1.alloc hb1.size _
  have x0 := Lib.hid (blk_new w1 (.cells #[.slice (some ⟨g1, 0, none⟩) 3 cap1, .slice (some ⟨g2, 0, none⟩) 2 cap2, .int .i64 10] 29))
  have hp2 := parse_any str2 (w1.alloc (.cells #[.slice (some ⟨g1, 0, none⟩) 3 cap1, .slice (some ⟨g2, 0, none⟩) 2 cap2, .int .i64 10] 29))
  rw [str2_list, parse2] at hp2
  refine hp2.mono ?_
  rintro e w2 ⟨hb3, rfl⟩
  have hz : (w1.alloc (.cells #[.slice (some ⟨g1, 0, none⟩) 3 cap1, .slice (some ⟨g2, 0, none⟩) 2 cap2, .int .i64 10] 29)).heap.size = w1.heap.size + 1 := by simp
  have x1 := Lib.hid ((hb3.block _ (by rw [hz]; omega)).trans x0.out)
  have y0 : w2.cell? ⟨w1.heap.size, 0, none⟩ = some (.slice (some ⟨g1, 0, none⟩) 3 cap1) := (Lib.cell_of_heap x1.out 0).trans rfl
  have y1 : w2.cell? ⟨w1.heap.size, 1, none⟩ = some (.slice (some ⟨g2, 0, none⟩) 2 cap2) := (Lib.cell_of_heap x1.out 1).trans rfl
  have y2 : w2.cell? ⟨w1.heap.size, 2, none⟩ = some (.int .i64 10) := (Lib.cell_of_heap x1.out 2).trans rfl
  have hl5 : w1.heap.size < w2.heap.size := by have := hb3.size; omega
  have hb4 := hb2.trans (hb3.mono (by rw [hz]; have := hb1.size; omega))
  have z1 : w2.cell? ⟨g1, 14, none⟩ = some (.int .i64 3) := by
    rw [World.cell?_of_block (hb3.block g1 (by rw [hz]; omega)), World.cell?_of_block (Below.heap_alloc w1 _ g1 hl1)]
    exact e1
  have z2 : w2.cell? ⟨g2, 3, none⟩ = some (.int .i64 2) := by
    rw [World.cell?_of_block (hb3.block g2 (by rw [hz]; omega)), World.cell?_of_block (Below.heap_alloc w1 _ g2 hl2)]
    exact e2
  have hb5 : Below W.heap.size W (w2.alloc (.cells #[.slice none 0 0, .slice none 0 0, .int .i64 0] 29)) := hb4.alloc hb4.size _
  have hm1 : g1 < w2.heap.size := by omega
  have hm2 : g2 < w2.heap.size := by omega
  have u1 : (w2.alloc (.cells #[.slice none 0 0, .slice none 0 0, .int .i64 0] 29)).cell? ⟨g1, 14, none⟩ = some (.int .i64 3) := by rw [World.cell?_of_block (Below.heap_alloc w2 _ g1 hm1)]; exact z1
  have u2 : (w2.alloc (.cells #[.slice none 0 0, .slice none 0 0, .int .i64 0] 29)).cell? ⟨g2, 3, none⟩ = some (.int .i64 2) := by rw [World.cell?_of_block (Below.heap_alloc w2 _ g2 hm2)]; exact z2
  clear e1 e2 hb3 hp2 hz z1 z2
  go_wp2_with fail
  go_ret
  exact ⟨rfl, hb5⟩
end Go.Proofs.YtcfimponmioneaaDoor.WP
