/- Steps and conditions of plain data: their cells; slices of them. -/
import Derived.Test.YtcfimponmioneaaDoorChecked
import Derived.Test.YtcfimponmioneaaDoorMem
import Derived.Test.YtcfimponmioneaaDoorPPlan
import Derived.Test.YtcfimponmioneaaDoorGrw
import Derived.WalkKit
import Derived.Outline
import Derived.Lib.Hide
import Derived.WalkSpells
import Derived.WalkLawsBesides
import Derived.BigQuiet
import Derived.Deep.QuietTactic
import Derived.Lib.Builder
import Derived.StillTailTactics
import Derived.Shelf.SlSortCmp.QuietGrown
namespace Go.Proofs.YtcfimponmioneaaDoor.WL
open Go Go.RowKit Go.Sort Go.Proofs.YtcfimponmioneaaDoor Go.Proofs.YtcfimponmioneaaDoor.PL Go.Proofs.YtcfimponmioneaaDoor.Mem

/-- A step's cells, a condition's cells. -/
def encG (c : GS) : List Value := [.int .u8 c.k, .int .u8 c.nm, .bool c.neg, .int .i64 c.lo, .int .i64 c.hi]
def encD (c : GC) : List Value := [.int .u8 c.l, .int .i64 c.op, .int .u8 c.r, .int .i64 c.k]
theorem encG_len (e : GS) : (encG e).length = 5 := rfl
theorem encD_len (e : GC) : (encD e).length = 4 := rfl
/-- The slices read as these steps, these conditions. -/
def Stps (w : World) (B : Nat) (v : Value) (l : List GS) : Prop := Sl w B 5 v l.length (cellsOf encG l)
def Cnds (w : World) (B : Nat) (v : Value) (l : List GC) : Prop := Sl w B 4 v l.length (cellsOf encD l)
theorem Stps.at_ {w : World} {B : Nat} {v : Value} {l : List GS} (h : Stps w B v l) {i : Nat} (hi : i < l.length) :
    ∃ (b o c : Nat), v = .slice (some ⟨b, o, none⟩) l.length c ∧ b < B ∧ w.cell? ⟨b, o + i * 5, none⟩ = some (.int .u8 l[i].k) ∧ w.cell? ⟨b, o + i * 5 + 1, none⟩ = some (.int .u8 l[i].nm) ∧
      w.cell? ⟨b, o + i * 5 + 2, none⟩ = some (.bool l[i].neg) ∧ w.cell? ⟨b, o + i * 5 + 3, none⟩ = some (.int .i64 l[i].lo) ∧ w.cell? ⟨b, o + i * 5 + 4, none⟩ = some (.int .i64 l[i].hi) := by
  obtain ⟨b, o, c, hv, hb, hx⟩ := Sl.elem h hi
  refine ⟨b, o, c, hv, hb, ?_, ?_, ?_, ?_, ?_⟩
  · exact hx 0 _ (by omega) (by rw [cellsOf_get encG_len l i 0 (by omega) hi]; rfl)
  · exact hx 1 _ (by omega) (by rw [cellsOf_get encG_len l i 1 (by omega) hi]; rfl)
  · exact hx 2 _ (by omega) (by rw [cellsOf_get encG_len l i 2 (by omega) hi]; rfl)
  · exact hx 3 _ (by omega) (by rw [cellsOf_get encG_len l i 3 (by omega) hi]; rfl)
  · exact hx 4 _ (by omega) (by rw [cellsOf_get encG_len l i 4 (by omega) hi]; rfl)
theorem Cnds.at_ {w : World} {B : Nat} {v : Value} {l : List GC} (h : Cnds w B v l) {i : Nat} (hi : i < l.length) :
    ∃ (b o c : Nat), v = .slice (some ⟨b, o, none⟩) l.length c ∧ b < B ∧ w.cell? ⟨b, o + i * 4, none⟩ = some (.int .u8 l[i].l) ∧ w.cell? ⟨b, o + i * 4 + 1, none⟩ = some (.int .i64 l[i].op) ∧
      w.cell? ⟨b, o + i * 4 + 2, none⟩ = some (.int .u8 l[i].r) ∧ w.cell? ⟨b, o + i * 4 + 3, none⟩ = some (.int .i64 l[i].k) := by
  obtain ⟨b, o, c, hv, hb, hx⟩ := Sl.elem h hi
  refine ⟨b, o, c, hv, hb, ?_, ?_, ?_, ?_⟩
  · exact hx 0 _ (by omega) (by rw [cellsOf_get encD_len l i 0 (by omega) hi]; rfl)
  · exact hx 1 _ (by omega) (by rw [cellsOf_get encD_len l i 1 (by omega) hi]; rfl)
  · exact hx 2 _ (by omega) (by rw [cellsOf_get encD_len l i 2 (by omega) hi]; rfl)
  · exact hx 3 _ (by omega) (by rw [cellsOf_get encD_len l i 3 (by omega) hi]; rfl)

end Go.Proofs.YtcfimponmioneaaDoor.WL
