/- The library's functions that a pattern's text calls: strings.Join, strconv.FormatInt, strconv.Itoa: their contracts, laid. -/
import Derived.Test.YtcfimponmioneaaDoorChecked
import Derived.Test.YtcfimponmioneaaDoorGrw
import Derived.Ground.NamesProg
import Derived.Shelf.Lay
import Derived.Shelf.Strings.OnBuilder
import Derived.Shelf.Strconv.Itoa4
import Derived.Lib.AppendIntMem
import Derived.Lib.Hide
import Derived.Lib.Builder
namespace Go.Proofs
open Go.Shelf
shelf_lay Lays.n156 Nm 156 at Tryd as Tryd.lays156
theorem Tryd.extra156 : Builder.Extra Tryd.prog Tryd.lays156_ren where
  sizeBuilder := by kernel_rfl
  liesBuilder := by kernel_rfl
  t5 := Tryd.underlying5
  a5 := Tryd.isAgg5
  z5 := Tryd.sizeOf5
  v5 := Tryd.zeroValue5
  infoByte := by kernel_rfl
  cellsByte := by kernel_rfl
  sizeByte := by kernel_rfl
  neB5 := by decide
shelf_lay LaysM.n173 Nm 173 at Tryd as Tryd.lays173
shelf_lay LaysM.n171 Nm 171 at Tryd as Tryd.lays171
end Go.Proofs
namespace Go.Proofs.YtcfimponmioneaaDoor.WS
open Go Go.RowKit Go.Sort Go.Proofs.YtcfimponmioneaaDoor Go.Proofs.YtcfimponmioneaaDoor.Mem

/-- The table that a number's digits are counted by. -/
abbrev Tab (w : World) : Prop := Lib.TabIs Tryd.prog w "internal/strconv.uint64pow10" .u64 Lib.pow10Tab
theorem format_any (n : Int) (h0 : -9223372036854775808 ≤ n) (h1 : n ≤ 9223372036854775807) (w : World) (ht : Tab w) :
    Calls Tryd.prog 15 #[.int .i64 n, .int .i64 10] w fun e w' => e = .returned (.string ⟨(Lib.itoa n).toArray⟩) ∧ Grw w w' :=
  (Any.strconv_FormatInt_10 Tryd.lays173 n h0 h1 w ht).mono fun _ _ ⟨h, k, os, hw⟩ => ⟨h, k, os, hw⟩
theorem itoa_any (n : Int) (h0 : -9223372036854775808 ≤ n) (h1 : n ≤ 9223372036854775807) (w : World) (ht : Tab w) :
    Calls Tryd.prog 21 #[.int .i64 n] w fun e w' => e = .returned (.string ⟨(Lib.itoa n).toArray⟩) ∧ Grw w w' :=
  (Any.strconv_Itoa Tryd.lays171 n h0 h1 w ht).mono fun _ _ ⟨h, k, os, hw⟩ => ⟨h, k, os, hw⟩
theorem Tab.below {w w' : World} {B : Nat} (h : Tab w) (hb : Below B w w') (hB : 1 < B) : Tab w' := by
  have hg : Tryd.prog.globalNamed "internal/strconv.uint64pow10" = some 1 := by kernel_rfl
  unfold Tab Lib.TabIs World.var? at *
  simp only [hg, Option.bind_some] at h ⊢
  rw [hb.block _ hB]
  exact h
theorem Tab.grw {w w' : World} (h : Tab w) (hg : Grw w w') : Tab w' := Lib.tabBelow_of_tabIs h w' hg.below
/-- A slice of strings, joined. -/
theorem join_any (v : Value) (xs : List (List UInt8)) (sep : ByteArray) (w : World) (hv : Sl w w.heap.size 1 v xs.length (xs.map fun x => .string ⟨x.toArray⟩)) (hn : xs.length ≤ 140737488355328) (hl : (Lib.join xs sep.data.toList).length ≤ 140737488355328) :
    Calls Tryd.prog 14 #[v, .string sep] w fun e w' => e = .returned (.string ⟨(Lib.join xs sep.data.toList).toArray⟩) ∧ Below w.heap.size w w' := by
  obtain ⟨h1, A, c, rfl, hc, hx⟩ := hv
  match xs, hx with
  | [], _ => exact (Any.strings_Join_none Tryd.lays156 Tryd.extra156 A c sep w).mono fun _ _ ⟨h, hw⟩ => ⟨h, hw ▸ Below.refl _ _⟩
  | [x], hx =>
    obtain ⟨b, o, rfl, hb, hcell⟩ := hx (by simp)
    refine (Any.strings_Join_one Tryd.lays156 Tryd.extra156 b o c ⟨x.toArray⟩ sep w (hcell 0 _ rfl)).mono fun _ _ ⟨h, hw⟩ => ⟨?_, hw ▸ Below.refl _ _⟩
    rw [h, Lib.join_one]
  | x :: y :: t, hx =>
    obtain ⟨b, o, rfl, hb, hcell⟩ := hx (by simp)
    have e : ((x :: y :: t).map fun x => (⟨x.toArray⟩ : ByteArray)).map (·.data.toList) = x :: y :: t := by
      rw [List.map_map]
      exact List.map_id' _
    have h := Any.strings_Join_many Tryd.lays156 Tryd.extra156 b o c ((x :: y :: t).map fun x => (⟨x.toArray⟩ : ByteArray)) sep w (by
      intro j z hz
      refine hcell j _ ?_
      rw [List.getElem?_map] at hz ⊢
      cases hq : (x :: y :: t)[j]? with
      | none => rw [hq] at hz; cases hz
      | some q => rw [hq] at hz; injection hz with hz; subst hz; rfl) hb (by simp) (by simpa using hn) (by simpa using hc) (by rw [e]; exact hl)
    rw [e, List.length_map] at h
    exact h
end Go.Proofs.YtcfimponmioneaaDoor.WS
