/- All matches of a shorter window are, in order, among those of a longer one, in plain Lean. No program in sight. -/
import Derived.Test.YtcojnojdgigmdaaGreatDoorB01
namespace Go.Proofs.YtcojnojdgigmdaaGreatDoor.PR
open Go Go.Proofs.YtcojnojdgigmdaaGreatDoor.PL Go.Proofs.YtcojnojdgigmdaaGreatDoor.Mem

theorem inn_flat (p : RPlan) (e : Ev) (rs : List RRun) : innR p e rs = (rs.flatMap (fun r => if (advR p r e).keep then [(advR p r e).run] else []), rs.flatMap (fun r => (advR p r e).grown), rs.flatMap fun r => (advR p r e).done) := by
 induction rs with
 | nil => rfl
 | cons r rs ih =>
  unfold innR at ih ⊢
  simp only [Prod.mk.injEq] at ih
  obtain ⟨i1, i2, i3⟩ := ih
  simp only [List.map_cons, List.filter_cons, List.flatMap_cons, i2, i3]
  cases (advR p r e).keep with
  | false => simp only [Bool.false_eq_true, if_false, i1, List.nil_append]
  | true => simp only [if_true, List.map_cons, i1, List.singleton_append]
end Go.Proofs.YtcojnojdgigmdaaGreatDoor.PR
