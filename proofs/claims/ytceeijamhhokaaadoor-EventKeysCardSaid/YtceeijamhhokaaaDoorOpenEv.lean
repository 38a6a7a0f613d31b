/- How an event of plain data (oxbowlaw18.Event) that came in reads. -/
import Derived.Test.YtceeijamhhokaaaDoorWMade
import Derived.Test.YtceeijamhhokaaaDoorOpen
import Derived.Lib.SmallJoins
import Derived.Carry
import Derived.SizedLaws
namespace Go.Proofs.YtceeijamhhokaaaDoor.WK
open Go Go.RowKit Go.ChangeShapes Go.WideShapes Go.Joins Go.Proofs.YtceeijamhhokaaaDoor Go.Proofs.YtceeijamhhokaaaDoor.PK Go.Proofs.YtceeijamhhokaaaDoor.Mem

set_option maxRecDepth 100000 in
/-- The argument, read. -/
theorem open_event {H : Type} {enc : TypeId × Value → H} {w : World} {v : Value} {d : DataW H} {p : List MemPlace} (hv : Value.okWide Tryd.prog w .any 0 43 v) (h : DataW.Trod enc Tryd.prog w 0 (fun _ => true) true 43 v d p) :
    ∃ e : Ev, v = WE.evV e ∧ e.fits := by
  obtain ⟨v0, v1, v2, v3, y0, y1, y2, y3, n, rfl, rfl, rfl, h0, h1, h2, h3⟩ := open_agg4 Tryd.underlying43 (by kernel_rfl) (by kernel_rfl) hv h
  obtain ⟨n0, e0, _, w0⟩ := DataW.trod_int Tryd.underlying2 h0
  obtain ⟨n1, e1, _, w1⟩ := DataW.trod_int Tryd.underlying2 h1
  obtain ⟨n2, e2, _, w2⟩ := DataW.trod_int Tryd.underlying5 h2
  obtain ⟨n3, e3, _, w3⟩ := DataW.trod_int Tryd.underlying2 h3
  have e0 : v0 = .int .i64 n0 := by simpa using e0
  have e1 : v1 = .int .i64 n1 := by simpa using e1
  have e2 : v2 = .int .u8 n2 := by simpa using e2
  have e3 : v3 = .int .i64 n3 := by simpa using e3
  subst e0 e1 e2 e3
  refine ⟨⟨n0, n1, n2, n3⟩, rfl, ?_⟩
  have := Op.wf_i64 w0; have := Op.wf_i64 w1; have := Op.wf_u8 w2; have := Op.wf_i64 w3
  unfold Ev.fits
  refine ⟨?_, ?_, ?_, ?_⟩ <;> simp only <;> omega
end Go.Proofs.YtceeijamhhokaaaDoor.WK
