/- Keys of events in plain Lean (layer 18): their order, a span. -/
import Derived.Test.YtceeijamhhokaaaDoorPCmp
import Derived.Test.YtceeijamhhokaaaDoorWMade
namespace Go.Proofs.YtceeijamhhokaaaDoor.WK
open Go Go.RowKit Go.Proofs.YtceeijamhhokaaaDoor Go.Proofs.YtceeijamhhokaaaDoor.PK Go.Proofs.YtceeijamhhokaaaDoor.Mem

/-- How two events stand. -/
def evCmp (x y : Ev) : Int := if cmpI x.time y.time ≠ 0 then cmpI x.time y.time else cmpI x.id y.id
def lessE (x y : Ev) : Bool := decide (x.time < y.time ∨ x.time = y.time ∧ x.id < y.id)
theorem evCmp_less (x y : Ev) : decide (evCmp x y < 0) = lessE x y := by
  unfold evCmp lessE cmpI
  rw [decide_eq_decide]
  rcases Int.lt_trichotomy x.time y.time with h | h | h
  · have h1 : (if x.time < y.time then (-1 : Int) else if y.time < x.time then 1 else 0) = -1 := if_pos h
    rw [h1]
    constructor
    · intro _; exact .inl h
    · intro _; show (if (-1 : Int) ≠ 0 then (-1 : Int) else _) < 0; rw [if_pos (by decide)]; decide
  · rw [h]
    simp only [Int.lt_irrefl, if_false]
    simp only [ne_eq, not_true_eq_false, if_false, false_or, true_and]
    split
    · simp_all
    · split <;> simp_all
  · have h1 : ¬ x.time < y.time := by omega
    have h2 : ¬ x.time = y.time := by omega
    have h3 : (if x.time < y.time then (-1 : Int) else if y.time < x.time then 1 else 0) = 1 := by rw [if_neg h1, if_pos h]
    rw [h3, if_pos (by decide)]
    constructor
    · intro h; exact absurd h (by decide)
    · rintro (h | ⟨h, _⟩)
      · exact absurd h h1
      · exact absurd h h2
theorem cmpL_cons (p q : KP) (a b : List KP) : cmpL (p :: a) (q :: b) = if cmpK p q ≠ 0 then cmpK p q else cmpL a b := rfl
theorem key_cmp {ns ms : List Int} (hn : ∀ n ∈ ns, WE.fit64 n) (hm : ∀ n ∈ ms, WE.fit64 n) : Lib.compareBytes (evKey ns) (evKey ms) = cmpL (ns.map numK) (ms.map numK) := by
  unfold evKey
  rw [key_order _ _ (evParts_fit hn) (evParts_fit hm)]
  unfold evParts
  rw [cmpL_cons, if_neg]
  have : cmpK eK eK = 0 := cB_self _
  simp [this]
theorem keys_less {x y : Ev} (hx : x.fits) (hy : y.fits) : Op.bytesLess (evKey [x.time, x.id]) (evKey [y.time, y.id]) = lessE x y := by
  have f : ∀ {x : Ev}, x.fits → ∀ n ∈ [x.time, x.id], WE.fit64 n := by
    intro x hx n hn
    unfold Ev.fits at hx
    simp only [List.mem_cons, List.not_mem_nil, or_false] at hn
    unfold WE.fit64
    rcases hn with rfl | rfl <;> omega
  rw [less_cB, key_cmp (f hx) (f hy), ← evCmp_less]
  show (cmpL [numK x.time, numK x.id] [numK y.time, numK y.id] == -1) = _
  rw [cmpL_cons, cmpL_cons]
  show ((if cmpI x.time y.time ≠ 0 then cmpI x.time y.time else if cmpI x.id y.id ≠ 0 then cmpI x.id y.id else 0) == -1) = _
  unfold evCmp cmpI
  rw [Bool.eq_iff_iff, beq_iff_eq, decide_eq_true_iff]
  repeat' split
  all_goals omega
theorem key_len (t i : Int) : (evKey [t, i]).length = 22 := by
  show (keyB (eK :: numK t :: numK i :: [])).length = 22
  simp only [keyB, List.flatMap_cons, List.flatMap_nil, List.length_append, List.append_nil]
  have h : ∀ n, (oneB (numK n)).length = 9 := by intro n; simp [oneB, numK, numB_len]
  have h2 : (oneB eK).length = 4 := by decide
  rw [h, h, h2]
/-- A key within a span. -/
theorem key_from {t i : Int} (ht : WE.fit64 t) (hi : WE.fit64 i) : Op.bytesLess (evKey [t, i]) (evKey []) = false := by
  rw [less_cB, key_cmp (by simp [ht, hi]) (by simp)]
  rfl
theorem key_to {t i n : Int} (ht : WE.fit64 t) (hi : WE.fit64 i) (h0 : 0 ≤ t) (h1 : t ≤ 9007199254740992) : Op.bytesLess (evKey [t, i]) (evKey [spanN n]) = decide (t ≤ n) := by
  rw [less_cB, key_cmp (by simp [ht, hi]) (by simpa using spanN_fit n)]
  show (cmpL [numK t, numK i] [numK (spanN n)] == -1) = _
  rw [cmpL_cons]
  show ((if cmpI t (spanN n) ≠ 0 then cmpI t (spanN n) else 1) == -1) = _
  unfold spanN cmpI
  rw [Bool.eq_iff_iff, beq_iff_eq, decide_eq_true_iff]
  repeat' split
  all_goals omega
end Go.Proofs.YtceeijamhhokaaaDoor.WK
