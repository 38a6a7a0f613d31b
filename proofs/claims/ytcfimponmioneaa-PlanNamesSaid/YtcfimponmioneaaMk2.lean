/- For the walk of plan.Make: a pattern at which nothing is wrong; what its operations do. -/
import Derived.Test.YtcfimponmioneaaMk
namespace Go.Proofs.Ytcfimponmioneaa.WL
open Go Go.RowKit Go.Sort Go.Proofs.Ytcfimponmioneaa Go.Proofs.Ytcfimponmioneaa.PL Go.Proofs.Ytcfimponmioneaa.Mem Go.Proofs.Ytcfimponmioneaa.WP

/-- A pattern at which nothing is wrong. -/
structure OKP (ss : List GS) (cs : List GC) (wi : Int) : Prop where
  n1 : 1 ≤ ss.length
  n8 : ss.length ≤ 8
  c16 : cs.length ≤ 16
  w0 : 0 ≤ wi
  wm : wi ≤ 9007199254740992
  st : ∀ j, j < ss.length → stepE ss j = 0
  bd : bindsTo ss ss.length ≤ 16
  cd : ∀ j, j < cs.length → condE ss cs[j]! = 0
theorem checkP_cases (ss : List GS) (cs : List GC) (wi : Int) : (checkP ss cs wi).2 ≠ 0 ∨ (checkP ss cs wi = (0, 0) ∧ OKP ss cs wi) := by
  by_cases h : ss.length < 1 ∨ 8 < ss.length ∨ 16 < cs.length
  · left; rw [checkP_many h]; decide
  by_cases h2 : wi < 0 ∨ 9007199254740992 < wi
  · left; rw [checkP_arg h h2]; decide
  rcases firstBad_cases (stepE ss) ss.length with ⟨_, hall⟩ | ⟨i, hi, he, hall, _⟩
  · by_cases h3 : 16 < bindsTo ss ss.length
    · left; rw [checkP_binds h h2 hall h3]; decide
    rcases firstBad_cases (fun i => condE ss cs[i]!) cs.length with ⟨_, hc⟩ | ⟨i, hi, he, hc, _⟩
    · exact .inr ⟨checkP_ok h h2 hall h3 hc, ⟨by omega, by omega, by omega, by omega, by omega, hall, by omega, hc⟩⟩
    · left; rw [checkP_cond h h2 hall h3 hi he hc]; exact he
  · left; rw [checkP_step h h2 hi he hall]; exact he

theorem infoP : (Try.prog.info? 67).map (fun i => (i.zero, i.size, i.bytes)) = some (some (.agg #[.int .u8 0, .int .i64 0, .int .i64 0, nilS, nilS]), 5, 72) := by kernel_rfl
theorem infoB : (Try.prog.info? 69).map (fun i => (i.zero, i.size, i.bytes)) = some (some (.agg #[.int .u8 0, nilS]), 2, 32) := by kernel_rfl
theorem infoT : (Try.prog.info? 73).map (fun i => (i.zero, i.size, i.bytes)) = some (some (.agg #[.int .i64 0, .int .i64 0, .int .i64 0, .bool false]), 4, 32) := by kernel_rfl
theorem infoO : (Try.prog.info? 109).map (fun i => (i.zero, i.size, i.bytes)) = some (some (.agg #[.int .i64 0, .pointer none]), 2, 16) := by kernel_rfl

theorem groups_len {α : Type} (l : List (GS × α)) : (groups l).length ≤ l.length := by
  have h : ∀ g : List (Grp α), g.length ≤ (flat g).length := by
    intro g
    induction g with
    | nil => simp
    | cons a r ih => simp only [flat, List.flatMap_cons, List.length_append, List.length_cons] at ih ⊢; omega
  have := h (groups l)
  rw [flat_groups] at this
  exact this
def unitl (l : List GS) : List (GS × Unit) := l.map fun s => (s, ())
theorem unitl_take (ss : List GS) (i : Nat) (h : i < ss.length) : unitl (ss.take (i + 1)) = unitl (ss.take i) ++ [(ss[i], ())] := by
  unfold unitl
  rw [List.take_add_one, List.map_append]
  simp [List.getElem?_eq_getElem h]

/-- The function's results, read out of their block. -/
theorem res_make {w : World} {B : Nat} {c0 c1 v3 v4 : Value} {tmps : Array Value} (h2 : tmps[2]? = some (.pointer (some ⟨B, 0, none⟩))) (h3 : tmps[3]? = some v3) (h4 : tmps[4]? = some v4)
    (s0 : w.heap[B]? = some (.cells #[c0, c1] 51 (0, 0))) :
    (results Try.f19 tmps).run Try.prog w = .ok (.tuple #[.agg #[c0, c1], v3, v4]) w := by
  have e0 : w.cell? ⟨B, 0, none⟩ = some c0 := (Lib.cell_of_heap s0 0).trans rfl
  have e1 : w.cell? ⟨B, 1, none⟩ = some c1 := (Lib.cell_of_heap s0 1).trans rfl
  simp [results, Try.results19, go_sem, h2, h3, h4, e0, e1]

theorem keep_cell' {W w : World} {g j : Nat} {u : Value} (hb : Below W.heap.size W w) (hg : g < W.heap.size) (h : W.cell? ⟨g, j, none⟩ = some u) : w.cell? ⟨g, j, none⟩ = some u :=
  (hb.cell (p := ⟨g, j, none⟩) hg).trans h

theorem run_nil {P : Program} {a : Act} {w : World} {x : Operand} {ad : Addr} {d : Option Tmp} {ty : TypeId} {pos : String} {af : Array Edge} {g : Option (Nat × Bool)} (h : a.eval x = .pointer (some ad)) :
    (execOp a.eval { dst := d, op := .nilCheck x, type := ty, pos := pos, after := af, guard := g }).run P w = .ok (.value (.pointer (some ad))) w := by
  simp only [execOp, h]
  rfl
theorem run_bar {a : Act} {w : World} {x : Operand} {k : Int} {d : Option Tmp} {ty : TypeId} {pos : String} {af : Array Edge} {g : Option (Nat × Bool)} (h : a.eval x = .int .u8 k) :
    (execOp a.eval { dst := d, op := .build 69 #[(0, x)], type := ty, pos := pos, after := af, guard := g }).run Try.prog w = .ok (.value (.agg #[.int .u8 k, nilS])) w := by
  simp only [execOp, List.map_toArray, List.map_cons, List.map_nil, h]
  go_simp
theorem build_b (w : World) (k : Int) : (Instr.buildSlice 65 1 #[(0, .agg #[.int .u8 k, nilS])]).run Try.prog w = .ok (.slice (some ⟨w.heap.size, 0, none⟩) 1 1) (w.alloc (.cells [Value.int .u8 k, nilS].toArray 69)) := by
  go_simp
theorem fld_pos4 (w : World) (g j : Nat) : (Instr.fieldAt 67 (.pointer (some ⟨g, j, none⟩)) 4).run Try.prog w = .ok (.pointer (some ⟨g, j + 4, none⟩)) w := by go_simp
theorem load_bars {w : World} {g j : Nat} {u : Value} (h : w.cell? ⟨g, j, none⟩ = some u) : (Instr.loadAt 65 (.pointer (some ⟨g, j, none⟩))).run Try.prog w = .ok u w := by go_simp
theorem fld_step0 (w : World) (g : Nat) : (Instr.fieldAt 76 (.pointer (some ⟨g, 0, none⟩)) 0).run Try.prog w = .ok (.pointer (some ⟨g, 0, none⟩)) w := by go_simp
theorem load_u8 {w : World} {g j : Nat} {u : Value} (h : w.cell? ⟨g, j, none⟩ = some u) : (Instr.loadAt 5 (.pointer (some ⟨g, j, none⟩))).run Try.prog w = .ok u w := by go_simp
theorem own_heap {w : World} {b g n cap s : Nat} {e : TypeId} {xs : List Value} (h : w.ownsRow b e s (.slice (some ⟨g, 0, none⟩) n cap) n xs) : ∃ cs, w.heap[g]? = some (.cells cs e (0, 0)) := by
  rcases h.2 with ⟨h1, _⟩ | ⟨g1, c1, cur, h1, _, h2, _⟩
  · simp at h1
  · simp only [Value.slice.injEq, Option.some.injEq, Addr.mk.injEq, and_true] at h1
    obtain ⟨rfl, _⟩ := h1
    exact ⟨cur, h2⟩
end Go.Proofs.Ytcfimponmioneaa.WL
