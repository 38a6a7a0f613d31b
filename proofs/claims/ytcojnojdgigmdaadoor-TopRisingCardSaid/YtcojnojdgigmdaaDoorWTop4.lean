/- What Compile makes of the two patterns of oxbowtop. -/
import Derived.Test.YtcojnojdgigmdaaDoorWTop3
import Derived.Test.YtcojnojdgigmdaaDoorPPairs
import Derived.Test.YtcojnojdgigmdaaDoorPRise
namespace Go.Proofs.YtcojnojdgigmdaaDoor.WR
open Go Go.RowKit Go.Sort Go.Proofs.YtcojnojdgigmdaaDoor Go.Proofs.YtcojnojdgigmdaaDoor.PL Go.Proofs.YtcojnojdgigmdaaDoor.PR Go.Proofs.YtcojnojdgigmdaaDoor.Mem Go.Proofs.YtcojnojdgigmdaaDoor.WS Go.Proofs.YtcojnojdgigmdaaDoor.WL Go.Proofs.YtcojnojdgigmdaaDoor.PP Go.Proofs.YtcojnojdgigmdaaDoor.WP

deriving instance DecidableEq for Stp
deriving instance DecidableEq for Cnd
deriving instance DecidableEq for Ptn
/-- The digits of a small number. -/
def dig2 (n : Nat) : List UInt8 := if n < 10 then [UInt8.ofNat (48 + n)] else [UInt8.ofNat (48 + n / 10), UInt8.ofNat (48 + n % 10)]
theorem dig2_itoa {n : Nat} (h : n < 100) : Lib.itoa (n : Int) = dig2 n := by
  unfold Lib.itoa dig2
  rw [if_neg (by omega), show ((n : Int)).toNat = n from rfl, Lib.decDigits]
  split
  · rfl
  · rw [Lib.decDigits, dif_pos (by omega)]; rfl
def preP : List UInt8 := [83, 69, 81, 40, 65, 32, 97, 44, 33, 66, 32, 98, 44, 67, 32, 99, 41, 32, 87, 72, 69, 82, 69, 32, 98, 62, 97, 32, 65, 78, 68, 32, 99, 62, 61, 97, 43]
def midP : List UInt8 := [32, 87, 73, 84, 72, 73, 78, 32]
def preS : List UInt8 := [83, 69, 81, 40, 65, 32, 97, 123, 49, 44, 51, 125, 41, 32, 87, 72, 69, 82, 69, 32, 97, 62, 97, 32, 87, 73, 84, 72, 73, 78, 32]
def stP : List Stp := [⟨65, 97, false, 1, 1⟩, ⟨66, 98, true, 1, 1⟩, ⟨67, 99, false, 1, 1⟩]
def cnP (n : Nat) : List Cnd := [⟨98, 5, 97, 0⟩, ⟨99, 4, 97, (n : Int)⟩]
def stS : List Stp := [⟨65, 97, false, 1, 3⟩]
def cnS : List Cnd := [⟨97, 5, 97, 0⟩]
set_option maxRecDepth 100000 in
theorem parseP : ∀ n : Fin 6, 1 ≤ n.val → ∀ m : Fin 40, pParse (preP ++ dig2 n.val ++ midP ++ dig2 m.val) = .inr ⟨stP, cnP n.val, m.val⟩ := by decide +kernel
set_option maxRecDepth 100000 in
theorem parseS : ∀ m : Fin 40, pParse (preS ++ dig2 m.val) = .inr ⟨stS, cnS, m.val⟩ := by decide +kernel
theorem checkPP : ∀ n : Fin 6, ∀ m : Fin 40, (checkP (stP.map gS) ((cnP n.val).map gC) (m.val : Int)).2 = 0 := by decide +kernel
theorem checkS : ∀ m : Fin 40, (checkP (stS.map gS) (cnS.map gC) (m.val : Int)).2 = 0 := by decide +kernel
theorem planP (n : Nat) (m : Int) : planR (stP.map gS) ((cnP n).map gC) m = pairP n m := rfl
theorem planS (m : Int) : planR (stS.map gS) (cnS.map gC) m = riseP m := rfl
theorem joinT (a b : List UInt8) : (⟨a.toArray⟩ ++ ⟨b.toArray⟩ : ByteArray) = ⟨(a ++ b).toArray⟩ := by simp [ByteArray.mk_append_mk]
/-- What Compile makes of the text of TopPairs. -/
theorem comp_pair (n m : Int) (hn : 1 ≤ n ∧ n ≤ 5) (hm : 0 ≤ m ∧ m < 40) (W : World) : Calls Tryd.prog 22 #[.string (⟨preP.toArray⟩ ++ ⟨(Lib.itoa n).toArray⟩ ++ ⟨midP.toArray⟩ ++ ⟨(Lib.itoa m).toArray⟩)] W fun e w' => Below W.heap.size W w' ∧ ∃ pa k pc, e = .returned (.tuple #[.agg #[.slice pa k pc, .int .i64 m], .int .i64 0]) ∧ OkP (pairP n m) ∧ k = 2 ∧ PlnAt w' w'.heap.size (.slice pa k pc) (pairP n m).steps := by
  obtain ⟨a, rfl⟩ : ∃ a : Nat, n = (a : Int) := ⟨n.toNat, by omega⟩
  obtain ⟨b, rfl⟩ : ∃ b : Nat, m = (b : Int) := ⟨m.toNat, by omega⟩
  have hp := parseP ⟨a, by omega⟩ (by show 1 ≤ a; omega) ⟨b, by omega⟩
  have hc := checkPP ⟨a, by omega⟩ ⟨b, by omega⟩
  dsimp only at hp hc
  rw [← dig2_itoa (by omega), ← dig2_itoa (by omega)] at hp
  rw [joinT, joinT, joinT]
  refine (comp_text ⟨(preP ++ Lib.itoa (a : Int) ++ midP ++ Lib.itoa (b : Int)).toArray⟩ stP (cnP a) b (by rw [← hp]) hc W).mono ?_
  rintro e w' ⟨hb, pa, k, pc, he, hok, hk, hpl⟩
  rw [planP] at hk hpl
  exact ⟨hb, pa, k, pc, he, by rw [← planP]; exact (planR_ok hok).1, hk, hpl⟩
/-- .. of TopRising. -/
theorem comp_rise (m : Int) (hm : 0 ≤ m ∧ m < 40) (W : World) : Calls Tryd.prog 22 #[.string (⟨preS.toArray⟩ ++ ⟨(Lib.itoa m).toArray⟩)] W fun e w' => Below W.heap.size W w' ∧ ∃ pa k pc, e = .returned (.tuple #[.agg #[.slice pa k pc, .int .i64 m], .int .i64 0]) ∧ OkP (riseP m) ∧ k = 1 ∧ PlnAt w' w'.heap.size (.slice pa k pc) (riseP m).steps := by
  obtain ⟨b, rfl⟩ : ∃ b : Nat, m = (b : Int) := ⟨m.toNat, by omega⟩
  have hp := parseS ⟨b, by omega⟩
  have hc := checkS ⟨b, by omega⟩
  dsimp only at hp hc
  rw [← dig2_itoa (by omega)] at hp
  rw [joinT]
  refine (comp_text ⟨(preS ++ Lib.itoa (b : Int)).toArray⟩ stS cnS b (by rw [← hp]) hc W).mono ?_
  rintro e w' ⟨hb, pa, k, pc, he, hok, hk, hpl⟩
  rw [planS] at hk hpl
  exact ⟨hb, pa, k, pc, he, by rw [← planS]; exact (planR_ok hok).1, hk, hpl⟩
end Go.Proofs.YtcojnojdgigmdaaDoor.WR
