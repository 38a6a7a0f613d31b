/- Rows of rows of events, in rows of the call's own; how the tried rows come together. -/
import Derived.Test.YtcojnojdgigmdaaGreatDoorWB21
import Derived.Deep.CutBlock
namespace Go.Proofs.YtcojnojdgigmdaaGreatDoor.WR
open Go Go.RowKit Go.Sort Go.Proofs.YtcojnojdgigmdaaGreatDoor Go.Proofs.YtcojnojdgigmdaaGreatDoor.PL Go.Proofs.YtcojnojdgigmdaaGreatDoor.PR Go.Proofs.YtcojnojdgigmdaaGreatDoor.Mem Go.Proofs.YtcojnojdgigmdaaGreatDoor.WL

def encM (g : MG) : List Value := [g.1, g.2.1]
theorem encM_len (g : MG) : (encM g).length = 2 := rfl
structure RowM (H : Nat) (w : World) (v : Value) (gs : List MG) : Prop where
 own : w.ownsRow H 84 2 v gs.length (cellsOf encM gs)
 els : ∀ g ∈ gs, OwnM 0 w g
theorem RowM.empty (H : Nat) (w : World) : RowM H w (.slice none 0 0) [] := ⟨World.ownsRow_nil _ _ _ _, fun _ h => by cases h⟩
theorem RowM.below {H : Nat} {w w' : World} {v : Value} {gs : List MG} (h : RowM H w v gs) (hb : Below w.heap.size w w') : RowM H w' v gs := ⟨own_below h.own hb, fun g hg => (h.els g hg).below hb⟩
theorem RowM.le {H H' : Nat} {w : World} {v : Value} {gs : List MG} (h : RowM H w v gs) (hb : H' <= H) : RowM H' w v gs := ⟨Joins.ownsRow_le h.own hb, h.els⟩
theorem OwnM.one {b : Nat} {w : World} {g : MG} (h : OwnM b w g) : ∀ y ∈ encM g, y.oneCell' = true := by
 intro y hy; obtain ⟨a1, c1, e1⟩ := (Sl.of_own h.1).shape; obtain ⟨a2, c2, e2⟩ := (Sl.of_own h.2).shape; unfold encM at hy
 simp only [List.mem_cons, List.not_mem_nil, or_false] at hy
 rcases hy with rfl | rfl
 ·rw [e1]; rfl
 ·rw [e2]; rfl
theorem RowM.snoc {H : Nat} {wr w5 : World} {v v' : Value} {gs : List MG} {g : MG} (h : RowM H wr v gs) (hH : H <= wr.heap.size) (hel : OwnM 0 wr g) (ho : w5.ownsRow H 84 2 v' (gs.length + 1) (cellsOf encM gs ++ encM g)) (hg : (wr.alloc (.cells (encM g).toArray 84)).grownBy w5 v.ownBlock) : RowM H w5 v' (gs ++ [g]) /\ Below H wr w5 := by
 have hb : Below wr.heap.size wr (wr.alloc (.cells (encM g).toArray 84)) := (Below.refl _ _).alloc (Nat.le_refl _) _; have hk := Reg.Keeps.grown (show 3 ≠ 84 by decide) (own_below h.own hb) hg; refine ⟨⟨by rw [List.length_append, List.length_singleton, cellsOf_snoc]; exact ho, fun x hx => ?_⟩, below_grown (hb.mono hH) (own_below h.own hb) hg (by simp; omega) (Nat.le_refl _)⟩
 rcases List.mem_append.1 hx with hx | hx
 ·exact ((h.els x hx).below hb).keeps hk
 ·rw [List.mem_singleton.1 hx]; exact (hel.below hb).keeps hk
theorem RowM.at_ {H : Nat} {w : World} {v : Value} {gs : List MG} (h : RowM H w v gs) {i : Nat} (hi : i < gs.length) : ∃ g c a1 c1 a2 c2, v = .slice (some ⟨g, 0, none⟩) gs.length c /\ g < w.heap.size /\ gs[i].1 = .slice a1 gs[i].2.2.length c1 /\ gs[i].2.1 = .slice a2 gs[i].2.2.length c2 /\
  w.cell? ⟨g, i * 2, none⟩ = some (.slice a1 gs[i].2.2.length c1) /\ w.cell? ⟨g, i * 2 + 1, none⟩ = some (.slice a2 gs[i].2.2.length c2) /\ OwnM 0 w gs[i] := by
 have hel := h.els _ (List.getElem_mem hi); obtain ⟨a1, c1, e1⟩ := (Sl.of_own hel.1).shape; obtain ⟨a2, c2, e2⟩ := (Sl.of_own hel.2).shape; obtain ⟨b, o, c, hv, hb, hx⟩ := Sl.elem (Sl.of_own h.own) hi; have h0 := hx 0 gs[i].1 (by omega) (by rw [Nat.add_zero]; exact cellsOf_get encM_len gs i 0 (by omega) hi); have h1 := hx 1 gs[i].2.1 (by omega) (cellsOf_get encM_len gs i 1 (by omega) hi)
 rcases h.own.2 with ⟨rfl, _⟩ | ⟨g, cap, cur, rfl, _⟩
 ·cases hv
 ·obtain ⟨⟨rfl, rfl⟩, rfl⟩ : (g = b /\ 0 = o) /\ cap = c := by simpa using hv
  rw [Nat.zero_add, Nat.add_zero] at h0; rw [Nat.zero_add] at h1; exact ⟨g, cap, a1, c1, a2, c2, rfl, hb, e1, e2, by rw [h0, e1], by rw [h1, e2], hel⟩
def OutR (w2 : World) (ms : List Mt) (v : Value) (wr : World) : Prop := ∃ gs : List MG, gs.map (·.2.2) = ms /\ RowM w2.heap.size wr v gs /\ Below w2.heap.size w2 wr
def kidG (p : RPlan) (l : List Ev) (f : Nat) (m : Mt) (i s : Nat) : List Mt := if kidOk p l m i s then growM p l f (m ++ [(i, s)]) else []
def ownG (p : RPlan) (m : Mt) : List Mt := if doneM p m then [m] else []
def accS (p : RPlan) (l : List Ev) (f : Nat) (m : Mt) (i s : Nat) : List Mt := (List.range' (lastS m) (s - lastS m)).flatMap (kidG p l f m i)
def accI (p : RPlan) (l : List Ev) (f : Nat) (m : Mt) (i : Nat) : List Mt := ownG p m ++ (List.range' (fromM m) (i - fromM m)).flatMap fun i => (kidsM p l m i).flatMap (growM p l f)
theorem accS_zero (p : RPlan) (l : List Ev) (f : Nat) (m : Mt) (i : Nat) : accS p l f m i (lastS m) = [] := by unfold accS; rw [Nat.sub_self]; rfl
theorem accS_succ (p : RPlan) (l : List Ev) (f : Nat) (m : Mt) (i s : Nat) (h : lastS m <= s) : accS p l f m i (s + 1) = accS p l f m i s ++ kidG p l f m i s := by
 unfold accS; rw [show s + 1 - lastS m = (s - lastS m) + 1 by omega, List.range'_concat, List.flatMap_append, List.flatMap_cons, List.flatMap_nil, List.append_nil, Nat.one_mul, show lastS m + (s - lastS m) = s by omega]
theorem accS_end (p : RPlan) (l : List Ev) (f : Nat) (m : Mt) (i s : Nat) (h1 : lastS m < s) (h2 : s <= lastS m + 2) (h3 : s = lastS m + 2 \/ p.steps.length <= s) : accS p l f m i s = (kidsM p l m i).flatMap (growM p l f) := by
 have hk : ∀ s', (if kidOk p l m i s' then [m ++ [(i, s')]] else []).flatMap (growM p l f) = kidG p l f m i s' := by
  intro s'; unfold kidG
  cases kidOk p l m i s' <;> simp
 rw [kids_two, List.flatMap_append, hk, hk]
 have e1 : accS p l f m i (lastS m + 1) = kidG p l f m i (lastS m) := by rw [accS_succ _ _ _ _ _ _ (Nat.le_refl _), accS_zero, List.nil_append]
 rcases Nat.lt_or_ge (lastS m + 1) s with h | h
 ·obtain rfl : s = lastS m + 1 + 1 := by omega
  rw [accS_succ _ _ _ _ _ _ (Nat.le_succ _), e1]
 ·obtain rfl : s = lastS m + 1 := by omega
  have h4 : p.steps.length <= lastS m + 1 := by omega
  have : kidG p l f m i (lastS m + 1) = [] := by
   unfold kidG kidOk; rw [List.getElem?_eq_none h4]; rfl
  rw [this, List.append_nil, e1]
theorem accI_zero (p : RPlan) (l : List Ev) (f : Nat) (m : Mt) : accI p l f m (fromM m) = ownG p m := by unfold accI; rw [Nat.sub_self]; simp
theorem accI_succ (p : RPlan) (l : List Ev) (f : Nat) (m : Mt) (i : Nat) (h : fromM m <= i) : accI p l f m (i + 1) = accI p l f m i ++ (kidsM p l m i).flatMap (growM p l f) := by
 unfold accI; rw [show i + 1 - fromM m = (i - fromM m) + 1 by omega, List.range'_concat, List.flatMap_append, List.flatMap_cons, List.flatMap_nil, List.append_nil, Nat.one_mul, show fromM m + (i - fromM m) = i by omega, List.append_assoc]
theorem while_upto {q : Nat -> Bool} {a i n : Nat} (h1 : a <= i) (h2 : i <= n) (hall : ∀ j, a <= j -> j < i -> q j = true) (hend : i = n \/ q i = false) : (List.range' a (n - a)).takeWhile q = List.range' a (i - a) := by
 have e : List.range' a (n - a) = List.range' a (i - a) ++ List.range' i (n - i) := by
  rw [show n - a = (i - a) + (n - i) by omega, <- List.range'_append_1, show a + (i - a) = i by omega]
 rw [e, List.takeWhile_append_of_pos]
 ·have : (List.range' i (n - i)).takeWhile q = [] := by
   rcases hend with rfl | h
   ·rw [Nat.sub_self]; rfl
   ·cases hn : n - i with
    | zero => rfl
    | succ k => rw [List.range'_succ, List.takeWhile_cons, h]; rfl
  rw [this, List.append_nil]
 ·intro j hj; rw [List.mem_range'_1] at hj; exact hall j (by omega) (by omega)
theorem accI_end (p : RPlan) (l : List Ev) (f : Nat) (m : Mt) (i : Nat) (h1 : fromM m <= i) (h2 : i <= l.length) (hall : ∀ j, fromM m <= j -> j < i -> aliveM p l m j = true) (hend : i = l.length \/ aliveM p l m i = false) : accI p l f m i = growM p l (f + 1) m := by
 unfold accI growM ownG; rw [while_upto h1 h2 hall hend]
theorem kidG_no {p : RPlan} {l : List Ev} {f : Nat} {m : Mt} {i s : Nat} (h : kidOk p l m i s = false) : kidG p l f m i s = [] := by unfold kidG; rw [h]; rfl
theorem kidG_yes {p : RPlan} {l : List Ev} {f : Nat} {m : Mt} {i s : Nat} (h : kidOk p l m i s = true) : kidG p l f m i s = growM p l f (m ++ [(i, s)]) := by unfold kidG; rw [h]; rfl
theorem growM_le (p : RPlan) (l : List Ev) (f : Nat) (m : Mt) (hl : l.length <= 8) (hm : fromM m <= l.length) : (growM p l f m).length <= 65536 := by
 have h := grow_len p l f m hm; have h2 : 4 ^ (l.length - fromM m) <= 4 ^ 8 := Nat.pow_le_pow_right (by omega) (by omega)
 have h3 : 4 ^ 8 = 65536 := by decide
 omega
theorem kids_flat_le (p : RPlan) (l : List Ev) (f : Nat) (m : Mt) (i : Nat) (hl : l.length <= 8) (hi : i < l.length) : ((kidsM p l m i).flatMap (growM p l f)).length <= 131072 := by
 have h : ∀ s, (growM p l f (m ++ [(i, s)])).length <= 65536 := fun s => growM_le p l f _ hl (by rw [fromM_snoc]; omega)
 have a := h (lastS m); have b := h (lastS m + 1); rw [kids_two]
 cases kidOk p l m i (lastS m) <;> cases kidOk p l m i (lastS m + 1) <;> simp <;> omega
theorem kidG_le (p : RPlan) (l : List Ev) (f : Nat) (m : Mt) (i s : Nat) (hl : l.length <= 8) (hi : i < l.length) : (kidG p l f m i s).length <= 65536 := by
 unfold kidG
 split
 ·exact growM_le p l f _ hl (by rw [fromM_snoc]; omega)
 ·exact Nat.zero_le _
theorem flat_le {α β : Type} (F : α -> List β) (K : Nat) : ∀ (x : List α), (∀ a ∈ x, (F a).length <= K) -> (x.flatMap F).length <= x.length * K
 | [], _ => by simp
 | a :: x, h => by
  have h1 := h a (by simp)
  have h2 := flat_le F K x fun b hb => h b (List.mem_cons_of_mem _ hb)
  rw [List.flatMap_cons, List.length_append, List.length_cons, Nat.succ_mul]
  omega
theorem accS_le (p : RPlan) (l : List Ev) (f : Nat) (m : Mt) (i s : Nat) (hl : l.length <= 8) (hi : i < l.length) (hs : s <= lastS m + 2) : (accS p l f m i s).length <= 131072 := by
 unfold accS
 have h := flat_le (kidG p l f m i) 65536 (List.range' (lastS m) (s - lastS m)) fun a _ => kidG_le p l f m i a hl hi
 rw [List.length_range'] at h; have : (s - lastS m) * 65536 <= 2 * 65536 := Nat.mul_le_mul_right _ (by omega)
 omega
theorem accI_le (p : RPlan) (l : List Ev) (f : Nat) (m : Mt) (i : Nat) (hl : l.length <= 8) (hi : i <= l.length) : (accI p l f m i).length <= 2000000 := by
 unfold accI; rw [List.length_append]
 have h0 : (ownG p m).length <= 1 := by unfold ownG; split <;> simp
 have h := flat_le (fun i => (kidsM p l m i).flatMap (growM p l f)) 131072 (List.range' (fromM m) (i - fromM m)) fun a ha => by
  rw [List.mem_range'_1] at ha; exact kids_flat_le p l f m a hl (by omega)
 rw [List.length_range'] at h; have : (i - fromM m) * 131072 <= 8 * 131072 := Nat.mul_le_mul_right _ (by omega)
 omega
end Go.Proofs.YtcojnojdgigmdaaGreatDoor.WR
