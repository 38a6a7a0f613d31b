/- The walk of key.Parse: the parts of a key, or an error. -/
import Derived.Test.YtceeijamhhokaaaDoorWText
import Derived.Test.YtceeijamhhokaaaDoorWLists
import Derived.Laws.Bits64b
namespace Go.Proofs.YtceeijamhhokaaaDoor.WK
open Go Go.RowKit Go.Proofs.YtceeijamhhokaaaDoor Go.Proofs.YtceeijamhhokaaaDoor.PK Go.Proofs.YtceeijamhhokaaaDoor.Mem

def szOf : Value → Nat | .string s => s.size | _ => 0
theorem szOf_str (s : ByteArray) : szOf (.string s) = s.size := rfl
def parE (R : Except Int (List KP)) : Int := match R with | .error e => e | .ok _ => 0
def parL (R : Except Int (List KP)) : List KP := match R with | .error _ => [] | .ok l => l
/-- What key.Parse returns. -/
def ParPost (W : World) (R : Except Int (List KP)) (e : Ending) (w : World) : Prop := ∃ v, e = .returned (.tuple #[v, .int .i64 (parE R)]) ∧ Below W.heap.size W w ∧
  w.ownsRow W.heap.size 34 3 v (parL R).length (cellsOf encK (parL R))
abbrev numP (n : Int) : KP := ⟨false, n, .empty⟩
/-- The parts under way. -/
structure Pa (W w : World) (v : Value) (l : List KP) : Prop where
  bel : Below W.heap.size W w
  own : w.ownsRow W.heap.size 34 3 v l.length (cellsOf encK l)
theorem Pa.push {W w w' : World} {v v' : Value} {l : List KP} {p : KP} (h : Pa W w v l) (hgr : w.grownBy w' v.ownBlock) (hown : w'.ownsRow W.heap.size 34 3 v' (l.length + 1) (cellsOf encK l ++ encK p)) : Pa W w' v' (l ++ [p]) :=
  ⟨below_grown h.bel h.own hgr h.bel.size (Nat.le_refl _), by rw [List.length_append, cellsOf_snoc]; exact hown⟩
theorem Pa.alloc {W w : World} {v : Value} {l : List KP} (h : Pa W w v l) (o : Obj) : Pa W (w.alloc o) v l :=
  ⟨h.bel.alloc h.bel.size o, h.own.alloc _⟩
theorem Pa.below {W w w' : World} {v : Value} {l : List KP} (h : Pa W w v l) (hb : Below w.heap.size w w') : Pa W w' v l :=
  ⟨h.bel.trans (hb.mono h.bel.size), own_below h.own hb⟩

theorem str_tail (S : ByteArray) (k : Nat) : (S.extract k S.size).data.toList = S.data.toList.drop k := by
  rw [Lib.extract_data, List.take_of_length_le]
  have : S.data.toList.length = S.size := Array.length_toList
  rw [List.length_drop, this]
  exact Nat.le_refl _
theorem or_byte {N b : Nat} (hN : N < 72057594037927936) (hb : b < 256) : bits .or .u64 ((N * 256 : Nat) : Int) (b : Int) = ((N * 256 + b : Nat) : Int) := by
  rw [bits_or_u64_nat _ _ (by omega) (by omega)]
  have h := Nat.two_pow_add_eq_or_of_lt (i := 8) (b := b) (by omega) N
  have e : 2 ^ 8 * N = N * 256 := by omega
  rw [e] at h
  rw [h]
theorem num_conv {N : Nat} (hN : N < 18446744073709551616) : IntKind.i64.wrap (bits .xor .u64 (N : Int) 9223372036854775808) = (N : Int) - 9223372036854775808 := by
  rw [show (9223372036854775808 : Int) = ((9223372036854775808 : Nat) : Int) from rfl, bits_xor_u64_nat _ _ hN (by decide)]
  have := xor_top (a := N) hN
  rw [show (2 : Nat) ^ 63 = 9223372036854775808 by decide] at this
  rw [this]
  split <;> simp [IntKind.wrap_i64] <;> omega

theorem textR_err : ∀ (N : Nat) (S out : List UInt8) (i : Nat) (e : Int), S.length ≤ N → textR i out S = .error e → e = 3 ∨ e = 4 ∨ e = 5 := by
  intro N
  induction N with
  | zero =>
    intro S out i e hN h
    obtain rfl : S = [] := List.eq_nil_of_length_eq_zero (by omega)
    rw [textR_end] at h
    injection h with h
    exact .inl h.symm
  | succ N ih =>
    intro S out i e hN h
    cases S with
    | nil =>
      rw [textR_end] at h
      injection h with h
      exact .inl h.symm
    | cons b r =>
      simp only [List.length_cons] at hN
      by_cases hb : b = 0
      · subst hb
        cases r with
        | nil =>
          rw [textR_cut] at h
          injection h with h
          exact .inl h.symm
        | cons c r' =>
          simp only [List.length_cons] at hN
          rw [textR_zero] at h
          by_cases hc : c = 1
          · rw [if_pos hc] at h; cases h
          · rw [if_neg hc] at h
            by_cases hc2 : c ≠ 255
            · rw [if_pos hc2] at h
              injection h with h
              exact .inr (.inl h.symm)
            · rw [if_neg hc2] at h
              by_cases hl : out.length = 4096
              · rw [if_pos hl] at h
                injection h with h
                exact .inr (.inr h.symm)
              · rw [if_neg hl] at h
                exact ih _ _ _ _ (by omega) h
      · rw [textR_byte _ _ hb] at h
        by_cases hl : out.length = 4096
        · rw [if_pos hl] at h
          injection h with h
          exact .inr (.inr h.symm)
        · rw [if_neg hl] at h
          exact ih _ _ _ _ (by omega) h
theorem parse_errN : ∀ (N : Nat) (S : List UInt8) (out : List KP) (e : Int), S.length ≤ N → parseR out S = .error e → e = 3 ∨ e = 4 ∨ e = 5 := by
  intro N
  induction N with
  | zero =>
    intro S out e hN h
    obtain rfl : S = [] := List.eq_nil_of_length_eq_zero (by omega)
    rw [parseR] at h; cases h
  | succ N ih =>
    intro S out e hN h
    cases S with
    | nil => rw [parseR] at h; cases h
    | cons t r =>
      simp only [List.length_cons] at hN
      rw [parseR] at h
      by_cases hl : out.length = 16
      · rw [if_pos hl] at h
        injection h with h
        exact .inr (.inr h.symm)
      · rw [if_neg hl] at h
        by_cases h1 : t = 1
        · rw [if_pos h1] at h
          by_cases h8 : r.length < 8
          · rw [if_pos h8] at h
            injection h with h
            exact .inl h.symm
          · rw [if_neg h8] at h
            exact ih _ _ _ (by rw [List.length_drop]; omega) h
        · rw [if_neg h1] at h
          by_cases h2 : t = 2
          · rw [if_pos h2] at h
            cases ht : textR 0 [] r with
            | error e' =>
              rw [ht] at h
              injection h with h
              subst h
              exact textR_err _ _ _ _ _ (Nat.le_refl _) ht
            | ok xn =>
              obtain ⟨x, n⟩ := xn
              rw [ht] at h
              exact ih _ _ _ (by rw [List.length_drop]; omega) h
          · rw [if_neg h2] at h
            injection h with h
            exact .inr (.inl h.symm)
theorem parse_err (S : List UInt8) (out : List KP) (e : Int) (h : parseR out S = .error e) : e = 3 ∨ e = 4 ∨ e = 5 := parse_errN _ S out e (Nat.le_refl _) h

theorem parseR_nil (out : List KP) : parseR out [] = .ok out := by rw [parseR]
theorem parseR_many {out : List KP} (t : UInt8) (r : List UInt8) (h : out.length = 16) : parseR out (t :: r) = .error 5 := by rw [parseR, if_pos h]
theorem parseR_short {out : List KP} (r : List UInt8) (h : ¬ out.length = 16) (h8 : r.length < 8) : parseR out (1 :: r) = .error 3 := by rw [parseR, if_neg h, if_pos rfl, if_pos h8]
theorem parseR_num {out : List KP} (r : List UInt8) (h : ¬ out.length = 16) (h8 : ¬ r.length < 8) : parseR out (1 :: r) = parseR (out ++ [⟨false, (beN (r.take 8) : Int) - 9223372036854775808, .empty⟩]) (r.drop 8) := by
  rw [parseR, if_neg h, if_pos rfl, if_neg h8]
theorem parseR_terr {out : List KP} {r : List UInt8} {e : Int} (h : ¬ out.length = 16) (ht : textR 0 [] r = .error e) : parseR out (2 :: r) = .error e := by
  rw [parseR, if_neg h, if_neg (by decide), if_pos rfl, ht]
theorem parseR_text {out : List KP} {r x : List UInt8} {n : Nat} (h : ¬ out.length = 16) (ht : textR 0 [] r = .ok (x, n)) : parseR out (2 :: r) = parseR (out ++ [⟨true, 0, ⟨x.toArray⟩⟩]) (r.drop n) := by
  rw [parseR, if_neg h, if_neg (by decide), if_pos rfl, ht]
theorem parseR_form {out : List KP} {t : UInt8} (r : List UInt8) (h : ¬ out.length = 16) (h1 : t ≠ 1) (h2 : t ≠ 2) : parseR out (t :: r) = .error 4 := by
  rw [parseR, if_neg h, if_neg h1, if_neg h2]
theorem str_head (S : ByteArray) (h : 0 < S.size) : S.data.toList = S[0] :: S.data.toList.drop 1 := by
  have hl : S.data.toList.length = S.size := Array.length_toList
  have e := List.drop_eq_getElem_cons (l := S.data.toList) (i := 0) (by omega)
  rw [List.drop_zero] at e
  exact e
theorem beN_take (l : List UInt8) (i : Nat) (h : i < l.length) : beN (l.take (i + 1)) = beN (l.take i) * 256 + l[i].toNat := by
  rw [List.take_succ_eq_append_getElem h, beN_snoc]
theorem beN_small (l : List UInt8) (i : Nat) (h : i < 8) : beN (l.take i) < 72057594037927936 := by
  have h1 := beN_lt (l.take i)
  have h2 : (l.take i).length ≤ 7 := by rw [List.length_take]; omega
  have h3 : 256 ^ (l.take i).length ≤ 256 ^ 7 := Nat.pow_le_pow_right (by decide) h2
  have h4 : (256 : Nat) ^ 7 = 72057594037927936 := by decide
  omega
theorem beN_eight (l : List UInt8) : beN (l.take 8) < 18446744073709551616 := by
  have h1 := beN_lt (l.take 8)
  have h2 : (l.take 8).length ≤ 8 := by rw [List.length_take]; omega
  have h3 : 256 ^ (l.take 8).length ≤ 256 ^ 8 := Nat.pow_le_pow_right (by decide) h2
  have h4 : (256 : Nat) ^ 8 = 18446744073709551616 := by decide
  omega

set_option maxRecDepth 100000 in
set_option maxHeartbeats 6400000 in
theorem parse_any (s : ByteArray) (W : World) (hs : s.size ≤ 140737488355328) :
    Calls Tryd.prog 23 #[.string s] W (ParPost W (parseR [] s.data.toList)) := by
  obtain ⟨i0, hi, hz0, hz1, hz2⟩ := info_parts infoP1
  obtain ⟨R, hR⟩ : ∃ R, parseR [] s.data.toList = R := ⟨_, rfl⟩
  rw [hR]
  have HR0 := Lib.hid hR.symm
  clear hR
  go_enter Tryd.func23, Tryd.ntmps23
  go_wp2_with fail
  go_loopw [0, 4] (fun k t wr => ∃ (S : ByteArray) (out : List KP) (vo : Value), k = .string S ∧ vo = t ∧ S.size ≤ s.size ∧ out.length ≤ 16 ∧ R = parseR out S.data.toList ∧ Pa W wr t out) (fun k _ _ => szOf k)
  case atStart => exact ⟨s, [], _, rfl, rfl, Nat.le_refl _, by simp, HR0.out, Below.refl _ _, World.ownsRow_nil _ _ _ _⟩
  case round =>
    obtain ⟨S, out, vo, rfl, rfl, hS, hol, hR, hpa⟩ := hrel
    have HR := Lib.hid hR; have HP := Lib.hid hpa
    obtain ⟨va, vc, rfl⟩ : ∃ a c, vo = .slice a out.length c := (Sl.of_own hpa.own).shape
    clear hR hpa
    by_cases hne : 0 < S.size
    · have hne' : (0 : Int) < (S.size : Int) := by omega
      have HH := Lib.hid (str_head S hne)
      obtain ⟨r, hr⟩ : ∃ r, S.data.toList.drop 1 = r := ⟨_, rfl⟩
      have hrl : r.length + 1 = S.size := by
        have hl : S.data.toList.length = S.size := Array.length_toList
        rw [← hr, List.length_drop]; omega
      rw [hr] at HH
      have HRr := Lib.hid hr
      have HRL := Lib.hid hrl
      clear hr hrl
      by_cases h16 : out.length = 16
      · have h16' : ((out.length : Int) == 16) = true := by rw [h16]; rfl
        have HE := Lib.hid (show R = .error 5 by have h := HR.out; rw [HH.out, parseR_many _ _ h16] at h; exact h)
        go_wp2_with fail
        go_ret2
        exact ⟨_, by rw [HE.out]; rfl, HP.out.bel, by rw [HE.out]; exact World.ownsRow_nil _ _ _ _⟩
      · have h16' : ((out.length : Int) == 16) = false := by rw [beq_eq_false_iff_ne]; omega
        by_cases h1 : S[0] = 1
        · have h1' : ((S[0].toNat : Int) == 1) = true := by rw [h1]; rfl
          by_cases h9 : S.size < 9
          · have h9' : (S.size : Int) < 9 := by omega
            have HE := Lib.hid (show R = .error 3 by
              have h := HR.out
              rw [HH.out, h1, parseR_short _ h16 (by have := HRL.out; omega)] at h
              exact h)
            clear h1 h16
            go_wp2_with fail
            go_ret2
            exact ⟨_, by rw [HE.out]; rfl, HP.out.bel, by rw [HE.out]; exact World.ownsRow_nil _ _ _ _⟩
          · have h9' : ¬ (S.size : Int) < 9 := by omega
            have HN := Lib.hid (show R = parseR (out ++ [⟨false, (beN (r.take 8) : Int) - 9223372036854775808, .empty⟩]) (r.drop 8) by
              have h := HR.out
              rw [HH.out, h1, parseR_num _ h16 (by have := HRL.out; omega)] at h
              exact h)
            clear h1 
            have hol2 : out.length ≤ 15 := by omega
            clear h16
            go_wp2_with fail
            go_loopw [6, 31] (fun n u wx => ∃ i : Nat, i ≤ 8 ∧ u = .int .i64 i ∧ n = .int .u64 (beN (r.take i) : Nat) ∧ wx = wr) (fun _ u _ => 8 - (intOf u).toNat)
            case atStart => exact ⟨0, by omega, rfl, rfl, rfl⟩
            case round =>
              obtain ⟨i, hi8, rfl, rfl, rfl⟩ := hrel
              by_cases hlt : i < 8
              · have hlt' : (i : Int) < 8 := by omega
                have hi0 : (0 : Int) ≤ (i : Int) := by omega
                have hltS : 1 + i < S.size := by omega
                have HB := Lib.hid (show beN (r.take (i + 1)) = beN (r.take i) * 256 + S[1 + i].toNat by
                  have hr := HRr.out
                  have hl : i < r.length := by have := HRL.out; omega
                  rw [beN_take r i hl]
                  congr 2
                  subst hr
                  rw [List.getElem_drop]
                  rfl)
                have hsm := beN_small r i hlt
                obtain ⟨N, hN⟩ : ∃ N, beN (r.take i) = N := ⟨_, rfl⟩
                rw [hN] at HB hsm ⊢
                clear hN
                have hw1 : IntKind.u64.wrap ((N : Int) * 256) = ((N * 256 : Nat) : Int) := by rw [IntKind.wrap_u64]; omega
                have HOR := Lib.hid (show bits .or .u64 ((N : Int) * 256) (IntKind.u64.wrap (S[1 + i].toNat : Int)) = ((N * 256 + S[1 + i].toNat : Nat) : Int) by
                  have h := or_byte (N := N) (b := S[1 + i].toNat) hsm S[1 + i].toNat_lt
                  have hw : IntKind.u64.wrap (S[1 + i].toNat : Int) = (S[1 + i].toNat : Int) := by rw [IntKind.wrap_u64]; have := S[1 + i].toNat_lt; omega
                  rw [hw]
                  push_cast at h
                  push_cast
                  exact h)
                go_wp2_with fail
                go_roundw
                case rel => exact ⟨i + 1, by omega, by go_num, by rw [HB.out]; exact congrArg (Value.int .u64) HOR.out, trivial⟩
                case measure => simp [intOf]; omega
              · obtain rfl : i = 8 := by omega
                have h64 := beN_eight r
                obtain ⟨N, hN⟩ : ∃ N, beN (r.take 8) = N := ⟨_, rfl⟩
                rw [hN] at HN h64 ⊢
                clear hN
                have hcv := num_conv h64
                have HNM := Lib.hid (num_any ((N : Int) - 9223372036854775808) wr)
                go_wp2_with fail
                refine HNM.out.mono ?_
                rintro e w2 ⟨rfl, hb2⟩
                have HP2 := Lib.hid (HP.out.below hb2)
                have hsw := HP2.out.bel.size
                clear hb2 HNM
                go_wp2_with (at_builtin; refine wpList_append_lies _ rfl (.tmp 43) (.tmp 48) 23 rfl W.heap.size 34 i0 _ 3 32 Tryd.underlying23 hi hz0 hz1 hz2 rfl (by decide) _ _ _ rfl (HP2.out.own.alloc _) ⟨w2.heap.size, 0, none⟩ 1 1 (encK (numP ((N : Int) - 9223372036854775808))) rfl rfl ?c1 ?c2 (by decide) ?c3 ?c4 ?c5 _ rfl ?_)
                case c1 =>
                  intro j u hu
                  exact new_cell w2 (encK (numP ((N : Int) - 9223372036854775808))).toArray 34 j u (by simpa using hu)
                case c2 => exact encK_one _
                case c3 => unfold maxLen; omega
                case c4 => omega
                case c5 => simp; omega
                intro g cap w3 hown3 hgr3 _ _
                have HP3 := Lib.hid (Pa.push (p := numP ((N : Int) - 9223372036854775808)) (HP2.out.alloc _) hgr3 hown3)
                clear hgr3 hown3 HP2 HP
                go_wp2_with fail
                go_roundw
                case rel => exact ⟨S.extract 9 S.size, out ++ [numP ((N : Int) - 9223372036854775808)], _, rfl, rfl, by simp; omega, by simp; omega, by rw [str_tail, HN.out, ← HRr.out, List.drop_drop], HP3.out⟩
                case measure => simp [szOf_str]; omega
        · have h1' : ((S[0].toNat : Int) == 1) = false := nat_ne h1 (by decide)
          by_cases h2 : S[0] = 2
          · have h2' : ((S[0].toNat : Int) == 2) = true := by rw [h2]; rfl
            have hext : (S.extract 1 S.size).data.toList = r := by rw [str_tail]; exact HRr.out
            have hT := txt_any (S.extract 1 S.size) wr (by simp; omega)
            rw [hext] at hT
            obtain ⟨T, hTR⟩ : ∃ T, textR 0 [] r = T := ⟨_, rfl⟩
            rw [hTR] at hT
            cases T with
            | error e =>
              have HE := Lib.hid (show R = .error e by
                have h := HR.out
                rw [HH.out, h2, parseR_terr h16 hTR] at h
                exact h)
              have hne0 : (e != 0) = true := by rcases textR_err _ _ _ _ _ (Nat.le_refl _) hTR with rfl | rfl | rfl <;> rfl
              have HT := Lib.hid hT
              have hsw := HP.out.bel.size
              clear h1 h2 h16 hext hT hTR
              go_wp2_with fail
              refine HT.out.mono ?_
              rintro e1 w2 ⟨rfl, hb2⟩
              unfold textV
              have HB2 := Lib.hid (HP.out.bel.trans (hb2.mono HP.out.bel.size))
              clear hb2
              go_wp2_with fail
              go_ret2
              exact ⟨_, by rw [HE.out]; rfl, HB2.out.alloc HB2.out.size _, by rw [HE.out]; exact World.ownsRow_nil _ _ _ _⟩
            | ok xn =>
              obtain ⟨x, n⟩ := xn
              obtain ⟨hx, m, hnm, hml, _⟩ := textR_ok _ _ _ _ _ _ (Nat.le_refl _) (by simp) hTR
              have hnr : n ≤ r.length := by omega
              have hnS : 1 + n ≤ S.size := by have := HRL.out; omega
              have HN := Lib.hid (show R = parseR (out ++ [⟨true, 0, ⟨x.toArray⟩⟩]) (r.drop n) by
                have h := HR.out
                rw [HH.out, h2, parseR_text h16 hTR] at h
                exact h)
              have HT := Lib.hid hT
              have hol2 : out.length ≤ 15 := by omega
              clear h1 h2 h16 hext hT hTR hx hnm hml hnr
              go_wp2_with fail
              refine HT.out.mono ?_
              rintro e1 w2 ⟨rfl, hb2⟩
              unfold textV
              have HP2 := Lib.hid (HP.out.below hb2)
              have hsw := HP2.out.bel.size
              have HZ := Lib.hid (show (w2.alloc (.cells #[.bool true, .int .i64 0, .string ⟨x.toArray⟩] 34)).heap.size = w2.heap.size + 1 by simp)
              clear hb2
              go_wp2_with (at_builtin; refine wpList_append_lies _ rfl (.tmp 65) (.tmp 67) 23 rfl W.heap.size 34 i0 _ 3 32 Tryd.underlying23 hi hz0 hz1 hz2 rfl (by decide) _ _ _ rfl ((HP2.out.own.alloc _).alloc _) ⟨w2.heap.size + 1, 0, none⟩ 1 1 (encK ⟨true, 0, ⟨x.toArray⟩⟩) rfl rfl ?d1 ?d2 (by decide) ?d3 ?d4 ?d5 _ rfl ?_)
              case d1 =>
                intro j u hu
                have h := new_cell (w2.alloc (.cells #[.bool true, .int .i64 0, .string ⟨x.toArray⟩] 34)) (encK ⟨true, 0, ⟨x.toArray⟩⟩).toArray 34 j u (by simpa using hu)
                rw [HZ.out] at h
                exact h
              case d2 => exact encK_one _
              case d3 => unfold maxLen; omega
              case d4 => omega
              case d5 => simp; omega
              intro g cap w3 hown3 hgr3 _ _
              have HP3 := Lib.hid (Pa.push (p := ⟨true, 0, ⟨x.toArray⟩⟩) ((HP2.out.alloc _).alloc _) hgr3 hown3)
              clear hgr3 hown3 HP2 HP HZ
              go_wp2_with fail
              go_roundw
              case rel => exact ⟨S.extract (1 + n) S.size, out ++ [⟨true, 0, ⟨x.toArray⟩⟩], _, rfl, rfl, by simp; omega, by simp; omega, by rw [str_tail, HN.out, ← HRr.out, List.drop_drop], HP3.out⟩
              case measure => simp [szOf_str]; omega
          · have h2' : ((S[0].toNat : Int) == 2) = false := nat_ne h2 (by decide)
            have HE := Lib.hid (show R = .error 4 by
              have h := HR.out
              rw [HH.out, parseR_form _ h16 h1 h2] at h
              exact h)
            clear h1 h2
            go_wp2_with fail
            go_ret2
            exact ⟨_, by rw [HE.out]; rfl, HP.out.bel, by rw [HE.out]; exact World.ownsRow_nil _ _ _ _⟩
    · have h0 : S.size = 0 := by omega
      have HE := Lib.hid (show R = .ok out by
        have h := HR.out
        have hl : S.data.toList.length = S.size := Array.length_toList
        rw [List.eq_nil_of_length_eq_zero (by omega : S.data.toList.length = 0), parseR_nil] at h
        exact h)
      have hne' : ¬ (0 : Int) < (S.size : Int) := by omega
      clear h0
      go_wp2_with fail
      go_ret2
      exact ⟨_, by rw [HE.out]; rfl, HP.out.bel, by rw [HE.out]; exact HP.out.own⟩
end Go.Proofs.YtceeijamhhokaaaDoor.WK
