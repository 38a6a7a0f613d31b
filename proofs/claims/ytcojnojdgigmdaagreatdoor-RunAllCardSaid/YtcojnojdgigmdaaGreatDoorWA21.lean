/- The walk of oxbowref21.All: the document's matches, in order. -/
import Derived.Test.YtcojnojdgigmdaaGreatDoorWG21
import Derived.Test.YtcojnojdgigmdaaGreatDoorWS18
set_option maxHeartbeats 6400000
set_option maxRecDepth 100000
namespace Go.Proofs.YtcojnojdgigmdaaGreatDoor.WR
open Go Go.RowKit Go.Sort Go.Proofs.YtcojnojdgigmdaaGreatDoor Go.Proofs.YtcojnojdgigmdaaGreatDoor.PL Go.Proofs.YtcojnojdgigmdaaGreatDoor.PR Go.Proofs.YtcojnojdgigmdaaGreatDoor.Mem Go.Proofs.YtcojnojdgigmdaaGreatDoor.WS Go.Proofs.YtcojnojdgigmdaaGreatDoor.WL

theorem ins_at {x : Mt} {o : List Mt} {a : Nat} (ha : a <= o.length) (h1 : ∀ j (h : j < o.length), j < a -> aheadM x o[j] = false) (h2 : a = o.length \/ ∃ h : a < o.length, aheadM x o[a] = true) : insM o x = o.take a ++ x :: o.drop a := by
 unfold insM; have e : o = o.take a ++ o.drop a := (List.take_append_drop a o).symm
 have ht : ∀ y ∈ o.take a, (!aheadM x y) = true := by
  intro y hy; obtain ⟨j, hj, rfl⟩ := List.mem_iff_getElem.1 hy; rw [List.length_take] at hj; rw [List.getElem_take, h1 j (by omega) (by omega)]; rfl
 have hd : (o.drop a).takeWhile (fun y => !aheadM x y) = [] /\ (o.drop a).dropWhile (fun y => !aheadM x y) = o.drop a := by
  rcases h2 with rfl | ⟨h, h2⟩
  ·rw [List.drop_length]; exact ⟨rfl, rfl⟩
  ·rw [List.drop_eq_getElem_cons h, List.takeWhile_cons, List.dropWhile_cons, h2]; exact ⟨rfl, rfl⟩
 conv => lhs; rw [e]
 rw [List.takeWhile_append_of_pos ht, List.dropWhile_append_of_pos ht, hd.1, hd.2, List.append_nil]
theorem ins_len (o : List Mt) (x : Mt) : (insM o x).length = o.length + 1 := by
 unfold insM; have := congrArg List.length (List.takeWhile_append_dropWhile (p := fun y => !aheadM x y) (l := o)); rw [List.length_append] at this; rw [List.length_append, List.length_cons]; omega
theorem sort_len (f : List Mt) : ∀ o : List Mt, (f.foldl insM o).length = o.length + f.length := by
 induction f with
 | nil => intro o; rfl
 | cons x f ih => intro o; rw [List.foldl_cons, ih, ins_len, List.length_cons]; omega
theorem sort_snoc (f : List Mt) (x : Mt) : sortM (f ++ [x]) = insM (sortM f) x := by unfold sortM; rw [List.foldl_append]; rfl
theorem infoStr21 : (Tryz.prog.info? 9).map (fun i => (i.zero, i.size, i.bytes)) = some (some (.string .empty), 1, 16) := by kernel_rfl
def CopM (we : World) (gs : List MG) (nx : Value) (wr : World) : Prop := RowM we.heap.size wr nx gs /\ Below we.heap.size we wr
theorem CopM.snoc {we wr w5 : World} {gs : List MG} {g : MG} {nx nx' : Value} (h : CopM we gs nx wr) (hel : OwnM 0 wr g) (ho : w5.ownsRow we.heap.size 84 2 nx' (gs.length + 1) (cellsOf encM gs ++ encM g)) (hg : (wr.alloc (.cells (encM g).toArray 84)).grownBy w5 nx.ownBlock) : CopM we (gs ++ [g]) nx' w5 := by
 have h1 := RowM.snoc h.1 h.2.size hel ho hg; exact ⟨h1.1, h.2.trans h1.2⟩
theorem Val.bound {p : RPlan} {l : List Ev} {m : Mt} (h : Val p l m) : ∀ x ∈ m, x.1 < l.length := by
 induction h with
 | nil => intro x hx; cases hx
 | snoc i s _ hk ih =>
  intro x hx
  rcases List.mem_append.1 hx with hx | hx
  ·exact ih x hx
  ·rw [List.mem_singleton.1 hx]; exact hk.lt
theorem Val.len {p : RPlan} {l : List Ev} {m : Mt} (h : Val p l m) : m.length <= fromM m := by
 induction h with
 | nil => exact Nat.le_refl _
 | snoc i s _ hk ih => rw [fromM_snoc, List.length_append, List.length_singleton]; have := hk.le; omega
theorem sort_mem {p : RPlan} (hp : ∀ s ∈ p.steps, 1 <= s.lo /\ s.lo <= s.hi) (l : List Ev) : ∀ m ∈ sortM (growM p l (l.length + 1) []), SOk m /\ (∀ x ∈ m, x.1 < l.length) /\ m.length <= l.length := by
 intro m hm; rw [grow_all hp] at hm; have h1 := (rowsM_ok hp l l.length).2 m hm; have h2 := ((mem_rows l l.length (Nat.le_refl _)).2 m).1 hm; exact ⟨h1.ok, Val.bound h2.1, Nat.le_trans (Val.len h2.1) h1.le⟩
theorem all_21 (p : RPlan) (ss : List GS) (ts : Nat -> List PT) (L B : Nat) (qs lv : Value) (E : List Ev) (w : World) (hp : PlnOk ss ts p) (hpos : 0 < p.steps.length) (hmin : ∀ s ∈ p.steps, 1 <= s.lo /\ s.lo <= s.hi) (hd : DocAt w L B qs ss ts) (hl : Evs w w.heap.size lv E) (hB : B <= w.heap.size) (hn8 : E.length <= 8) (hE : ∀ e ∈ E, OkEv e) :
  Calls Tryz.prog 11 #[.agg #[qs, .int .i64 p.within], lv] w fun e w' => ∃ v ls, e = .returned v /\ ls.Perm E /\ SortedE ls /\ w'.ownsRow w.heap.size 9 1 v (sortM (growM p ls (ls.length + 1) [])).length (((sortM (growM p ls (ls.length + 1) [])).map (textM ls)).map strV) /\ Below w.heap.size w w' := by
 have mixed : Tryz.prog.follows .mixedOrders = true := by kernel_rfl
 have HD := Hyd hd; have HP := Hyd hp; have HMIN := Hyd hmin; have HE := Hyd hE; obtain ⟨la, lc, rfl⟩ := Sl.shape hl; obtain ⟨qa, qc, rfl, _⟩ := id hd
 obtain ⟨w0, hw0⟩ : ∃ w0, w0 = w.alloc (.cells #[.slice qa ss.length qc, .int .i64 p.within] 28) := ⟨_, rfl⟩
 have hb0 : Below w.heap.size w w0 := by rw [hw0]; exact (Below.refl _ _).alloc (Nat.le_refl _) _
 have HX := Hyd (show w0.heap[w.heap.size]? = some (.cells #[.slice qa ss.length qc, .int .i64 p.within] 28 (0, 0)) by rw [hw0]; exact heap_new rfl); have HB0 := Hyd hb0; have hz0 : w.heap.size < w0.heap.size := heap_lt HX.out; have HSO := Hyd (sort18 (.slice la E.length lc) E w0 ((Sl.below hl hb0).more hb0.size) (by omega)); have HW0 := Hyd hw0; clear hd hp hmin hE hl hb0 hw0
 go_enter Tryz.func11, Tryz.ntmps11
 go_upto_region 1 with (fail)
 rw [<- HW0.out]; go_wp2_with fail; refine HSO.out.mono ?_; rintro e w1 ⟨sv, ls, rfl, hperm, hsort, hown, hb1⟩; obtain ⟨sa, sc, rfl⟩ := (Sl.of_own hown).shape
 have hlen : ls.length <= 8 := by rw [hperm.length_eq]; exact hn8
 have HPM := Hyd hperm; have HST := Hyd hsort; have HB1 := Hyd (HB0.out.trans (hb1.mono HB0.out.size)); have HL1 := Hyd (Sl.of_own hown); have hs1 := hb1.size; have p0 := (hb1.cell (p := ⟨w.heap.size, 0, none⟩) hz0).trans ((Lib.cell_of_heap HX.out 0).trans rfl); have p1 := (hb1.cell (p := ⟨w.heap.size, 1, none⟩) hz0).trans ((Lib.cell_of_heap HX.out 1).trans rfl)
 have HGR := Hyd (grow21 p ss ts L w1.heap.size (.slice qa ss.length qc) (.slice sa ls.length sc) ls (ls.length + 1) (.slice none 0 0, .slice none 0 0, []) w1 (by show ls.length < ls.length + 1 + 0; omega)
  ⟨HP.out, hlen, fun e he => HE.out e (hperm.mem_iff.1 he), ⟨Nat.zero_le _, (fun x hx => by cases hx), (fun x hx => by cases hx)⟩, hpos, Nat.zero_le _, Nat.zero_le _⟩
  ((DocAt.keep HD.out fun a _ ha => HB1.out.cell (Nat.lt_of_lt_of_le ha hB)).more (Nat.le_refl _) (by omega)) (Sl.of_own hown) (Nat.le_refl _) ⟨World.ownsRow_nil _ _ _ _, World.ownsRow_nil _ _ _ _⟩)
 clear hperm hsort hown hb1 HSO; go_wp2_with fail; refine HGR.out.mono ?_; rintro e w3 ⟨fv, fs, rfl, hfs, hfr, hb3⟩; obtain ⟨fa, fc, rfl⟩ := (Sl.of_own hfr.own).shape; have HFS := Hyd hfs; have HFR := Hyd hfr; have HB3 := Hyd (HB1.out.trans (hb3.mono HB1.out.size)); have HL3 := Hyd ((HL1.out.below hb3).more hb3.size)
 have hfl : fs.length <= 65536 := by
  have h1 := congrArg List.length hfs; rw [List.length_map] at h1; rw [h1]; exact growM_le p ls _ _ hlen (Nat.zero_le _)
 have HFM := Hyd (fun (m : Mt) (hm : m ∈ sortM (growM p ls (ls.length + 1) [])) => sort_mem HMIN.out ls m hm); clear hfs hfr hb3 p0 p1 HGR; go_wp2_with fail
 go_loopw [7, 8] (fun ov u wr => ∃ i, ∃ os : List MG, i <= fs.length /\ u = .int .i64 (i : Nat) /\ os.map (·.2.2) = sortM ((fs.take i).map (·.2.2)) /\ RowM w3.heap.size wr ov os /\ Below w3.heap.size w3 wr) (fun _ u _ => fs.length - (intOf u).toNat)
 case atStart => exact ⟨0, [], Nat.zero_le _, rfl, rfl, RowM.empty _ _, Below.refl _ _⟩
 case round =>
  obtain ⟨i, os, hi, rfl, hos, hro, hbe⟩ := hrel; obtain ⟨oa, oc, rfl⟩ := (Sl.of_own hro.own).shape
  have hol : os.length = i := by
   have h1 := congrArg List.length hos; rw [List.length_map] at h1; rw [h1]
   show (List.foldl insM [] _).length = i
   rw [sort_len, List.length_map, List.length_take, List.length_nil]; omega
  have hol1 : os.length <= i := by omega
  have hol3 : i <= os.length := by omega
  clear hol; have HOS := Hyd hos; have HRO := Hyd hro; have HBE := Hyd hbe; have hbs := hbe.size
  by_cases hlt : i < fs.length
  ·have hii : (i : Int) < (fs.length : Int) := by omega
   have hi0 : (0 : Int) <= (i : Int) := by omega
   have hol2 : os.length <= 65536 := by omega
   obtain ⟨g8, c8, a1, d1, a2, d2, hv8, hg8, eq1, eq2, x1, x2, hel⟩ := (HFR.out.below hbe).at_ hlt
   obtain ⟨rfl, rfl⟩ : fa = some ⟨g8, 0, none⟩ /\ fc = c8 := by simpa using hv8
   have HTK := Hyd (List.take_succ_eq_append_getElem (l := fs) (i := i) hlt)
   obtain ⟨x9, hx9⟩ : ∃ x9, fs[i] = x9 := ⟨_, rfl⟩
   rw [hx9] at eq1 eq2 x1 x2 hel HTK; obtain ⟨p1, p2, mx⟩ := x9
   simp only at eq1 eq2 x1 x2
   subst eq1 eq2; have HELX := Hyd hel
   have hmx : mx.length <= 8 := by
    have h1 : mx ∈ growM p ls (ls.length + 1) [] := by
     rw [<- HFS.out]; exact List.mem_map.2 ⟨_, List.getElem_mem hlt, by rw [hx9]⟩
    have h2 := (Go.Proofs.YtcojnojdgigmdaaGreatDoor.PR.mem_grow (by show ls.length < _ + 0; omega) (Nat.zero_le _)).1 h1; have h3 := (h2.1.val .nil); exact Nat.le_trans (Val.len h3) (Nat.le_trans h3.le hlen)
   have hom : ∀ j (h : j < os.length), (os[j].2.2).length <= 8 := by
    intro j h; have h1 : os[j].2.2 ∈ os.map (·.2.2) := List.mem_map.2 ⟨_, List.getElem_mem h, rfl⟩; rw [HOS.out] at h1
    have h4 : ∀ (F : List Mt) (o : List Mt) (y : Mt), y ∈ F.foldl insM o -> y ∈ o \/ y ∈ F := by
     intro F
     induction F with
     | nil => intro o y hy; exact .inl hy
     | cons x F ih =>
      intro o y hy
      rcases ih _ y hy with h5 | h5
      ·unfold insM at h5
       rcases List.mem_append.1 h5 with h5 | h5
       ·exact .inl ((List.takeWhile_sublist _).subset h5)
       ·rcases List.mem_cons.1 h5 with rfl | h5
        ·exact .inr (by simp)
        ·exact .inl ((List.dropWhile_sublist _).subset h5)
      ·exact .inr (List.mem_cons_of_mem _ h5)
    rcases h4 _ _ _ h1 with h5 | h5
    ·cases h5
    ·have h6 : os[j].2.2 ∈ growM p ls (ls.length + 1) [] := by
      rw [<- HFS.out]; obtain ⟨y, hy, e⟩ := List.mem_map.1 h5; exact List.mem_map.2 ⟨y, List.mem_of_mem_take hy, e⟩
     have h2 := (Go.Proofs.YtcojnojdgigmdaaGreatDoor.PR.mem_grow (by show ls.length < _ + 0; omega) (Nat.zero_le _)).1 h6; have h3 := (h2.1.val .nil); exact Nat.le_trans (Val.len h3) (Nat.le_trans h3.le hlen)
   have HOM := Hyd hom; have HX1 := Hyd x1; have HX2 := Hyd x2
   obtain ⟨we, rfl⟩ : ∃ w' : World, w' = wr := ⟨_, rfl⟩
   clear hv8 hx9 hel hos hro hbe x1 x2 hom
   go_upto_block 2 with fail
   go_cut [9, 10] (fun s9 s10 wx => ∃ a, a <= os.length /\ s9 = .int .i64 (a : Nat) /\ (∀ j (h : j < os.length), j < a -> aheadM mx os[j].2.2 = false) /\ (a = os.length \/ ∃ h : a < os.length, aheadM mx os[a].2.2 = true) /\ Mem.Grw we wx)
   case first =>
    go_wp2_with fail
    go_loopw [9] (fun u wr => ∃ a, a <= os.length /\ u = .int .i64 (a : Nat) /\ (∀ j (h : j < os.length), j < a -> aheadM mx os[j].2.2 = false) /\ Mem.Grw we wr) (fun u _ => os.length - (intOf u).toNat)
    case atStart => exact ⟨0, Nat.zero_le _, rfl, fun j _ h => absurd h (Nat.not_lt_zero _), Mem.Grw.refl _⟩
    case round =>
     obtain ⟨a, ha, rfl, hall, hg⟩ := hrel; have HG := Hyd hg; have HA := Hyd hall; have hgs := hg.size; clear hg hall
     by_cases hao : a < os.length
     ·have hai : (a : Int) < (os.length : Int) := by omega
      have ha0 : (0 : Int) <= (a : Int) := (by omega); obtain ⟨g6, c6, b1, e1, b2, e2, hv6, hg6, eq1, eq2, y1, y2, hel⟩ := HRO.out.at_ hao
      obtain ⟨rfl, rfl⟩ : oa = some ⟨g6, 0, none⟩ /\ oc = c6 := by simpa using hv6
      have hol8 := HOM.out a hao
      obtain ⟨x9, hx9⟩ : ∃ x9, os[a] = x9 := ⟨_, rfl⟩
      have HXO := Hyd hx9; rw [hx9] at eq1 eq2 y1 y2 hel hol8; obtain ⟨p1, p2, my⟩ := x9
      simp only at eq1 eq2 y1 y2 hol8
      subst eq1 eq2; have hg8r : g8 < wr.heap.size := (by omega); have hg6r : g6 < wr.heap.size := (by omega)
      have u1 : ∀ n os', (grow (wr.drewN n) os').cell? ⟨g8, i * 2, none⟩ = some (.slice a1 mx.length d1) := cell_grown hg8r (HG.out.cell hg8 HX1.out)
      have u2 : ∀ n os', (grow (wr.drewN n) os').cell? ⟨g8, i * 2 + 1, none⟩ = some (.slice a2 mx.length d2) := cell_grown hg8r (HG.out.cell hg8 HX2.out)
      have v1 : ∀ n os', (grow (wr.drewN n) os').cell? ⟨g6, a * 2, none⟩ = some (.slice b1 my.length e1) := cell_grown hg6r (HG.out.cell hg6 y1)
      have v2 : ∀ n os', (grow (wr.drewN n) os').cell? ⟨g6, a * 2 + 1, none⟩ = some (.slice b2 my.length e2) := cell_grown hg6r (HG.out.cell hg6 y2)
      obtain ⟨q, hq⟩ : ∃ q, aheadM mx my = q := ⟨_, rfl⟩
      have hgg : ∀ n os', Mem.Grw we (grow (wr.drewN n) os') := fun n os' => HG.out.trans ⟨n, os', rfl⟩
      have HQ := Hyd (fun n os' => ahead21 (.agg #[.slice a1 mx.length d1, .slice a2 mx.length d2]) (.agg #[.slice b1 my.length e1, .slice b2 my.length e2]) mx my we.heap.size (grow (wr.drewN n) os') (HELX.out.mt.below (hgg n os').below) (hel.mt.below (hgg n os').below) (hgg n os').size (by omega) (by omega)); rw [hq] at HQ; have HQV := Hyd hq; clear hv6 y1 y2 hq hel hgg hx9; go_wp2_with fail
      go_quiet_grown (first | (go_at_call 30; exact Mem.Grw.grown (HQ.out _ _)) | exact Mem.Grw.grown (HQ.out _ _))
      have HGQ := Hyd (HG.out.trans (show Mem.Grw wr (grow (wr.drewN nq) osq) from ⟨nq, osq, rfl⟩)); change Exit.then _ _ Exit.normal _ (grow (wr.drewN nq) osq); clear u1 u2 v1 v2 HQ; generalize grow (wr.drewN nq) osq = w5 at *
      cases q with
      | true =>
       go_wp2_with fail; go_meet; exact ⟨a, ha, rfl, HA.out, .inr ⟨hao, by rw [HXO.out]; exact HQV.out⟩, HGQ.out⟩
      | false =>
       go_wp2_with fail; go_roundw
       case rel => exact ⟨a + 1, by omega, rfl, fun j h1 h2 => by
        by_cases hj : j = a
        ·subst hj; rw [HXO.out]; exact HQV.out
        ·exact HA.out j h1 (by omega), HGQ.out⟩
       case measure => simp [intOf]; omega
     ·obtain rfl : a = os.length := by omega
      go_wp2_with fail; go_meet; exact ⟨os.length, Nat.le_refl _, rfl, HA.out, .inl rfl, HG.out⟩
   case rest =>
    obtain ⟨wx, rfl⟩ : ∃ w' : World, w' = wc := ⟨_, rfl⟩
    obtain ⟨a, ha, rfl, hall, hor, hg⟩ := hcut
    have HINS := Hyd (show insM (os.map (·.2.2)) mx = (os.map (·.2.2)).take a ++ mx :: (os.map (·.2.2)).drop a from ins_at (by rw [List.length_map]; exact ha) (fun j h1 h2 => by rw [List.getElem_map]; exact hall j (by rw [List.length_map] at h1; exact h1) h2) (by
     rcases hor with h | ⟨h, h2⟩
     ·left; rw [List.length_map]; exact h
     ·right; exact ⟨by rw [List.length_map]; exact h, by rw [List.getElem_map]; exact h2⟩))
    have HG := Hyd hg; have HCB := Hyd (HBE.out.trans (hg.below.mono hbs)); have HOX := Hyd (HRO.out.below hg.below); have HEX := Hyd (HELX.out.below hg.below); have hgx := hg.size; have ZE := Hyd (fun (w' : World) (hb' : Below wx.heap.size wx w') => And.intro ((hb'.cell (p := ⟨g8, i * 2, none⟩) (Nat.lt_of_lt_of_le hg8 hg.size)).trans (hg.cell hg8 HX1.out)) ((hb'.cell (p := ⟨g8, i * 2 + 1, none⟩) (Nat.lt_of_lt_of_le hg8 hg.size)).trans (hg.cell hg8 HX2.out)))
    have hwx3 : w3.heap.size <= wx.heap.size := by omega
    clear hall hor hg; go_wp2_with fail
    go_loopw [11, 12] (fun nx u wr => ∃ k, k <= a /\ u = .int .i64 (k : Nat) /\ CopM wx (os.take k) nx wr) (fun _ u _ => a - (intOf u).toNat)
    case atStart => exact ⟨0, Nat.zero_le _, rfl, RowM.empty _ _, Below.refl _ _⟩
    case round =>
     obtain ⟨k, hk, rfl, hcop⟩ := hrel
     have hkl : (os.take k).length = k := by rw [List.length_take]; omega
     have HC := Hyd hcop; have hwz := hcop.2.size; obtain ⟨na, nc, rfl⟩ := (Sl.of_own hcop.1.own).shape; rw [hkl]; clear hcop
     by_cases hka : k < a
     ·have hki : (k : Int) < (a : Int) := by omega
      have hk0 : (0 : Int) <= (k : Int) := (by omega); have hko : k < os.length := (by omega); have hkoi : (k : Int) < (os.length : Int) := (by omega); obtain ⟨g6, c6, a1', d1', a2', d2', hv6, hg6, eq1, eq2, x1, x2, hel⟩ := (HOX.out.below HC.out.2).at_ hko
      obtain ⟨rfl, rfl⟩ : oa = some ⟨g6, 0, none⟩ /\ oc = c6 := by simpa using hv6
      have HTK2 := Hyd (List.take_succ_eq_append_getElem (l := os) (i := k) hko)
      obtain ⟨x9, hx9⟩ : ∃ x9, os[k] = x9 := ⟨_, rfl⟩
      rw [hx9] at eq1 eq2 x1 x2 hel HTK2; obtain ⟨p1, p2, m9⟩ := x9
      simp only at eq1 eq2 x1 x2
      subst eq1 eq2; have HEL := Hyd hel; clear hv6 hx9 hel; obtain ⟨i0, hi9, hz0', hz1', hz2'⟩ := info_parts infoMt; have HNA := Hyd (Reg.own_new (w := wr) (b := 0) (e := 84) (sz := 2) (n := 1) (cs := #[.slice a1' m9.length d1', .slice a2' m9.length d2']) rfl (Nat.zero_le _) rfl (by decide)); have HNB := Hyd (show Below wr.heap.size wr (wr.alloc (.cells #[.slice a1' m9.length d1', .slice a2' m9.length d2'] 84)) from (Below.refl _ _).alloc (Nat.le_refl _) _); have hown := own_below HC.out.1.own HNB.out; rw [hkl] at hown; have HOWN := Hyd hown; clear hown
      go_wp2_with (at_builtin; refine Reg.wpList_append_src _ rfl (.tmp 50) (.tmp 55) 81 rfl wx.heap.size 0 84 i0 _ 2 48 Tryz.underlying81 hi9 hz0' hz1' hz2' rfl (by decide) _ _ k 1 _ _ rfl HOWN.out rfl HNA.out ?e11 ?e12 ?e13 ?e14 ?_)
      case e11 => first | exact HEL.out.one | exact ⟨rfl, rfl⟩
      case e12 => unfold maxLen; omega
      case e13 => omega
      case e14 => omega
      intro nx' w5 ho5 hg5 _; clear hi9 hz0' hz1' hz2' HOWN HNA HNB
      have HRL := Hyd (show CopM wx (os.take (k + 1)) nx' w5 by
       rw [HTK2.out]
       exact HC.out.snoc HEL.out (by rw [hkl]; exact ho5) (by rw [hkl]; exact hg5))
      clear ho5 hg5 hkl; go_wp2_with fail; go_roundw
      case rel => exact ⟨k + 1, by omega, rfl, HRL.out⟩
      case measure => simp [intOf]; omega
     ·obtain rfl : k = a := by omega
      obtain ⟨x1, x2⟩ := ZE.out wr HC.out.2; have HEL := Hyd (HEX.out.below HC.out.2); obtain ⟨i0, hi9, hz0', hz1', hz2'⟩ := info_parts infoMt; have HNA := Hyd (Reg.own_new (w := wr) (b := 0) (e := 84) (sz := 2) (n := 1) (cs := #[.slice a1 mx.length d1, .slice a2 mx.length d2]) rfl (Nat.zero_le _) rfl (by decide)); have HNB := Hyd (show Below wr.heap.size wr (wr.alloc (.cells #[.slice a1 mx.length d1, .slice a2 mx.length d2] 84)) from (Below.refl _ _).alloc (Nat.le_refl _) _); have hown := own_below HC.out.1.own HNB.out; rw [hkl] at hown; have HOWN := Hyd hown; clear hown
      go_wp2_with (at_builtin; refine Reg.wpList_append_src _ rfl (.tmp 57) (.tmp 62) 81 rfl wx.heap.size 0 84 i0 _ 2 48 Tryz.underlying81 hi9 hz0' hz1' hz2' rfl (by decide) _ _ k 1 _ _ rfl HOWN.out rfl HNA.out ?e21 ?e22 ?e23 ?e24 ?_)
      case e21 => first | exact HEL.out.one | exact ⟨rfl, rfl⟩
      case e22 => unfold maxLen; omega
      case e23 => omega
      case e24 => omega
      intro nx' w5 ho5 hg5 _; clear hi9 hz0' hz1' hz2' HOWN HNA HNB; have HRL := Hyd (show CopM wx (os.take k ++ [(.slice a1 mx.length d1, .slice a2 mx.length d2, mx)]) nx' w5 from HC.out.snoc HEL.out (by rw [hkl]; exact ho5) (by rw [hkl]; exact hg5))
      obtain ⟨gx, hgx9⟩ : ∃ gx : MG, (.slice a1 mx.length d1, .slice a2 mx.length d2, mx) = gx := ⟨_, rfl⟩
      rw [hgx9] at HRL; have HGX := Hyd (show gx.2.2 = mx by rw [<- hgx9]); have HN0 := Hyd (show (os.take k ++ [gx]).length = k + 1 by rw [List.length_append, hkl]; rfl); clear ho5 hg5 hkl hgx9; go_wp2_with fail
      go_loopw [11, 13] (fun nx u wr => ∃ j, k <= j /\ j <= os.length /\ u = .int .i64 (j : Nat) /\ CopM wx (os.take k ++ [gx] ++ (os.drop k).take (j - k)) nx wr) (fun _ u _ => os.length - (intOf u).toNat)
      case atStart => exact ⟨k, Nat.le_refl _, ha, rfl, by rw [Nat.sub_self, List.take_zero, List.append_nil]; exact HRL.out⟩
      case round =>
       clear HRL; obtain ⟨j, hkj, hj, rfl, hcop⟩ := hrel
       have hjl : (os.take k ++ [gx] ++ (os.drop k).take (j - k)).length = j + 1 := by rw [List.length_append, HN0.out, List.length_take, List.length_drop]; omega
       have HC := Hyd hcop; have hwz := hcop.2.size; obtain ⟨na, nc, rfl⟩ := (Sl.of_own hcop.1.own).shape; rw [hjl]; clear hcop
       by_cases hja : j < os.length
       ·have hji : (j : Int) < (os.length : Int) := (by omega); have hj0 : (0 : Int) <= (j : Int) := (by omega); obtain ⟨g6, c6, a1', d1', a2', d2', hv6, hg6, eq1, eq2, x1, x2, hel⟩ := (HOX.out.below HC.out.2).at_ hja
        obtain ⟨rfl, rfl⟩ : oa = some ⟨g6, 0, none⟩ /\ oc = c6 := by simpa using hv6
        have HTK2 := Hyd (show (os.drop k).take (j + 1 - k) = (os.drop k).take (j - k) ++ [os[j]] by
         rw [show j + 1 - k = (j - k) + 1 by omega, List.take_succ_eq_append_getElem (by rw [List.length_drop]; omega), List.getElem_drop]
         congr 3
         omega)
        obtain ⟨x9, hx9⟩ : ∃ x9, os[j] = x9 := ⟨_, rfl⟩
        rw [hx9] at eq1 eq2 x1 x2 hel HTK2; obtain ⟨p1, p2, m9⟩ := x9
        simp only at eq1 eq2 x1 x2
        subst eq1 eq2; have HEL := Hyd hel
        obtain ⟨k9, hk9⟩ : ∃ k9, j + 1 = k9 := ⟨_, rfl⟩
        rw [hk9] at hjl ⊢; have hk9b : k9 <= 1000001 := (by omega); clear hv6 hx9 hel; obtain ⟨i0, hi9, hz0', hz1', hz2'⟩ := info_parts infoMt; have HNA := Hyd (Reg.own_new (w := wr) (b := 0) (e := 84) (sz := 2) (n := 1) (cs := #[.slice a1' m9.length d1', .slice a2' m9.length d2']) rfl (Nat.zero_le _) rfl (by decide)); have HNB := Hyd (show Below wr.heap.size wr (wr.alloc (.cells #[.slice a1' m9.length d1', .slice a2' m9.length d2'] 84)) from (Below.refl _ _).alloc (Nat.le_refl _) _); have hown := own_below HC.out.1.own HNB.out; rw [hjl] at hown; have HOWN := Hyd hown; clear hown
        go_wp2_with (at_builtin; refine Reg.wpList_append_src _ rfl (.tmp 71) (.tmp 76) 81 rfl wx.heap.size 0 84 i0 _ 2 48 Tryz.underlying81 hi9 hz0' hz1' hz2' rfl (by decide) _ _ k9 1 _ _ rfl HOWN.out rfl HNA.out ?e31 ?e32 ?e33 ?e34 ?_)
        case e31 => first | exact HEL.out.one | exact ⟨rfl, rfl⟩
        case e32 => unfold maxLen; omega
        case e33 => omega
        case e34 => omega
        intro nx' w5 ho5 hg5 _; clear hi9 hz0' hz1' hz2' HOWN HNA HNB
        have HRL := Hyd (show CopM wx (os.take k ++ [gx] ++ (os.drop k).take (j + 1 - k)) nx' w5 by
         rw [HTK2.out, <- List.append_assoc]
         exact HC.out.snoc HEL.out (by rw [hjl]; simpa [encM] using ho5) (by rw [hjl]; exact hg5))
        clear ho5 hg5 hjl hk9 hk9b; go_wp2_with fail; go_roundw
        case rel => exact ⟨j + 1, by omega, by omega, rfl, HRL.out⟩
        case measure => simp [intOf]; omega
       ·obtain rfl : j = os.length := by omega
        have hdr : (os.drop k).take (os.length - k) = os.drop k := List.take_of_length_le (by rw [List.length_drop]; omega); have HC2 := HC.out; rw [hdr] at hjl HC2
        have HRL := Hyd (show ∃ i', ∃ os' : List MG, i' <= fs.length /\ Value.int .i64 ((i : Int) + 1) = .int .i64 (i' : Nat) /\ os'.map (·.2.2) = sortM ((fs.take i').map (·.2.2)) /\ RowM w3.heap.size wr (.slice na (os.length + 1) nc) os' /\ Below w3.heap.size w3 wr from
         ⟨i + 1, os.take k ++ [gx] ++ os.drop k, by omega, rfl, by
          rw [HTK.out, show ∀ z : MG, (fs.take i ++ [z]).map (·.2.2) = (fs.take i).map (·.2.2) ++ [z.2.2] from fun z => by simp, sort_snoc, <- HOS.out, HINS.out]
          simp [HGX.out], by
          have h1 := HC2.1.le hwx3; rw [hjl] at h1
          exact h1, HCB.out.trans (HC2.2.mono HCB.out.size)⟩)
        clear hjl hdr HC HC2; go_wp2_with fail; go_roundw
        case rel => exact HRL.out
        case measure => simp [intOf]; omega
  ·obtain rfl : i = fs.length := by omega
   rw [List.take_length, HFS.out] at hos; have HOS2 := Hyd hos
   have hol2 : os.length <= 65536 := by omega
   clear hos hro hbe HOS; have HRQ := Hyd HRO.out
   obtain ⟨wq, rfl⟩ : ∃ w' : World, w' = wr := ⟨_, rfl⟩
   obtain ⟨TS, hTS⟩ : ∃ TS, (os.map (·.2.2)).map (textM ls) = TS := ⟨_, rfl⟩
   have hTl : TS.length = os.length := by rw [<- hTS]; simp
   have HTS := Hyd hTS; have HTL := Hyd hTl; clear hTS hTl; have HLQ := Hyd ((HL3.out.below HBE.out).more hbs); go_wp2_with fail
   go_loopw [14, 15] (fun ov u wr => ∃ k, k <= os.length /\ u = .int .i64 (k : Nat) /\ wr.ownsRow wq.heap.size 9 1 ov k ((TS.take k).map strV) /\ Below wq.heap.size wq wr) (fun _ u _ => os.length - (intOf u).toNat)
   case atStart => exact ⟨0, Nat.zero_le _, rfl, World.ownsRow_nil _ _ _ _, Below.refl _ _⟩
   case round =>
    obtain ⟨k, hk, rfl, hown, hb⟩ := hrel; obtain ⟨ta, tc, rfl⟩ := (Sl.of_own hown).shape; have HOW := Hyd hown; have HBQ := Hyd hb; have hbq := hb.size
    by_cases hkl : k < os.length
    ·have hki : (k : Int) < (os.length : Int) := by omega
     have hk0 : (0 : Int) <= (k : Int) := by omega
     obtain ⟨g6, c6, a1, d1, a2, d2, hv6, hg6, eq1, eq2, x1, x2, hel⟩ := (HRQ.out.below hb).at_ hkl
     obtain ⟨rfl, rfl⟩ : oa = some ⟨g6, 0, none⟩ /\ oc = c6 := by simpa using hv6
     have hkt : k < TS.length := by rw [HTL.out]; exact hkl
     have hmem : os[k].2.2 ∈ sortM (growM p ls (ls.length + 1) []) := by rw [<- HOS2.out]; exact List.mem_map.2 ⟨_, List.getElem_mem hkl, rfl⟩
     obtain ⟨hsok, hat, hml⟩ := HFM.out _ hmem
     have htx : TS[k] = textTo ls os[k].2.2 os[k].2.2.length := by
      have : TS[k]? = some (textM ls os[k].2.2) := by
       rw [<- HTS.out, List.getElem?_map, List.getElem?_map, List.getElem?_eq_getElem hkl]; rfl
      rw [List.getElem?_eq_getElem hkt] at this; rw [textTo_all ls hsok]; exact Option.some.inj this
     have HTK := Hyd (show (TS.take (k + 1)).map strV = (TS.take k).map strV ++ [strV TS[k]] by rw [List.take_succ_eq_append_getElem hkt, List.map_append, List.map_singleton])
     obtain ⟨x9, hx9⟩ : ∃ x9, os[k] = x9 := ⟨_, rfl⟩
     rw [hx9] at eq1 eq2 x1 x2 hel htx hat hml; obtain ⟨p1, p2, m9⟩ := x9
     simp only at eq1 eq2 x1 x2 htx hat hml
     subst eq1 eq2; have HTXT := Hyd (text21 (.slice sa ls.length sc) (.agg #[.slice a1 m9.length d1, .slice a2 m9.length d2]) ls m9 wr.heap.size wr ((HLQ.out.below hb).more hbq) hel.mt (Nat.le_refl _) (by omega) hat (fun y hy => (HE.out y (HPM.out.mem_iff.1 hy)).2.2)); rw [<- htx] at HTXT
     obtain ⟨tt, htt⟩ : ∃ tt, TS[k] = tt := ⟨_, rfl⟩
     rw [htt] at HTXT HTK; clear hv6 hx9 hel hmem hsok htx hat hml htt hown hb; go_wp2_with fail; refine HTXT.out.mono ?_; rintro e w5 ⟨rfl, hg5⟩; have HB5 := Hyd (HBQ.out.trans (hg5.below.mono hbq)); have HOW5 := Hyd (own_below HOW.out hg5.below); have h5s := HB5.out.size
     obtain ⟨sx, hsx⟩ : ∃ sx : ByteArray, (⟨tt.toArray⟩ : ByteArray) = sx := ⟨_, rfl⟩
     have HSX := Hyd (show strV tt = .string sx by rw [<- hsx]); rw [hsx]; obtain ⟨i0, hi9, hz0', hz1', hz2'⟩ := info_parts infoStr21; have HNA := Hyd (Reg.own_new (w := w5) (b := 0) (e := 9) (sz := 1) (n := 1) (cs := #[.string sx]) rfl (Nat.zero_le _) rfl (by decide)); have HNB := Hyd (show Below w5.heap.size w5 (w5.alloc (.cells #[.string sx] 9)) from (Below.refl _ _).alloc (Nat.le_refl _) _); clear hg5 hsx x1 x2
     go_wp2_with (at_builtin; refine Reg.wpList_append_src _ rfl (.tmp 91) (.tmp 93) 37 rfl wq.heap.size 0 9 i0 _ 1 16 Tryz.underlying37 hi9 hz0' hz1' hz2' rfl (by decide) _ _ k 1 _ _ rfl (own_below HOW5.out HNB.out) rfl HNA.out ?e41 ?e42 ?e43 ?e44 ?_)
     case e41 => intro u hu; simp at hu; subst hu; rfl
     case e42 => unfold maxLen; omega
     case e43 => omega
     case e44 => simp; omega
     intro v' w6 ho6 hg6' _
     have HRL := Hyd (show ∃ k', k' <= os.length /\ Value.int .i64 ((k : Int) + 1) = .int .i64 (k' : Nat) /\ w6.ownsRow wq.heap.size 9 1 v' k' ((TS.take k').map strV) /\ Below wq.heap.size wq w6 from
      ⟨k + 1, hkl, rfl, by rw [HTK.out, HSX.out, List.map_take]; exact ho6, below_grown (HB5.out.trans (HNB.out.mono h5s)) (own_below HOW5.out HNB.out) hg6' (by simp; omega) (Nat.le_refl _)⟩)
     clear ho6 hg6' hi9 hz0' hz1' hz2'; go_wp2_with fail; go_roundw
     case rel => exact HRL.out
     case measure => simp [intOf]; omega
    ·obtain rfl : k = os.length := by omega
     have HFIN := Hyd (show wr.ownsRow w.heap.size 9 1 (.slice ta os.length tc) (sortM (growM p ls (ls.length + 1) [])).length (((sortM (growM p ls (ls.length + 1) [])).map (textM ls)).map strV) by
      rw [<- HOS2.out, HTS.out, List.length_map]; have h1 := HOW.out; rw [List.take_of_length_le (by rw [HTL.out]; exact Nat.le_refl _)] at h1
      exact Joins.ownsRow_le h1 (Nat.le_trans HB3.out.size hbs))
     have HBF := Hyd ((HB3.out.trans (HBE.out.mono HB3.out.size)).trans (HBQ.out.mono (Nat.le_trans HB3.out.size hbs))); clear hown hb; go_wp2_with fail; go_ret; exact ⟨_, ls, rfl, HPM.out, HST.out, HFIN.out, HBF.out⟩
end Go.Proofs.YtcojnojdgigmdaaGreatDoor.WR
