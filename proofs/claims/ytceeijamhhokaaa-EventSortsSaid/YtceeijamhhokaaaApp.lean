/- A region that draws its order and appends to a row of the call's own what a callee hands back ('p.xs = append(p.xs, f(..))'): whatever the order. No program in sight. -/
import Derived.Test.YtceeijamhhokaaaOrd
import Derived.Test.YtceeijamhhokaaaMem
import Derived.WalkKit
namespace Go.Proofs.Ytceeijamhhokaaa.Ord
open Go.RowKit Go.Proofs.Ytceeijamhhokaaa.Mem

theorem wpOp_enter {P : Program} {ops : Array Oper} {Q : Exit → Act → World → Prop} {i : Nat} {o : Oper} {a : Act} {w : World} {K : Act → World → Prop} {f : FuncId} {args : Array Value} (ho : ops[i]? = some o) (hg : o.guard = none)
    (hr : (execOp a.eval o).run P w = .ok (.enter f args) w)
    (h : Calls P f args w fun e w'' => match e, w'' with
      | .returned v, w'' => K (a.put o.dst v) w''
      | .panicked chain, w'' => Q (.panic chain) a w''
      | .outgrown, _ => LetsOut Q) : wpOp P ops Q i K a w := by
  unfold wpOp
  simp only [ho, Region.wanted, hg, if_true]
  refine .inl ?_
  unfold Oper.wp
  rw [hr]
  exact h
theorem run_enter2 {P : Program} {a : Act} {w : World} {x y : Operand} {vx vy : Value} {f : FuncId} {d : Option Tmp} {ty : TypeId} {pos : String} {af : Array Edge} {g : Option (Nat × Bool)} {ts : Array TypeId} (hx : a.eval x = vx) (hy : a.eval y = vy) (hf : (callFunc f #[vx, vy]).run P w = .ok (.enter f #[vx, vy]) w) :
    (execOp a.eval { dst := d, op := .call { callee := .value (.func f), args := #[x, y], argTypes := ts }, type := ty, pos := pos, after := af, guard := g }).run P w = .ok (.enter f #[vx, vy]) w := by
  have he : a.eval (.func f) = .func (.func f) #[] #[] := rfl
  simp only [execOp, resolve, he, Deferred.ofValue, invoke, Sem.run_bind, Sem.run_pure, Result.andThen_ok, List.map_toArray, List.map_cons, List.map_nil, hx, hy]
  exact hf
theorem run_fld {P : Program} {a : Act} {w : World} {x : Operand} {v q : Value} {T : TypeId} {n : Nat} {d : Option Tmp} {ty : TypeId} {pos : String} {af : Array Edge} {g : Option (Nat × Bool)} (h : a.eval x = q) (hl : (Instr.fieldAt T q n).run P w = .ok v w) :
    (execOp a.eval { dst := d, op := .fieldAddr T x n, type := ty, pos := pos, after := af, guard := g }).run P w = .ok (.value v) w := by
  subst h
  simp only [execOp, Sem.run_bind, hl]
  rfl
theorem run_len {P : Program} {a : Act} {w : World} {x : Operand} {ad : Option Addr} {n c : Nat} {d : Option Tmp} {ty : TypeId} {pos : String} {af : Array Edge} {g : Option (Nat × Bool)} {ts : Array TypeId} (h : a.eval x = .slice ad n c) (hl : (Builtin.len_ ts ty #[.slice ad n c]).run P w = .ok (.int .i64 n) w) :
    (execOp a.eval { dst := d, op := .call { callee := .builtin .len, args := #[x], argTypes := ts }, type := ty, pos := pos, after := af, guard := g }).run P w = .ok (.value (.int .i64 n)) w := by
  simp only [execOp, resolve, invoke, builtin, Sem.run_bind, Sem.run_pure, Result.andThen_ok, List.map_toArray, List.map_cons, List.map_nil, h]
  rw [hl]
  rfl

/-- See the head. -/
theorem call_append {P : Program} {id : Nat} {l : List Oper} {Q : Exit → Act → World → Prop} {a0 : Act} {w0 : World} {floats : List (Nat × Nat × Value)} {ic sc ib sb ip sp h t : Nat}
    (hm : P.follows .mixedOrders = true) (hl : l.length = h + t) (hH : chkH l.toArray h = true) (hTl : chkT l.toArray h t = true)
    (hseq : Region.seqB .any l.toArray t h (List.replicate h true ++ List.replicate t false).toArray = true)
    (hch : chkC l.toArray [ic, ib, ip] = true)
    (hidx : (floats.map (·.1) ++ [ic, ib, ip]).Nodup) (hall : ∀ i, i < h → i ∈ floats.map (·.1) ++ [ic, ib, ip]) (hin : ∀ i ∈ floats.map (·.1) ++ [ic, ib, ip], i < h)
    (hsl : (floats.map (·.2.1) ++ [sc, sb, sp]).Nodup) (hlt : ∀ s ∈ floats.map (·.2.1) ++ [sc, sb, sp], s < a0.tmps.size)
    (B : Nat) (cs : Array Value) (tB : TypeId) (hB : w0.heap[B]? = some (.cells cs tB (0, 0)))
    (base : Nat) (e : TypeId) (i : TypeInfo) (z : Value) (sz bytes : Nat) (v : Value) (n : Nat) (xs news : List Value) (vc : Value) (hne : e ≠ tB)
    (Mid : World → Prop) (hMid : ∀ w, Mid w → w.heap[B]? = some (.cells cs tB (0, 0)) ∧ w.ownsRow base e sz v n xs ∧ base ≤ w.heap.size)
    (hF : ∀ (i s : Nat) (x : Value), (i, s, x) ∈ floats → ∃ o, l[i]? = some o ∧ o.guard = none ∧ o.dst = some s ∧
      ∀ (a : Act) (w : World), Sees a0 (floats.map (·.2.1) ++ [sc, sb, sp]) a → (∀ (j s' : Nat) (x' : Value), (j, s', x') ∈ floats → waits o j → a.tmps[s']? = some x') → w.heap[B]? = some (.cells cs tB (0, 0)) → (execOp a.eval o).run P w = .ok (.value x) w)
    (hcall : ∀ (a : Act) (K : Act → World → Prop), Sees a0 (floats.map (·.2.1) ++ [sc, sb, sp]) a → (∀ (o : Oper) (j s' : Nat) (x' : Value), l[ic]? = some o → (j, s', x') ∈ floats → waits o j → a.tmps[s']? = some x') →
      (∀ w', Mid w' → K (a.put (some sc) vc) w') → wpOp P l.toArray Q ic K a w0.drew)
    (hbuild : ∃ o, l[ib]? = some o ∧ o.guard = none ∧ o.dst = some sb ∧ ∀ (a : Act) (w : World), a.tmps[sc]? = some vc → (execOp a.eval o).run P w = .ok (.value (.slice (some ⟨w.heap.size, 0, none⟩) 1 1)) (w.alloc (.cells news.toArray e)))
    (src js : Nat) (tS : TypeId)
    (happ : ∃ o, l[ip]? = some o ∧ o.guard = none ∧ o.dst = some sp ∧ o.op = .call { callee := .builtin .append, args := #[.tmp src, .tmp sb], argTypes := #[tS, tS] } ∧ waits o js)
    (hsrc : (js, src, v) ∈ floats)
    (ht : P.underlying tS = some (.slice e)) (hi : P.info? e = some i) (hz : i.zero = some z) (hsize : i.size = sz) (hby : i.bytes = bytes) (hzs : z.cells.size = sz) (hsz : 0 < sz) (hnl : news.length = sz) (h1 : ∀ u ∈ news, u.oneCell' = true)
    (h63 : n + 1 ≤ maxLen) (hbytes : (n + 1) * bytes ≤ 140737488355328)
    (hT : ∀ w1 w g cap, Mid w1 → (w1.alloc (.cells news.toArray e)).grownBy w v.ownBlock → w.ownsRow base e sz (.slice (some ⟨g, 0, none⟩) (n + 1) cap) (n + 1) (xs ++ news) → w.heap[B]? = some (.cells cs tB (0, 0)) →
      wpList P l.toArray Q (l.drop h) (puts (floats.map (·.2) ++ [(sc, vc), (sb, .slice (some ⟨w1.heap.size, 0, none⟩) 1 1), (sp, .slice (some ⟨g, 0, none⟩) (n + 1) cap)]) a0) w) :
    (Code.region id l.toArray true).wp P Q a0 w0 := by
  refine chain_order (chain := [(ic, sc), (ib, sb), (ip, sp)]) hm hl hH hTl hseq hch hidx hall hin hsl hlt
    (fun vs w => match vs with
      | [] => w = w0.drew
      | [x] => x = vc ∧ Mid w
      | [x, y] => x = vc ∧ ∃ w1, Mid w1 ∧ y = .slice (some ⟨w1.heap.size, 0, none⟩) 1 1 ∧ w = w1.alloc (.cells news.toArray e)
      | [x, y, r] => x = vc ∧ ∃ w1 g cap, Mid w1 ∧ y = .slice (some ⟨w1.heap.size, 0, none⟩) 1 1 ∧ r = .slice (some ⟨g, 0, none⟩) (n + 1) cap ∧ (w1.alloc (.cells news.toArray e)).grownBy w v.ownBlock ∧ w.ownsRow base e sz (.slice (some ⟨g, 0, none⟩) (n + 1) cap) (n + 1) (xs ++ news)
      | _ => False) rfl ?_ ?_ ?_
  · intro i' s x hm'
    obtain ⟨o, ho, hg, hd, hrun⟩ := hF i' s x hm'
    refine ⟨o, ho, hg, hd, fun a w vs hs hk hJ => hrun a w hs hk ?_⟩
    match vs, hJ with
    | [], hJ => rw [show w = w0.drew from hJ]; exact hB
    | [_], hJ => exact (hMid w hJ.2).1
    | [_, _], hJ =>
      obtain ⟨_, w1, hmid, _, rfl⟩ := hJ
      exact heap_alloc (hMid w1 hmid).1
    | [_, _, _], hJ =>
      obtain ⟨_, w1, g, cap, hmid, _, _, hgr, _⟩ := hJ
      exact heap_kept (heap_alloc (hMid w1 hmid).1) ((hMid w1 hmid).2.1.alloc _) hne hgr
  · intro m i' s hc a w vs K hvl hs hk hcv hJ hK
    match m, hc with
    | 0, hc =>
      simp only [List.getElem?_cons_zero, Option.some.injEq, Prod.mk.injEq] at hc
      obtain ⟨rfl, rfl⟩ := hc
      match vs, hvl, hJ with
      | [], _, hJ =>
        rw [show w = w0.drew from hJ]
        exact hcall a K hs hk fun w' hmid => hK vc w' ⟨rfl, hmid⟩
    | 1, hc =>
      simp only [List.getElem?_cons_succ, List.getElem?_cons_zero, Option.some.injEq, Prod.mk.injEq] at hc
      obtain ⟨rfl, rfl⟩ := hc
      match vs, hvl, hJ with
      | [x], _, hJ =>
        obtain ⟨rfl, hmid⟩ := hJ
        obtain ⟨o, ho, hg, hd, hrun⟩ := hbuild
        have hx := hcv 0 ic sc x rfl rfl
        refine wpOp_val (o := o) (by simpa using ho) hg (hrun a w hx) ?_
        rw [hd]
        exact hK _ _ ⟨rfl, w, hmid, rfl, rfl⟩
    | 2, hc =>
      simp only [List.getElem?_cons_succ, List.getElem?_cons_zero, Option.some.injEq, Prod.mk.injEq] at hc
      obtain ⟨rfl, rfl⟩ := hc
      match vs, hvl, hJ with
      | [x, y], _, hJ =>
        obtain ⟨rfl, w1, hmid, rfl, rfl⟩ := hJ
        obtain ⟨o, ho, hg, hd, hop, hw⟩ := happ
        have hy := hcv 1 ib sb _ rfl rfl
        have hsv := hk o js src v ho hsrc hw
        obtain ⟨_, hown, hbs⟩ := hMid w1 hmid
        unfold wpOp
        simp only [show l.toArray[ip]? = some o by simpa using ho, Region.wanted, hg, if_true]
        refine .inl ?_
        refine wp_append_lies _ (.tmp src) (.tmp sb) tS hop base e i z sz bytes ht hi hz hsize hby hzs hsz v n xs (eval_tmp hsv) (hown.alloc _) ⟨w1.heap.size, 0, none⟩ 1 1 news (eval_tmp hy) (by rw [hnl]; omega)
          (by
            have := World.news_of_block (heap_new (w := w1) (o := .cells news.toArray e) rfl)
            intro j u hu
            exact this j u (by simpa using hu)) h1 (by omega) h63 hbytes (by show base ≤ (w1.heap.push _).size; simp; omega) _ rfl ?_
        intro g cap w' hown' hgrow _ _
        rw [hd]
        exact hK _ _ ⟨rfl, w1, g, cap, hmid, rfl, rfl, hgrow, hown'⟩
    | m + 3, hc => simp at hc
  · intro w vs hvl hJ
    match vs, hvl, hJ with
    | [x, y, r], _, hJ =>
      obtain ⟨rfl, w1, g, cap, hmid, rfl, rfl, hgr, hown⟩ := hJ
      exact hT w1 w g cap hmid hgr hown (heap_kept (heap_alloc (hMid w1 hmid).1) ((hMid w1 hmid).2.1.alloc _) hne hgr)
end Go.Proofs.Ytceeijamhhokaaa.Ord
