/- A region that draws its order and appends one element to a row of the call's own ('last.Bars = append(last.Bars, Bar{..})'): whatever the order. No program in sight. -/
import Derived.Test.YtcfimponmioneaaOrd
import Derived.Test.YtcfimponmioneaaMem
import Derived.WalkKit
namespace Go.Proofs.Ytcfimponmioneaa.Ord
open Go.RowKit Go.Proofs.Ytcfimponmioneaa.Mem

/-- All that lay there is as it was, but for the row. -/
def Far (w0 : World) (v : Value) (w : World) : Prop := ∀ k, k < w0.heap.size → v.ownBlock ≠ some k → w.heap[k]? = w0.heap[k]?

/-- See the head. -/
theorem append_order {P : Program} {id : Nat} {l : List Oper} {Q : Exit → Act → World → Prop} {a0 : Act} {w0 : World} {floats : List (Nat × Nat × Value)} {ib sb ip sp h t : Nat}
    (hm : P.follows .mixedOrders = true) (hl : l.length = h + t) (hH : chkH l.toArray h = true) (hTl : chkT l.toArray h t = true)
    (hseq : Region.seqB .any l.toArray t h (List.replicate h true ++ List.replicate t false).toArray = true)
    (hch : chkC l.toArray [ib, ip] = true)
    (hidx : (floats.map (·.1) ++ [ib, ip]).Nodup) (hall : ∀ i, i < h → i ∈ floats.map (·.1) ++ [ib, ip]) (hin : ∀ i ∈ floats.map (·.1) ++ [ib, ip], i < h)
    (hsl : (floats.map (·.2.1) ++ [sb, sp]).Nodup) (hlt : ∀ s ∈ floats.map (·.2.1) ++ [sb, sp], s < a0.tmps.size)
    (base : Nat) (e : TypeId) (i : TypeInfo) (z : Value) (sz bytes : Nat) (v : Value) (n : Nat) (xs news : List Value) (hown : w0.ownsRow base e sz v n xs) (hbase : base ≤ w0.heap.size)
    (hF : ∀ (i s : Nat) (x : Value), (i, s, x) ∈ floats → ∃ o, l[i]? = some o ∧ o.guard = none ∧ o.dst = some s ∧
      ∀ (a : Act) (w : World), Sees a0 (floats.map (·.2.1) ++ [sb, sp]) a → (∀ (j s' : Nat) (x' : Value), (j, s', x') ∈ floats → waits o j → a.tmps[s']? = some x') → Far w0 v w → (execOp a.eval o).run P w = .ok (.value x) w)
    (jx sx : Nat) (vx : Value)
    (hbuild : ∃ o, l[ib]? = some o ∧ o.guard = none ∧ o.dst = some sb ∧ waits o jx ∧ ∀ (a : Act) (w : World), a.tmps[sx]? = some vx → (execOp a.eval o).run P w = .ok (.value (.slice (some ⟨w.heap.size, 0, none⟩) 1 1)) (w.alloc (.cells news.toArray e)))
    (hx : (jx, sx, vx) ∈ floats)
    (src js : Nat) (tS : TypeId)
    (happ : ∃ o, l[ip]? = some o ∧ o.guard = none ∧ o.dst = some sp ∧ o.op = .call { callee := .builtin .append, args := #[.tmp src, .tmp sb], argTypes := #[tS, tS] } ∧ waits o js)
    (hsrc : (js, src, v) ∈ floats)
    (ht : P.underlying tS = some (.slice e)) (hi : P.info? e = some i) (hz : i.zero = some z) (hsize : i.size = sz) (hby : i.bytes = bytes) (hzs : z.cells.size = sz) (hsz : 0 < sz) (hnl : news.length = sz) (h1 : ∀ u ∈ news, u.oneCell' = true)
    (h63 : n + 1 ≤ maxLen) (hbytes : (n + 1) * bytes ≤ 140737488355328)
    (hT : ∀ w g cap, (w0.drew.alloc (.cells news.toArray e)).grownBy w v.ownBlock → w.ownsRow base e sz (.slice (some ⟨g, 0, none⟩) (n + 1) cap) (n + 1) (xs ++ news) → (v.ownBlock = some g ∨ g = w0.heap.size + 1) → g < w.heap.size →
      wpList P l.toArray Q (l.drop h) (puts (floats.map (·.2) ++ [(sb, .slice (some ⟨w0.heap.size, 0, none⟩) 1 1), (sp, .slice (some ⟨g, 0, none⟩) (n + 1) cap)]) a0) w) :
    (Code.region id l.toArray true).wp P Q a0 w0 := by
  refine chain_order (chain := [(ib, sb), (ip, sp)]) hm hl hH hTl hseq hch hidx hall hin hsl hlt
    (fun vs w => match vs with
      | [] => w = w0.drew
      | [y] => y = .slice (some ⟨w0.heap.size, 0, none⟩) 1 1 ∧ w = w0.drew.alloc (.cells news.toArray e)
      | [y, r] => y = .slice (some ⟨w0.heap.size, 0, none⟩) 1 1 ∧ ∃ g cap, r = .slice (some ⟨g, 0, none⟩) (n + 1) cap ∧ (w0.drew.alloc (.cells news.toArray e)).grownBy w v.ownBlock ∧ w.ownsRow base e sz (.slice (some ⟨g, 0, none⟩) (n + 1) cap) (n + 1) (xs ++ news) ∧ (v.ownBlock = some g ∨ g = w0.heap.size + 1) ∧ g < w.heap.size
      | _ => False) rfl ?_ ?_ ?_
  · intro i' s x hm'
    obtain ⟨o, ho, hg, hd, hrun⟩ := hF i' s x hm'
    refine ⟨o, ho, hg, hd, fun a w vs hs hk hJ => hrun a w hs hk ?_⟩
    match vs, hJ with
    | [], hJ => rw [show w = w0.drew from hJ]; exact fun _ _ _ => rfl
    | [_], hJ =>
      obtain ⟨_, rfl⟩ := hJ
      exact fun k hk _ => Below.heap_alloc w0.drew _ k hk
    | [_, _], hJ =>
      obtain ⟨_, g, cap, _, hgr, _⟩ := hJ
      exact fun k hk hne => (hgr.block k (by show k < (w0.heap.push _).size; simp; omega) (fun e => hne e.symm)).trans (Below.heap_alloc w0.drew _ k hk)
  · intro m i' s hc a w vs K hvl hs hk hcv hJ hK
    match m, hc with
    | 0, hc =>
      simp only [List.getElem?_cons_zero, Option.some.injEq, Prod.mk.injEq] at hc
      obtain ⟨rfl, rfl⟩ := hc
      match vs, hvl, hJ with
      | [], _, hJ =>
        rw [show w = w0.drew from hJ]
        obtain ⟨o, ho, hg, hd, hw, hrun⟩ := hbuild
        refine wpOp_val (o := o) (by simpa using ho) hg (hrun a w0.drew (hk o jx sx vx ho hx hw)) ?_
        rw [hd]
        exact hK _ _ ⟨rfl, rfl⟩
    | 1, hc =>
      simp only [List.getElem?_cons_succ, List.getElem?_cons_zero, Option.some.injEq, Prod.mk.injEq] at hc
      obtain ⟨rfl, rfl⟩ := hc
      match vs, hvl, hJ with
      | [y], _, hJ =>
        obtain ⟨rfl, rfl⟩ := hJ
        obtain ⟨o, ho, hg, hd, hop, hw⟩ := happ
        have hy := hcv 0 ib sb _ rfl rfl
        have hsv := hk o js src v ho hsrc hw
        unfold wpOp
        simp only [show l.toArray[ip]? = some o by simpa using ho, Region.wanted, hg, if_true]
        refine .inl ?_
        refine wp_append_lies _ (.tmp src) (.tmp sb) tS hop base e i z sz bytes ht hi hz hsize hby hzs hsz v n xs (eval_tmp hsv) (World.ownsRow.alloc (w := w0.drew) hown _) ⟨w0.heap.size, 0, none⟩ 1 1 news (eval_tmp hy) (by rw [hnl]; omega)
          (by
            have := World.news_of_block (heap_new (w := w0.drew) (o := .cells news.toArray e) (g := w0.heap.size) rfl)
            intro j u hu
            exact this j u (by simpa using hu)) h1 (by omega) h63 hbytes (by show base ≤ (w0.heap.push _).size; simp; omega) (w0.heap.size + 1) (by show (w0.heap.push _).size = _; simp) ?_
        intro g cap w' hown' hgrow hgg hgl
        rw [hd]
        exact hK _ _ ⟨rfl, g, cap, rfl, hgrow, hown', hgg, hgl⟩
    | m + 2, hc => simp at hc
  · intro w vs hvl hJ
    match vs, hvl, hJ with
    | [y, r], _, hJ =>
      obtain ⟨rfl, g, cap, rfl, hgr, hown', hgg, hgl⟩ := hJ
      exact hT w g cap hgr hown' hgg hgl
end Go.Proofs.Ytcfimponmioneaa.Ord
