/- The walk of oxbowref21.with: the row with an event more. -/
import Derived.Test.YtcojnojdgigmdaaGreatDoorWT21
import Derived.Test.YtcojnojdgigmdaaGreatDoorB02
namespace Go.Proofs.YtcojnojdgigmdaaGreatDoor.WR
open Go Go.RowKit Go.Sort PL PR Mem
abbrev MG:=Value×Value×Mt
def atsV (m:Mt):List Value:=m.map fun x=>.int .i64 (x.1:Nat)
def stsV (m:Mt):List Value:=m.map fun x=>.int .i64 (x.2:Nat)
def OwnM (base:Nat) (w:World) (g:MG):Prop:=w.ownsRow base 3 1 g.1 g.2.2.length (atsV g.2.2)/\w.ownsRow base 3 1 g.2.1 g.2.2.length (stsV g.2.2)
theorem OwnM.below {base:Nat} {w w':World} {g:MG} (h:OwnM base w g) (hb:Below w.heap.size w w'):OwnM base w' g:=⟨own_below h.1 hb,own_below h.2 hb⟩
theorem OwnM.keeps {base:Nat} {w w':World} {g:MG} (h:OwnM base w g) (h1:Reg.Keeps 3 w w'):OwnM base w' g:=⟨h1.1 _ _ _ _ _ h.1,h1.1 _ _ _ _ _ h.2⟩
theorem OwnM.le {base base':Nat} {w:World} {g:MG} (h:OwnM base w g) (hb:base'<=base):OwnM base' w g:=⟨Joins.ownsRow_le h.1 hb,Joins.ownsRow_le h.2 hb⟩
theorem OwnM.mt {base:Nat} {w:World} {g:MG} (h:OwnM base w g):MtAt w w.heap.size (.agg #[g.1,g.2.1]) g.2.2:=⟨_,_,rfl,Sl.of_own h.1,Sl.of_own h.2⟩
theorem infoInt:(Tryz.prog.info? 3).map (fun i=>(i.zero,i.size,i.bytes))=some (some (.int .i64 0),1,8):=by kernel_rfl
section
variable {a : Act} {w : World} {d : Option Tmp} {ty : TypeId} {pos : String} {af : Array Edge} {gd : Option (Nat × Bool)}
theorem ix_int {x y:Operand} {g o n c k:Nat} (h1:a.eval x=.slice (some ⟨g,o,none⟩) n c) (h2:a.eval y=.int .i64 k) (hl:k<n) :
  (execOp a.eval { dst:=d,op:=.indexAddr 45 x y,type:=ty,pos:=pos,after:=af,guard:=gd }).run Tryz.prog w=.ok (.value (.pointer (some ⟨g,o+k,none⟩))) w:=by
 have h3:(k:Int)<(n:Int):=by omega
 have h4:(0:Int)<=(k:Int):=by omega
 simp only[execOp,h1,h2]
 go_simp
end
theorem load_int {w:World} {g j:Nat} {n:Int} (h:w.cell? ⟨g,j,none⟩=some (.int .i64 n)):(Instr.loadAt 3 (.pointer (some ⟨g,j,none⟩))).run Tryz.prog w=.ok (.int .i64 n) w:=by go_simp
theorem build_int1 (w:World) (n:Int):(Instr.buildSlice 45 1 #[(0,.int .i64 n)]).run Tryz.prog w=.ok (.slice (some ⟨w.heap.size,0,none⟩) 1 1) (w.alloc (.cells #[.int .i64 n] 3)):=by go_simp
structure WithS (w wr:World) (R O:Nat) (mv va vs:Value) (xs ys:List Value) (aa sa:Value):Prop where
 bel:Below w.heap.size w wr
 bx:wr.heap[w.heap.size]? = some (.cells #[aa,sa] 84 (0,0))
 br:wr.heap[R]? = some (.cells #[.slice none 0 0,.slice none 0 0] 84 (0,0))
 bo:wr.heap[O]? = some (.cells #[va,vs] 84 (0,0))
 ra:wr.ownsRow w.heap.size 3 1 va xs.length xs
 rs:wr.ownsRow w.heap.size 3 1 vs ys.length ys
 ap:Reg.Apart va vs
section
variable {w wr w' : World} {R O : Nat} {mv va vs va' : Value} {xs ys xs' : List Value} {aa sa : Value}
theorem WithS.at_ (h1:Below w.heap.size w w') (bx:w'.heap[w.heap.size]? = some (.cells #[aa,sa] 84 (0,0))) (br:w'.heap[R]? = some (.cells #[.slice none 0 0,.slice none 0 0] 84 (0,0)))
  (bo:w'.heap[O]? = some (.cells #[va,vs] 84 (0,0))) (ra:w'.ownsRow w.heap.size 3 1 va' xs'.length xs') (rs:w'.ownsRow w.heap.size 3 1 vs ys.length ys) (ap:Reg.Apart va' vs) (hO:w.heap.size<=O) (hX:w.heap.size≠O) (hR:R≠O) :
  WithS w (w'.setCell ⟨O,0,none⟩ va') R O mv va' vs xs' ys aa sa :=
 ⟨h1.setCell (p:=⟨O,0,none⟩) hO _,by rw[heap_setCell_other _ _ _ _ hX];exact bx,by rw[heap_setCell_other _ _ _ _ hR];exact br,(blk_setc bo 0 _).trans rfl,own_set ra bo (by decide) 0 _,own_set rs bo (by decide) 0 _,ap⟩
theorem WithS.st_ (h1:Below w.heap.size w w') (bx:w'.heap[w.heap.size]? = some (.cells #[aa,sa] 84 (0,0))) (br:w'.heap[R]? = some (.cells #[.slice none 0 0,.slice none 0 0] 84 (0,0)))
  (bo:w'.heap[O]? = some (.cells #[va,vs] 84 (0,0))) (ra:w'.ownsRow w.heap.size 3 1 va' xs'.length xs') (rs:w'.ownsRow w.heap.size 3 1 va ys.length ys) (ap:Reg.Apart va' va) (hO:w.heap.size<=O) (hX:w.heap.size≠O) (hR:R≠O) :
  WithS w (w'.setCell ⟨O,1,none⟩ va') R O mv va va' ys xs' aa sa :=
 ⟨h1.setCell (p:=⟨O,1,none⟩) hO _,by rw[heap_setCell_other _ _ _ _ hX];exact bx,by rw[heap_setCell_other _ _ _ _ hR];exact br,(blk_setc bo 1 _).trans rfl,own_set rs bo (by decide) 1 _,own_set ra bo (by decide) 1 _,ap.symm⟩
end
end Go.Proofs.YtcojnojdgigmdaaGreatDoor.WR
