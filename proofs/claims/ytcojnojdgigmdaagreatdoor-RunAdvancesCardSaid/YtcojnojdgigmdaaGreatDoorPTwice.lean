/- No match is told twice, in plain Lean: the runs' keys, the texts of distinct runs. No program in sight. -/
import Derived.Test.YtcojnojdgigmdaaGreatDoorB01
import Derived.Test.YtcojnojdgigmdaaGreatDoorPItoa
namespace Go.Proofs.YtcojnojdgigmdaaGreatDoor.PR
open Go PL Mem DG
def parts {α:Type}:List Nat->List α->List (List α)
 | [],_=>[]
 | c :: cs,l=>l.take c :: parts cs (l.drop c)
theorem parts_eq {α:Type}:∀ (cs:List Nat) (l:List α),((List.range cs.length).map fun i=>(l.drop (cs.take i).sum).take (cs.getD i 0))=parts cs l
 | [],_=>rfl
 | c :: cs,l=>by
  rw[List.length_cons,List.range_succ_eq_map,List.map_cons,List.map_map,parts,<-parts_eq cs]
  simp only[List.take_zero,List.sum_nil,List.drop_zero,List.getD_cons_zero]
  congr 1
  apply List.map_congr_left
  intro i _
  simp only[Function.comp_apply,Nat.succ_eq_add_one,List.take_succ_cons,List.sum_cons,List.getD_cons_succ,List.drop_drop]
theorem ofR_parts (r:RRun):((List.range r.counts.length).map fun i=>ofR r i)=parts r.counts r.evs:=by
 rw[<-parts_eq]
 apply List.map_congr_left
 intro i hi;unfold ofR;rw[if_pos (List.mem_range.1 hi)]
theorem parts_map {α β:Type} (f:α->β):∀ (cs:List Nat) (l:List α),(parts cs l).map (·.map f)=parts cs (l.map f)
 | [],_=>rfl
 | c :: cs,l=>by
  rw[parts,parts,List.map_cons,parts_map f cs]
  simp
def txtP (x:List Int):List UInt8:=Lib.join (x.map Lib.itoa) [44]
theorem textR_parts (r:RRun):textR r=Lib.join ((parts r.counts (r.evs.map (·.id))).map txtP) [124]:=by
 unfold textR;rw[<-parts_map,<-ofR_parts,List.map_map,List.map_map]
 congr 1
 apply List.map_congr_left
 intro i _
 simp[txtP,Function.comp_def]
theorem with_start (e:Ev):withR noRun 0 e=⟨[1],[e],false⟩:=rfl
def InE (l x:List Ev):Prop:=(∀ z∈x,z∈l)/\x.length<=l.length
theorem InE.more {l x:List Ev} {e:Ev} (h:InE l x):InE (l++[e]) x:=⟨fun z hz=>List.mem_append_left _ (h.1 z hz),by rw[List.length_append];exact Nat.le_add_right_of_le h.2⟩
theorem InE.snoc {l x:List Ev} {e:Ev} (h:InE l x):InE (l++[e]) (x++[e]):=⟨fun z hz=>by
 rcases List.mem_append.1 hz with hz | hz
 ·exact List.mem_append_left _ (h.1 z hz)
 ·exact List.mem_append_right _ hz,by rw[List.length_append,List.length_append];exact Nat.add_le_add_right h.2 _⟩
theorem snocInd {α:Type} {P:List α->Prop} (nil:P []) (snoc:∀ l e,P l->P (l++[e])) (l:List α):P l:=by
 have h:∀ (n:Nat) (l:List α),l.length=n->P l:=by
  intro n
  induction n with
  | zero=>intro l hl;rw[List.eq_nil_of_length_eq_zero hl];exact nil
  | succ n ih =>
   intro l hl
   rcases List.eq_nil_or_concat l with rfl | ⟨a,b,rfl⟩
   ·exact nil
   ·rw[List.concat_eq_append]at hl ⊢;exact snoc a b (ih a (by simpa using hl))
 exact h _ l rfl
end Go.Proofs.YtcojnojdgigmdaaGreatDoor.PR
