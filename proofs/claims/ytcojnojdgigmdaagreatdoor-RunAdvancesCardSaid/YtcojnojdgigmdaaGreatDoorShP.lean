/- The text of a pattern (layer 19), in plain Lean. No program in sight. -/
import Derived.Test.YtcojnojdgigmdaaGreatDoorB01
import Derived.Lib.ItoaNum
import Derived.Lib.ItoaLen
import Derived.Lib.Join
namespace Go.Proofs.YtcojnojdgigmdaaGreatDoor.PS
open Go PL
def seqB:List UInt8:=[83,69,81,40]
/-! ### A list's elements, one behind the other -/
theorem join_snoc (l:List (List UInt8)) (x sep:List UInt8):Lib.join (l++[x]) sep=Lib.join l sep++(if l=[] then [] else sep)++x:=by
 induction l with
 | nil=>simp[Lib.join,List.intercalate]
 | cons a r ih =>
  cases r with
  | nil=>simp[Lib.join,List.intercalate]
  | cons b t =>
   have e1:Lib.join (a :: (b :: t)) sep=a++sep++Lib.join (b :: t) sep:=by simp[Lib.join,List.intercalate]
   have e2:Lib.join ((a :: b :: t)++[x]) sep=a++sep++Lib.join ((b :: t)++[x]) sep:=by simp[Lib.join,List.intercalate]
   rw[e2,ih,e1]
   simp
theorem join_len {α:Type} (f:α->List UInt8) (sep:List UInt8) (m:Nat):∀ (l:List α),(∀ x∈l,(f x).length<=m)->(Lib.join (l.map f) sep).length<=l.length * (m+sep.length)
 | [],_=>by simp[Lib.join,List.intercalate]
 | [x],h=>by
  have:=h x (by simp)
  simp[Lib.join,List.intercalate];omega
 | x :: y :: t,h=>by
  have e1:Lib.join ((x :: y :: t).map f) sep=f x++sep++Lib.join ((y :: t).map f) sep:=by simp[Lib.join,List.intercalate]
  have h1:=h x (by simp)
  have h2:=join_len f sep m (y :: t) fun z hz=>h z (List.mem_cons_of_mem _ hz)
  rw[e1]
  simp only[List.length_append,List.length_cons]at h2 ⊢
  rw[Nat.add_mul (t.length+1) 1,Nat.one_mul]
  omega
/-! ### Decimals as the document reckons them -/
def digB (m:Int):UInt8:=UInt8.ofNat (48+(if m.tmod 10<0 then -(m.tmod 10) else m.tmod 10).toNat)
theorem tdiv_abs (m:Int):(m.tdiv 10).natAbs=m.natAbs / 10:=by
 rw[Int.natAbs_tdiv];rfl
theorem digB_abs (m:Int):digB m=UInt8.ofNat (48+m.natAbs % 10):=by
 have h:(m.tmod 10).natAbs=m.natAbs % 10:=by rw[Int.natAbs_tmod];rfl
 unfold digB
 congr 2
 split<;>omega
def digs (n:Int):List UInt8:=if n=0 then [] else Lib.decDigits n.natAbs
theorem digs_step {m:Int} (h:m≠0):digs m=digs (m.tdiv 10)++[digB m]:=by
 have h1:=tdiv_abs m;unfold digs;rw[if_neg h,Lib.decDigits]
 by_cases h2:m.natAbs<10
 ·rw[dif_pos h2];have e:m.tdiv 10=0:=Int.natAbs_eq_zero.1 (by rw[h1];omega);rw[if_pos e,digB_abs,Nat.mod_eq_of_lt h2]
  rfl
 ·rw[dif_neg h2]
  have e:m.tdiv 10≠0:=fun e=>by rw[e]at h1;simp at h1;omega
  rw[if_neg e,h1,digB_abs]
theorem digs_itoa {n:Int} (h:n≠0):Lib.itoa n=if n<0 then 45 :: digs n else digs n:=by
 unfold Lib.itoa digs
 by_cases hn:n<0
 ·rw[if_pos hn,if_pos hn,if_neg h]
 ·rw[if_neg hn,if_neg hn,if_neg h]
  congr 1
  omega
theorem itoa_zero:Lib.itoa 0=[48]:=by
 unfold Lib.itoa;rw[if_neg (by decide),Lib.decDigits,dif_pos (by decide)]
 rfl
end Go.Proofs.YtcojnojdgigmdaaGreatDoor.PS
