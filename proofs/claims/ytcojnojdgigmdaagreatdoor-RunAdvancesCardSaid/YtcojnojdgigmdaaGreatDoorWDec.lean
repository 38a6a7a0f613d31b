/- The walk of oxbowref19.Decimal: a number in digits. -/
import Derived.Test.YtcojnojdgigmdaaGreatDoorChecked
import Derived.Test.YtcojnojdgigmdaaGreatDoorB01
import Derived.Test.YtcojnojdgigmdaaGreatDoorShP
import Derived.WalkKit
import Derived.Outline
import Derived.Lib.Hide
import Derived.WalkSpells
import Derived.WalkLawsBesides
import Derived.Lib.Builder
import Derived.Laws.IdiomStrings
set_option maxHeartbeats 1600000
set_option maxRecDepth 100000
namespace Go.Proofs.YtcojnojdgigmdaaGreatDoor.WS
open Go Go.RowKit Go.Sort PL PS Mem
theorem mkapp (a b:List UInt8):(⟨a.toArray⟩++⟨b.toArray⟩:ByteArray)=⟨(a++b).toArray⟩:=by simp[ByteArray.mk_append_mk]
theorem one_str (w:World) (x:Int) (h0:0<=x) (h1:x<256):(convert 171 9 (.slice (some ⟨w.heap.size,0,none⟩) 1 1)).run Tryz.prog (w.alloc (.cells #[.int .u8 x] 5)) =
  .ok (.string ⟨[UInt8.ofNat x.toNat].toArray⟩) (w.alloc (.cells #[.int .u8 x] 5)):=by
 have:=run_convert_bytes_back (P:=Tryz.prog) (w.alloc (.cells #[.int .u8 x] 5)) 171 9 5 ⟨w.heap.size,0,none⟩ 1 [UInt8.ofNat x.toNat] Tryz.underlying171 Tryz.underlying5 Tryz.underlying9 (fun j hj=>by
  have hj0:j=0:=by simpa using hj
  subst hj0;rw[add_lit,World.cell?_alloc_at _ _ _ _ rfl]
  simp[UInt8.toNat_ofNat'];omega)
 simpa using this
theorem digs_len {n:Int} (h0:-9223372036854775808<=n) (h1:n<=9223372036854775807):(digs n).length<=21:=by
 have h:=Lib.itoa_length_le n h0 h1
 by_cases hn:n=0
 ·unfold digs;rw[if_pos hn];simp
 ·rw[digs_itoa hn]at h
  split at h
  ·rw[List.length_cons]at h;omega
  ·exact h
theorem dec_any (n:Int) (h0:-9223372036854775808<=n) (h1:n<=9223372036854775807) (W:World) :
  Calls Tryz.prog 72 #[.int .i64 n] W fun e w'=>e=.returned (.string ⟨(Lib.itoa n).toArray⟩)/\Grw W w':=by
 have HL:=Hyd (digs_len h0 h1)
 go_enter Tryz.func72,Tryz.ntmps72
 by_cases hn:n=0
 ·subst hn;go_wp2_with fail;go_ret;exact⟨by rw[itoa_zero];rfl,Grw.refl _⟩
 ·have hn':(n==0)=false:=by rw[beq_eq_false_iff_ne];exact hn
  have HI:=Hyd (digs_itoa hn);clear hn;go_wp2_with fail
  go_loopw [3,4] (fun s t wr=>∃ (m:Int) (acc:List UInt8),-9223372036854775808<=m/\m<=9223372036854775807/\t=.int .i64 m/\s=.string ⟨acc.toArray⟩/\digs n=digs m++acc/\Grw W wr) (fun _ t _=>(intOf t).natAbs)
  case atStart=>exact⟨n,[],h0,h1,rfl,rfl,by simp,Grw.refl _⟩
  case round =>
   obtain⟨m,acc,hm0,hm1,rfl,rfl,hd,hg⟩:=hrel;have HD:=Hyd hd;have HG:=Hyd hg
   have hal:acc.length<=21:=by have h:=HL.out;rw[hd,List.length_append]at h;omega
   clear hd hg
   by_cases hm:m=0
   ·subst hm;have HA:=Hyd (show digs n=acc by rw[HD.out];rfl);clear HD
    by_cases hneg:n<0
    ·have HJ:=Hyd (show Lib.itoa n=45 :: acc by rw[HI.out,if_pos hneg,HA.out]);go_wp2_with fail;go_ret;exact⟨by rw[HJ.out,mkapp];rfl,HG.out⟩
    ·have HJ:=Hyd (show Lib.itoa n=acc by rw[HI.out,if_neg hneg,HA.out]);go_wp2_with fail;go_ret;exact⟨by rw[HJ.out];rfl,HG.out⟩
   ·have hm':(m != 0)=true:=by rw[bne_iff_ne];exact hm
    have HS:=Hyd (digs_step hm);have hab:=tdiv_abs m
    have hme:(m.tdiv 10).natAbs<m.natAbs:=by omega
    have hr:(m.tmod 10).natAbs=m.natAbs % 10:=by rw[Int.natAbs_tmod];rfl
    have hb0:-9223372036854775808<=m.tdiv 10:=by omega
    have hb1:m.tdiv 10<=9223372036854775807:=by omega
    by_cases hneg:m.tmod 10<0
    ·have HB:=Hyd (show digB m=UInt8.ofNat (48+-(m.tmod 10)).toNat by unfold digB;rw[if_pos hneg];congr 1;omega)
     have hd0:0<=-(m.tmod 10):=by omega
     have hd9:-(m.tmod 10)<=9:=by omega
     have hd1:-9<=m.tmod 10:=by omega
     obtain⟨d,hdd⟩:∃ d,m.tmod 10=d:=⟨_,rfl⟩
     rw[hdd]at HB hneg hd0 hd9 hd1;have hone:=one_str wr (48+-d) (by omega) (by omega);clear hr hab;go_wp2_with fail;go_roundw
     case rel=>exact⟨m.tdiv 10,UInt8.ofNat (48+-d).toNat :: acc,hb0,hb1,rfl,congrArg Value.string (mkapp [UInt8.ofNat (48+-d).toNat] acc),by rw[HD.out,HS.out,HB.out];simp,HG.out.alloc _⟩
     case measure=>simpa [intOf] using hme
    ·have HB:=Hyd (show digB m=UInt8.ofNat (48+m.tmod 10).toNat by unfold digB;rw[if_neg hneg];congr 1;omega)
     have hd0:0<=m.tmod 10:=by omega
     have hd9:m.tmod 10<=9:=by omega
     obtain⟨d,hdd⟩:∃ d,m.tmod 10=d:=⟨_,rfl⟩
     rw[hdd]at HB hneg hd0 hd9;have hone:=one_str wr (48+d) (by omega) (by omega);clear hr hab;go_wp2_with fail;go_roundw
     case rel=>exact⟨m.tdiv 10,UInt8.ofNat (48+d).toNat :: acc,hb0,hb1,rfl,congrArg Value.string (mkapp [UInt8.ofNat (48+d).toNat] acc),by rw[HD.out,HS.out,HB.out];simp,HG.out.alloc _⟩
     case measure=>simpa [intOf] using hme
end Go.Proofs.YtcojnojdgigmdaaGreatDoor.WS
