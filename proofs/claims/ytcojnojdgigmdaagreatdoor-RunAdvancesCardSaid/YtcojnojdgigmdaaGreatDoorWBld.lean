/- strings.Builder, as the program uses it: fresh, written to by WriteString with texts that are not empty, read by String. -/
import Derived.Test.YtcojnojdgigmdaaGreatDoorB01
import Derived.Test.YtcojnojdgigmdaaGreatDoorChecked
import Derived.WalkKit
import Derived.Outline
import Derived.RegionTactic
import Derived.Lib.Hide
import Derived.Lib.FrozenHead
import Derived.Lib.Builder
import Derived.Shelf.Strings.BuilderF
set_option maxHeartbeats 2000000
set_option maxRecDepth 100000
namespace Go.Proofs.YtcojnojdgigmdaaGreatDoor.WB
open Go.RowKit
def Bld (B b:Nat) (ds:List UInt8) (w:World):Prop :=
 Lib.IsBuilderF 173 5 B b (Lib.byteCells ds) w/\(ds=[]->∃ p,w.heap[b]? = some (.cells #[p,.slice none 0 0] 173 (0,0)))
theorem Bld.below {B b:Nat} {ds:List UInt8} {w w':World} (h:Bld B b ds w) (hb:Below w.heap.size w w'):Bld B b ds w':=by
 have key:∀ p,Lib.BuilderAtF 173 5 B b p (Lib.byteCells ds) w->Lib.BuilderAtF 173 5 B b p (Lib.byteCells ds) w':=by
  rintro p ⟨hB,v,hk,hown,hne⟩
  have hlt:b<w.heap.size:=by
   rcases Nat.lt_or_ge b w.heap.size with h' | h'
   ·exact h'
   ·simp[Array.getElem?_eq_none h']at hk
  have hg:w.grownBy w' none:=⟨hb.os,hb.tape,hb.output,hb.size,fun k hk _=>hb.block k hk⟩;exact⟨hB,v,(hb.block b hlt).trans hk,hown.kept hg (by cases v.ownBlock<;>simp),hne⟩
 refine⟨?_,fun h0=>?_⟩
 ·rcases h.1 with h | h
  ·exact .inl (key _ h)
  ·exact .inr (key _ h)
 ·obtain⟨p,hp⟩:=h.2 h0
  have hlt:b<w.heap.size:=by
   rcases Nat.lt_or_ge b w.heap.size with h' | h'
   ·exact h'
   ·simp[Array.getElem?_eq_none h']at hp
  exact⟨p,(hb.block b hlt).trans hp⟩
theorem fresh (w:World):Bld w.heap.size w.heap.size [] (w.alloc (.cells #[.pointer none,.slice none 0 0] 173)):=by
 refine⟨Lib.IsBuilderF.of (Lib.fresh_isBuilder _ _ w),fun _=>⟨_,heap_alloc_new w _⟩⟩
theorem infoB:(Tryz.prog.info? 173).map (fun i=>i.size)=some 2:=by kernel_rfl
theorem infoByte:(Tryz.prog.info? 5).map (fun i=>(i.zero,i.size,i.bytes))=some (some (.int .u8 0),1,1):=by kernel_rfl
theorem liesB:liesAt Tryz.prog Tryz.prog.depth 173 (2 / Tryz.prog.cellsOf 173) 0 173 1=true:=by kernel_rfl
theorem cellsByte:Tryz.prog.cellsOf 5=1:=by kernel_rfl
theorem check_used (b:Nat) (w:World) (h0:w.cell? ⟨b,0,none⟩=some (.pointer (some ⟨b,0,none⟩))) :
  Calls Tryz.prog 104 #[.pointer (some ⟨b,0,none⟩)] w fun e w'=>e=.returned (.tuple #[])/\w'=w:=by
 obtain⟨j,hj,_⟩:=Option.map_eq_some_iff.1 infoB
 go_enter Tryz.func104,Tryz.ntmps104
 go_wp2;rw[Lib.run_neq_ptr_same w _ Tryz.underlying170 hj];go_wp2;go_end0;exact⟨rfl,rfl⟩
theorem check_fresh (b:Nat) (w:World) (h0:w.cell? ⟨b,0,none⟩=some (.pointer none)) (hsh:w.shape? b=some (173,2)) (hfz:w.frozen? ⟨b,0,none⟩=false) :
  Calls Tryz.prog 104 #[.pointer (some ⟨b,0,none⟩)] w fun e w'=>e=.returned (.tuple #[])/\w'=w.setCell ⟨b,0,none⟩ (.pointer (some ⟨b,0,none⟩)):=by
 obtain⟨j,hj,hjs⟩:=Option.map_eq_some_iff.1 infoB
 go_enter Tryz.func104,Tryz.ntmps104
 go_wp2;rw[Lib.run_to_unsafe w ⟨b,0,none⟩ Tryz.underlying170 Tryz.underlying226 hj (by rw[hjs];decide) hsh (Nat.zero_lt_succ 1)]
 simp only[Result.andThen]
 rw[Oper.upon_value];go_wp2;rw[run_callFunc_extern Tryz.func120 (by kernel_rfl) (by kernel_rfl) (by kernel_rfl) (e:=Extern.AbiNoEscape.same) (by kernel_rfl)];rw[Lib.run_noEscape]
 simp only[Result.andThen]
 rw[Oper.upon_value];go_wp2;rw[Lib.run_from_unsafe w ⟨b,0,none⟩ Tryz.underlying226 Tryz.underlying170 hj hsh liesB]
 simp only[Result.andThen]
 rw[Oper.upon_value];go_wp2;go_end0;exact⟨rfl,rfl⟩
theorem check_any (B b:Nat) (bs:List Value) (w:World) (h:Lib.IsBuilderF 173 5 B b bs w) :
  Calls Tryz.prog 104 #[.pointer (some ⟨b,0,none⟩)] w fun e w'=>e=.returned (.tuple #[])/\(Lib.BuilderAtF 173 5 B b (.pointer (some ⟨b,0,none⟩)) bs w'/\Below B w w'):=by
 rcases h with h | h
 ·refine(check_fresh b w h.cell0 h.shape h.frozen0).mono ?_;rintro e w' ⟨rfl,rfl⟩;exact⟨rfl,h.used _,(Below.refl B w).setCell (p:=⟨b,0,none⟩) h.1 _⟩
 ·refine(check_used b w h.cell0).mono ?_;rintro e w' ⟨rfl,rfl⟩;exact⟨rfl,h,Below.refl B _⟩
theorem write_any (B b:Nat) (ds:List UInt8) (s:ByteArray) (w:World) (h:Bld B b ds w) (hs:0<s.size) (hlen:ds.length+s.size<=140737488355328) (hBw:B<=w.heap.size) :
  Calls Tryz.prog 85 #[.pointer (some ⟨b,0,none⟩),.string s] w fun e w'=>e=.returned (.tuple #[.int .i64 s.size,.nilIface])/\Bld B b (ds++s.data.toList) w'/\Below B w w':=by
 obtain⟨i0,hi,hz0,hz1,hz2⟩:=info_parts infoByte
 go_enter Tryz.func85,Tryz.ntmps85
 go_wp2_with (go_at_call 104;refine(check_any B b (Lib.byteCells ds) _ h.1).mono ?_)
 rintro e w1 ⟨rfl,h1,hb1⟩;obtain⟨hB,v,hbk,hown,hne⟩:=h1
 have c0:w1.cell? ⟨b,0,none⟩=some (.pointer (some ⟨b,0,none⟩)):=by rw[CeH hbk];rfl
 have c1:w1.cell? ⟨b,1,none⟩=some v:=by rw[CeH hbk];rfl
 have hds:=Lib.byteCells_length ds
 go_wp2_with (at_builtin;refine Lib.wpList_append_own_stringF _ rfl _ _ 171 9 rfl B 5 i0 Tryz.underlying171 Tryz.underlying9 hi hz0 hz1 hz2 _ _ _ rfl hown s rfl ?c3 ?c4 ?c5 ?_)
 case c3=>unfold maxLen;omega
 case c4=>omega
 case c5=>have:=hb1.size;omega
 intro v' w2 hown' hgrow _
 have hlt:b<w1.heap.size:=by
  rcases Nat.lt_or_ge b w1.heap.size with h' | h'
  ·exact h'
  ·simp[Array.getElem?_eq_none h']at hbk
 have hb2:w2.heap[b]? = some (.cells #[.pointer (some ⟨b,0,none⟩),v] 173 (0,0)):=by
  rw[hgrow.block b hlt (fun e=>hne e.symm)];exact hbk
 have d0:w2.cell? ⟨b,0,none⟩=some (.pointer (some ⟨b,0,none⟩)):=by rw[CeH hb2];rfl
 have d1:w2.cell? ⟨b,1,none⟩=some v:=by rw[CeH hb2];rfl
 have f1:w2.frozen? ⟨b,1,none⟩=false:=Lib.frozen_of_heap hb2 1
 obtain⟨ao,n',cap,rfl⟩:∃ ao n' cap,v'=.slice ao n' cap:=by
  rcases hown'.2 with ⟨hv,_⟩ | ⟨g,cap,cur,fz,hv,_⟩
  ·exact⟨_,_,_,hv⟩
  ·exact⟨_,_,_,hv⟩
 have hcat:Lib.byteCells (ds++s.data.toList)=Lib.byteCells ds++Lib.strCells s:=by simp[Lib.byteCells,Lib.strCells]
 have Hcat:=Hyd hcat;have Hds:=Hyd hds;clear hcat hds;go_wp2
 go_ret2
 refine⟨rfl,⟨.inr ?_,fun h0=>?_⟩, ?_⟩
 ·rw[Hcat.out];exact Lib.BuilderAtF.put (T:=173) (e:=5) hB hb2 (bs':=Lib.byteCells ds++Lib.strCells s) (by simpa [Lib.strCells_length,Lib.byteCells_length] using hown') (by decide)
 ·exfalso
  have h1:s.data.toList=[]:=(List.append_eq_nil_iff.1 h0).2;have h2:s.data.toList.length=s.size:=Array.length_toList;rw[h1]at h2
  simp at h2
  omega
 ·exact(hb1.grown hgrow (by have:=hb1.size;omega) (fun k hk=>(hown.lt k hk).1)).setCell (p:=⟨b,1,none⟩) hB _
theorem string_some (B b:Nat) (l:List UInt8) (w:World) (h:Lib.IsBuilderF 173 5 B b (Lib.byteCells l) w) (h0:l≠[]) :
  Calls Tryz.prog 87 #[.pointer (some ⟨b,0,none⟩)] w fun e w'=>e=.returned (.string ⟨l.toArray⟩)/\Below B w w':=by
 obtain⟨p,hp,hAt⟩:∃ p,(p=.pointer none \/ p=.pointer (some ⟨b,0,none⟩))/\Lib.BuilderAtF 173 5 B b p (Lib.byteCells l) w:=by
  rcases h with h | h
  ·exact⟨_,.inl rfl,h⟩
  ·exact⟨_,.inr rfl,h⟩
 obtain⟨hB,v,hbk,hown,hne⟩:=hAt
 have hl0:l.length≠0:=by simpa using h0
 rw[Lib.byteCells_length]at hown
 obtain⟨g,cap,cur,fz,rfl,hbg,hg,hfz,hnc,hcm,hcs,htake⟩:∃ g cap cur fz,v=.slice (some ⟨g,0,none⟩) l.length cap/\B<=g/\w.heap[g]? = some (.cells cur 5 fz)/\fz.2<=l.length * 1/\l.length<=cap/\cap<=maxLen/\cur.size=cap * 1/\cur.toList.take (l.length * 1)=Lib.byteCells l:=by
  rcases hown.2 with ⟨_,hz⟩ | ⟨g,cap,cur,fz,hv,r⟩
  ·exact absurd hz hl0
  ·exact⟨g,cap,cur,fz,hv,r⟩
 have c1:w.drew.cell? ⟨b,1,none⟩=some (.slice (some ⟨g,0,none⟩) l.length cap):=by
  have:w.drew.heap[b]? = some (.cells #[p,.slice (some ⟨g,0,none⟩) l.length cap] 173 (0,0)):=hbk;rw[CeH this];rfl
 have hSD:(Builtin.unsafeSliceData_ #[171] 210 #[.slice (some ⟨g,0,none⟩) l.length cap]).run Tryz.prog w.drew=.ok (.pointer (some ⟨g,0,none⟩)) w.drew :=
  Lib.run_unsafeSliceData_row _ _ _ _ _ _ (by omega)
 have hUS:(Builtin.unsafeString_ #[210,3] 9 #[.pointer (some ⟨g,0,none⟩),.int .i64 l.length]).run Tryz.prog w.drew=.ok (.string ⟨l.toArray⟩) (w.drew.freeze ⟨g,0,none⟩ l.length):=by
  refine Lib.run_unsafeString_row w.drew 210 3 9 5 Tryz.underlying210 cellsByte g cur.size (by have hg':w.drew.heap[g]? = some (.cells cur 5 fz):=hg;simp[World.shape?,hg']) l h0 (by omega) (by unfold maxLen at hcm;omega) ?_;intro j x hx;have:=hown.cells (g:=g) rfl j (.int .u8 x.toNat) (by simp[Lib.byteCells,hx]);exact this
 go_enter Tryz.func87,Tryz.ntmps87
 go_wp2
 go_region
 all_goals (go_wp2;go_ret;exact⟨rfl,Lib.below_freeze (Below.drew (Below.refl B w)) (p:=⟨g,0,none⟩) hbg _⟩)
theorem string_none (B b:Nat) (p:Value) (w:World) (hbk:w.heap[b]? = some (.cells #[p,.slice none 0 0] 173 (0,0))) :
  Calls Tryz.prog 87 #[.pointer (some ⟨b,0,none⟩)] w fun e w'=>e=.returned (.string ⟨#[]⟩)/\Below B w w':=by
 have hUS:∀ (W:World) (q:Option Addr),(Builtin.unsafeString_ #[210,3] 9 #[.pointer q,.int .i64 0]).run Tryz.prog W=.ok (.string .empty) W:=fun W q=>Lib.run_unsafeString_none W _ _ _ q
 have c1:w.drew.cell? ⟨b,1,none⟩=some (.slice none 0 0):=by
  have:w.drew.heap[b]? = some (.cells #[p,.slice none 0 0] 173 (0,0)):=hbk;rw[CeH this];rfl
 have hSD:(Builtin.unsafeSliceData_ #[171] 210 #[.slice none 0 0]).run Tryz.prog w.drew=.ok (.pointer none) w.drew:=rfl
 go_enter Tryz.func87,Tryz.ntmps87
 go_wp2
 go_region
 all_goals (go_wp2;go_ret;exact⟨rfl,Below.drew (Below.refl B w)⟩)
theorem string_any (B b:Nat) (ds:List UInt8) (w:World) (h:Bld B b ds w) :
  Calls Tryz.prog 87 #[.pointer (some ⟨b,0,none⟩)] w fun e w'=>e=.returned (.string ⟨ds.toArray⟩)/\Below B w w':=by
 by_cases h0:ds=[]
 ·obtain⟨p,hp⟩:=h.2 h0;subst h0;exact string_none B b p w hp
 ·exact string_some B b ds w h.1 h0
end Go.Proofs.YtcojnojdgigmdaaGreatDoor.WB
