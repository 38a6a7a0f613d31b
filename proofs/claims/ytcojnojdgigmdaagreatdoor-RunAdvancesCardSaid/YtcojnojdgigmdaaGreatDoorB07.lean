/- The walks of the document's reader of patterns. -/
import Derived.Test.YtcojnojdgigmdaaGreatDoorB05
import Derived.Test.YtcojnojdgigmdaaGreatDoorB01
/- The walks of the document's reader: fail, next, take, word, number. -/
set_option maxHeartbeats 3200000
set_option maxRecDepth 100000
namespace Go.Proofs.YtcojnojdgigmdaaGreatDoor.WP
open Go.RowKit PP
structure R9 (w:World) (R:Nat) (s:ByteArray) (st:S9):Prop where
 blk:w.heap[R]? = some (.cells #[.string s,.int .i64 st.at,.int .i64 st.bad,.int .i64 st.pos] 123 (0,0))
 le:st.at<=s.size
 ne:∀ k er a,st=.inl (k,er,a)->er≠0
theorem R9.drewN {w:World} {R:Nat} {s:ByteArray} {st:S9} (h:R9 w R s st) (n:Nat):R9 (w.drewN n) R s st:=⟨h.blk,h.le,h.ne⟩
theorem R9.lt {w:World} {R:Nat} {s:ByteArray} {st:S9} (h:R9 w R s st):R<w.heap.size:=blk_lt h.blk
theorem R9.alloc {w:World} {R:Nat} {s:ByteArray} {st:S9} (h:R9 w R s st) (o:Obj):R9 (w.alloc o) R s st:=⟨blk_alloc h.blk o,h.le,h.ne⟩
theorem R9.set {w:World} {R:Nat} {s:ByteArray} {st:S9} (h:R9 w R s st) (g i:Nat) (v:Value) (hg:R≠g):R9 (w.setCell ⟨g,i,none⟩ v) R s st:=⟨blk_other h.blk g i v hg,h.le,h.ne⟩
theorem R9.moved {w:World} {R:Nat} {s:ByteArray} {a:Nat} (h:R9 w R s (.inr a)) (n a':Nat) (ha:a'<=s.size):R9 ((w.drewN n).setCell ⟨R,1,none⟩ (.int .i64 a')) R s (.inr a') :=
 ⟨blk_set (w:=w.drewN n) h.blk 1 (.int .i64 a'),ha,fun _ _ _ he=>by cases he⟩
theorem fail9_alive (R:Nat) (s:ByteArray) (a k:Nat) (er:Int) (w:World) (h:R9 w R s (.inr a)) (her:er≠0) :
  Calls Tryz.prog 61 #[.pointer (some ⟨R,0,none⟩),.int .i64 k,.int .i64 er] w fun e w'=>e=.returned (.tuple #[])/\R9 w' R s (.inl (k,er,a))/\w.grownBy w' (some R):=by
 have H:=Hyd h;obtain⟨c0,c1,c2,c3,c4,c5,c6,c7⟩:=cells4 h.blk
 simp only[S9.bad,S9.at,S9.pos]at c1 c2 c3
 clear h
 go_enter Tryz.func61,Tryz.ntmps61
 go_wp2;go_end0;refine⟨rfl,⟨blk_set (blk_set H.out.blk 2 (.int .i64 er)) 3 (.int .i64 k),H.out.le,fun k' er' a' he=>by cases he;exact her⟩,grown_trans (grown_set0 _ _ _ _) (grown_set0 _ _ _ _)⟩
theorem fail9_dead (R:Nat) (s:ByteArray) (k':Nat) (er':Int) (a:Nat) (p er:Value) (w:World) (h:R9 w R s (.inl (k',er',a))) :
  Calls Tryz.prog 61 #[.pointer (some ⟨R,0,none⟩),p,er] w fun e w'=>e=.returned (.tuple #[])/\R9 w' R s (.inl (k',er',a))/\w.grownBy w' (some R):=by
 have H:=Hyd h;obtain⟨c0,c1,c2,c3,c4,c5,c6,c7⟩:=cells4 h.blk
 simp only[S9.bad,S9.at,S9.pos]at c1 c2 c3
 have hne:(er' == 0)=false:=by rw[beq_eq_false_iff_ne];exact h.ne _ _ _ rfl
 clear h
 go_enter Tryz.func61,Tryz.ntmps61
 go_wp2;go_end0;exact⟨rfl,H.out,grown_drewN _ 0 _⟩
theorem next9 (R:Nat) (s:ByteArray) (st:S9) (lo hi:Nat) (w:World) (h:R9 w R s st) (_hs:s.size<=4096) :
  Calls Tryz.prog 57 #[.pointer (some ⟨R,0,none⟩),.int .u8 lo,.int .u8 hi] w fun e w'=>e=.returned (.bool (nextB s.data.toList st lo hi))/\∃ n,w'=w.drewN n:=by
 rcases st with ⟨k,er,a⟩ | a
 ·obtain⟨c0,c1,c2,c3,c4,c5,c6,c7⟩:=cells4 h.blk
  have hne:(er==0)=false:=by rw[beq_eq_false_iff_ne];exact h.ne _ _ _ rfl
  simp only[S9.bad,S9.at,S9.pos]at c1 c2 c3
  have hP:nextB s.data.toList (.inl (k,er,a)) lo hi=false:=rfl;have HP:=Hyd hP;clear hP h
  go_enter Tryz.func57,Tryz.ntmps57
  go_wp2
  go_quiet (fail)
  go_wp2;go_ret;exact⟨by rw[HP.out];rfl,_,rfl⟩
 ·obtain⟨c0,c1,c2,c3,c4,c5,c6,c7⟩:=cells4 h.blk;have hle:=h.le
  simp only[S9.bad,S9.at,S9.pos]at c1 c2 c3 hle
  clear h
  by_cases hlt:a<s.size
  ·have hlt':(a:Int)<(s.size:Int):=by omega
   have hai:(0:Int)<=(a:Int):=by omega
   have hP:nextB s.data.toList (.inr a) lo hi=(decide (lo<=s[a].toNat)&&decide (s[a].toNat<=hi)):=by show inB _ _ _ _=_;unfold inB;rw[peek_some hlt]
   have HP:=Hyd hP;clear hP
   by_cases h1:lo<=s[a].toNat
   ·have h1':(lo:Int)<=s[a].toNat:=by omega
    by_cases h2:s[a].toNat<=hi
    ·have h2':(s[a].toNat:Int)<=hi:=by omega
     have HQ:=Hyd h2;rw[decide_eq_true h1,decide_eq_true h2]at HP;clear h2 h1
     go_enter Tryz.func57,Tryz.ntmps57
     go_wp2
     go_quiet (fail)
     go_wp2;go_ret;exact⟨by rw[HP.out];rfl,_,rfl⟩
    ·have h2':(hi:Int)<s[a].toNat:=by omega
     have h3':decide (s[a].toNat<=hi)=false:=by simpa using h2
     rw[decide_eq_true h1,h3']at HP;clear h1
     go_enter Tryz.func57,Tryz.ntmps57
     go_wp2
     go_quiet (fail)
     go_wp2;go_ret;exact⟨by rw[HP.out];rfl,_,rfl⟩
   ·have h1':(s[a].toNat:Int)<lo:=by omega
    have h3':decide (lo<=s[a].toNat)=false:=by simpa using h1
    rw[h3']at HP
    go_enter Tryz.func57,Tryz.ntmps57
    go_wp2
    go_quiet (fail)
    go_wp2;go_ret;exact⟨by rw[HP.out];rfl,_,rfl⟩
  ·have hlt':(s.size:Int)<=(a:Int):=by omega
   have hP:nextB s.data.toList (.inr a) lo hi=false:=by show inB _ _ _ _=_;unfold inB;rw[peek_end hlt]
   have HP:=Hyd hP;clear hP
   go_enter Tryz.func57,Tryz.ntmps57
   go_wp2
   go_quiet (fail)
   go_wp2;go_ret;exact⟨by rw[HP.out];rfl,_,rfl⟩
def Post9 {α:Type} (R:Nat) (s:ByteArray) (val:α->Value) (w:World) (st:S9) (p:Nat->PR α) (e:Ending) (w':World):Prop :=
 ∃ (v:α) (st':S9),e=.returned (val v)/\R9 w' R s st'/\w.grownBy w' (some R)/\Goes st p v st'
theorem take9 (R:Nat) (s:ByteArray) (st:S9) (lo hi:Nat) (w:World) (h:R9 w R s st) (hs:s.size<=4096) :
  Calls Tryz.prog 58 #[.pointer (some ⟨R,0,none⟩),.int .u8 lo,.int .u8 hi] w (Post9 R s (fun b:Nat=>.int .u8 b) w st (fun a=>pOne s.data.toList a lo hi)):=by
 have Hn:=Hyd (next9 R s st lo hi w h hs)
 cases hb:nextB s.data.toList st lo hi with
 | true =>
  obtain⟨a,rfl⟩:=nextB_alive hb;obtain⟨b,hb1,_,_,hb2⟩:=pOne_next hb;rw[hb]at Hn
  have hlt:a<s.size:=by
   by_cases hx:a<s.size
   ·exact hx
   ·rw[peek_end hx]at hb1;cases hb1
  have hbe:s[a].toNat=b.toNat:=by rw[peek_some hlt]at hb1;cases hb1;rfl
  obtain⟨c0,c1,c2,c3,c4,c5,c6,c7⟩:=cells4 h.blk
  simp only[S9.bad,S9.at,S9.pos]at c1 c2 c3
  have H:=Hyd h;have Hb2:=Hyd hb2;have Hbe:=Hyd hbe
  have hlt':(a:Int)<(s.size:Int):=by omega
  have hai:(0:Int)<=(a:Int):=by omega
  clear h hb2 hb hb1 hbe
  go_enter Tryz.func58,Tryz.ntmps58
  go_wp2_with fail;refine Hn.out.mono ?_;rintro e w1 ⟨rfl,n1,rfl⟩;go_wp2_with fail
  go_quiet (fail)
  go_wp2;go_ret;refine⟨b.toNat,.inr (a+1),by rw[<-Hbe.out];rfl,(H.out.moved n1 (a+1) (by omega)).drewN _,grown_trans (grown_set _ _ _ _ _) (grown_drewN _ _ _), ?_⟩
  simp only[Goes]
  rw[Hb2.out];exact⟨rfl,rfl⟩
 | false =>
  rw[hb]at Hn;have H:=Hyd h;obtain⟨c0,c1,c2,c3,c4,c5,c6,c7⟩:=cells4 h.blk
  rcases st with ⟨k,er,a⟩ | a
  ·simp only[S9.bad,S9.at,S9.pos]at c1 c2 c3
   clear h
   go_enter Tryz.func58,Tryz.ntmps58
   go_wp2_with fail;refine Hn.out.mono ?_;rintro e w1 ⟨rfl,n1,rfl⟩;go_wp2_with fail;refine(fail9_dead R s k er a _ _ _ (H.out.drewN n1)).mono ?_;rintro e w2 ⟨rfl,hr2,hg2⟩;go_wp2_with fail;go_ret;exact⟨0,_,rfl,hr2,grown_trans (grown_drewN _ _ _) hg2,a,rfl⟩
  ·simp only[S9.bad,S9.at,S9.pos]at c1 c2 c3
   have hb2:=Hyd (pOne_not hb);clear h
   go_enter Tryz.func58,Tryz.ntmps58
   go_wp2_with fail;refine Hn.out.mono ?_;rintro e w1 ⟨rfl,n1,rfl⟩;go_wp2_with fail;refine(fail9_alive R s a a 20 _ (H.out.drewN n1) (by decide)).mono ?_;rintro e w2 ⟨rfl,hr2,hg2⟩;go_wp2_with fail;go_ret;refine⟨0,_,rfl,hr2,grown_trans (grown_drewN _ _ _) hg2, ?_⟩
   simp only[Goes]
   rw[hb2.out];exact⟨a,rfl⟩
theorem word9 (R:Nat) (s:ByteArray) (st:S9) (wd:ByteArray) (w:World) (h:R9 w R s st) (hs:s.size<=4096) (hwd:wd.size<=4096) :
  Calls Tryz.prog 55 #[.pointer (some ⟨R,0,none⟩),.string wd] w (Post9 R s (fun _:Unit=>.tuple #[]) w st (fun a=>pWord s.data.toList wd.data.toList a)):=by
 have hwl:wd.data.toList.length=wd.size:=Array.length_toList;have Hwl:=Hyd hwl;have H:=Hyd h;clear hwl h
 go_enter Tryz.func55,Tryz.ntmps55
 go_wp2_with fail
 go_loopw [4] (fun i wr=>∃ (k:Nat) (sti:S9),k<=wd.size/\i=.int .i64 k/\R9 wr R s sti/\w.grownBy wr (some R)/\∀ st':S9,Goes sti (fun a=>pWord s.data.toList (wd.data.toList.drop k) a) () st' -> Goes st (fun a=>pWord s.data.toList wd.data.toList a) () st') (fun i _=>wd.size-(intOf i).toNat)
 case atStart=>exact⟨0,st,by omega,rfl,H.out,grown_drewN w 0 _,fun _ h=>h⟩
 case round =>
  obtain⟨k,sti,hk,rfl,hrd,hg,he⟩:=hrel;have Hr:=Hyd hrd;have He:=Hyd he;clear hrd he
  by_cases hlt:k<wd.size
  ·have hki:(k:Int)<(wd.size:Int):=by omega
   have hki0:(0:Int)<=(k:Int):=by omega
   have hwl':=Hwl.out
   have hdrop:wd.data.toList.drop k=wd[k] :: wd.data.toList.drop (k+1):=by
    rw[List.drop_eq_getElem_cons (by rw[hwl'];exact hlt)];rfl
   have ho:=take9 R s sti wd[k].toNat wd[k].toNat wr.drew (Hr.out.drewN 1) hs;have Ho:=Hyd ho;have Hd:=Hyd hdrop;clear ho hdrop hwl';go_wp2_with fail
   go_still_tail 7,(by kernel_rfl)
   go_wp2_with fail;refine Ho.out.mono ?_;clear Ho;rintro e w1 ⟨v,st1,rfl,hr1,hg1,hgo⟩;have Hr1:=Hyd hr1
   have hgo2:∀ st':S9,Goes st1 (fun a=>pWord s.data.toList (wd.data.toList.drop (k+1)) a) () st' -> Goes st (fun a=>pWord s.data.toList wd.data.toList a) () st':=fun st' h'=>He.out st' (by
    have h2:=hgo.bind (q:=fun _ a'=>pWord s.data.toList (wd.data.toList.drop (k+1)) a') h'
    refine h2.eq fun a _=>?_
    rw[Hd.out,pWord_bind])
   have He1:=Hyd hgo2;clear hr1 hgo He Hd hgo2;go_wp2_with fail;go_roundw
   case rel=>exact⟨k+1,st1,by omega,by go_num,Hr1.out,grown_trans (grown_trans hg (grown_drew wr _)) hg1,He1.out⟩
   case measure=>simp[intOf];omega
  ·have hkk:k=wd.size:=by omega
   subst hkk;go_wp2_with fail;go_end0;refine⟨(),sti,rfl,Hr.out,hg,He.out sti ?_⟩;rw[List.drop_of_length_le (by rw[Hwl.out];omega)]
   rcases sti with ⟨k,er,a⟩ | a
   ·exact⟨a,rfl⟩
   ·exact⟨rfl,rfl⟩
theorem number9 (R:Nat) (s:ByteArray) (st:S9) (least:Nat) (w:World) (h:R9 w R s st) (hs:s.size<=4096) (hl:48<=least) :
  Calls Tryz.prog 60 #[.pointer (some ⟨R,0,none⟩),.int .u8 least] w fun e w'=>∃ (v:Nat) (st':S9),v<1000000000/\e=.returned (.int .i64 v)/\R9 w' R s st'/\w.grownBy w' (some R)/\Goes st (fun a=>pNum s.data.toList a least) v st':=by
 have ho:=take9 R s st least 57 w h hs;have Ho:=Hyd ho;clear h ho
 go_enter Tryz.func60,Tryz.ntmps60
 go_wp2_with fail;refine Ho.out.mono ?_;clear Ho;rintro e w1 ⟨v,st1,rfl,hr1,hg1,hgo⟩;obtain⟨c0,c1,c2,c3,c4,c5,c6,c7⟩:=cells4 hr1.blk
 rcases st1 with ⟨k,er,a⟩ | a1
 ·simp only[S9.bad,S9.at,S9.pos]at c1 c2 c3
  have hne:(er==0)=false:=by rw[beq_eq_false_iff_ne];exact hr1.ne _ _ _ rfl
  have hne':(er != 0)=true:=by rw[bne_iff_ne];exact hr1.ne _ _ _ rfl
  have Hr1:=Hyd hr1;have Hgo:=Hyd hgo;clear hr1 hgo;go_wp2_with fail;go_ret;exact⟨0,_,by omega,rfl,Hr1.out,hg1,(Hgo.out.inl _).eq fun a _=>(pNum_bind _ _ _).symm⟩
 ·simp only[S9.bad,S9.at,S9.pos]at c1 c2 c3
  obtain⟨a,rfl,hone⟩:=hgo.inr
  have hc:48<=v/\v<=57:=by
   unfold pOne at hone
   cases hx:s.data.toList[a]? with
   | none=>rw[hx]at hone;simp at hone
   | some y =>
    rw[hx]at hone
    simp only at hone
    split at hone
    ·simp only[Sum.inr.injEq,Prod.mk.injEq]at hone;omega
    ·simp at hone
  have hnum:pNum s.data.toList a least=.inr (pDig s.data.toList 8 (v-48) a1):=by rw[pNum_bind,hone];rfl
  have Hr1:=Hyd hr1;have Hnum:=Hyd hnum;clear hr1 hgo hnum hone
  by_cases h48:v=48
  ·subst h48;go_wp2_with fail;go_ret;refine⟨0,_,by omega,rfl,Hr1.out,hg1, ?_⟩
   simp only[Goes]
   rw[Hnum.out,pDig_stop _ _ _ _ (.inl rfl)];exact⟨rfl,rfl⟩
  ·have h48':((v:Int)==48)=false:=by rw[beq_eq_false_iff_ne];omega
   obtain⟨n,hn⟩:∃ n,n=v-48:=⟨_,rfl⟩
   have hn9:n<=9:=by omega
   have hn1:1<=n:=by omega
   have hcn:v=n+48:=by omega
   rw[<-hn]at Hnum;clear hn hc h48
   have h48'':((n:Int)+48==48)=false:=by rw[beq_eq_false_iff_ne];omega
   go_wp2_with fail
   go_loopw [6,7] (fun nv i wr=>∃ m k b:Nat,nv=.int .i64 m/\i=.int .i64 k/\k<=8/\1<=m/\m<10 ^ (k+1)/\R9 wr R s (.inr b)/\w.grownBy wr (some R)/\pDig s.data.toList 8 n a1=pDig s.data.toList (8-k) m b) (fun _ i _=>8-(intOf i).toNat)
   case atStart=>exact⟨n,0,a1,rfl,rfl,by omega,hn1,by omega,Hr1.out,hg1,rfl⟩
   case round =>
    obtain⟨m,k,b,rfl,rfl,hk8,hm1,hm,hr2,hg2,he⟩:=hrel;have Hr2:=Hyd hr2;have Hm:=Hyd hm;have He:=Hyd he;clear hr2 hm he c0 c1 c2 c3 c4 c5 c6 c7
    have hmb:m<1000000000:=Nat.lt_of_lt_of_le Hm.out (by
     have:10 ^ (k+1)<=10 ^ 9:=Nat.pow_le_pow_right (by omega) (by omega)
     omega)
    by_cases hk:k<8
    ·have hk':(k:Int)<8:=by omega
     have Hn:=Hyd (next9 R s (.inr b) 48 57 wr Hr2.out hs);have hib:nextB s.data.toList (.inr b) 48 57=(decide (48<=peekB s.data.toList b)&&decide (peekB s.data.toList b<=57)):=inB_peek (by omega)
     cases hnb:nextB s.data.toList (.inr b) 48 57 with
     | true =>
      rw[hnb]at Hn hib
      simp only[Bool.true_eq,Bool.and_eq_true,decide_eq_true_eq]at hib
      obtain⟨c,hc1,hc2,hc3,hc4⟩:=pOne_next hnb;have Ht:=Hyd (fun n1=>take9 R s (.inr b) 48 57 (wr.drewN n1) (Hr2.out.drewN n1) hs);have hst:=pDig_step s.data.toList (7-k) m b c.toNat (by omega) (by rw[hc1];rfl) ⟨hc2,hc3⟩;rw[show 7-k+1=8-k from by omega]at hst;have Hst:=Hyd hst;have Hc4:=Hyd hc4
      obtain⟨d,hd⟩:∃ d,d=c.toNat-48:=⟨_,rfl⟩
      have hd9:d<=9:=(by omega);have hcd:c.toNat=d+48:=(by omega);rw[<-hd]at Hst;rw[hcd]at Hc4;clear hnb hc1 hc2 hc3 hc4 hst hib hd hcd;go_wp2_with fail;refine Hn.out.mono ?_;rintro e w2 ⟨rfl,n2,rfl⟩;go_wp2_with fail;refine(Ht.out n2).mono ?_;rintro e w3 ⟨v3,st3,rfl,hr3,hg3,hgo3⟩
      simp only[Goes]at hgo3
      rw[Hc4.out]at hgo3;obtain⟨rfl,rfl⟩:=hgo3;have Hr3:=Hyd hr3;clear hr3;go_wp2_with fail;go_roundw
      case rel=>exact⟨10 * m+d,k+1,b+1,by go_num,by go_num,by omega,by omega,by have:=Hm.out;rw[Nat.pow_succ];omega,Hr3.out,grown_trans (grown_trans hg2 (grown_drewN _ _ _)) hg3,by rw[He.out,Hst.out];congr 1;omega⟩
      case measure=>simp[intOf];omega
     | false =>
      rw[hnb]at Hn hib
      have Hst:=Hyd (pDig_stop s.data.toList (8-k) m b (.inr (by
       rcases Nat.lt_or_ge (peekB s.data.toList b) 48 with h' | h'
       ·exact .inl h'
       ·refine .inr ?_;rw[decide_eq_true h']at hib
        simp at hib
        omega)))
      clear hnb hib;go_wp2_with fail;refine Hn.out.mono ?_;rintro e w2 ⟨rfl,n2,rfl⟩;go_wp2_with fail;go_ret;refine⟨m,.inr b,hmb,rfl,Hr2.out.drewN _,grown_trans hg2 (grown_drewN _ _ _), ?_⟩
      simp only[Goes]
      rw[Hnum.out,He.out,Hst.out];exact⟨rfl,rfl⟩
    ·have hk':k=8:=by omega
     subst hk';go_wp2_with fail;go_ret;refine⟨m,.inr b,hmb,rfl,Hr2.out,hg2, ?_⟩
     simp only[Goes]
     rw[Hnum.out,He.out];exact⟨rfl,rfl⟩
end Go.Proofs.YtcojnojdgigmdaaGreatDoor.WP
/- The walks of the document's reader: op, signed. -/
namespace Go.Proofs.YtcojnojdgigmdaaGreatDoor.WP
open Go.RowKit PP
theorem pHas_at {l:List UInt8} {a b:Nat} (h:pHas l a b=true):∃ x:UInt8,l[a]? = some x/\x.toNat=b:=by
 unfold pHas at h
 cases hx:l[a]? with
 | none=>rw[hx]at h;cases h
 | some x=>rw[hx]at h;exact⟨x,rfl,by simpa using h⟩
theorem pHas_ne {l:List UInt8} {a b c:Nat} (h:pHas l a b=true) (hc:b≠c):pHas l a c=false:=by
 obtain⟨x,hx,hb⟩:=pHas_at h;unfold pHas;rw[hx]
 simp only[beq_eq_false_iff_ne]
 omega
theorem pHas_one {l:List UInt8} {a b lo hi:Nat} (h:pHas l a b=true) (h1:lo<=b) (h2:b<=hi):pOne l a lo hi=.inr (b,a+1):=by
 obtain⟨x,hx,rfl⟩:=pHas_at h;unfold pOne;rw[hx]
 simp only
 rw[if_pos ⟨h1,h2⟩]
theorem pWord_one (l:List UInt8) (a:Nat) (b:UInt8):pWord l [b] a=(pOne l a b.toNat b.toNat).bind fun _ a'=>.inr ((),a'):=by rw[pWord_bind];rfl
theorem next9_has (R:Nat) (s:ByteArray) (a b:Nat) (w:World) (h:R9 w R s (.inr a)) (hs:s.size<=4096) (x:Bool) (hx:pHas s.data.toList a b=x) :
  Calls Tryz.prog 57 #[.pointer (some ⟨R,0,none⟩),.int .u8 b,.int .u8 b] w fun e w'=>e=.returned (.bool x)/\∃ n,w'=w.drewN n:=by
 have:=next9 R s (.inr a) b b w h hs;rw[show nextB s.data.toList (.inr a) b b=x from inB_has.trans hx]at this;exact this
theorem next9_dead (R:Nat) (s:ByteArray) (k:Nat) (er:Int) (a:Nat) (lo hi:Nat) (w:World) (h:R9 w R s (.inl (k,er,a))) (hs:s.size<=4096) :
  Calls Tryz.prog 57 #[.pointer (some ⟨R,0,none⟩),.int .u8 lo,.int .u8 hi] w fun e w'=>e=.returned (.bool false)/\∃ n,w'=w.drewN n :=
 next9 R s (.inl (k,er,a)) lo hi w h hs
theorem take9_has (R:Nat) (s:ByteArray) (a b lo hi:Nat) (w:World) (h:R9 w R s (.inr a)) (hs:s.size<=4096) (hb:pHas s.data.toList a b=true) (h1:lo<=b) (h2:b<=hi) :
  Calls Tryz.prog 58 #[.pointer (some ⟨R,0,none⟩),.int .u8 lo,.int .u8 hi] w fun e w'=>e=.returned (.int .u8 b)/\R9 w' R s (.inr (a+1))/\w.grownBy w' (some R):=by
 refine(take9 R s (.inr a) lo hi w h hs).mono ?_;rintro e w' ⟨v,st',rfl,hr,hg,hgo⟩
 simp only[Goes]at hgo
 rw[pHas_one hb h1 h2]at hgo;obtain⟨rfl,rfl⟩:=hgo;exact⟨rfl,hr,hg⟩
theorem op9 (R:Nat) (s:ByteArray) (st:S9) (w:World) (h:R9 w R s st) (hs:s.size<=4096) :
  Calls Tryz.prog 90 #[.pointer (some ⟨R,0,none⟩)] w (Post9 R s (fun x:Nat=>.int .i64 x) w st (fun a=>pOp s.data.toList a)):=by
 have H:=Hyd h;clear h
 rcases st with ⟨k,er,a⟩ | a
 ·go_enter Tryz.func90,Tryz.ntmps90
  go_wp2_with fail;refine(next9_dead R s k er a 60 60 _ H.out hs).mono ?_;rintro e w1 ⟨rfl,n1,rfl⟩;go_wp2_with fail;refine(next9_dead R s k er a 62 62 _ (H.out.drewN _) hs).mono ?_;rintro e w2 ⟨rfl,n2,rfl⟩;go_wp2_with fail;refine(next9_dead R s k er a 33 33 _ (H.out.drewN _) hs).mono ?_;rintro e w3 ⟨rfl,n3,rfl⟩;go_wp2_with fail;refine(take9 R s _ 61 61 _ (H.out.drewN _) hs).mono ?_;rintro e w4 ⟨v,st',rfl,hr,hg,hgo⟩;go_wp2_with fail;go_ret;exact⟨2,st',rfl,hr,grown_trans (grown_drewN _ _ _) hg,hgo⟩
 ·cases h1:pHas s.data.toList a 60 with
  | true =>
   have h2:=pHas_ne h1 (show 60≠62 by decide);have h3:=pHas_ne h1 (show 60≠33 by decide);have H1:=Hyd h1;have H2:=Hyd h2;have H3:=Hyd h3;clear h1 h2 h3
   go_enter Tryz.func90,Tryz.ntmps90
   go_wp2_with fail;refine(next9_has R s a 60 _ H.out hs true H1.out).mono ?_;rintro e w1 ⟨rfl,n1,rfl⟩;go_wp2_with fail;refine(next9_has R s a 62 _ (H.out.drewN _) hs false H2.out).mono ?_;rintro e w2 ⟨rfl,n2,rfl⟩;go_wp2_with fail;refine(next9_has R s a 33 _ (H.out.drewN _) hs false H3.out).mono ?_;rintro e w3 ⟨rfl,n3,rfl⟩;go_wp2_with fail;refine(take9_has R s a 60 60 62 _ (H.out.drewN _) hs H1.out (by decide) (by decide)).mono ?_;rintro e w4 ⟨rfl,hr4,hg4⟩;have Hr4:=Hyd hr4;have hg5:=grown_trans (grown_drewN w _ (some R)) hg4;clear hr4 hg4
   cases h4:pHas s.data.toList (a+1) 61 with
   | true =>
    have hp:pOp s.data.toList a=.inr (1,a+2):=by unfold pOp;rw[if_pos H1.out,if_pos h4]
    have Hp:=Hyd hp;have H4:=Hyd h4;clear hp h4;go_wp2_with fail;refine(next9_has R s (a+1) 61 _ Hr4.out hs true H4.out).mono ?_;rintro e w5 ⟨rfl,n5,rfl⟩;go_wp2_with fail;refine(take9_has R s (a+1) 61 61 61 _ (Hr4.out.drewN _) hs H4.out (by decide) (by decide)).mono ?_;rintro e w6 ⟨rfl,hr6,hg6⟩;go_wp2_with fail;go_ret;refine⟨1,_,rfl,hr6,grown_trans (grown_trans hg5 (grown_drewN _ _ _)) hg6, ?_⟩
    simp only[Goes]
    rw[Hp.out];exact⟨rfl,rfl⟩
   | false =>
    have hp:pOp s.data.toList a=.inr (0,a+1):=by unfold pOp;rw[if_pos H1.out,h4];rfl
    have Hp:=Hyd hp;have H4:=Hyd h4;clear hp h4;go_wp2_with fail;refine(next9_has R s (a+1) 61 _ Hr4.out hs false H4.out).mono ?_;rintro e w5 ⟨rfl,n5,rfl⟩;go_wp2_with fail;go_ret;refine⟨0,_,rfl,Hr4.out.drewN _,grown_trans hg5 (grown_drewN _ _ _), ?_⟩
    simp only[Goes]
    rw[Hp.out];exact⟨rfl,rfl⟩
  | false =>
   cases h2:pHas s.data.toList a 62 with
   | true =>
    have h3:=pHas_ne h2 (show 62≠33 by decide);have H1:=Hyd h1;have H2:=Hyd h2;have H3:=Hyd h3;clear h1 h2 h3
    go_enter Tryz.func90,Tryz.ntmps90
    go_wp2_with fail;refine(next9_has R s a 60 _ H.out hs false H1.out).mono ?_;rintro e w1 ⟨rfl,n1,rfl⟩;go_wp2_with fail;refine(next9_has R s a 62 _ (H.out.drewN _) hs true H2.out).mono ?_;rintro e w2 ⟨rfl,n2,rfl⟩;go_wp2_with fail;refine(next9_has R s a 33 _ (H.out.drewN _) hs false H3.out).mono ?_;rintro e w3 ⟨rfl,n3,rfl⟩;go_wp2_with fail;refine(take9_has R s a 62 60 62 _ (H.out.drewN _) hs H2.out (by decide) (by decide)).mono ?_;rintro e w4 ⟨rfl,hr4,hg4⟩;have Hr4:=Hyd hr4;have hg5:=grown_trans (grown_drewN w _ (some R)) hg4;clear hr4 hg4
    cases h4:pHas s.data.toList (a+1) 61 with
    | true =>
     have hp:pOp s.data.toList a=.inr (4,a+2):=by unfold pOp;rw[H1.out,H2.out,h4];rfl
     have Hp:=Hyd hp;have H4:=Hyd h4;clear hp h4;go_wp2_with fail;refine(next9_has R s (a+1) 61 _ Hr4.out hs true H4.out).mono ?_;rintro e w5 ⟨rfl,n5,rfl⟩;go_wp2_with fail;refine(take9_has R s (a+1) 61 61 61 _ (Hr4.out.drewN _) hs H4.out (by decide) (by decide)).mono ?_;rintro e w6 ⟨rfl,hr6,hg6⟩;go_wp2_with fail;go_ret;refine⟨4,_,rfl,hr6,grown_trans (grown_trans hg5 (grown_drewN _ _ _)) hg6, ?_⟩
     simp only[Goes]
     rw[Hp.out];exact⟨rfl,rfl⟩
    | false =>
     have hp:pOp s.data.toList a=.inr (5,a+1):=by unfold pOp;rw[H1.out,H2.out,h4];rfl
     have Hp:=Hyd hp;have H4:=Hyd h4;clear hp h4;go_wp2_with fail;refine(next9_has R s (a+1) 61 _ Hr4.out hs false H4.out).mono ?_;rintro e w5 ⟨rfl,n5,rfl⟩;go_wp2_with fail;go_ret;refine⟨5,_,rfl,Hr4.out.drewN _,grown_trans hg5 (grown_drewN _ _ _), ?_⟩
     simp only[Goes]
     rw[Hp.out];exact⟨rfl,rfl⟩
   | false =>
    cases h3:pHas s.data.toList a 33 with
    | true =>
     have hp:pOp s.data.toList a=(pWord s.data.toList [33,61] a).bind fun _ a'=>.inr (3,a'):=by
      have e:pWord s.data.toList [33,61] a=pWord s.data.toList [61] (a+1):=by
       rw[pWord_bind,show pOne s.data.toList a (33:UInt8).toNat (33:UInt8).toNat=.inr (33,a+1) from pHas_one h3 (by decide) (by decide)]
       rfl
      rw[e];unfold pOp;rw[h1,h2,h3]
      simp only[Bool.false_eq_true,if_false,if_true]
      cases pWord s.data.toList [61] (a+1)<;>rfl
     have H1:=Hyd h1;have H2:=Hyd h2;have H3:=Hyd h3;have Hp:=Hyd hp;clear h1 h2 h3 hp
     go_enter Tryz.func90,Tryz.ntmps90
     go_wp2_with fail;refine(next9_has R s a 60 _ H.out hs false H1.out).mono ?_;rintro e w1 ⟨rfl,n1,rfl⟩;go_wp2_with fail;refine(next9_has R s a 62 _ (H.out.drewN _) hs false H2.out).mono ?_;rintro e w2 ⟨rfl,n2,rfl⟩;go_wp2_with fail;refine(next9_has R s a 33 _ (H.out.drewN _) hs true H3.out).mono ?_;rintro e w3 ⟨rfl,n3,rfl⟩;go_wp2_with fail;refine(word9 R s _ ⟨#[33,61]⟩ _ (H.out.drewN _) hs (by decide)).mono ?_;rintro e w4 ⟨v,st',rfl,hr,hg,hgo⟩;go_wp2_with fail;go_ret;refine⟨3,st',rfl,hr,grown_trans (grown_drewN _ _ _) hg, ?_⟩;refine(hgo.bind (q:=fun _ a'=>.inr (3,a')) ?_).alive Hp.out.symm
     rcases st' with ⟨k,er,a⟩ | a
     ·exact⟨a,rfl⟩
     ·exact⟨rfl,rfl⟩
    | false =>
     have hp:pOp s.data.toList a=(pOne s.data.toList a 61 61).bind fun _ a'=>.inr (2,a'):=by
      unfold pOp;rw[h1,h2,h3]
      simp only[Bool.false_eq_true,if_false]
      rw[show pWord s.data.toList [61] a=(pOne s.data.toList a 61 61).bind fun _ a'=>.inr ((),a') from pWord_one _ _ _]
      cases pOne s.data.toList a 61 61<;>rfl
     have H1:=Hyd h1;have H2:=Hyd h2;have H3:=Hyd h3;have Hp:=Hyd hp;clear h1 h2 h3 hp
     go_enter Tryz.func90,Tryz.ntmps90
     go_wp2_with fail;refine(next9_has R s a 60 _ H.out hs false H1.out).mono ?_;rintro e w1 ⟨rfl,n1,rfl⟩;go_wp2_with fail;refine(next9_has R s a 62 _ (H.out.drewN _) hs false H2.out).mono ?_;rintro e w2 ⟨rfl,n2,rfl⟩;go_wp2_with fail;refine(next9_has R s a 33 _ (H.out.drewN _) hs false H3.out).mono ?_;rintro e w3 ⟨rfl,n3,rfl⟩;go_wp2_with fail;refine(take9 R s _ 61 61 _ (H.out.drewN _) hs).mono ?_;rintro e w4 ⟨v,st',rfl,hr,hg,hgo⟩;go_wp2_with fail;go_ret;refine⟨2,st',rfl,hr,grown_trans (grown_drewN _ _ _) hg, ?_⟩;refine(hgo.bind (q:=fun _ a'=>.inr (2,a')) ?_).alive Hp.out.symm
     rcases st' with ⟨k,er,a⟩ | a
     ·exact⟨a,rfl⟩
     ·exact⟨rfl,rfl⟩
theorem signed9_minus (R:Nat) (s:ByteArray) (a:Nat) (w:World) (h:R9 w R s (.inr a)) (hs:s.size<=4096) (hb:pHas s.data.toList a 45=true) :
  Calls Tryz.prog 91 #[.pointer (some ⟨R,0,none⟩)] w fun e w'=>∃ (k:Nat) (st':S9),e=.returned (.int .i64 (-(k:Int)))/\R9 w' R s st'/\w.grownBy w' (some R)/\Goes (.inr (a+1)) (fun a=>pNum s.data.toList a 49) k st':=by
 have H:=Hyd h;have Hb:=Hyd hb;clear h hb
 go_enter Tryz.func91,Tryz.ntmps91
 go_wp2_with fail;refine(next9_has R s a 45 _ H.out hs true Hb.out).mono ?_;rintro e w1 ⟨rfl,n1,rfl⟩;go_wp2_with fail;refine(take9_has R s a 45 45 45 _ (H.out.drewN _) hs Hb.out (by decide) (by decide)).mono ?_;rintro e w2 ⟨rfl,hr2,hg2⟩;go_wp2_with fail;refine(number9 R s _ 49 _ hr2 hs (by decide)).mono ?_;rintro e w3 ⟨k,st',hk,rfl,hr3,hg3,hgo⟩;have Hgo:=Hyd hgo;clear hgo;go_wp2_with fail;go_ret;exact⟨k,st',rfl,hr3,grown_trans (grown_trans (grown_drewN _ _ _) hg2) hg3,Hgo.out⟩
theorem signed9_plus (R:Nat) (s:ByteArray) (a:Nat) (w:World) (h:R9 w R s (.inr a)) (hs:s.size<=4096) (hb:pHas s.data.toList a 43=true) :
  Calls Tryz.prog 91 #[.pointer (some ⟨R,0,none⟩)] w fun e w'=>∃ (k:Nat) (st':S9),e=.returned (.int .i64 k)/\R9 w' R s st'/\w.grownBy w' (some R)/\Goes (.inr (a+1)) (fun a=>pNum s.data.toList a 49) k st':=by
 have H:=Hyd h;have Hb:=Hyd hb;have Hc:=Hyd (pHas_ne hb (show 43≠45 by decide));clear h hb
 go_enter Tryz.func91,Tryz.ntmps91
 go_wp2_with fail;refine(next9_has R s a 45 _ H.out hs false Hc.out).mono ?_;rintro e w1 ⟨rfl,n1,rfl⟩;go_wp2_with fail;refine(take9_has R s a 43 43 43 _ (H.out.drewN _) hs Hb.out (by decide) (by decide)).mono ?_;rintro e w2 ⟨rfl,hr2,hg2⟩;go_wp2_with fail;refine(number9 R s _ 49 _ hr2 hs (by decide)).mono ?_;rintro e w3 ⟨k,st',hk,rfl,hr3,hg3,hgo⟩;have Hgo:=Hyd hgo;clear hgo;go_wp2_with fail;go_ret;exact⟨k,st',rfl,hr3,grown_trans (grown_trans (grown_drewN _ _ _) hg2) hg3,Hgo.out⟩
end Go.Proofs.YtcojnojdgigmdaaGreatDoor.WP
/- The walk of the document's reader's cond. -/
namespace Go.Proofs.YtcojnojdgigmdaaGreatDoor.WP
open Go.RowKit PP
theorem ret4_9 {p:Program} {f:Func} {Q:Ending->World->Prop} {ex:Exit} {act:Act} {w w5:World} {R B:Nat} {s:ByteArray} {st:S9} {t:TypeId} {c0 c1 c2 c3 v0 v1 v2 v3:Value}
  (hr:R9 w5 R s st) (hg:w.grownBy w5 (some R)) (hB:w5.heap[B]? = some (.cells #[c0,c1,c2,c3] t (0,0))) (hRB:R≠B) (hwB:w.heap.size<=B)
  (h:∀ w9:World,w9.heap[B]? = some (.cells #[v0,v1,v2,v3] t (0,0))->R9 w9 R s st->w.grownBy w9 (some R)->bodyPost p f Q ex act w9) :
  bodyPost p f Q ex act ((((w5.setCell ⟨B,0,none⟩ v0).setCell ⟨B,1,none⟩ v1).setCell ⟨B,2,none⟩ v2).setCell ⟨B,3,none⟩ v3) :=
 h _ (blk_set (blk_set (blk_set (blk_set hB 0 v0) 1 v1) 2 v2) 3 v3) ((((hr.set B 0 _ hRB).set B 1 _ hRB).set B 2 _ hRB).set B 3 _ hRB) (grown_setNew (grown_setNew (grown_setNew (grown_setNew hg B 0 _ hwB) B 1 _ hwB) B 2 _ hwB) B 3 _ hwB)
theorem fail9 (R:Nat) (s:ByteArray) (st:S9) (k:Nat) (er:Int) (w:World) (h:R9 w R s st) (her:er≠0) :
  Calls Tryz.prog 61 #[.pointer (some ⟨R,0,none⟩),.int .i64 k,.int .i64 er] w fun e w'=>∃ st':S9,e=.returned (.tuple #[])/\R9 w' R s st'/\w.grownBy w' (some R)/\∀ (u:Unit),Goes st (fun _=>(.inl (k,er):PR Unit)) u st':=by
 rcases st with ⟨k',er',a⟩ | a
 ·refine(fail9_dead R s k' er' a _ _ w h).mono ?_;rintro e w' ⟨rfl,hr,hg⟩;exact⟨_,rfl,hr,hg,fun _=>⟨a,rfl⟩⟩
 ·refine(fail9_alive R s a k er w h her).mono ?_;rintro e w' ⟨rfl,hr,hg⟩;exact⟨_,rfl,hr,hg,fun _=>⟨a,rfl⟩⟩
theorem cond9 (R:Nat) (s:ByteArray) (st:S9) (n:Nat) (w:World) (h:R9 w R s st) (hs:s.size<=4096) (hn:n<=16) :
  Calls Tryz.prog 59 #[.pointer (some ⟨R,0,none⟩),.int .i64 n] w (Post9 R s cndV w st (fun a=>pCond s.data.toList a n)):=by
 obtain⟨w2,hw2⟩:∃ w2,w2=(w.alloc (.cells #[.int .u8 0,.int .i64 0,.int .u8 0,.int .i64 0] 131)).alloc (.cells #[.int .u8 0,.int .i64 0,.int .u8 0,.int .i64 0] 131):=⟨_,rfl⟩
 have hR2:R9 w2 R s st:=by rw[hw2];exact(h.alloc _).alloc _
 have hRlt:=h.lt;have HB2:=Hyd (show w2.heap[w.heap.size]? = some (.cells #[.int .u8 0,.int .i64 0,.int .u8 0,.int .i64 0] 131 (0,0)) by rw[hw2];exact blk_alloc (blk_new w _) _);have HC2:=Hyd (show w2.heap[w.heap.size+1]? = some (.cells #[.int .u8 0,.int .i64 0,.int .u8 0,.int .i64 0] 131 (0,0)) by rw[hw2];exact Mem.heap_new (by simp));have HG2:=Hyd (show w.grownBy w2 (some R) by rw[hw2];exact grown_trans (grown_alloc _ _ _) (grown_alloc _ _ _));have HR2:=Hyd hR2;obtain⟨-,r1,-,-,-,-,-,-⟩:=cells4 hR2.blk;rw[hw2]at r1
 have hRC:R<w.heap.size+1:=by omega
 clear hR2 h
 go_enter Tryz.func59,Tryz.ntmps59
 have ho:∀ (w':World) (st:S9),R9 w' R s st->Calls Tryz.prog 58 #[.pointer (some ⟨R,0,none⟩),.int .u8 97,.int .u8 122] w' (Post9 R s (fun b:Nat=>.int .u8 b) w' st (fun a=>pOne s.data.toList a 97 122)):=fun w' st h=>take9 R s st 97 122 w' h hs
 have Ho:=Hyd ho;clear ho;go_wp2_with fail;rw[<-hw2];refine(Ho.out _ _ HR2.out).mono ?_;rintro e w3 ⟨x1,st1,rfl,hr3,hg3,hgo1⟩;clear r1;have HC3:=Hyd (blk_grown HC2.out hg3 (by omega));have HB3:=Hyd (blk_grown HB2.out hg3 (by omega));have HG3:=Hyd (grown_trans HG2.out hg3)
 have hwC:w.heap.size<=w.heap.size+1:=by omega
 have hBC:w.heap.size≠w.heap.size+1:=by omega
 generalize hCe:w.heap.size+1=C at *;generalize hBe:w.heap.size=B at *;have HR3:=Hyd hr3;have Hgo1:=Hyd hgo1;clear hr3 hgo1 hg3 hw2;obtain⟨k0,k1,k2,k3,k4,k5,k6,k7⟩:=cells4 HC3.out;have HC3s:=Hyd (blk_set HC3.out 0 (.int .u8 x1));have HB3s:=Hyd (blk_other HB3.out C 0 (.int .u8 x1) (by omega));have HG3s:=Hyd (grown_setNew HG3.out C 0 (.int .u8 x1) (by omega));have HR3s:=Hyd (HR3.out.set C 0 (.int .u8 x1) (by omega))
 by_cases h16:n=16
 case' pos =>
  subst h16;go_wp2_with fail;refine(fail9 R s st1 st.at 24 _ HR3s.out (by decide)).mono ?_;rintro e w4 ⟨stX,rfl,hr4,hg4,hgoX⟩;have HC4:=Hyd (blk_grown HC3s.out hg4 (by omega));have HB4:=Hyd (blk_grown HB3s.out hg4 (by omega));have HG4:=Hyd (grown_trans HG3s.out hg4);have HR4:=Hyd hr4
  have HGO:Hid (∀ v st',Goes stX (fun a1=>(pOp s.data.toList a1).bind fun o a2=>pTl s.data.toList x1 o a2) v st' -> Goes st (fun a=>pCond s.data.toList a 16) v st'):=Hyd (by
   intro v st' hh
   rcases st with ⟨k,er,a⟩ | a
   ·obtain⟨a1,rfl⟩:=Hgo1.out;obtain⟨a2,rfl⟩:=hgoX ();exact hh
   ·have h1:=Hgo1.out
    have hp:pCond s.data.toList a 16=(pOne s.data.toList a 97 122).bind fun _ _=>.inl (a,24):=by unfold pCond;rw[if_pos rfl]
    simp only[Goes]at h1 ⊢
    rw[hp]
    cases hx:pOne s.data.toList a 97 122 with
    | inl f =>
     obtain⟨k,er⟩:=f;rw[hx]at h1;obtain⟨a1,rfl⟩:=h1;obtain⟨a2,rfl⟩:=hgoX ();exact hh
    | inr f =>
     obtain⟨x0,a1⟩:=f;rw[hx]at h1;obtain⟨rfl,rfl⟩:=h1;obtain⟨a2,rfl⟩:=hgoX ()
     exact hh)
  clear hgoX hr4 hg4
 case' neg =>
  have h16':(n:Int)<16:=by omega
  have HGO:Hid (∀ v st',Goes st1 (fun a1=>(pOp s.data.toList a1).bind fun o a2=>pTl s.data.toList x1 o a2) v st' -> Goes st (fun a=>pCond s.data.toList a n) v st'):=Hyd (by
   intro v st' hh
   refine(Hgo1.out.bind (q:=fun x a1=>(pOp s.data.toList a1).bind fun o a2=>pTl s.data.toList x o a2) hh).eq fun a _=>?_
   exact(pCond_tl _ _ _ h16).symm)
  go_wp2_with fail;generalize st1=stX at *;have HC4:=HC3s;have HB4:=HB3s;have HG4:=HG3s;have HR4:=HR3s;generalize w3.setCell ⟨C,0,none⟩ (.int .u8 x1)=w4 at *
 all_goals
  clear HC3 HB3 HG3 HC3s HB3s HG3s HR3s HR3 Hgo1 k0 k1 k2 k3 k4 k5 k6 k7
  try go_wp2_with fail
  refine(op9 R s stX _ HR4.out hs).mono ?_;rintro e w5 ⟨x2,st2,rfl,hr5,hg5,hgo2⟩;have HC5:=Hyd (blk_grown HC4.out hg5 (by omega));have HB5:=Hyd (blk_grown HB4.out hg5 (by omega));have HG5:=Hyd (grown_trans HG4.out hg5);have HR5:=Hyd hr5
  have HGO2:Hid (∀ v st',Goes st2 (fun a2=>pTl s.data.toList x1 x2 a2) v st' -> Goes st _ v st'):=Hyd fun v st' hh=>HGO.out v st' (hgo2.bind (q:=fun o a2=>pTl s.data.toList x1 o a2) hh)
  obtain⟨k0,k1,k2,k3,k4,k5,k6,k7⟩:=cells4 HC5.out;have HC6:=Hyd (blk_set HC5.out 1 (.int .i64 x2));have HB6:=Hyd (blk_other HB5.out C 1 (.int .i64 x2) (by omega));have HG6:=Hyd (grown_setNew HG5.out C 1 (.int .i64 x2) (by omega));have HR6:=Hyd (HR5.out.set C 1 (.int .i64 x2) (by omega));clear hr5 hg5 hgo2 HGO;go_wp2_with fail;clear HC5 HB5 HG5 HR5 HC4 HB4 HG4 HR4 k0 k1 k2 k3 k4 k5 k6 k7;generalize w5.setCell ⟨C,1,none⟩ (.int .i64 x2)=w6 at *;have Hn:=Hyd (next9 R s st2 48 57 w6 HR6.out hs)
  cases hb1:nextB s.data.toList st2 48 57 with
  | true =>
   obtain⟨a2,rfl⟩:=nextB_alive hb1;have hib:inB s.data.toList a2 48 57=true:=hb1;rw[inB_peek (by omega)]at hib
   simp only[Bool.and_eq_true,decide_eq_true_eq]at hib
   have hp:pTl s.data.toList x1 x2 a2=(pNum s.data.toList a2 48).bind fun k a3=>.inr (⟨x1,x2,0,k⟩,a3):=by
    unfold pTl;rw[if_neg (by omega),if_pos hib]
   rw[hb1]at Hn;have Hp:=Hyd hp;clear hp hib hb1;refine Hn.out.mono ?_;rintro e w7 ⟨rfl,n7,rfl⟩;go_wp2_with fail;refine(number9 R s _ 48 _ (HR6.out.drewN n7) hs (by decide)).mono ?_;rintro e w8 ⟨k,st8,hk,rfl,hr8,hg8,hgo8⟩;have HC8:=Hyd (blk_grown (w:=w6.drewN n7) HC6.out hg8 (by omega));have HB8:=Hyd (blk_grown (w:=w6.drewN n7) HB6.out hg8 (by omega));have HG8:=Hyd (grown_trans (grown_trans HG6.out (grown_drewN w6 n7 _)) hg8);have HR8:=Hyd hr8;have Hgo8:=Hyd hgo8;clear hr8 hg8 hgo8 HC6 HB6 HG6 HR6;obtain⟨k0,k1,k2,k3,k4,k5,k6,k7⟩:=cells4 HC8.out;obtain⟨j0,j1,j2,j3,j4,j5,j6,j7⟩:=cells4 HB8.out;go_wp2_with fail
   refine ret4_9 (HR8.out.set C 3 _ (by omega)) (grown_setNew HG8.out C 3 _ (by omega)) (blk_other HB8.out C 3 _ (by omega)) (by omega) (by omega) fun w9 hB9 hr9 hg9=>?_
   obtain⟨m0,m1,m2,m3,-,-,-,-⟩:=cells4 hB9;refine bodyPost_ret (by simp[results,Tryz.results59,go_sem,m0,m1,m2,m3];try rfl) rfl ?_;refine⟨⟨x1,x2,0,k⟩,_,rfl,hr9,hg9,HGO2.out _ _ ?_⟩;refine(Hgo8.out.bind (q:=fun k a3=>.inr (⟨x1,x2,0,k⟩,a3)) ?_).alive Hp.out.symm
   rcases st8 with ⟨k',er',a'⟩ | a'
   ·exact⟨a',rfl⟩
   ·exact⟨rfl,rfl⟩
  | false =>
   rw[hb1]at Hn;have Hb1:=Hyd hb1;clear hb1;refine Hn.out.mono ?_;rintro e w7 ⟨rfl,n7,rfl⟩;have Hn2:=Hyd (next9 R s st2 45 45 (w6.drewN n7) (HR6.out.drewN n7) hs)
   cases hb2:nextB s.data.toList st2 45 45 with
   | true =>
    obtain⟨a2,rfl⟩:=nextB_alive hb2;have hib:pHas s.data.toList a2 45=true:=inB_has.symm.trans hb2;have hpk:=hib;rw[peek_has (by omega),beq_iff_eq]at hpk
    have hp:pTl s.data.toList x1 x2 a2=(pNum s.data.toList (a2+1) 49).bind fun k a3=>.inr (⟨x1,x2,0,-(k:Int)⟩,a3):=by
     unfold pTl;rw[if_pos hpk]
    rw[hb2]at Hn2;have Hp:=Hyd hp;have Hib:=Hyd hib;clear hp hib hb2 hpk;go_wp2_with fail;refine Hn2.out.mono ?_;rintro e w7' ⟨rfl,n7',rfl⟩;go_wp2_with fail;refine(signed9_minus R s a2 _ (HR6.out.drewN _) hs Hib.out).mono ?_;rintro e w8 ⟨k,st8,rfl,hr8,hg8,hgo8⟩;have HC8:=Hyd (blk_grown (w:=w6.drewN (n7+n7')) HC6.out hg8 (by omega));have HB8:=Hyd (blk_grown (w:=w6.drewN (n7+n7')) HB6.out hg8 (by omega));have HG8:=Hyd (grown_trans (grown_trans HG6.out (grown_drewN w6 (n7+n7') _)) hg8);have HR8:=Hyd hr8;have Hgo8:=Hyd hgo8;clear hr8 hg8 hgo8 HC6 HB6 HG6 HR6;obtain⟨k0,k1,k2,k3,k4,k5,k6,k7⟩:=cells4 HC8.out;obtain⟨j0,j1,j2,j3,j4,j5,j6,j7⟩:=cells4 HB8.out;go_wp2_with fail
    refine ret4_9 (HR8.out.set C 3 _ (by omega)) (grown_setNew HG8.out C 3 _ (by omega)) (blk_other HB8.out C 3 _ (by omega)) (by omega) (by omega) fun w9 hB9 hr9 hg9=>?_
    obtain⟨m0,m1,m2,m3,-,-,-,-⟩:=cells4 hB9;refine bodyPost_ret (by simp[results,Tryz.results59,go_sem,m0,m1,m2,m3];try rfl) rfl ?_;refine⟨⟨x1,x2,0,-(k:Int)⟩,_,rfl,hr9,hg9,HGO2.out _ _ ?_⟩
    have hq:=Hgo8.out.bind (q:=fun k a3=>.inr (⟨x1,x2,0,-(k:Int)⟩,a3)) (y:=(⟨x1,x2,0,-(k:Int)⟩:Cnd)) (st2:=st8) (by
     rcases st8 with ⟨k',er',a'⟩ | a'
     ·exact⟨a',rfl⟩
     ·exact⟨rfl,rfl⟩)
    simp only[Goes]at hq ⊢
    rw[Hp.out];exact hq
   | false =>
    rw[hb2]at Hn2
    have HGO3:Hid (∀ v st',Goes st2 (fun a2=>(pOne s.data.toList a2 97 122).bind fun r a3=>pTl2 s.data.toList x1 x2 r a3) v st' -> Goes st _ v st'):=Hyd fun v st' hh=>HGO2.out v st' (hh.eq fun a2 he=>by
     subst he;have q1:inB s.data.toList a2 48 57=false:=Hb1.out;have q2:pHas s.data.toList a2 45=false:=inB_has.symm.trans hb2;rw[peek_has (by omega),beq_eq_false_iff_ne]at q2;rw[inB_peek (by omega)]at q1;unfold pTl;rw[if_neg q2,if_neg];intro hh;rw[decide_eq_true hh.1,decide_eq_true hh.2]at q1
     cases q1)
    clear hb2 Hb1 HGO2;go_wp2_with fail;refine Hn2.out.mono ?_;rintro e w7' ⟨rfl,n7',rfl⟩;go_wp2_with fail;refine(Ho.out _ _ (HR6.out.drewN _)).mono ?_;rintro e w8 ⟨x3,st3,rfl,hr8,hg8,hgo8⟩;have HC8:=Hyd (blk_grown (w:=w6.drewN (n7+n7')) HC6.out hg8 (by omega));have HB8:=Hyd (blk_grown (w:=w6.drewN (n7+n7')) HB6.out hg8 (by omega));have HG8:=Hyd (grown_trans (grown_trans HG6.out (grown_drewN w6 (n7+n7') _)) hg8);have HR8:=Hyd hr8
    have HGO4:Hid (∀ v st',Goes st3 (fun a3=>pTl2 s.data.toList x1 x2 x3 a3) v st' -> Goes st _ v st'):=Hyd fun v st' hh=>HGO3.out v st' (hgo8.bind (q:=fun r a3=>pTl2 s.data.toList x1 x2 r a3) hh)
    clear hr8 hg8 hgo8 HC6 HB6 HG6 HR6 HGO3;obtain⟨k0,k1,k2,k3,k4,k5,k6,k7⟩:=cells4 HC8.out;have HC9:=Hyd (blk_set HC8.out 2 (.int .u8 x3));have HB9:=Hyd (blk_other HB8.out C 2 (.int .u8 x3) (by omega));have HG9:=Hyd (grown_setNew HG8.out C 2 (.int .u8 x3) (by omega));have HR9:=Hyd (HR8.out.set C 2 (.int .u8 x3) (by omega));go_wp2_with fail;clear HC8 HB8 HG8 HR8 k0 k1 k2 k3 k4 k5 k6 k7;generalize w8.setCell ⟨C,2,none⟩ (.int .u8 x3)=w9 at *;have Hn3:=Hyd (next9 R s st3 43 43 w9 HR9.out hs);have Hn4:=Hyd (fun n9=>next9 R s st3 45 45 (w9.drewN n9) (HR9.out.drewN n9) hs);refine Hn3.out.mono ?_;rintro e w10 ⟨rfl,n9,rfl⟩;go_wp2_with fail;refine(Hn4.out n9).mono ?_;rintro e w10 ⟨rfl,n10,rfl⟩;clear Hn3 Hn4
    cases hb3:nextB s.data.toList st3 43 43 with
    | true =>
     obtain⟨a3,rfl⟩:=nextB_alive hb3;have hib:pHas s.data.toList a3 43=true:=inB_has.symm.trans hb3
     have hp:pTl2 s.data.toList x1 x2 x3 a3=(pNum s.data.toList (a3+1) 49).bind fun k a5=>.inr (⟨x1,x2,x3,k⟩,a5):=by
      unfold pTl2;rw[if_pos hib]
     have Hp:=Hyd hp;have Hib:=Hyd hib;clear hp hib hb3;go_wp2_with fail;refine(signed9_plus R s a3 _ (HR9.out.drewN _) hs Hib.out).mono ?_;rintro e w11 ⟨k,st8,rfl,hr8,hg8,hgo8⟩;have HC8:=Hyd (blk_grown (w:=w9.drewN (n9+n10)) HC9.out hg8 (by omega));have HB8:=Hyd (blk_grown (w:=w9.drewN (n9+n10)) HB9.out hg8 (by omega));have HG8:=Hyd (grown_trans (grown_trans HG9.out (grown_drewN w9 (n9+n10) _)) hg8);have HR8:=Hyd hr8;have Hgo8:=Hyd hgo8;clear hr8 hg8 hgo8 HC9 HB9 HG9 HR9;obtain⟨k0,k1,k2,k3,k4,k5,k6,k7⟩:=cells4 HC8.out;obtain⟨j0,j1,j2,j3,j4,j5,j6,j7⟩:=cells4 HB8.out;go_wp2_with fail
     refine ret4_9 (HR8.out.set C 3 _ (by omega)) (grown_setNew HG8.out C 3 _ (by omega)) (blk_other HB8.out C 3 _ (by omega)) (by omega) (by omega) fun w9 hB9 hr9 hg9=>?_
     obtain⟨m0,m1,m2,m3,-,-,-,-⟩:=cells4 hB9;refine bodyPost_ret (by simp[results,Tryz.results59,go_sem,m0,m1,m2,m3];try rfl) rfl ?_;refine⟨⟨x1,x2,x3,k⟩,_,rfl,hr9,hg9,HGO4.out _ _ ?_⟩
     have hq:=Hgo8.out.bind (q:=fun k a3=>.inr (⟨x1,x2,x3,k⟩,a3)) (y:=(⟨x1,x2,x3,k⟩:Cnd)) (st2:=st8) (by
      rcases st8 with ⟨k',er',a'⟩ | a'
      ·exact⟨a',rfl⟩
      ·exact⟨rfl,rfl⟩)
     simp only[Goes]at hq ⊢
     rw[Hp.out];exact hq
    | false =>
     cases hb4:nextB s.data.toList st3 45 45 with
     | true =>
      obtain⟨a3,rfl⟩:=nextB_alive hb4;have hib:pHas s.data.toList a3 45=true:=inB_has.symm.trans hb4;have hib3:pHas s.data.toList a3 43=false:=inB_has.symm.trans hb3
      have hp:pTl2 s.data.toList x1 x2 x3 a3=(pNum s.data.toList (a3+1) 49).bind fun k a5=>.inr (⟨x1,x2,x3,-(k:Int)⟩,a5):=by
       unfold pTl2;rw[hib3,hib]
       rfl
      have Hp:=Hyd hp;have Hib:=Hyd hib;clear hp hib hib3 hb3 hb4;go_wp2_with fail;refine(signed9_minus R s a3 _ (HR9.out.drewN _) hs Hib.out).mono ?_;rintro e w11 ⟨k,st8,rfl,hr8,hg8,hgo8⟩;have HC8:=Hyd (blk_grown (w:=w9.drewN (n9+n10)) HC9.out hg8 (by omega));have HB8:=Hyd (blk_grown (w:=w9.drewN (n9+n10)) HB9.out hg8 (by omega));have HG8:=Hyd (grown_trans (grown_trans HG9.out (grown_drewN w9 (n9+n10) _)) hg8);have HR8:=Hyd hr8;have Hgo8:=Hyd hgo8;clear hr8 hg8 hgo8 HC9 HB9 HG9 HR9;obtain⟨k0,k1,k2,k3,k4,k5,k6,k7⟩:=cells4 HC8.out;obtain⟨j0,j1,j2,j3,j4,j5,j6,j7⟩:=cells4 HB8.out;go_wp2_with fail
      refine ret4_9 (HR8.out.set C 3 _ (by omega)) (grown_setNew HG8.out C 3 _ (by omega)) (blk_other HB8.out C 3 _ (by omega)) (by omega) (by omega) fun w9 hB9 hr9 hg9=>?_
      obtain⟨m0,m1,m2,m3,-,-,-,-⟩:=cells4 hB9;refine bodyPost_ret (by simp[results,Tryz.results59,go_sem,m0,m1,m2,m3];try rfl) rfl ?_;refine⟨⟨x1,x2,x3,-(k:Int)⟩,_,rfl,hr9,hg9,HGO4.out _ _ ?_⟩
      have hq:=Hgo8.out.bind (q:=fun k a3=>.inr (⟨x1,x2,x3,-(k:Int)⟩,a3)) (y:=(⟨x1,x2,x3,-(k:Int)⟩:Cnd)) (st2:=st8) (by
       rcases st8 with ⟨k',er',a'⟩ | a'
       ·exact⟨a',rfl⟩
       ·exact⟨rfl,rfl⟩)
      simp only[Goes]at hq ⊢
      rw[Hp.out];exact hq
     | false =>
      have HGO5:Hid (Goes st3 (fun a3=>pTl2 s.data.toList x1 x2 x3 a3) ⟨x1,x2,x3,0⟩ st3):=Hyd (by
       rcases st3 with ⟨k',er',a'⟩ | a3
       ·exact⟨a',rfl⟩
       ·have q3:pHas s.data.toList a3 43=false:=inB_has.symm.trans hb3;have q4:pHas s.data.toList a3 45=false:=inB_has.symm.trans hb4
        simp only[Goes,pTl2]
        rw[q3,q4]
        exact⟨rfl,rfl⟩)
      clear hb3 hb4;have HC8:=Hyd (show(w9.drewN (n9+n10)).heap[C]? = _ from HC9.out);have HB8:=Hyd (show(w9.drewN (n9+n10)).heap[B]? = _ from HB9.out);have HG8:=Hyd (grown_trans HG9.out (grown_drewN w9 (n9+n10) _));have HR8:=Hyd (HR9.out.drewN (n9+n10));clear HC9 HB9 HG9 HR9;obtain⟨k0,k1,k2,k3,k4,k5,k6,k7⟩:=cells4 HC8.out;obtain⟨j0,j1,j2,j3,j4,j5,j6,j7⟩:=cells4 HB8.out;go_wp2_with fail
      refine ret4_9 HR8.out HG8.out HB8.out (by omega) (by omega) fun w9 hB9 hr9 hg9=>?_
      obtain⟨m0,m1,m2,m3,-,-,-,-⟩:=cells4 hB9;refine bodyPost_ret (by simp[results,Tryz.results59,go_sem,m0,m1,m2,m3];try rfl) rfl ?_;refine⟨⟨x1,x2,x3,0⟩,_,rfl,hr9,hg9,HGO4.out _ _ HGO5.out⟩
end Go.Proofs.YtcojnojdgigmdaaGreatDoor.WP
