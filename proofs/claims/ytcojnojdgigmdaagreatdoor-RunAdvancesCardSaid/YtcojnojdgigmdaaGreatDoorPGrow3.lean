/- The order of all matches (layer 21), in plain Lean: what stands ahead, the rows in order; the document's sort. No program in sight. -/
import Derived.Test.YtcojnojdgigmdaaGreatDoorPGrow2
namespace Go.Proofs.YtcojnojdgigmdaaGreatDoor.PR
open Go PL Mem
structure Kid (p:RPlan) (l:List Ev) (m:Mt) (i s:Nat):Prop where
 le:fromM m<=i
 lt:i<l.length
 alive:∀ j,fromM m<=j->j<=i->aliveM p l m j=true
 two:s=lastS m \/ s=lastS m+1
 ok:kidOk p l m i s=true
inductive Val (p:RPlan) (l:List Ev):Mt->Prop
 | nil:Val p l []
 | snoc {m:Mt} (i s:Nat):Val p l m->Kid p l m i s->Val p l (m++[(i,s)])
inductive Ext (p:RPlan) (l:List Ev):Mt->Mt->Prop
 | refl (m:Mt):Ext p l m m
 | step {m m':Mt} (i s:Nat):Kid p l m i s->Ext p l (m++[(i,s)]) m' -> Ext p l m m'
theorem Ext.snoc {p:RPlan} {l:List Ev} {a b:Mt} (h:Ext p l a b) {i s:Nat} (hk:Kid p l b i s):Ext p l a (b++[(i,s)]):=by
 induction h with
 | refl m=>exact .step i s hk (.refl _)
 | step i' s' hk' _ ih=>exact .step i' s' hk' (ih hk)
theorem Val.ext {p:RPlan} {l:List Ev} {m:Mt} (h:Val p l m):Ext p l [] m:=by
 induction h with
 | nil=>exact .refl _
 | snoc i s _ hk ih=>exact ih.snoc hk
theorem Ext.val {p:RPlan} {l:List Ev} {a b:Mt} (h:Ext p l a b) (ha:Val p l a):Val p l b:=by
 induction h with
 | refl m=>exact ha
 | step i s hk _ ih=>exact ih (.snoc i s ha hk)
theorem Ext.pre {p:RPlan} {l:List Ev} {a b:Mt} (h:Ext p l a b):a <+: b:=by
 induction h with
 | refl m=>exact List.prefix_refl _
 | step i s _ _ ih=>exact(List.prefix_append _ _).trans ih
theorem Val.le {p:RPlan} {l:List Ev} {m:Mt} (h:Val p l m):fromM m<=l.length:=by
 cases h with
 | nil=>exact Nat.zero_le _
 | snoc i s _ hk=>rw[fromM_snoc];exact hk.lt
end Go.Proofs.YtcojnojdgigmdaaGreatDoor.PR
