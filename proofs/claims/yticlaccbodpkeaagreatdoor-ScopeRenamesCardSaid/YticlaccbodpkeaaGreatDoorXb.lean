/- Canonical runs: values and memories up to the names of blocks and the room behind slices. Over any program. -/
import Derived.WalkKit
import Derived.ProofKit
import Derived.Lib.Hide
import Derived.RangeFuncRecord
import Derived.Laws.Append
import Derived.Laws.Entries
import Derived.Laws.StructEq
import Derived.ChangeKeysEq
import Derived.Laws.MakeOwn
import Derived.Deep.DeepAppendWide
import Derived.Lib.UnsafeStr
import Derived.Lib.Builder
import Derived.MapKept
import Derived.Laws.BytesArg
import Derived.Laws.RangeString
import Derived.Lib.OthersKept
import Derived.Lib.ConvBytes
import Derived.CallsIn
import Derived.OrdersIn
import Derived.RangeFuncNested
namespace Go.Proofs.YticlaccbodpkeaaGreatDoor
namespace Can
open Go Go.RowKit
set_option linter.unusedSimpArgs false
set_option linter.unusedVariables false
inductive Kd where
 | ro | ex | gr
inductive Ent where
 | unborn | dead
 | live (b:Nat×Nat) (sz n:Nat) (k:Kd)
 | obj (b:Nat)
 | loop (b:Nat)
inductive VR(β:Nat→Ent):Value→Value→Prop where
 | undef (v':Value):VR β (.tuple #[]) v'
 | skip:VR β (.chan none) (.tuple #[])
 | bool (b:Bool):VR β (.bool b) (.bool b)
 | int (k:IntKind) (n:Int):VR β (.int k n) (.int k n)
 | float (k:FloatKind) (n:Nat):VR β (.float k n) (.float k n)
 | string (s:ByteArray):VR β (.string s) (.string s)
 | pnil:VR β (.pointer none) (.pointer none)
 | ptr {l o:Nat} {b:Nat×Nat} {sz n:Nat} {k:Kd} (h:β l= .live b sz n k):VR β (.pointer (some ⟨l,o,none⟩)) (.pointer (some ⟨b.1,o+b.2,none⟩))
 | pdead {l o:Nat} (a:Addr) (h:β l= .dead):VR β (.pointer (some ⟨l,o,none⟩)) (.pointer (some a))
 | snil:VR β (.slice none 0 0) (.slice none 0 0)
 | sl {l o:Nat} {b:Nat×Nat} {sz n m c c':Nat} {k:Kd} (h:β l= .live b sz n k) (h1:m≤c) (h2:c≤c') (h3:c'≤maxLen) (h4:k≠ .ro→o+b.2+c'*sz≤n) (h5:k≠ .gr→c'=c) :
    VR β (.slice (some ⟨l,o,none⟩) m c) (.slice (some ⟨b.1,o+b.2,none⟩) m c')
 | svoid (a:Addr):VR β (.slice (some ⟨0,0,some 0⟩) 0 0) (.slice (some a) 0 0)
 | sweird (a:Addr) (c:Nat):VR β (.slice (some ⟨0,0,some 1⟩) 0 0) (.slice (some a) 0 c)
 | sdead {l o m c c':Nat} (a:Addr) (h:β l= .dead) (h2:c≤c'):VR β (.slice (some ⟨l,o,none⟩) m c) (.slice (some a) m c')
 | szero {l o:Nat} {b:Nat×Nat} {sz n:Nat} {k:Kd} (a:Addr) (h:β l= .live b sz n k):VR β (.slice (some ⟨l,o,none⟩) 0 0) (.slice (some a) 0 0)
 | fnil:VR β .nilFunc .nilFunc
 | fn (f:FuncId) {xa bs:Array Value} (h:xa.size=bs.size) (hi : ∀i (h1:i<xa.size) (h2:i<bs.size),VR β xa[i] bs[i]):VR β (.func (.func f) #[] xa) (.func (.func f) #[] bs)
 | yld {l b:Nat} (h:β l= .loop b):VR β (.func (.yield l) #[] #[]) (.func (.yield b) #[] #[])
 | inil:VR β .nilIface .nilIface
 | iface (t:TypeId) {v v':Value} (h:VR β v v'):VR β (.iface t v) (.iface t v')
 | agg {xa bs:Array Value} (h:xa.size=bs.size) (hi : ∀i (h1:i<xa.size) (h2:i<bs.size),VR β xa[i] bs[i]):VR β (.agg xa) (.agg bs)
 | tuple {xa bs:Array Value} (h:xa.size=bs.size) (hi : ∀i (h1:i<xa.size) (h2:i<bs.size),VR β xa[i] bs[i]):VR β (.tuple xa) (.tuple bs)
 | mnil:VR β (.map none) (.map none)
 | map {l b:Nat} (h:β l= .obj b):VR β (.map (some l)) (.map (some b))
 | iter {l b:Nat} (h:β l= .obj b):VR β (.chan (some l)) (.pointer (some ⟨b,0,none⟩))
def EntExt(β β':Nat→Ent):Prop:=∀l,β' l=β l∨β l= .unborn∨(∃b sz n k,β l= .live b sz n k∧β' l= .dead)
theorem EntExt.refl(β:Nat→Ent):EntExt β β:=fun _=> .inl rfl
theorem EntExt.trans{a b c:Nat→Ent}(h:EntExt a b)(k:EntExt b c):EntExt a c:=fun l=>by
 rcases h l with h | h | ⟨b1,sz,n,k1,h,h'⟩
 ·rcases k l with k | k | ⟨b1,sz,n,k1,k,k'⟩
  ·exact .inl (k.trans h)
  ·exact .inr (.inl (h▸k))
  ·exact .inr (.inr ⟨b1,sz,n,k1,h▸k,k'⟩)
 ·exact .inr (.inl h)
 ·rcases k l with k | k | ⟨b2,sz2,n2,k2,k,k'⟩
  ·exact .inr (.inr ⟨b1,sz,n,k1,h,k.trans h'⟩)
  ·rw[h'] at k;cases k
  ·rw[h'] at k;cases k
theorem VR.mono{β β':Nat→Ent}(hx:EntExt β β'){v v':Value}(h:VR β v v'):VR β' v v':=by
 induction h with
 | undef v'=>exact .undef v'
 | skip=>exact .skip
 | bool b=>exact .bool b
 | int k n=>exact .int k n
 | float k n=>exact .float k n
 | string s=>exact .string s
 | pnil=>exact .pnil
 | @ptr l o b sz n k h=>
   rcases hx l with e | e | ⟨_,_,_,_,_,e⟩
   ·exact .ptr (e.trans h)
   ·rw[h] at e;cases e
   ·exact .pdead _ e
 | @pdead l o a h=>
   rcases hx l with e | e | ⟨_,_,_,_,e,_⟩
   ·exact .pdead a (e.trans h)
   ·rw[h] at e;cases e
   ·rw[h] at e;cases e
 | snil=>exact .snil
 | @sl l o b sz n m c c' k h h1 h2 h3 h4 h5=>
   rcases hx l with e | e | ⟨_,_,_,_,_,e⟩
   ·exact .sl (e.trans h) h1 h2 h3 h4 h5
   ·rw[h] at e;cases e
   ·exact .sdead _ e h2
 | svoid a=>exact .svoid a
 | sweird a c=>exact .sweird a c
 | @sdead l o m c c' a h h2=>
   rcases hx l with e | e | ⟨_,_,_,_,e,_⟩
   ·exact .sdead a (e.trans h) h2
   ·rw[h] at e;cases e
   ·rw[h] at e;cases e
 | @szero l o b sz n k a h=>
   rcases hx l with e | e | ⟨_,_,_,_,_,e⟩
   ·exact .szero a (e.trans h)
   ·rw[h] at e;cases e
   ·exact .sdead a e (Nat.le_refl _)
 | fnil=>exact .fnil
 | fn f h hi ih=>exact .fn f h ih
 | @yld l b h=>
   rcases hx l with e | e | ⟨_,_,_,_,e,_⟩
   ·exact .yld (e.trans h)
   ·rw[h] at e;cases e
   ·rw[h] at e;cases e
 | inil=>exact .inil
 | iface t h ih=>exact .iface t ih
 | agg h hi ih=>exact .agg h ih
 | tuple h hi ih=>exact .tuple h ih
 | mnil=>exact .mnil
 | @map l b h=>
   rcases hx l with e | e | ⟨_,_,_,_,e,_⟩
   ·exact .map (e.trans h)
   ·rw[h] at e;cases e
   ·rw[h] at e;cases e
 | @iter l b h=>
   rcases hx l with e | e | ⟨_,_,_,_,e,_⟩
   ·exact .iter (e.trans h)
   ·rw[h] at e;cases e
   ·rw[h] at e;cases e
def VRs (β:Nat→Ent)(xa bs:List Value):Prop:=xa.length=bs.length∧∀(i:Nat) (v:Value),xa[i]? = some v→∃v',bs[i]? = some v'∧VR β v v'
theorem VRs.mono{β β':Nat→Ent}(hx:EntExt β β'){xa bs:List Value}(h:VRs β xa bs):VRs β' xa bs:=
 ⟨h.1,fun i v hv=>let ⟨v',h1,h2⟩:=h.2 i v hv;⟨v',h1,h2.mono hx⟩⟩
theorem VRs.nil(β:Nat→Ent):VRs β [] []:=⟨rfl,fun i v h=>by simp at h⟩
theorem VRs.cons{β:Nat→Ent}{a b:Value}{xa bs:List Value}(h:VR β a b)(hs:VRs β xa bs):VRs β (a::xa) (b::bs):=by
 refine⟨by simp[hs.1],fun i v hv=> ?_⟩
 cases i with
 | zero=>simp at hv;subst hv;exact⟨b,rfl,h⟩
 | succ i=>simpa using hs.2 i v (by simpa using hv)
theorem VRs.append{β:Nat→Ent}{xa bs cs ds:List Value}(h:VRs β xa bs)(k:VRs β cs ds):VRs β (xa++cs) (bs++ds):=by
 refine⟨by simp[h.1,k.1],fun i v hv=> ?_⟩
 by_cases hi:i<xa.length
 ·rw[List.getElem?_append_left hi] at hv
  obtain⟨v',h1,h2⟩:=h.2 i v hv
  exact⟨v',by rw[List.getElem?_append_left (by have:=h.1;omega)];exact h1,h2⟩
 ·rw[List.getElem?_append_right (by omega)] at hv
  obtain⟨v',h1,h2⟩:=k.2 _ v hv
  exact⟨v',by rw[List.getElem?_append_right (by have:=h.1;omega),←h.1];exact h1,h2⟩
theorem VRs.arr{β:Nat→Ent}{xa bs:Array Value}:VRs β xa.toList bs.toList↔xa.size=bs.size∧∀i (h1:i<xa.size) (h2:i<bs.size),VR β xa[i] bs[i]:=by
 constructor
 ·rintro⟨h1,h2⟩
  refine⟨by simpa using h1,fun i hi hj=> ?_⟩
  obtain⟨v',h3,h4⟩:=h2 i xa[i] (by simp[hi])
  simp[hj] at h3;rw[h3];exact h4
 ·rintro⟨h1,h2⟩
  refine⟨by simpa using h1,fun i v hv=> ?_⟩
  obtain⟨hi,rfl⟩:=List.getElem?_eq_some_iff.1 hv
  have hi':i<xa.size:=by simpa using hi
  exact⟨bs[i]'(by omega),by simp,by simpa using h2 i hi' (by omega)⟩
def isVal:Value→Bool
 | .tuple _=>false
 | .chan _=>false
 | _=>true
def isCell:Value→Bool
 | .tuple _=>false
 | .agg _=>false
 | .chan _=>false
 | _=>true
theorem VR.cells{β:Nat→Ent}{v v':Value}(h:VR β v v')(hv:isVal v=true):VRs β v.cells.toList v'.cells.toList:=by
 cases h with
 | agg h hi=>exact VRs.arr.2 ⟨h,hi⟩
 | undef=>cases hv
 | skip=>cases hv
 | tuple=>cases hv
 | bool b=>exact VRs.cons (.bool b) (VRs.nil β)
 | int k n=>exact VRs.cons (.int k n) (VRs.nil β)
 | float k n=>exact VRs.cons (.float k n) (VRs.nil β)
 | string s=>exact VRs.cons (.string s) (VRs.nil β)
 | pnil=>exact VRs.cons .pnil (VRs.nil β)
 | ptr h=>exact VRs.cons (.ptr h) (VRs.nil β)
 | pdead a h=>exact VRs.cons (.pdead a h) (VRs.nil β)
 | snil=>exact VRs.cons .snil (VRs.nil β)
 | sl h h1 h2 h3 h4 h5=>exact VRs.cons (.sl h h1 h2 h3 h4 h5) (VRs.nil β)
 | svoid a=>exact VRs.cons (.svoid a) (VRs.nil β)
 | sweird a c=>exact VRs.cons (.sweird a c) (VRs.nil β)
 | sdead a h h2=>exact VRs.cons (.sdead a h h2) (VRs.nil β)
 | szero a h=>exact VRs.cons (.szero a h) (VRs.nil β)
 | fnil=>exact VRs.cons .fnil (VRs.nil β)
 | fn f h hi=>exact VRs.cons (.fn f h hi) (VRs.nil β)
 | yld h=>exact VRs.cons (.yld h) (VRs.nil β)
 | inil=>exact VRs.cons .inil (VRs.nil β)
 | iface t h=>exact VRs.cons (.iface t h) (VRs.nil β)
 | mnil=>exact VRs.cons .mnil (VRs.nil β)
 | map h=>exact VRs.cons (.map h) (VRs.nil β)
 | iter=>cases hv
theorem VR.isCell{β:Nat→Ent}{v v':Value}(h:VR β v v')(hv:isCell v=true):Can.isCell v'=true:=by
 cases h<;>first | rfl | cases hv
inductive CObj where
 | unborn | dead
 | cells (cs:List Value) (e:TypeId) (k:Kd)
 | map (es:Array MapEntry) (clock:Nat)
 | siter (s:ByteArray) (pos:Nat)
 | miter (m:Nat)
 | fm (f:ByteArray→Option Int) (k:Nat)
 | loop (st:LoopState) (pend:Option (Option Nat)) (fr:Nat→Value) (key:Nat×Nat)
structure CH where
 nx:Nat
 ob:Nat→CObj
def CH.set(H:CH)(l:Nat)(o:CObj):CH:= { H with ob:=fun k=>if k=l then o else H.ob k }
def CH.new(H:CH)(o:CObj):CH:= { nx:=H.nx+1,ob:=fun k=>if k=H.nx then o else H.ob k }
def upd (β:Nat→Ent)(l:Nat)(e:Ent):Nat→Ent:=fun k=>if k=l then e else β k
theorem upd_same{β:Nat→Ent}{l:Nat}{e:Ent}:upd β l e l=e:=by simp[upd]
theorem upd_other{β:Nat→Ent}{l k:Nat}{e:Ent}(h:k≠l):upd β l e k=β k:=by simp[upd,h]
def FrOk (n:Nat)(fr:Nat×Nat):Prop:=fr.1=fr.2∨n≤fr.1
theorem FrOk.no{n:Nat}{fr:Nat×Nat}(h:FrOk n fr) : ∀i,i<n→(decide (fr.1≤i)&&decide (i<fr.2))=false:=fun i hi=>by
 rcases h with h | h
 ·by_cases h2:fr.1≤i
  ·simp;omega
  ·simp[h2]
 ·have : ¬fr.1≤i:=by omega
  simp[this]
def Live (P:Program)(B:Nat)(β:Nat→Ent)(w:World)(b:Nat×Nat)(sz n:Nat)(k:Kd)(cs:List Value)(e:TypeId):Prop:=
 ∃(cs':Array Value) (e':TypeId) (fr:Nat×Nat),w.heap[b.1]? = some (.cells cs' e' fr)∧cs'.size=n∧cs.length+b.2≤n∧
  (∀(i:Nat) (v:Value),cs[i]? = some v→∃v',cs'[i+b.2]? = some v'∧VR β v v')∧(k≠ .ro→(P.info? e).map (·.size)=some sz)∧
  (k≠ .ro→e'=e∧B≤b.1∧FrOk n fr)∧(k= .ro→b.1<B∧cs.length=n)∧(k= .ex→cs.length+b.2=n∧b.2=0)
def MapRel(β:Nat→Ent)(w:World)(b:Nat)(es:Array MapEntry)(clock:Nat):Prop:=
 ∃es':Array MapEntry,w.heap[b]? = some (.map es' clock)∧es'.size=es.size∧
  ∀i (h:i<es.size) (h':i<es'.size),VR β es[i].key es'[i].key∧VR β es[i].val es'[i].val∧es'[i].born=es[i].born
def FmRel(w:World)(b:Nat)(f:ByteArray→Option Int)(k:Nat):Prop:=
 ∃(es:Array MapEntry) (clock:Nat),w.heap[b]? = some (.map es clock)∧(∀e∈es.toList,∃s n,e.key= .string s∧e.val= .int .i64 n∧s.size≤maxLen∧(Lit.int .i64 n).wf=true)∧es.toList.Pairwise (fun x y=>x.key≠y.key)∧
  (∀e∈es.toList,∀s n,e.key= .string s→e.val= .int .i64 n→f s=some n)∧(∀s n,f s=some n→∃e∈es.toList,e.key= .string s∧e.val= .int .i64 n)∧
  es.size≤k∧k≤maxLen∧(∀e∈es.toList,e.born<clock)∧es.toList.Pairwise (fun x y=>x.born≠y.born)
def loopsOf:Code→List (Array Tmp×Code×Code)
 | .seq a b | .cond _ a b=>loopsOf a++loopsOf b
 | .block _ c | .loop c | .scope c=>loopsOf c
 | .rangeFunc _ ps a b=>(ps,a,b)::(loopsOf a++loopsOf b)
 | _=> []
def keyOf(P:Program)(key:Nat×Nat):Option (Nat×Array Tmp×Code×Code):=
 match P.funcs[key.1]? with
 | some fn=>match fn.body with
   | some c=>((loopsOf c)[key.2]?).map fun x=>(fn.ntmps,x)
   | none=>none
 | none=>none
def pendC:Option Nat→Code
 | none=> .ret
 | some i=> .exit i
def LoopRel(P:Program)(β:Nat→Ent)(w:World)(b:Nat)(st:LoopState)(pend:Option (Option Nat))(fr:Nat→Value)(key:Nat×Nat):Prop:=
 ∃(r:Loop) (N:Nat),w.heap[b]? = some (.loop r)∧r.state=st∧r.pending=pend.map pendC∧keyOf P key=some (N,r.params,r.assign,r.body)∧N≤r.tmps.size∧∀t,VR β (fr t) (r.tmps.getD t undef)
def EntRel(P:Program)(B:Nat)(β:Nat→Ent)(w:World):Ent→CObj→Prop
 | .unborn, .unborn=>True
 | .dead, .dead=>True
 | .live b sz n k, .cells cs e k'=>k=k'∧Live P B β w b sz n k cs e
 | .obj b, .map es clock=>B≤b∧MapRel β w b es clock
 | .obj b, .siter s pos=>B≤b∧w.heap[b]? = some (.stringIter s pos)
 | .obj b, .fm f k=>B≤b∧FmRel w b f k
 | .obj b, .miter m=>B≤b∧∃(b' since last:Nat) (seen:Array Nat),β m= .obj b'∧w.heap[b]? = some (.mapIter (some b') since seen last)
 | .loop b, .loop st pend fr key=>B≤b∧LoopRel P β w b st pend fr key
 | _,_=>False
def Ent.owns:Ent→Nat→Prop
 | .live b _ _ k,b'=>k≠ .ro∧b.1=b'
 | .obj b,b'=>b=b'
 | .loop b,b'=>b=b'
 | _,_=>False
def RoId (β:Nat→Ent):Prop:=∀l b sz n,β l= .live b sz n .ro→b=(l,0)
theorem RoId.upd{β:Nat→Ent}(h:RoId β){l:Nat}{E:Ent}(hE : ∀b sz n,E≠ .live b sz n .ro):RoId (upd β l E):=fun k b sz n e=>by
 by_cases hk:k=l
 ·subst hk;rw[upd_same] at e;exact absurd e (hE b sz n)
 ·rw[upd_other hk] at e;exact h k b sz n e
structure Sim(P:Program)(B:Nat)(β:Nat→Ent)(H:CH)(w:World):Prop where
 ent : ∀l,EntRel P B β w (β l) (H.ob l)
 nx : ∀l,H.nx≤l→H.ob l= .unborn
 inj : ∀l l' b,(β l).owns b→(β l').owns b→l=l'
 base:B≤w.heap.size
 ro:RoId β
def Out (β:Nat→Ent)(b:Nat):Prop:=∀l,¬(β l).owns b
structure Evo(β:Nat→Ent)(w:World)(β':Nat→Ent)(w':World):Prop where
 os:w'.os=w.os
 tape:w'.tape=w.tape
 output:w'.output=w.output
 size:w.heap.size≤w'.heap.size
 keep : ∀b,b<w.heap.size→Out β b→w'.heap[b]? = w.heap[b]? ∧Out β' b
 ext:EntExt β β'
theorem Evo.refl(β:Nat→Ent)(w:World):Evo β w β w:=⟨rfl,rfl,rfl,Nat.le_refl _,fun _ _ h=>⟨rfl,h⟩,EntExt.refl β⟩
theorem Evo.trans{β β' β'':Nat→Ent}{w w' w'':World}(h:Evo β w β' w')(k:Evo β' w' β'' w''):Evo β w β'' w'':=
 ⟨k.os.trans h.os,k.tape.trans h.tape,k.output.trans h.output,Nat.le_trans h.size k.size,fun b hb ho=>by
   obtain⟨h1,h2⟩:=h.keep b hb ho
   obtain⟨k1,k2⟩:=k.keep b (Nat.lt_of_lt_of_le hb h.size) h2
   exact⟨k1.trans h1,k2⟩,h.ext.trans k.ext⟩
theorem Sim.unborn{P:Program}{B:Nat}{β:Nat→Ent}{H:CH}{w:World}(h:Sim P B β H w):β H.nx= .unborn:=by
 have h1:=h.ent H.nx
 rw[h.nx _ (Nat.le_refl _)] at h1
 cases hb:β H.nx<;>rw[hb] at h1<;>first | rfl | exact h1.elim
theorem Sim.live{P:Program}{B:Nat}{β:Nat→Ent}{H:CH}{w:World}(h:Sim P B β H w){l:Nat}{b:Nat×Nat}{sz n:Nat}{k:Kd}(hl:β l= .live b sz n k) :
 ∃cs e,H.ob l= .cells cs e k∧Live P B β w b sz n k cs e:=by
 have h1:=h.ent l
 rw[hl] at h1
 cases ho:H.ob l with
 | cells cs e k'=>rw[ho] at h1;obtain⟨rfl,h2⟩:=h1;exact⟨cs,e,rfl,h2⟩
 | _=>rw[ho] at h1;exact h1.elim
theorem Sim.cells{P:Program}{B:Nat}{β:Nat→Ent}{H:CH}{w:World}(h:Sim P B β H w){l:Nat}{cs:List Value}{e:TypeId}{k:Kd}(ho:H.ob l= .cells cs e k) :
 ∃b sz n,β l= .live b sz n k∧Live P B β w b sz n k cs e:=by
 have h1:=h.ent l
 rw[ho] at h1
 cases hb:β l with
 | live b sz n k'=>rw[hb] at h1;obtain⟨rfl,h2⟩:=h1;exact⟨b,sz,n,rfl,h2⟩
 | _=>rw[hb] at h1;exact h1.elim
theorem Live.mono{P:Program}{B:Nat}{β β':Nat→Ent}{w w':World}{b:Nat×Nat}{sz n:Nat}{k:Kd}{cs:List Value}{e:TypeId}(h:Live P B β w b sz n k cs e)(hx:EntExt β β')(hw:w'.heap[b.1]? = w.heap[b.1]?) :
 Live P B β' w' b sz n k cs e:=by
 obtain⟨cs',e',fr,h1,h2,h3,h4,h5⟩:=h
 exact⟨cs',e',fr,hw.trans h1,h2,h3,fun i v hv=>let ⟨v',a,b⟩:=h4 i v hv;⟨v',a,b.mono hx⟩,h5⟩
theorem MapRel.mono{β β':Nat→Ent}{w w':World}{b:Nat}{es:Array MapEntry}{c:Nat}(h:MapRel β w b es c)(hx:EntExt β β')(hw:w'.heap[b]? = w.heap[b]?):MapRel β' w' b es c:=by
 obtain⟨es',h1,h2,h3⟩:=h
 exact⟨es',hw.trans h1,h2,fun i hi hj=>let ⟨a,b,c⟩:=h3 i hi hj;⟨a.mono hx,b.mono hx,c⟩⟩
theorem LoopRel.mono{P:Program}{β β':Nat→Ent}{w w':World}{b:Nat}{st:LoopState}{pend:Option (Option Nat)}{fr:Nat→Value}{key:Nat×Nat}(h:LoopRel P β w b st pend fr key)(hx:EntExt β β')(hw:w'.heap[b]? = w.heap[b]?):LoopRel P β' w' b st pend fr key:=by
 obtain⟨r,N,h1,h2,h3,h4,h5,h6⟩:=h
 exact⟨r,N,hw.trans h1,h2,h3,h4,h5,fun t=>(h6 t).mono hx⟩
theorem EntRel.mono{P:Program}{B:Nat}{β β':Nat→Ent}{w w':World}{E:Ent}{o:CObj}(h:EntRel P B β w E o)(hx:EntExt β β')(hw : ∀b,(∃z sz n k,E= .live (b,z) sz n k)∨E= .obj b∨E= .loop b→w'.heap[b]? = w.heap[b]?) :
 EntRel P B β' w' E o:=by
 cases E<;>cases o<;>try exact h
 ·exact⟨h.1,h.2.mono hx (hw _ (.inl ⟨_,_,_,_,rfl⟩))⟩
 ·exact⟨h.1,h.2.mono hx (hw _ (.inr (.inl rfl)))⟩
 ·exact⟨h.1,(hw _ (.inr (.inl rfl))).trans h.2⟩
 ·obtain⟨h1,b',since,last,seen,h2,h3⟩:=h
  refine⟨h1,b',since,last,seen,?_,(hw _ (.inr (.inl rfl))).trans h3⟩
  rcases hx _ with g | g | ⟨_,_,_,_,g,_⟩
  ·exact g.trans h2
  ·rw[h2] at g;cases g
  ·rw[h2] at g;cases g
 ·obtain⟨h1,es,c,h2,h3⟩:=h
  exact⟨h1,es,c,(hw _ (.inr (.inl rfl))).trans h2,h3⟩
 ·exact⟨h.1,h.2.mono hx (hw _ (.inr (.inr rfl)))⟩
theorem Sim.load{P:Program}{B:Nat}{β:Nat→Ent}{H:CH}{w:World}(h:Sim P B β H w){l o:Nat}{v':Value}{cs:List Value}{e:TypeId}{k:Kd}
 (hp:VR β (.pointer (some ⟨l,o,none⟩)) v') (ho:H.ob l= .cells cs e k) :
 ∃b z,v'= .pointer (some ⟨b,o+z,none⟩)∧∀(i:Nat) (v:Value),cs[i]? = some v→∃u,w.cell? ⟨b,i+z,none⟩=some u∧VR β v u:=by
 obtain⟨b,sz,n,hb,cs',e',fr,h1,h2,h3,h4,h5⟩:=h.cells ho
 cases hp with
 | pdead a hd=>rw[hb] at hd;cases hd
 | ptr hl=>
   rw[hb] at hl
   cases hl
   refine⟨b.1,b.2,rfl,fun i v hv=> ?_⟩
   obtain⟨u,hu,hr⟩:=h4 i v hv
   exact⟨u,by simp[World.cell?,h1,hu],hr⟩
theorem owns_ge{P:Program}{B:Nat}{β:Nat→Ent}{H:CH}{w:World}(h:Sim P B β H w){l b:Nat}(ho:(β l).owns b):B≤b∧b<w.heap.size:=by
 have h1:=h.ent l
 cases hb:β l with
 | live b' sz n k=>
   rw[hb] at ho
   obtain⟨hk,rfl⟩:=ho
   obtain⟨cs,e,_,cs',e',fr,h1,_,_,_,_,h5,_⟩:=h.live hb
   exact⟨(h5 hk).2.1,(Array.getElem?_eq_some_iff.1 h1).1⟩
 | obj b'=>
   rw[hb] at ho h1
   cases ho
   cases hob:H.ob l with
   | map es c=>
     rw[hob] at h1
     obtain⟨es',h2,_⟩:=h1.2
     exact⟨h1.1,(Array.getElem?_eq_some_iff.1 h2).1⟩
   | siter s pos=>
     rw[hob] at h1
     exact⟨h1.1,(Array.getElem?_eq_some_iff.1 h1.2).1⟩
   | fm f k=>
     rw[hob] at h1
     obtain⟨h0,_,_,h3,_⟩:=h1
     exact⟨h0,(Array.getElem?_eq_some_iff.1 h3).1⟩
   | miter m=>
     rw[hob] at h1
     obtain⟨h0,_,_,_,_,_,h3⟩:=h1
     exact⟨h0,(Array.getElem?_eq_some_iff.1 h3).1⟩
   | _=>rw[hob] at h1;exact h1.elim
 | loop b'=>
   rw[hb] at ho h1
   cases ho
   cases hob:H.ob l with
   | loop st pend fr key=>
     rw[hob] at h1
     obtain⟨r,N,h2,_⟩:=h1.2
     exact⟨h1.1,(Array.getElem?_eq_some_iff.1 h2).1⟩
   | _=>rw[hob] at h1;exact h1.elim
 | _=>rw[hb] at ho;exact ho.elim
theorem live_lt{P:Program}{B:Nat}{β:Nat→Ent}{H:CH}{w:World}(h:Sim P B β H w){l:Nat}{b:Nat×Nat}{sz n:Nat}{k:Kd}(hb:β l= .live b sz n k):b.1<w.heap.size:=by
 obtain⟨cs,e,_,cs',e',fr,h1,_⟩:=h.live hb
 exact(Array.getElem?_eq_some_iff.1 h1).1
theorem obj_lt{P:Program}{B:Nat}{β:Nat→Ent}{H:CH}{w:World}(h:Sim P B β H w){l b:Nat}(hb:β l= .obj b):b<w.heap.size:=
 (owns_ge h (l:=l) (b:=b) (by rw[hb];rfl)).2
theorem loop_lt{P:Program}{B:Nat}{β:Nat→Ent}{H:CH}{w:World}(h:Sim P B β H w){l b:Nat}(hb:β l= .loop b):b<w.heap.size:=
 (owns_ge h (l:=l) (b:=b) (by rw[hb];rfl)).2
theorem at_lt{P:Program}{B:Nat}{β:Nat→Ent}{H:CH}{w:World}(h:Sim P B β H w){l b:Nat}(hb:(∃z sz n k,β l= .live (b,z) sz n k)∨β l= .obj b∨β l= .loop b):b<w.heap.size:=by
 rcases hb with ⟨z,sz,n,k,hb⟩ | hb | hb
 ·exact live_lt h hb
 ·exact obj_lt h hb
 ·exact loop_lt h hb
theorem live_apart{P:Program}{B:Nat}{β:Nat→Ent}{H:CH}{w:World}(h:Sim P B β H w){l l':Nat}{b:Nat×Nat}{sz n:Nat}{k:Kd}(hb:β l= .live b sz n k)(hk:k≠ .ro){b':Nat}
 (hl:(∃z sz n k,β l'= .live (b',z) sz n k)∨β l'= .obj b'∨β l'= .loop b') (hne:l'≠l):b'≠b.1:=by
 intro he
 have ho:(β l).owns b':=by rw[hb];exact⟨hk,he.symm⟩
 have hge:=(owns_ge h ho).1
 rcases hl with ⟨z',sz',n',k',hl⟩ | hl | hl
 ·by_cases hk':k'= .ro
  ·obtain⟨cs,e,_,cs',e',fr,_,_,_,_,_,_,h6,_⟩:=h.live hl
   have:b'<B:=(h6 hk').1
   omega
  ·exact hne (h.inj _ _ b' (by rw[hl];exact⟨hk',rfl⟩) ho)
 ·exact hne (h.inj _ _ b' (by rw[hl];rfl) ho)
 ·exact hne (h.inj _ _ b' (by rw[hl];rfl) ho)
theorem Sim.store{P:Program}{B:Nat}{β:Nat→Ent}{H:CH}{w:World}(h:Sim P B β H w){l o:Nat}{b:Nat×Nat}{sz n:Nat}{cs:List Value}{e:TypeId}{k:Kd}(hb:β l= .live b sz n k)(ho:H.ob l= .cells cs e k)(hk:k≠ .ro)
 (hlt:o<cs.length) {u u':Value} (hu:VR β u u') :
 (∃x,w.cell? ⟨b.1,o+b.2,none⟩=some x)∧w.frozen? ⟨b.1,o+b.2,none⟩=false∧Sim P B β (H.set l (.cells (cs.set o u) e k)) (w.setCell ⟨b.1,o+b.2,none⟩ u')∧Evo β w β (w.setCell ⟨b.1,o+b.2,none⟩ u'):=by
 obtain⟨cs0,e0,ho0,cs',e',fr,h1,h2,h3,h4,h5,h6,h7,h8⟩:=h.live hb
 rw[ho] at ho0
 cases ho0
 have hheap:(w.setCell ⟨b.1,o+b.2,none⟩ u').heap[b.1]? = some (.cells (cs'.setIfInBounds (o+b.2) u') e' fr):=by
  simp[World.setCell,Array.getElem?_modify,h1]
 have hother : ∀b',b'≠b.1→(w.setCell ⟨b.1,o+b.2,none⟩ u').heap[b']? = w.heap[b']? :=fun b' hne=>Below.heap_setCell _ _ _ _ hne
 refine⟨⟨cs'[o+b.2]'(by omega),by simp[World.cell?,h1]⟩,?_,⟨fun l'=> ?_,fun l' hl=> ?_,h.inj,by simpa using h.base,h.ro⟩,⟨rfl,rfl,rfl,by simp,fun b' hb' hout=>⟨hother b' ?_,hout⟩,EntExt.refl β⟩⟩
 ·have:=(h6 hk).2.2.no (o+b.2) (by omega)
  simp only[World.frozen?,h1]
  exact this
 ·by_cases hl:l'=l
  ·subst hl
   simp only[CH.set,if_true,hb]
   refine⟨rfl,cs'.setIfInBounds (o+b.2) u',e',fr,hheap,by simpa using h2,by simpa using h3,fun i v hv=> ?_,h5,h6,by simpa using h7,by simpa using h8⟩
   by_cases hi:i=o
   ·subst hi
    rw[List.getElem?_set_self (by omega)] at hv
    cases hv
    exact⟨u',by simp[Array.getElem?_setIfInBounds_self];omega,hu⟩
   ·rw[List.getElem?_set_ne (by omega)] at hv
    obtain⟨v',a,b⟩:=h4 i v hv
    exact⟨v',by rw[Array.getElem?_setIfInBounds_ne (by omega)];exact a,b⟩
  ·simp only[CH.set,if_neg hl]
   exact(h.ent l').mono (EntExt.refl β) fun b' hb'=>hother b' (live_apart h hb hk hb' hl)
 ·have:l'≠l:=fun e=>by subst e;rw[h.nx _ hl] at ho;cases ho
  simp only[CH.set,if_neg this]
  exact h.nx _ hl
 ·intro he
  exact hout l (by rw[hb];exact⟨hk,he.symm⟩)
theorem Sim.alloc{P:Program}{B:Nat}{β:Nat→Ent}{H:CH}{w:World}(h:Sim P B β H w){cs:List Value}{cs':Array Value}{e:TypeId}{sz:Nat}(k:Kd)(hk:k≠ .ro)(he:(P.info? e).map (·.size)=some sz)
 (hl:cs.length≤cs'.size) (hx:k= .ex→cs.length=cs'.size) (hc : ∀(i:Nat) (v:Value),cs[i]? = some v→∃v',cs'[i]? = some v'∧VR β v v')
 {fr:Nat×Nat} (hfr:FrOk cs'.size fr) {w':World} (hw:w'.heap=w.heap.push (.cells cs' e fr)) (hos:w'.os=w.os) (htp:w'.tape=w.tape) (hout:w'.output=w.output) :
 Sim P B (upd β H.nx (.live (w.heap.size,0) sz cs'.size k)) (H.new (.cells cs e k)) w'∧Evo β w (upd β H.nx (.live (w.heap.size,0) sz cs'.size k)) w':=by
 have hun:=h.unborn
 have hext:EntExt β (upd β H.nx (.live (w.heap.size,0) sz cs'.size k)):=fun l=>by
  by_cases hl:l=H.nx
  ·subst hl;exact .inr (.inl hun)
  ·exact .inl (upd_other hl)
 have hold : ∀b,b<w.heap.size→w'.heap[b]? = w.heap[b]? :=fun b hb=>by rw[hw,Array.getElem?_push,if_neg (by omega)]
 have hnew:w'.heap[w.heap.size]? = some (.cells cs' e fr):=by rw[hw];simp
 have hsz:w'.heap.size=w.heap.size+1:=by rw[hw];simp
 refine⟨⟨fun l=> ?_,fun l hl=> ?_,fun l l' b ho ho'=> ?_,by rw[hsz];exact Nat.le_succ_of_le h.base,h.ro.upd fun _ _ _ e=>(by cases e;exact hk rfl)⟩,⟨hos,htp,hout,by omega,fun b hb hout=>⟨hold b hb,fun l ho=> ?_⟩,hext⟩⟩
 ·by_cases hl':l=H.nx
  ·subst hl'
   simp only[upd_same,CH.new,if_true]
   exact⟨rfl,cs',e,fr,hnew,rfl,by simpa using hl,fun i v hv=>let ⟨v',a,b⟩:=hc i v hv;⟨v',by simpa using a,b.mono hext⟩,fun _=>he,fun _=>⟨rfl,h.base,hfr⟩,fun e=>absurd e hk,fun e=>⟨by simpa using hx e,rfl⟩⟩
  ·simp only[upd_other hl',CH.new,if_neg hl']
   refine(h.ent l).mono hext fun b hb=>hold b ?_
   exact at_lt h hb
 ·have:l≠H.nx:=by simp[CH.new] at hl;omega
  simp only[CH.new,if_neg this]
  exact h.nx l (by simp[CH.new] at hl;omega)
 ·by_cases h1:l=H.nx<;>by_cases h2:l'=H.nx
  ·rw[h1,h2]
  ·subst h1
   rw[upd_same] at ho
   rw[upd_other h2] at ho'
   have:=(owns_ge h ho').2
   have:=ho.2;omega
  ·subst h2
   rw[upd_same] at ho'
   rw[upd_other h1] at ho
   have:=(owns_ge h ho).2
   have:=ho'.2;omega
  ·rw[upd_other h1] at ho
   rw[upd_other h2] at ho'
   exact h.inj _ _ b ho ho'
 ·by_cases h1:l=H.nx
  ·subst h1
   rw[upd_same] at ho
   have:=ho.2;omega
  ·rw[upd_other h1] at ho
   exact hout l ho
end Can
end Go.Proofs.YticlaccbodpkeaaGreatDoor
namespace Go.Proofs.YticlaccbodpkeaaGreatDoor
namespace Can
open Go Go.RowKit
set_option linter.unusedSimpArgs false
set_option linter.unusedVariables false
variable {P:Program} {B:Nat}
theorem Sim.drew{β:Nat→Ent}{H:CH}{w:World}(h:Sim P B β H w):Sim P B β H w.drew∧Evo β w β w.drew:=
 ⟨⟨fun l=>(h.ent l).mono (EntExt.refl β) fun b _=>rfl,h.nx,h.inj,h.base,h.ro⟩,⟨rfl,rfl,rfl,Nat.le_refl _,fun _ _ ho=>⟨rfl,ho⟩,EntExt.refl β⟩⟩
theorem Sim.kill{β:Nat→Ent}{H:CH}{w:World}(h:Sim P B β H w){l:Nat}{b:Nat×Nat}{sz n:Nat}{k:Kd}(hb:β l= .live b sz n k) :
 Sim P B (upd β l .dead) (H.set l .dead) w∧Evo β w (upd β l .dead) w:=by
 have hext:EntExt β (upd β l .dead):=fun l'=>by
  by_cases e:l'=l
  ·subst e;exact .inr (.inr ⟨b,sz,n,k,hb,upd_same⟩)
  ·exact .inl (upd_other e)
 refine⟨⟨fun l'=> ?_,fun l' hl=> ?_,fun l1 l2 b' h1 h2=> ?_,h.base,h.ro.upd fun _ _ _ e=>(by cases e)⟩,⟨rfl,rfl,rfl,Nat.le_refl _,fun b' hb' ho=>⟨rfl,fun l' h1=> ?_⟩,hext⟩⟩
 ·by_cases e:l'=l
  ·subst e;simp only[upd_same,CH.set,if_true];trivial
  ·simp only[upd_other e,CH.set,if_neg e]
   exact(h.ent l').mono hext fun _ _=>rfl
 ·have:l'≠l:=fun e=>by
   subst e
   obtain⟨cs,e,ho,_⟩:=h.live hb
   rw[h.nx _ hl] at ho;cases ho
  simp only[CH.set,if_neg this]
  exact h.nx _ hl
 ·have e1:l1≠l:=fun e=>by subst e;rw[upd_same] at h1;exact h1
  have e2:l2≠l:=fun e=>by subst e;rw[upd_same] at h2;exact h2
  rw[upd_other e1] at h1
  rw[upd_other e2] at h2
  exact h.inj _ _ b' h1 h2
 ·have e1:l'≠l:=fun e=>by subst e;rw[upd_same] at h1;exact h1
  rw[upd_other e1] at h1
  exact ho l' h1
theorem Sim.pad{β:Nat→Ent}{H:CH}{w:World}(h:Sim P B β H w){l:Nat}{b:Nat×Nat}{sz n:Nat}{cs:List Value}{e:TypeId}{k:Kd}(hb:β l= .live b sz n k)(ho:H.ob l= .cells cs e k)(m:Nat)(hm:cs.length+b.2+m≤n) :
 Sim P B β (H.set l (.cells (cs++List.replicate m undef) e k)) w:=by
 obtain⟨cs0,e0,ho0,cs',e',fr,h1,h2,h3,h4,h5,h6,h7,h8⟩:=h.live hb
 rw[ho] at ho0
 cases ho0
 refine⟨fun l'=> ?_,fun l' hl=> ?_,h.inj,h.base,h.ro⟩
 ·by_cases hl:l'=l
  ·subst hl
   simp only[CH.set,if_true,hb]
   refine⟨rfl,cs',e',fr,h1,h2,by simp;omega,fun i v hv=> ?_,h5,h6,fun hk=>⟨(h7 hk).1,by have:=(h7 hk).2;simp;omega⟩,fun hk=>by have:=h8 hk;simp;omega⟩
   by_cases hi:i<cs.length
   ·rw[List.getElem?_append_left hi] at hv
    exact h4 i v hv
   ·rw[List.getElem?_append_right (by omega)] at hv
    obtain⟨hi',hv⟩:=List.getElem?_eq_some_iff.1 hv
    simp at hi'
    have:v=undef:=by rw[←hv];simp
    subst this
    exact⟨cs'[i+b.2]'(by omega),by simp, .undef _⟩
  ·simp only[CH.set,if_neg hl]
   exact h.ent l'
 ·have:l'≠l:=fun e=>by subst e;rw[h.nx _ hl] at ho;cases ho
  simp only[CH.set,if_neg this]
  exact h.nx _ hl
theorem Sim.rename{β:Nat→Ent}{H:CH}{w:World}(h:Sim P B β H w){l:Nat}{b:Nat×Nat}{sz n:Nat}{cs:List Value}{e:TypeId}{k:Kd}(hb:β l= .live b sz n k)(ho:H.ob l= .cells cs e k)(hk:k≠ .ro)(o j:Nat)(hoc:o≤cs.length) :
 Sim P B (upd (upd β l .dead) H.nx (.live (b.1,o+b.2) sz n .gr)) ((H.set l .dead).new (.cells ((cs.drop o).take j) e .gr)) w∧Evo β w (upd (upd β l .dead) H.nx (.live (b.1,o+b.2) sz n .gr)) w:=by
 obtain⟨h',hevo⟩:=h.kill hb
 obtain⟨cs0,e0,ho0,cs',e',fr,h1,h2,h3,h4,h5,h6,h7,h8⟩:=h.live hb
 rw[ho] at ho0
 cases ho0
 have hun:=h'.unborn
 have hnx:(H.set l .dead).nx=H.nx:=rfl
 rw[hnx] at hun
 have hne:H.nx≠l:=fun e=>by rw[←e,h.nx _ (Nat.le_refl _)] at ho;cases ho
 have hext:EntExt (upd β l .dead) (upd (upd β l .dead) H.nx (.live (b.1,o+b.2) sz n .gr)):=fun l'=>by
  by_cases e:l'=H.nx
  ·subst e;exact .inr (.inl hun)
  ·exact .inl (upd_other e)
 have howns : ∀l',(upd β l .dead l').owns b.1→False:=fun l' hl'=>by
  have e1:l'≠l:=fun e=>by subst e;rw[upd_same] at hl';exact hl'
  rw[upd_other e1] at hl'
  exact e1 (h.inj _ _ b.1 hl' (by rw[hb];exact⟨hk,rfl⟩))
 refine⟨⟨fun l'=> ?_,fun l' hl=> ?_,fun l1 l2 b' g1 g2=> ?_,h.base,h'.ro.upd fun _ _ _ e=>(by cases e)⟩,⟨rfl,rfl,rfl,Nat.le_refl _,fun b' hb' hout=>⟨rfl,fun l' h1=> ?_⟩,hevo.ext.trans hext⟩⟩
 ·by_cases e1:l'=H.nx
  ·subst e1
   simp only[upd_same,CH.new,hnx,if_true]
   exact⟨rfl,cs',e,fr,by rw[h1,(h6 hk).1],h2,by simp;omega,(fun i v hv=>by
    rw[List.getElem?_take] at hv
    split at hv
    ·rw[List.getElem?_drop] at hv
     obtain⟨v',a,b⟩:=h4 (o+i) v hv
     exact⟨v',by rw[←Nat.add_assoc,Nat.add_comm i o];exact a,(b.mono hevo.ext).mono hext⟩
    ·cases hv),fun _=>h5 hk,fun _=>⟨rfl,(h6 hk).2⟩,fun e=>(by cases e),fun e=>(by cases e)⟩
  ·simp only[upd_other e1,CH.new,hnx,if_neg e1]
   exact(h'.ent l').mono hext fun _ _=>rfl
 ·have e1:l'≠H.nx:=by simp[CH.new,hnx] at hl;omega
  simp only[CH.new,hnx,if_neg e1]
  exact h'.nx l' (by simp[CH.new,hnx] at hl⊢;omega)
 ·by_cases e1:l1=H.nx<;>by_cases e2:l2=H.nx
  ·rw[e1,e2]
  ·subst e1
   rw[upd_same] at g1
   rw[upd_other e2] at g2
   rw[←g1.2] at g2
   exact(howns _ g2).elim
  ·subst e2
   rw[upd_same] at g2
   rw[upd_other e1] at g1
   rw[←g2.2] at g1
   exact(howns _ g1).elim
  ·rw[upd_other e1] at g1
   rw[upd_other e2] at g2
   exact h'.inj _ _ b' g1 g2
 ·by_cases e1:l'=H.nx
  ·subst e1
   rw[upd_same] at h1
   exact hout l (by rw[hb];exact⟨hk,h1.2⟩)
  ·rw[upd_other e1] at h1
   exact(hevo.keep b' hb' hout).2 l' h1
def setCells(cs:List Value)(o:Nat)(us:List Value):List Value:=cs.take o++us++cs.drop (o+us.length)
theorem setCells_length{cs us:List Value}{o:Nat}(h:o+us.length≤cs.length):(setCells cs o us).length=cs.length:=by
 simp[setCells];omega
theorem setCells_cons{cs us:List Value}{o:Nat}{u:Value}(h:o+(us.length+1)≤cs.length):setCells (cs.set o u) (o+1) us=setCells cs o (u::us):=by
 unfold setCells
 rw[List.take_set,List.drop_set_of_lt (by omega)]
 have:cs.take (o+1)=cs.take o++ [cs[o]'(by omega)]:=by rw[List.take_succ_eq_append_getElem (by omega)]
 rw[this,List.set_append_right _ _ (by simp;omega),List.length_take]
 simp[show min o cs.length=o by omega]
 congr 1;omega
theorem CH.set_set(H:CH)(l:Nat)(a b:CObj):(H.set l a).set l b=H.set l b:=by
 unfold CH.set;congr 1;funext k;by_cases e:k=l<;>simp[e]
theorem CH.set_self{H:CH}{l:Nat}{a:CObj}(h:H.ob l=a):H.set l a=H:=by
 unfold CH.set
 cases H
 congr 1;funext k
 by_cases e:k=l
 ·subst e;simp;exact h.symm
 ·simp[e]
theorem Sim.stores : ∀ {us us':List Value} {β:Nat→Ent} {H:CH} {w:World} (h:Sim P B β H w) {l o:Nat} {b:Nat×Nat} {sz n:Nat} {cs:List Value} {e:TypeId} {k:Kd} (i:Nat) (hb:β l= .live b sz n k) (ho:H.ob l= .cells cs e k) (hk:k≠ .ro)
 (hlt:o+i+us.length≤cs.length) (hu:VRs β us us') (hc : ∀u∈us,isCell u=true),
 ∃w',(storeCells ⟨b.1,o+b.2,none⟩ us' i).run P w= .ok () w'∧Sim P B β (H.set l (.cells (setCells cs (o+i) us) e k)) w'∧Evo β w β w'
 | [],us',β,H,w,h,l,o,b,sz,n,cs,e,k,i,hb,ho,hk,hlt,hu,hc=>by
   have:us'= []:=List.length_eq_zero_iff.1 (by simpa using hu.1.symm)
   subst this
   refine⟨w,rfl,?_,Evo.refl β w⟩
   have:setCells cs (o+i) []=cs:=by simp[setCells]
   rw[this,CH.set_self ho]
   exact h
 | u::us,us',β,H,w,h,l,o,b,sz,n,cs,e,k,i,hb,ho,hk,hlt,hu,hc=>by
   match us',hu with
   | [],hu=>exact absurd hu.1 (by simp)
   | u'::us',hu=>
     have hu0:VR β u u':=by
      obtain⟨v',h1,h2⟩:=hu.2 0 u rfl
      simp at h1;subst h1;exact h2
     have hus:VRs β us us':=⟨by simpa using hu.1,fun i v hv=>by simpa using hu.2 (i+1) v (by simpa using hv)⟩
     have hlt':o+i+(us.length+1)≤cs.length:=by simpa using hlt
     obtain⟨⟨x,hx⟩,hf,hS,hE⟩:=h.store (o:=o+i) hb ho hk (by omega) hu0
     obtain⟨w',hr,hS',hE'⟩:=Sim.stores hS (us:=us) (us':=us') (o:=o) (cs:=cs.set (o+i) u) (e:=e) (i+1) hb (by simp[CH.set]) hk (by simp;omega) hus (fun y hy=>hc y (List.mem_cons_of_mem _ hy))
     have hcell:=hu0.isCell (hc u (List.mem_cons_self ..))
     refine⟨w',?_,?_,hE.trans hE'⟩
     ·simp only[storeCells]
      rw[Addr.add_lit]
      rw[Nat.add_right_comm]
      have hst:(Go.store ⟨b.1,o+i+b.2,none⟩ u':Sem Unit).run P w= .ok () (w.setCell ⟨b.1,o+i+b.2,none⟩ u'):=by
       unfold Go.store
       cases u'<;>first | (simp[Sem.run,hx,hf];done) | cases hcell
      simp only[Sem.run_bind,hst,Result.andThen_ok]
      exact hr
     ·rw[CH.set_set] at hS'
      rw[show o+(i+1)=(o+i)+1 by omega,setCells_cons (by simpa using hlt')] at hS'
      exact hS'
theorem Sim.stores0{us us':List Value}{β:Nat→Ent}{H:CH}{w:World}(h:Sim P B β H w){l o:Nat}{b:Nat×Nat}{sz n:Nat}{cs:List Value}{e:TypeId}{k:Kd}(hb:β l= .live b sz n k)(ho:H.ob l= .cells cs e k)(hk:k≠ .ro)
 (hlt:o+us.length≤cs.length) (hu:VRs β us us') (hc : ∀u∈us,isCell u=true) :
 ∃w',(storeCells ⟨b.1,o+b.2,none⟩ us').run P w= .ok () w'∧Sim P B β (H.set l (.cells (setCells cs o us) e k)) w'∧Evo β w β w':=
 h.stores 0 hb ho hk hlt hu hc
theorem Live.reads{β:Nat→Ent}{w:World}{b:Nat×Nat}{sz n:Nat}{k:Kd}{cs:List Value}{e:TypeId}(h:Live P B β w b sz n k cs e)(o m:Nat)(hm:o+m≤cs.length) :
 ∃us':List Value,VRs β ((cs.drop o).take m) us'∧us'.length=m∧∀j v,us'[j]? = some v→w.cell? ((⟨b.1,o+b.2,none⟩:Addr).add j)=some v:=by
 obtain⟨cs',e',fr,h1,h2,h3,h4,h5⟩:=h
 refine⟨(cs'.toList.drop (o+b.2)).take m,⟨by simp;omega,fun i v hv=> ?_⟩,by simp;omega,fun j v hj=> ?_⟩
 ·rw[List.getElem?_take] at hv⊢
  split at hv
  ·rename_i hi
   rw[List.getElem?_drop] at hv
   obtain⟨v',a,b⟩:=h4 _ v hv
   exact⟨v',by rw[if_pos hi,List.getElem?_drop,Nat.add_right_comm];simpa using a,b⟩
  ·cases hv
 ·rw[Addr.add_lit]
  rw[List.getElem?_take] at hj
  split at hj
  ·rw[List.getElem?_drop] at hj
   simp only[World.cell?,h1]
   simpa using hj
  ·cases hj
end Can
end Go.Proofs.YticlaccbodpkeaaGreatDoor
namespace Go.Proofs.YticlaccbodpkeaaGreatDoor
namespace Can
open Go Go.RowKit
set_option linter.unusedSimpArgs false
set_option linter.unusedVariables false
def eqAll:List Nat→List Value→List Value→Option Bool
 | [],[],[]=>some true
 | 0::ks, .int k a::xs, .int k' b::ys=>if k=k' then (eqAll ks xs ys).map (decide (a=b) && ·) else none
 | 1::ks, .string a::xs, .string b::ys=>(eqAll ks xs ys).map ((a==b) && ·)
 | 2::ks, .bool a::xs, .bool b::ys=>(eqAll ks xs ys).map ((a==b) && ·)
 | _,_,_=>none
theorem eqAll_i{ks:List Nat}{k k':IntKind}{a b:Int}{xs ys:List Value}:eqAll (0::ks) (.int k a::xs) (.int k' b::ys)=if k=k' then (eqAll ks xs ys).map (decide (a=b) && ·) else none:=by simp only[eqAll]
theorem eqAll_s{ks:List Nat}{a b:ByteArray}{xs ys:List Value}:eqAll (1::ks) (.string a::xs) (.string b::ys)=(eqAll ks xs ys).map ((a==b) && ·):=by simp only[eqAll]
theorem eqAll_b{ks:List Nat}{a b:Bool}{xs ys:List Value}:eqAll (2::ks) (.bool a::xs) (.bool b::ys)=(eqAll ks xs ys).map ((a==b) && ·):=by simp only[eqAll]
def svOf:Sem Value→Option Value
 | .pure v=>some v
 | _=>none
theorem svOf_run{P:Program}{s:Sem Value}{v:Value}(h:svOf s=some v)(w:World):s.run P w= .ok v w:=by
 cases s<;>simp[svOf] at h
 subst h;rfl
inductive POp where
 | mov (x:Operand)
 | pick (c a b:Operand)
 | bin (op:BinOp) (x y:Operand)
 | eqb (neg:Bool) (x y:Operand)
 | eqp (neg:Bool) (x y:Operand)
 | eqs (neg:Bool) (x y:Operand)
 | eqg (neg g:Bool) (ks:List Nat) (x y:Operand)
 | un (op:UnOp) (x:Operand)
 | conv (k:IntKind) (x:Operand)
 | cstr (x:Operand)
 | off (x:Operand) (d:Nat)
 | idx (x i:Operand) (sz:Nat)
 | idxp (x i:Operand) (n sz:Nat)
 | sidx (x i:Operand)
 | ext (x:Operand) (i:Nat)
 | len (x:Operand)
 | lens (x:Operand)
 | sstr (x:Operand) (lo hi:Option Operand)
 | fn (f:FuncId) (caps:List Operand)
 | nck (x:Operand)
 | sld (x:Operand)
 | bld (z:List Value) (ps:List (Nat×Nat×Operand))
 | fld (x:Operand) (d:Nat) (n:Option Nat)
 | idxv (x i:Operand) (n sz:Nat) (g:Bool)
 | mx (b:Bool) (x y:Operand)
def bnd (ev:Operand→Value)(d:Nat):Option Operand→Option Int
 | none=>some d
 | some x=>match ev x with
   | .int _ n=>some n
   | _=>none
def sliceV(sz:Nat)(v:Value)(lo hi mx:Int)(full:Bool):Option Value:=
 match v with
 | .slice none 0 0=>if lo=0∧hi=0∧mx=0 then some (.slice none 0 0) else none
 | .slice (some ⟨l,o,none⟩) n c=>
   if 0≤lo∧lo≤hi∧hi≤mx∧mx≤c then
    if lo=mx then (if full then some (.slice (some ⟨0,0,some 0⟩) 0 0) else some (.slice (some ⟨l,o+lo.toNat*sz,none⟩) 0 0))
    else some (.slice (some ⟨l,o+lo.toNat*sz,none⟩) (hi-lo).toNat (mx-lo).toNat)
   else none
 | .slice (some ⟨_,_,some k⟩) 0 0=>if lo=0∧hi=0∧mx=0 then some (.slice (some ⟨0,0,some k⟩) 0 0) else none
 | _=>none
def capV:Value→Nat
 | .slice _ _ c=>c
 | _=>0
def lenV:Value→Nat
 | .slice _ n _=>n
 | .string s=>s.size
 | _=>0
def bldV:List Value→List (Nat×Nat×Value)→Option (List Value)
 | z,[]=>some z
 | z,(o,s,v)::r=>if isVal v=true∧v.cells.size=s∧o+s≤z.length then bldV (setCells z o v.cells.toList) r else none
def isAggD:TypeDesc→Bool
 | .struct _ | .array _ _=>true
 | _=>false
def partV(cs:List Value)(d:Nat):Option Nat→Option Value
 | none=>cs[d]?
 | some n=>if d+n≤cs.length then some (.agg ((cs.drop d).take n).toArray) else none
def pop (ev:Operand→Value):POp→Option Value
 | .mov x=>some (ev x)
 | .pick c a b=>match ev c with
   | .bool t=>some (if t then ev a else ev b)
   | _=>none
 | .bin op x y=>match ev x,ev y with
   | .int k a, .int k' b=>svOf (binOp op 0 (.int k a) (.int k' b))
   | .string a, .string b=>svOf (binOp op 0 (.string a) (.string b))
   | _,_=>none
 | .eqb neg x y=>match ev x,ev y with
   | .bool a, .bool b=>some (.bool (neg ^^ (a==b)))
   | _,_=>none
 | .eqp neg x y=>match ev x,ev y with
   | .pointer a, .pointer none=>some (.bool (neg ^^ a.isNone))
   | .pointer none, .pointer b=>some (.bool (neg ^^ b.isNone))
   | _,_=>none
 | .eqs neg x y=>match ev x,ev y with
   | .slice a _ _, .slice none _ _=>some (.bool (neg ^^ a.isNone))
   | .slice none _ _, .slice b _ _=>some (.bool (neg ^^ b.isNone))
   | _,_=>none
 | .eqg neg g ks x y=>if g=true then match ev x,ev y with
   | .agg xs, .agg ys=>(eqAll ks xs.toList ys.toList).map fun r=> .bool (neg ^^ r)
   | _,_=>none
   else none
 | .un op x=>match ev x with
   | .int k n=>svOf (Op.unary op (.int k n))
   | .bool b=>svOf (Op.unary op (.bool b))
   | _=>none
 | .conv k x=>match ev x with
   | .int _ n=>some (.int k (k.wrap n))
   | _=>none
 | .cstr x=>match ev x with
   | .string s=>some (.string s)
   | _=>none
 | .off x d=>match ev x with
   | .pointer (some ⟨l,o,none⟩)=>some (.pointer (some ⟨l,o+d,none⟩))
   | _=>none
 | .idx x i sz=>match ev x,ev i with
   | .slice (some ⟨l,o,none⟩) n _, .int _ j=>if 0≤j∧j<n then some (.pointer (some ⟨l,o+j.toNat*sz,none⟩)) else none
   | _,_=>none
 | .idxp x i n sz=>match ev x,ev i with
   | .pointer (some ⟨l,o,none⟩), .int _ j=>if 0≤j∧j<n then some (.pointer (some ⟨l,o+j.toNat*sz,none⟩)) else none
   | _,_=>none
 | .sidx x i=>match ev x,ev i with
   | .string s, .int _ j=>if 0≤j then (s[j.toNat]?).map fun b=> .int .u8 b.toNat else none
   | _,_=>none
 | .ext x i=>match ev x with
   | .tuple vs=>vs[i]?
   | _=>none
 | .len x=>match ev x with
   | .slice _ n _=>some (.int .i64 n)
   | _=>none
 | .lens x=>match ev x with
   | .string s=>some (.int .i64 s.size)
   | _=>none
 | .sstr x lo hi=>match ev x,bnd ev 0 lo,bnd ev (lenV (ev x)) hi with
   | .string s,some l,some h=>if 0≤l∧l≤h∧h≤s.size then some (.string (s.extract l.toNat h.toNat)) else none
   | _,_,_=>none
 | .fn f caps=>some (.func (.func f) #[] (caps.map ev).toArray)
 | .sld x=>match ev x with
   | .slice none 0 0=>some (.pointer none)
   | .slice (some ⟨l,o,none⟩) _ c=>if c=0 then none else some (.pointer (some ⟨l,o,none⟩))
   | _=>none
 | .nck x=>match ev x with
   | .pointer (some a)=>some (.pointer (some a))
   | _=>none
 | .bld z ps=>(bldV z (ps.map fun(o,s,x)=>(o,s,ev x))).map fun cs=> .agg cs.toArray
 | .fld x d n=>match ev x with
   | .agg cs=>partV cs.toList d n
   | _=>none
 | .idxv x i n sz g=>match ev x,ev i with
   | .agg cs, .int _ j=>if 0≤j∧j<n then partV cs.toList (j.toNat*sz) (if g then some sz else none) else none
   | _,_=>none
 | .mx b x y=>match ev x,ev y with
   | .int k m, .int _ n=>some (.int k (if b then (if n>m then n else m) else (if n<m then n else m)))
   | _,_=>none
def PSound(P:Program)(op:Op)(p:POp):Prop:=
 ∀(β:Nat→Ent) (ev ev':Operand→Value) (o:Oper) (v:Value),o.op=op→(∀x∈op.operands,VR β (ev x) (ev' x))→pop ev p=some v→
  ∃v',(∀w,(execOp ev' o).run P w= .ok (.value v') w)∧VR β v v'
theorem psound_move{P:Program}{x:Operand}:PSound P (.move x) (.mov x):=fun β ev ev' o v ho hv h=>by
 simp only[pop,Option.some.injEq] at h;subst h
 exact⟨ev' x,fun w=>by simp only[execOp,ho];rfl,hv x (by simp[Op.operands])⟩
theorem psound_assign{P:Program}{x:Operand}:PSound P (.assign x) (.mov x):=fun β ev ev' o v ho hv h=>by
 simp only[pop,Option.some.injEq] at h;subst h
 exact⟨ev' x,fun w=>by simp only[execOp,ho];rfl,hv x (by simp[Op.operands])⟩
theorem psound_pick{P:Program}{c a b:Operand}:PSound P (.pick c a b) (.pick c a b):=fun β ev ev' o v ho hv h=>by
 have hc:=hv c (by simp[Op.operands])
 have ha:=hv a (by simp[Op.operands])
 have hb:=hv b (by simp[Op.operands])
 simp only[pop] at h
 split at h
 ·rename_i t ht
  rw[ht] at hc
  cases hcv:ev' c<;>rw[hcv] at hc<;>cases hc
  cases h
  cases t
  ·exact⟨ev' b,fun w=>by simp[execOp,ho,hcv,asBool],hb⟩
  ·exact⟨ev' a,fun w=>by simp[execOp,ho,hcv,asBool],ha⟩
 ·cases h
theorem VR.int_inv{β:Nat→Ent}{k:IntKind}{n:Int}{v':Value}(h:VR β (.int k n) v'):v'= .int k n:=by cases h;rfl
theorem VR.string_inv{β:Nat→Ent}{s:ByteArray}{v':Value}(h:VR β (.string s) v'):v'= .string s:=by cases h;rfl
theorem VR.bool_inv{β:Nat→Ent}{b:Bool}{v':Value}(h:VR β (.bool b) v'):v'= .bool b:=by cases h;rfl
theorem binOp_int(op:BinOp)(t:TypeId)(k k':IntKind)(a b:Int):binOp op t (.int k a) (.int k' b)=binOp op 0 (.int k a) (.int k' b):=by cases op<;>rfl
theorem binOp_string(op:BinOp)(t:TypeId)(a b:ByteArray):binOp op t (.string a) (.string b)=binOp op 0 (.string a) (.string b):=by cases op<;>rfl
theorem svOf_sv{s:Sem Value}{v:Value}(h:svOf s=some v):s= .pure v:=by
 cases s<;>simp[svOf] at h
 subst h;rfl
theorem svOf_val{op:BinOp}{x y v:Value}(hx:(∃k a k' b,x= .int k a∧y= .int k' b)∨∃a b,x= .string a∧y= .string b)(h:svOf (binOp op 0 x y)=some v) : ∀β,VR β v v:=by
 intro β
 rcases hx with ⟨k,a,k',b,rfl,rfl⟩ | ⟨a,b,rfl,rfl⟩
 ·have key : ∀s:Sem Value,svOf s=some v→(s=Op.shift op k a k' b∨s=Op.intArith op k a b∨s=Op.intDiv op k a b∨s=Op.intBits op k a b∨s=Op.intCmp op a b)→VR β v v:=by
   intro s hs hc
   rcases hc with rfl | rfl | rfl | rfl | rfl
   ·unfold Op.shift at hs
    split at hs
    ·cases hs
    ·cases op<;>simp[svOf,Pure.pure,stuck] at hs<;>subst hs<;>exact .int _ _
   ·unfold Op.intArith at hs
    cases op<;>simp[svOf,Pure.pure,stuck] at hs<;>subst hs<;>exact .int _ _
   ·unfold Op.intDiv at hs
    split at hs
    ·cases hs
    ·cases op<;>simp[svOf,Pure.pure,stuck] at hs<;>subst hs<;>exact .int _ _
   ·unfold Op.intBits at hs
    cases op<;>simp[svOf,Pure.pure,stuck] at hs<;>subst hs<;>exact .int _ _
   ·unfold Op.intCmp at hs
    cases op<;>simp[svOf,Pure.pure,stuck] at hs<;>subst hs<;>exact .bool _
  by_cases hk:k=k'
  ·subst hk
   refine key _ h ?_
   cases op<;>simp[binOp]
  ·cases op<;>simp[binOp,hk,svOf,stuck] at h<;>(refine key _ h ?_;simp)
 ·have h':svOf (Op.stringOp op a b)=some v:=by cases op<;>exact h
  unfold Op.stringOp at h'
  cases op<;>simp[svOf,Pure.pure,stuck] at h'
  case add=>
   split at h'
   ·rename_i heq
    split at heq
    ·cases heq
    ·cases heq;cases h';exact .string _
   ·cases h'
  all_goals (subst h';exact .bool _)
theorem psound_bin{P:Program}{op:BinOp}{t u:TypeId}{x y:Operand}:PSound P (.binOp op t x y u) (.bin op x y):=fun β ev ev' o v ho hv h=>by
 have hx:=hv x (by simp[Op.operands])
 have hy:=hv y (by simp[Op.operands])
 simp only[pop] at h
 split at h
 ·rename_i k a k' b ha hb
  rw[ha] at hx;rw[hb] at hy
  have ex:=hx.int_inv
  have ey:=hy.int_inv
  refine⟨v,fun w=> ?_,svOf_val (.inl ⟨_,_,_,_,rfl,rfl⟩) h β⟩
  have hrun:=svOf_run (P:=P) h w
  simp only[execOp,ho,ex,ey,Sem.run_bind]
  have hg:(eqGuard op t x y (.int k a) (.int k' b)).run P w= .ok () w:=by
   unfold eqGuard;cases op<;>rfl
  rw[hg,binOp_int]
  simp only[Result.andThen_ok,hrun,Sem.run_pure]
 ·rename_i a b ha hb
  rw[ha] at hx;rw[hb] at hy
  have ex:=hx.string_inv
  have ey:=hy.string_inv
  refine⟨v,fun w=> ?_,svOf_val (.inr ⟨_,_,rfl,rfl⟩) h β⟩
  have hrun:=svOf_run (P:=P) h w
  simp only[execOp,ho,ex,ey,Sem.run_bind]
  have hg:(eqGuard op t x y (.string a) (.string b)).run P w= .ok () w:=by
   unfold eqGuard;cases op<;>rfl
  rw[hg,binOp_string]
  simp only[Result.andThen_ok,hrun,Sem.run_pure]
 ·cases h
theorem psound_un{P:Program}{op:UnOp}{t:TypeId}{x:Operand}:PSound P (.unOp op t x) (.un op x):=fun β ev ev' o v ho hv h=>by
 have hx:=hv x (by simp[Op.operands])
 simp only[pop] at h
 split at h
 ·rename_i k n ha
  rw[ha] at hx
  have ex:=hx.int_inv
  have hrun:=fun w=>svOf_run (P:=P) h w
  refine⟨v,fun w=>by simp only[execOp,ho,ex,Sem.run_bind,hrun,Result.andThen_ok,Sem.run_pure],?_⟩
  have hs:=svOf_sv h
  cases op<;>simp[Op.unary,Op.intArith,Op.intBits,stuck,Pure.pure] at hs<;>(try subst hs)<;>first | exact .int _ _ | cases hs
 ·rename_i b ha
  rw[ha] at hx
  have ex:=hx.bool_inv
  have hrun:=fun w=>svOf_run (P:=P) h w
  refine⟨v,fun w=>by simp only[execOp,ho,ex,Sem.run_bind,hrun,Result.andThen_ok,Sem.run_pure],?_⟩
  have hs:=svOf_sv h
  cases op<;>simp[Op.unary,stuck,Pure.pure] at hs<;>(try subst hs)<;>first | exact .bool _ | cases hs
 ·cases h
theorem run_equal_bool{P:Program}{t:TypeId}(ht:P.underlying t=some .bool)(a b:Bool)(w:World):(Op.equal t (.bool a) (.bool b)).run P w= .ok (a==b) w:=by
 unfold Op.equal
 obtain⟨d,hd⟩ : ∃d,Op.maxDepth=d+1:=⟨9999,rfl⟩
 rw[hd]
 simp only[Op.equalIn,Sem.run_bind,run_underlying ht,Result.andThen_ok,Sem.run_pure]
theorem run_equal_ptr{P:Program}{t e:TypeId}(ht:P.underlying t=some (.pointer e))(a:Option Addr)(w:World) :
 (Op.equal t (.pointer a) (.pointer none)).run P w= .ok a.isNone w∧(Op.equal t (.pointer none) (.pointer a)).run P w= .ok a.isNone w:=by
 unfold Op.equal
 obtain⟨d,hd⟩ : ∃d,Op.maxDepth=d+1:=⟨9999,rfl⟩
 rw[hd]
 constructor<;>cases a<;>simp only[Op.equalIn,Sem.run_bind,run_underlying ht,Result.andThen_ok,Sem.run_pure]<;>rfl
theorem run_equal_sl{P:Program}{t e:TypeId}(ht:P.underlying t=some (.slice e))(a:Option Addr)(n c m q:Nat)(w:World) :
 (Op.equal t (.slice a n c) (.slice none m q)).run P w= .ok a.isNone w∧(Op.equal t (.slice none m q) (.slice a n c)).run P w= .ok a.isNone w:=by
 unfold Op.equal
 obtain⟨d,hd⟩ : ∃d,Op.maxDepth=d+1:=⟨9999,rfl⟩
 rw[hd]
 constructor<;>cases a<;>simp only[Op.equalIn,Sem.run_bind,run_underlying ht,Result.andThen_ok,Sem.run_pure]<;>rfl
def eqOp (neg:Bool):BinOp:=if neg then .neq else .eql
theorem psound_eqb{P:Program}{neg:Bool}{t u:TypeId}{x y:Operand}(ht:P.underlying t=some .bool):PSound P (.binOp (eqOp neg) t x y u) (.eqb neg x y):=fun β ev ev' o v ho hv h=>by
 have hx:=hv x (by simp[Op.operands])
 have hy:=hv y (by simp[Op.operands])
 simp only[pop] at h
 split at h
 ·rename_i a b ha hb
  rw[ha] at hx;rw[hb] at hy
  have ex:=hx.bool_inv
  have ey:=hy.bool_inv
  cases h
  refine⟨_,fun w=> ?_, .bool _⟩
  simp only[execOp,ho,ex,ey,Sem.run_bind]
  have hg:(eqGuard (eqOp neg) t x y (.bool a) (.bool b)).run P w= .ok () w:=by
   unfold eqGuard eqOp;cases neg<;>rfl
  rw[hg]
  cases neg<;>simp only[eqOp,Result.andThen_ok,binOp,Sem.run_bind,run_equal_bool ht,Sem.run_pure,if_true,Bool.false_eq_true,if_false]<;>simp
 ·cases h
theorem psound_eqp{P:Program}{neg:Bool}{t u e:TypeId}{x y:Operand}(ht:P.underlying t=some (.pointer e)):PSound P (.binOp (eqOp neg) t x y u) (.eqp neg x y):=fun β ev ev' o v ho hv h=>by
 have hx:=hv x (by simp[Op.operands])
 have hy:=hv y (by simp[Op.operands])
 have hg : ∀(a b:Option Addr) w,(eqGuard (eqOp neg) t x y (.pointer a) (.pointer b)).run P w= .ok () w:=fun a b w=>by
  unfold eqGuard eqOp;cases neg<;>rfl
 have fin : ∀(a b:Option Addr) (r:Bool),(∀w,(Op.equal t (.pointer a) (.pointer b)).run P w= .ok r w)→ev' x= .pointer a→ev' y= .pointer b→∀w,(execOp ev' o).run P w= .ok (.value (.bool (neg ^^ r))) w:=by
  intro a b r hr ex ey w
  simp only[execOp,ho,ex,ey,Sem.run_bind,hg,Result.andThen_ok]
  cases neg<;>simp only[eqOp,binOp,Sem.run_bind,hr,Result.andThen_ok,Sem.run_pure,if_true,Bool.false_eq_true,if_false]<;>simp
 simp only[pop] at h
 split at h
 ·rename_i a ha hb
  rw[ha] at hx;rw[hb] at hy
  cases h
  cases hyv:ev' y<;>rw[hyv] at hy<;>cases hy
  cases hxv:ev' x<;>rw[hxv] at hx<;>cases hx
  ·exact⟨_,fin none none true (fun w=>(run_equal_ptr ht _ w).1) hxv hyv, .bool _⟩
  ·exact⟨_,fin _ none false (fun w=>(run_equal_ptr ht _ w).1) hxv hyv, .bool _⟩
  ·exact⟨_,fin _ none false (fun w=>(run_equal_ptr ht _ w).1) hxv hyv, .bool _⟩
 ·rename_i b hne ha hb
  rw[ha] at hx;rw[hb] at hy
  cases h
  cases hxv:ev' x<;>rw[hxv] at hx<;>cases hx
  cases hyv:ev' y<;>rw[hyv] at hy<;>cases hy
  ·exact⟨_,fin none none true (fun w=>(run_equal_ptr ht _ w).2) hxv hyv, .bool _⟩
  ·exact⟨_,fin none _ false (fun w=>(run_equal_ptr ht _ w).2) hxv hyv, .bool _⟩
  ·exact⟨_,fin none _ false (fun w=>(run_equal_ptr ht _ w).2) hxv hyv, .bool _⟩
 ·cases h
theorem VR.slice_inv{β:Nat→Ent}{a:Option Addr}{n c:Nat}{v':Value}(h:VR β (.slice a n c) v') : ∃a' c',v'= .slice a' n c'∧a'.isNone=a.isNone:=by
 cases h<;>exact⟨_,_,rfl,rfl⟩
theorem psound_eqs{P:Program}{neg:Bool}{t u e:TypeId}{x y:Operand}(ht:P.underlying t=some (.slice e)):PSound P (.binOp (eqOp neg) t x y u) (.eqs neg x y):=fun β ev ev' o v ho hv h=>by
 have hx:=hv x (by simp[Op.operands])
 have hy:=hv y (by simp[Op.operands])
 have hg : ∀(a b:Option Addr) n c m q w,(eqGuard (eqOp neg) t x y (.slice a n c) (.slice b m q)).run P w= .ok () w:=fun a b n c m q w=>by
  unfold eqGuard eqOp;cases neg<;>rfl
 have fin : ∀(a b:Option Addr) n c m q (r:Bool),(∀w,(Op.equal t (.slice a n c) (.slice b m q)).run P w= .ok r w)→ev' x= .slice a n c→ev' y= .slice b m q→∀w,(execOp ev' o).run P w= .ok (.value (.bool (neg ^^ r))) w:=by
  intro a b n c m q r hr ex ey w
  simp only[execOp,ho,ex,ey,Sem.run_bind,hg,Result.andThen_ok]
  cases neg<;>simp only[eqOp,binOp,Sem.run_bind,hr,Result.andThen_ok,Sem.run_pure,if_true,Bool.false_eq_true,if_false]<;>simp
 simp only[pop] at h
 split at h
 ·rename_i a n c m q ha hb
  rw[ha] at hx;rw[hb] at hy
  cases h
  obtain⟨a',c',hxv,hn⟩:=hx.slice_inv
  obtain⟨b',q',hyv,hm⟩:=hy.slice_inv
  have:b'=none:=by cases b'<;>simp_all
  subst this
  exact⟨_,fin a' none n c' m q' _ (fun w=>(run_equal_sl ht a' n c' m q' w).1) hxv hyv,by rw[hn];exact .bool _⟩
 ·rename_i n c a m q hne ha hb
  rw[ha] at hx;rw[hb] at hy
  cases h
  obtain⟨a',c',hxv,hn⟩:=hx.slice_inv
  obtain⟨b',q',hyv,hm⟩:=hy.slice_inv
  have:a'=none:=by cases a'<;>simp_all
  subst this
  exact⟨_,fin none b' n c' m q' _ (fun w=>(run_equal_sl ht b' m q' n c' w).2) hxv hyv,by rw[hm];exact .bool _⟩
 ·cases h
theorem psound_conv{P:Program}{s t:TypeId}{k:IntKind}{x:Operand}{d:TypeDesc}(hs:P.underlying s=some d)(ht:P.underlying t=some (.int k)):PSound P (.convert s t x) (.conv k x):=fun β ev ev' o v ho hv h=>by
 have hx:=hv x (by simp[Op.operands])
 simp only[pop] at h
 split at h
 ·rename_i k' n ha
  rw[ha] at hx
  cases h
  refine⟨_,fun w=> ?_, .int _ _⟩
  simp only[execOp,ho,hx.int_inv,Sem.run_bind,convert,run_underlying hs,run_underlying ht,Result.andThen_ok]
  rfl
 ·cases h
theorem psound_cstr{P:Program}{s t:TypeId}{x:Operand}(hs:P.underlying s=some .string)(ht:P.underlying t=some .string):PSound P (.convert s t x) (.cstr x):=fun β ev ev' o v ho hv h=>by
 have hx:=hv x (by simp[Op.operands])
 simp only[pop] at h
 split at h
 ·rename_i n ha
  rw[ha] at hx
  cases h
  refine⟨_,fun w=> ?_, .string _⟩
  simp only[execOp,ho,hx.string_inv,Sem.run_bind,convert,run_underlying hs,run_underlying ht,Result.andThen_ok]
  rfl
 ·cases h
theorem run_sz{P:Program}{t:TypeId}{sz:Nat}(h:(P.info? t).map (·.size)=some sz)(w:World):(sizeOf t).run P w= .ok sz w:=by
 cases hi:P.info? t with
 | none=>simp[hi] at h
 | some i=>simp[hi] at h;simp[sizeOf,typeInfo,hi,h]
theorem psound_off{P:Program}{s:TypeId}{x:Operand}{f sz:Nat}{fs:Array Field}{fld:Field}(hs:P.underlying s=some (.struct fs))(hf:fs[f]? = some fld)(hz:(P.info? fld.type).map (·.size)=some sz)(h0:sz≠0) :
 PSound P (.fieldAddr s x f) (.off x fld.offset):=fun β ev ev' o v ho hv h=>by
 have hx:=hv x (by simp[Op.operands])
 simp only[pop] at h
 split at h
 ·rename_i l oo ha
  rw[ha] at hx
  cases h
  have hrun : ∀a:Addr,ev' x= .pointer (some a)→∀w,(execOp ev' o).run P w= .ok (.value (.pointer (some (a.add fld.offset)))) w:=fun a ha w=>by
   simp only[execOp,ho,ha,Instr.fieldAt,Sem.run_bind,run_underlying hs,Result.andThen_ok,hf,Instr.sureAddr,Sem.run_pure,fieldPlace,run_sz hz,if_neg h0]
  cases hxv:ev' x<;>rw[hxv] at hx<;>cases hx
  ·rename_i hb
   exact⟨_,hrun _ hxv,by rw[Addr.add_lit,Nat.add_right_comm];exact .ptr hb⟩
  ·rename_i hb
   exact⟨_,hrun _ hxv, .pdead _ hb⟩
 ·cases h
theorem psound_idx{P:Program}{t e:TypeId}{x i:Operand}{sz:Nat}(ht:P.underlying t=some (.slice e))(hz:(P.info? e).map (·.size)=some sz):PSound P (.indexAddr t x i) (.idx x i sz):=fun β ev ev' o v ho hv h=>by
 have hx:=hv x (by simp[Op.operands])
 have hi:=hv i (by simp[Op.operands])
 simp only[pop] at h
 split at h
 ·rename_i l oo n c k j ha hj
  split at h
  ·rename_i hb
   rw[ha] at hx;rw[hj] at hi
   cases h
   have hrun : ∀(a:Addr) c',ev' x= .slice (some a) n c'→∀w,(execOp ev' o).run P w= .ok (.value (.pointer (some (a.add (j.toNat*sz))))) w:=fun a c' ha w=>by
    simp only[execOp,ho,ha,hi.int_inv,Instr.indexAt,asIntOf,Sem.run_bind,run_underlying ht,Result.andThen_ok,Sem.run_pure,Sem.run_ite,if_pos hb,run_sz hz]
   generalize hxv:ev' x=xv at hx
   cases hx with
   | sl hl h1 h2 h3 h4 h5=>exact⟨_,hrun _ _ hxv,by rw[Addr.add_lit,Nat.add_right_comm];exact .ptr hl⟩
   | sdead a hl _=>exact⟨_,hrun _ _ hxv, .pdead _ hl⟩
   | szero a hl=>omega
  ·cases h
 ·cases h
theorem psound_idxp{P:Program}{t e:TypeId}{x i:Operand}{n sz:Nat}(ht:P.underlying t=some (.array n e))(hz:(P.info? e).map (·.size)=some sz):PSound P (.indexAddr t x i) (.idxp x i n sz):=fun β ev ev' o v ho hv h=>by
 have hx:=hv x (by simp[Op.operands])
 have hi:=hv i (by simp[Op.operands])
 simp only[pop] at h
 split at h
 ·rename_i l oo k j ha hj
  split at h
  ·rename_i hb
   rw[ha] at hx;rw[hj] at hi
   cases h
   have hrun : ∀(a:Addr),ev' x= .pointer (some a)→∀w,(execOp ev' o).run P w= .ok (.value (.pointer (some (a.add (j.toNat*sz))))) w:=fun a ha w=>by
    simp only[execOp,ho,ha,hi.int_inv,Instr.indexAt,asIntOf,Sem.run_bind,run_underlying ht,Result.andThen_ok,Sem.run_pure,Instr.sureAddr,Sem.run_ite,if_pos hb,run_sz hz]
   cases hxv:ev' x<;>rw[hxv] at hx<;>cases hx
   ·rename_i hl
    exact⟨_,hrun _ hxv,by rw[Addr.add_lit,Nat.add_right_comm];exact .ptr hl⟩
   ·rename_i hl
    exact⟨_,hrun _ hxv, .pdead _ hl⟩
  ·cases h
 ·cases h
theorem psound_sidx{P:Program}{t:TypeId}{x i:Operand}(ht:P.underlying t=some .string):PSound P (.index t x i) (.sidx x i):=fun β ev ev' o v ho hv h=>by
 have hx:=hv x (by simp[Op.operands])
 have hi:=hv i (by simp[Op.operands])
 simp only[pop] at h
 split at h
 ·rename_i s k j ha hj
  rw[ha] at hx;rw[hj] at hi
  split at h
  ·rename_i h0
   cases hs:s[j.toNat]? with
   | none=>rw[hs] at h;cases h
   | some b=>
     rw[hs] at h
     cases h
     refine⟨_,fun w=> ?_, .int _ _⟩
     simp only[execOp,ho,hx.string_inv,hi.int_inv,Instr.index,asIntOf,Sem.run_bind,run_underlying ht,Result.andThen_ok,Sem.run_pure,if_pos h0,hs]
  ·cases h
 ·cases h
theorem VR.tuple_inv{β:Nat→Ent}{xa:Array Value}{v':Value}(h:VR β (.tuple xa) v'):xa= #[]∨∃bs,v'= .tuple bs∧xa.size=bs.size∧∀i (h1:i<xa.size) (h2:i<bs.size),VR β xa[i] bs[i]:=by
 cases h with
 | undef=>exact .inl rfl
 | tuple h hi=>exact .inr ⟨_,rfl,h,hi⟩
theorem psound_ext{P:Program}{x:Operand}{i:Nat}:PSound P (.extract x i) (.ext x i):=fun β ev ev' o v ho hv h=>by
 have hx:=hv x (by simp[Op.operands])
 simp only[pop] at h
 split at h
 ·rename_i vs ha
  rw[ha] at hx
  rcases hx.tuple_inv with rfl | ⟨bs,hxv,hs,hi⟩
  ·simp at h
  ·obtain⟨h1,rfl⟩:=Array.getElem?_eq_some_iff.1 h
   refine⟨_,fun w=> ?_,hi i h1 (by omega)⟩
   simp only[execOp,ho,hxv,Instr.extract,Array.getElem?_eq_getElem (show i<bs.size by omega),Sem.run_bind,Sem.run_pure,Result.andThen_ok]
 ·cases h
theorem psound_nck{P:Program}{x:Operand}:PSound P (.nilCheck x) (.nck x):=fun β ev ev' o v ho hv h=>by
 have hx:=hv x (by simp[Op.operands])
 simp only[pop] at h
 split at h
 ·rename_i a ha
  rw[ha] at hx
  cases h
  obtain⟨a',hxv⟩ : ∃a',ev' x= .pointer (some a'):=by
   generalize ev' x=xv at hx
   cases hx<;>exact⟨_,rfl⟩
  rw[hxv] at hx
  exact⟨.pointer (some a'),fun w=>by simp only[execOp,ho,hxv];rfl,hx⟩
 ·cases h
theorem psound_sld{P:Program}{t:TypeId}{x:Operand}:PSound P (.call ⟨.builtin .unsafeSliceData,#[x],#[t]⟩) (.sld x):=fun β ev ev' o v ho hv h=>by
 have hx:=hv x (by simp[Op.operands,Call.operands])
 simp only[pop] at h
 split at h
 ·rename_i ha
  cases h
  have hxv:ev' x= .slice none 0 0:=by
   generalize ev' x=xv at hx
   rw[ha] at hx
   cases hx;rfl
  exact⟨.pointer none,fun w=>by simp only[execOp,ho,resolve,Sem.run_bind,Sem.run_pure,Result.andThen_ok,invoke,builtin,List.map_toArray,List.map_cons,List.map_nil,hxv,Lib.run_unsafeSliceData_nil], .pnil⟩
 ·rename_i l oo n c ha
  split at h
  ·cases h
  ·rename_i hc
   cases h
   rw[ha] at hx
   have hxv : ∃a c',ev' x= .slice (some a) n c'∧c'≠0∧VR β (.pointer (some ⟨l,oo,none⟩)) (.pointer (some a)):=by
    generalize ev' x=xv at hx
    cases hx with
    | sl hl h1 h2=>exact⟨_,_,rfl,by omega, .ptr hl⟩
    | sdead a hl h2=>exact⟨_,_,rfl,by omega, .pdead _ hl⟩
    | szero a hl=>exact absurd rfl hc
   obtain⟨a,c',hxv,hc',hr⟩:=hxv
   exact⟨_,fun w=>by simp only[execOp,ho,resolve,Sem.run_bind,Sem.run_pure,Result.andThen_ok,invoke,builtin,List.map_toArray,List.map_cons,List.map_nil,hxv,Lib.run_unsafeSliceData_row (hc:=hc'),Result.andThen_ok],hr⟩
 ·cases h
theorem psound_fn{P:Program}{f:FuncId}{caps:Array Operand}:PSound P (.makeFunc (.func f) #[] caps) (.fn f caps.toList):=fun β ev ev' o v ho hv h=>by
 simp only[pop,Option.some.injEq] at h
 subst h
 refine⟨.func (.func f) #[] (caps.map ev'),fun w=>by simp[execOp,ho,Instr.makeFunc], .fn f (by simp) fun i h1 h2=> ?_⟩
 simp only[List.getElem_toArray,List.getElem_map,Array.getElem_toList,Array.getElem_map]
 exact hv _ (by simp[Op.operands])
def fkind(P:Program)(f:Field):Option Nat:=match P.underlying f.type with
 | some (.int _)=>some 0
 | some .string=>some 1
 | some .bool=>some 2
 | _=>none
def flatFs(P:Program):Nat→List Field→Option (List Nat)
 | _,[]=>some []
 | i,f::fs=>if f.offset=i∧f.name≠ "_" then match fkind P f,flatFs P (i+1) fs with
   | some k,some ks=>some (k::ks)
   | _,_=>none
   else none
@[irreducible] def gKs {P:Program} (t:TypeId):List Nat:=match P.underlying t with
  | some (.struct fs)=>(flatFs P 0 fs.toList).getD []
  | _=> []
@[irreducible] def gOK {P:Program} (t:TypeId):Bool:=match P.underlying t with
  | some (.struct fs)=>(flatFs P 0 fs.toList).isSome&&(!P.stoodInHeld t && !P.eqGuardType P.depth t)
  | _=>false
theorem eqAll_rel{β:Nat→Ent} : ∀ {ks:List Nat} {xs ys xs' ys':List Value} {r:Bool},VRs β xs xs'→VRs β ys ys'→eqAll ks xs ys=some r→eqAll ks xs' ys'=some r:=by
 intro ks
 induction ks with
 | nil=>
   intro xs ys xs' ys' r hx hy h
   cases xs with
   | nil=>
     cases ys with
     | nil=>
       have e1:xs'= []:=List.length_eq_zero_iff.1 hx.1.symm
       have e2:ys'= []:=List.length_eq_zero_iff.1 hy.1.symm
       rw[e1,e2];exact h
     | cons y ys=>simp[eqAll] at h
   | cons x xs=>simp[eqAll] at h
 | cons k ks ih=>
   intro xs ys xs' ys' r hx hy h
   cases xs with
   | nil=>cases k<;>simp[eqAll] at h
   | cons x xs=>
     cases ys with
     | nil=>unfold eqAll at h;split at h<;>simp_all
     | cons y ys=>
       cases xs' with
       | nil=>have:=hx.1;simp at this
       | cons x' xs'=>
         cases ys' with
         | nil=>have:=hy.1;simp at this
         | cons y' ys'=>
           obtain⟨x2,a1,a2⟩:=hx.2 0 x rfl
           obtain⟨y2,b1,b2⟩:=hy.2 0 y rfl
           simp at a1 b1
           subst a1 b1
           have tx:VRs β xs xs':=⟨by simpa using hx.1,fun i v hv=>by simpa using hx.2 (i+1) v (by simpa using hv)⟩
           have ty:VRs β ys ys':=⟨by simpa using hy.1,fun i v hv=>by simpa using hy.2 (i+1) v (by simpa using hv)⟩
           unfold eqAll at h
           split at h
           ·simp_all
           ·rename_i e1 e2 e3
            cases e1;cases e2;cases e3
            cases a2;cases b2
            split at h
            ·rename_i hk
             rw[Option.map_eq_some_iff] at h
             obtain⟨r',h1,h2⟩:=h
             rw[eqAll_i,if_pos hk,ih tx ty h1];simp[h2]
            ·cases h
           ·rename_i e1 e2 e3
            cases e1;cases e2;cases e3
            cases a2;cases b2
            rw[Option.map_eq_some_iff] at h
            obtain⟨r',h1,h2⟩:=h
            rw[eqAll_s,ih tx ty h1];simp[h2]
           ·rename_i e1 e2 e3
            cases e1;cases e2;cases e3
            cases a2;cases b2
            rw[Option.map_eq_some_iff] at h
            obtain⟨r',h1,h2⟩:=h
            rw[eqAll_b,ih tx ty h1];simp[h2]
           ·cases h
theorem run_eqFields{P:Program}{w:World}{d:Nat}{xs ys:Array Value} : ∀ {fs:List Field} {i:Nat} {ks:List Nat} {r:Bool},flatFs P i fs=some ks→eqAll ks (xs.toList.drop i) (ys.toList.drop i)=some r→(Op.eqFields (d+1) xs ys fs).run P w= .ok r w:=by
 intro fs
 induction fs with
 | nil=>
   intro i ks r hf he
   simp only[flatFs,Option.some.injEq] at hf
   subst hf
   unfold eqAll at he
   split at he<;>first | (cases he;rfl) | (cases he) | (rename_i h _ _;cases h)
 | cons f fs ih=>
   intro i ks r hf he
   simp only[flatFs] at hf
   split at hf
   case isFalse=>cases hf
   rename_i hg
   obtain⟨ho,hname⟩:=hg
   split at hf
   case h_2=>cases hf
   rename_i k ks' hk hfs
   cases hf
   have part1 : ∀(zs:Array Value) (v:Value) (tl:List Value),P.plainKey f.type=true→zs.toList.drop i=v::tl→(part f.type zs f.offset).run P w= .ok v w∧zs.toList.drop (i+1)=tl:=fun zs v tl hp hz=>by
    have hget:zs.toList[i]? = some v:=by
     have:=congrArg (fun l=>l[0]?) hz
     simpa using this
    refine⟨run_part_plain w hp (by rw[ho];simpa using hget),?_⟩
    rw[←List.drop_drop,hz];rfl
   have hpk:P.plainKey f.type=true:=by
    unfold fkind at hk
    unfold Program.plainKey
    split at hk<;>first | (rename_i e;rw[e]) | cases hk
   unfold eqAll at he
   split at he
   ·rename_i h _ _;cases h
   ·rename_i ks2 k1 a xs2 k2 b ys2 e1 e2 e3
    cases e1
    obtain⟨p1,t1⟩:=part1 xs _ _ hpk e2
    obtain⟨p2,t2⟩:=part1 ys _ _ hpk e3
    split at he
    case isFalse=>cases he
    rename_i hkk
    subst hkk
    rw[Option.map_eq_some_iff] at he
    obtain⟨r',h1,h2⟩:=he
    have hu : ∃k',P.underlying f.type=some (.int k'):=by
     unfold fkind at hk
     split at hk
     ·rename_i q e;exact⟨q,e⟩
     ·cases hk
     ·cases hk
     ·cases hk
    obtain⟨k',hu⟩:=hu
    simp only[Op.eqFields,hname,ne_eq,not_false_eq_true,if_true,Sem.run_bind,p1,p2,Result.andThen_ok,run_equalIn_int w d f.type k1 k' a b hu]
    rw[←t1,←t2] at h1
    have:=ih hfs h1
    by_cases hab:a=b
    ·subst hab
     simp only[beq_self_eq_true,Bool.not_true,Bool.false_eq_true,if_false,this]
     simpa using h2
    ·have hb:(a==b)=false:=by simpa using hab
     simp only[hb,Bool.not_false,if_true,Sem.run_pure]
     simp[hab] at h2
     rw[h2]
   ·rename_i ks2 a xs2 b ys2 e1 e2 e3
    cases e1
    obtain⟨p1,t1⟩:=part1 xs _ _ hpk e2
    obtain⟨p2,t2⟩:=part1 ys _ _ hpk e3
    rw[Option.map_eq_some_iff] at he
    obtain⟨r',h1,h2⟩:=he
    have hu:P.underlying f.type=some .string:=by
     unfold fkind at hk
     split at hk
     ·cases hk
     ·rename_i e;exact e
     ·cases hk
     ·cases hk
    simp only[Op.eqFields,hname,ne_eq,not_false_eq_true,if_true,Sem.run_bind,p1,p2,Result.andThen_ok,run_equalIn_string w d f.type a b hu,←beq_toListBytes]
    rw[←t1,←t2] at h1
    have:=ih hfs h1
    cases hb:(a==b) with
    | true=>
      simp only[Bool.not_true,Bool.false_eq_true,if_false,this]
      rw[hb] at h2;simpa using h2
    | false=>
      simp only[Bool.not_false,if_true,Sem.run_pure]
      rw[hb] at h2;simp at h2;rw[h2]
   ·rename_i ks2 a xs2 b ys2 e1 e2 e3
    cases e1
    obtain⟨p1,t1⟩:=part1 xs _ _ hpk e2
    obtain⟨p2,t2⟩:=part1 ys _ _ hpk e3
    rw[Option.map_eq_some_iff] at he
    obtain⟨r',h1,h2⟩:=he
    have hu:P.underlying f.type=some .bool:=by
     unfold fkind at hk
     split at hk
     ·cases hk
     ·cases hk
     ·rename_i e;exact e
     ·cases hk
    simp only[Op.eqFields,hname,ne_eq,not_false_eq_true,if_true,Sem.run_bind,p1,p2,Result.andThen_ok,run_equalIn_bool' w d f.type a b hu]
    rw[←t1,←t2] at h1
    have:=ih hfs h1
    cases hb:(a==b) with
    | true=>
      simp only[Bool.not_true,Bool.false_eq_true,if_false,this]
      rw[hb] at h2;simpa using h2
    | false=>
      simp only[Bool.not_false,if_true,Sem.run_pure]
      rw[hb] at h2;simp at h2;rw[h2]
   ·cases he
theorem psound_eqg{P:Program}{neg:Bool}{t u:TypeId}{x y:Operand}{fs:Array Field}(ht:P.underlying t=some (.struct fs)):PSound P (.binOp (eqOp neg) t x y u) (.eqg neg (@gOK P t) (@gKs P t) x y):=fun β ev ev' o v ho hv h=>by
 have hx:=hv x (by simp[Op.operands])
 have hy:=hv y (by simp[Op.operands])
 simp only[pop] at h
 split at h
 case isFalse=>cases h
 rename_i hg
 unfold gOK at hg
 simp only[ht,Bool.and_eq_true,Bool.not_eq_true',Option.isSome_iff_exists] at hg
 obtain⟨⟨ks,hf⟩,hp,hm⟩:=hg
 have hks : @gKs P t=ks:=by unfold gKs;simp only[ht,hf,Option.getD_some]
 rw[hks] at h
 split at h
 case h_2=>cases h
 rename_i xs ys ha hb
 rw[ha] at hx;rw[hb] at hy
 rw[Option.map_eq_some_iff] at h
 obtain⟨r,h1,h2⟩:=h
 subst h2
 have hfo:P.fieldsOf t=fs:=by unfold Program.fieldsOf;rw[ht]
 generalize hx':ev' x=vx at hx
 generalize hy':ev' y=vy at hy
 cases hx with
 | @agg _ xs' sx ix=>
   cases hy with
   | @agg _ ys' sy iy=>
     have h3:=eqAll_rel (VRs.arr.2 ⟨sx,ix⟩) (VRs.arr.2 ⟨sy,iy⟩) h1
     refine⟨.bool (neg ^^ r),fun w=> ?_, .bool _⟩
     have he:(Op.equalIn 10000 t (.agg xs') (.agg ys')).run P w= .ok r w:=by
      rw[run_equalIn_struct w 9999 t xs' ys' (by rw[hfo];exact ht) hp,hfo]
      exact run_eqFields (d:=9998) hf (by simpa using h3)
     have hg:=run_eqGuard_agg w (eqOp neg) t x y xs' ys' hm
     simp only[execOp,ho,hx',hy',Sem.run_bind,hg,Result.andThen_ok]
     cases neg
     ·simp only[eqOp,Bool.false_eq_true,if_false,run_eql_struct,he,Result.andThen_ok,Sem.run_pure];simp
     ·simp only[eqOp,if_true,run_neq_struct,he,Result.andThen_ok,Sem.run_pure];simp
end Can
end Go.Proofs.YticlaccbodpkeaaGreatDoor
namespace Go.Proofs.YticlaccbodpkeaaGreatDoor
namespace Can
open Go Go.RowKit
set_option linter.unusedSimpArgs false
set_option linter.unusedVariables false
variable {P:Program}
theorem run_invoke_len{ev':Operand→Value}{o:Oper}{x:Operand}{t:TypeId}(ho:o.op= .call { callee:= .builtin .len,args:= #[x],argTypes:= #[t] }){v:Value}(w:World)(h:(Builtin.len_ #[t] o.type #[ev' x]).run P w= .ok v w) :
 (execOp ev' o).run P w= .ok (.value v) w:=by
 simp only[execOp,ho,resolve,Sem.run_bind,Sem.run_pure,Result.andThen_ok,invoke,builtin,List.map_toArray,List.map_cons,List.map_nil,h]
theorem psound_len{t e:TypeId}{x:Operand}(ht:P.underlying t=some (.slice e)):PSound P (.call { callee:= .builtin .len,args:= #[x],argTypes:= #[t] }) (.len x):=fun β ev ev' o v ho hv h=>by
 have hx:=hv x (by simp[Op.operands,Call.operands])
 simp only[pop] at h
 split at h
 ·rename_i a n c ha
  rw[ha] at hx
  cases h
  obtain⟨a',c',hxv,_⟩:=hx.slice_inv
  refine⟨_,fun w=>run_invoke_len ho w ?_, .int _ _⟩
  simp[Builtin.len_,hxv,run_underlying ht,goInt]
 ·cases h
theorem psound_lens{t:TypeId}{x:Operand}(ht:P.underlying t=some .string):PSound P (.call { callee:= .builtin .len,args:= #[x],argTypes:= #[t] }) (.lens x):=fun β ev ev' o v ho hv h=>by
 have hx:=hv x (by simp[Op.operands,Call.operands])
 simp only[pop] at h
 split at h
 ·rename_i s ha
  rw[ha] at hx
  cases h
  refine⟨_,fun w=>run_invoke_len ho w ?_, .int _ _⟩
  simp[Builtin.len_,hx.string_inv,run_underlying ht,goInt]
 ·cases h
def Bds (ev':Operand→Value)(d:Nat)(x:Option Operand)(n:Int):Prop:=(x=none∧n=d)∨∃y k,x=some y∧ev' y= .int k n
theorem bds_of{β:Nat→Ent}{ev ev':Operand→Value}{d d':Nat}{x:Option Operand}{n:Int}(h:bnd ev d x=some n)(hv : ∀y,x=some y→VR β (ev y) (ev' y))(hd:x=none→d'=d):Bds ev' d' x n:=by
 cases x with
 | none=>simp[bnd] at h;exact .inl ⟨rfl,by rw[hd rfl];exact h.symm⟩
 | some y=>
   simp only[bnd] at h
   split at h
   ·rename_i k m hy
    cases h
    have:=hv y rfl
    rw[hy] at this
    exact .inr ⟨y,k,rfl,this.int_inv⟩
   ·cases h
theorem run_bound{k:IntKind}{n:Int}{y:Nat}{code:BoundsCode}(h0:0≤n)(h1:n≤y)(w:World):(Instr.sliceBound (.int k n) y code).run P w= .ok n.toNat w:=by
 simp[Instr.sliceBound,asIntOf,h0,h1]
theorem run_sliceBounds{ev':Operand→Value}{b:Bool}{len cap:Nat}{lo hi mx:Option Operand}{l h m:Int}(hl:Bds ev' 0 lo l)(hh:Bds ev' len hi h)(hm:Bds ev' cap mx m)(hmx:mx.isSome=true→hi.isSome=true)
 (h0:0≤l) (h1:l≤h) (h2:h≤m) (h3:m≤cap) (w:World):(Instr.sliceBounds b len cap (lo.map ev') (hi.map ev') (mx.map ev')).run P w= .ok (l.toNat,h.toNat,m.toNat) w:=by
 unfold Instr.sliceBounds
 rcases hm with ⟨rfl,rfl⟩ | ⟨ym,km,rfl,em⟩<;>rcases hh with ⟨rfl,rfl⟩ | ⟨yh,kh,rfl,eh⟩<;>rcases hl with ⟨rfl,rfl⟩ | ⟨yl,kl,rfl,el⟩<;>
  simp only[Option.map_none,Option.map_some,Sem.run_bind,Sem.run_pure,Result.andThen_ok,Int.toNat_natCast, *]<;>
  first
  | rfl
  | (simp at hmx;done)
  | (repeat (first | rw[run_bound (by omega) (by omega)] | simp only[Result.andThen_ok,Sem.run_pure,Int.toNat_natCast] | rfl))
theorem psound_sstr{t:TypeId}{x:Operand}{lo hi:Option Operand}(ht:P.underlying t=some .string):PSound P (.slice t x lo hi none) (.sstr x lo hi):=fun β ev ev' o v ho hv h=>by
 have hx:=hv x (by simp[Op.operands])
 simp only[pop] at h
 split at h
 ·rename_i s l hh ha hl hhh
  split at h
  ·rename_i hb
   rw[ha] at hx
   rw[ha] at hhh
   cases h
   have b1:=bds_of (d':=0) hl (fun y e=>hv y (by simp[Op.operands,e])) (fun _=>rfl)
   have b2:=bds_of (d':=s.size) hhh (fun y e=>hv y (by simp[Op.operands,e])) (fun _=>rfl)
   refine⟨_,fun w=> ?_, .string _⟩
   have b3:Bds ev' s.size none (s.size:Int):= .inl ⟨rfl,rfl⟩
   have hr:=run_sliceBounds (P:=P) (b:=false) (cap:=s.size) b1 b2 b3 (by simp) hb.1 hb.2.1 hb.2.2 (Int.le_refl _) w
   simp only[Option.map_none] at hr
   simp only[execOp,ho,hx.string_inv,Instr.sliceAt,Instr.slice,Sem.run_bind,run_underlying ht,Result.andThen_ok,Option.map_none,Option.isSome_none,Bool.false_eq_true,if_false,hr,Sem.run_pure]
  ·cases h
 ·cases h
theorem run_isAgg0_no{t:TypeId}{d:TypeDesc}(h:P.underlying t=some d)(hd:isAggD d=false)(w:World):(isAgg t).run P w= .ok false w:=by
 unfold isAgg
 simp only[Sem.run_bind,run_underlying h,Result.andThen_ok]
 cases d<;>first | rfl | cases hd
theorem run_isAgg0_yes{t:TypeId}{d:TypeDesc}(h:P.underlying t=some d)(hd:isAggD d=true)(w:World):(isAgg t).run P w= .ok true w:=by
 unfold isAgg
 simp only[Sem.run_bind,run_underlying h,Result.andThen_ok]
 cases d<;>first | rfl | cases hd
theorem run_part{β:Nat→Ent}{cs cs':Array Value}(hsz:cs.size=cs'.size)(hi : ∀i (h1:i<cs.size) (h2:i<cs'.size),VR β cs[i] cs'[i]){e:TypeId}{d n:Nat}{ed:TypeDesc}{g:Bool}(he:P.underlying e=some ed)(hg:isAggD ed=g)
 (hn:(P.info? e).map (·.size)=some n) {v:Value} (h:partV cs.toList d (if g then some n else none)=some v) : ∃v',(∀w,(part e cs' d).run P w= .ok v' w)∧VR β v v':=by
 cases g with
 | false=>
   simp only[Bool.false_eq_true,if_false,partV] at h
   obtain⟨h1,h2⟩:=List.getElem?_eq_some_iff.1 h
   have hd:d<cs'.size:=by have:d<cs.size:=by simpa using h1
                          omega
   refine⟨cs'[d],fun w=> ?_,?_⟩
   ·simp only[part,Sem.run_bind,run_isAgg0_no he hg,Result.andThen_ok,Bool.false_eq_true,if_false,Array.getElem?_eq_getElem hd,Sem.run_pure]
   ·rw[←h2];simpa using hi d (by simpa using h1) hd
 | true=>
   simp only[if_true,partV] at h
   split at h
   ·rename_i hle
    cases h
    refine⟨.agg (cs'.extract d (d+n)),fun w=> ?_, .agg ?_ fun i h1 h2=> ?_⟩
    ·simp only[part,Sem.run_bind,run_isAgg0_yes he hg,Result.andThen_ok,if_true,run_sz hn,Sem.run_pure]
    ·have:d+n≤cs.size:=by simpa using hle
     simp;omega
    ·simp only[List.size_toArray,List.length_take,List.length_drop,Array.length_toList,Array.size_extract] at h1 h2
     simp only[List.getElem_toArray,List.getElem_take,List.getElem_drop,Array.getElem_toList,Array.getElem_extract]
     exact hi _ _ _
   ·cases h
theorem psound_fld{s:TypeId}{x:Operand}{f n:Nat}{fs:Array Field}{fld:Field}{ed:TypeDesc}{g:Bool}(hs:P.underlying s=some (.struct fs))(hf:fs[f]? = some fld)(he:P.underlying fld.type=some ed)(hg:isAggD ed=g)
 (hn:(P.info? fld.type).map (·.size)=some n):PSound P (.field s x f) (.fld x fld.offset (if g then some n else none)):=fun β ev ev' o v ho hv h=>by
 have hx:=hv x (by simp[Op.operands])
 simp only[pop] at h
 split at h
 ·rename_i cs ha
  rw[ha] at hx
  obtain⟨bs,hxv,hsz,hi⟩ : ∃bs,ev' x= .agg bs∧cs.size=bs.size∧∀i (h1:i<cs.size) (h2:i<bs.size),VR β cs[i] bs[i]:=by
   generalize ev' x=q at hx
   cases hx with
   | agg h hi=>exact⟨_,rfl,h,hi⟩
  obtain⟨v',h1,h2⟩:=run_part hsz hi he hg hn h
  refine⟨v',fun w=> ?_,h2⟩
  simp only[execOp,ho,Instr.field,hxv,asAgg,Sem.run_bind,run_underlying hs,Result.andThen_ok,hf,Sem.run_pure,h1]
 ·cases h
theorem psound_idxv{t e:TypeId}{x i:Operand}{n sz:Nat}{ed:TypeDesc}{g:Bool}(ht:P.underlying t=some (.array n e))(he:P.underlying e=some ed)(hg:isAggD ed=g)
 (hn:(P.info? e).map (·.size)=some sz):PSound P (.index t x i) (.idxv x i n sz g):=fun β ev ev' o v ho hv h=>by
 have hx:=hv x (by simp[Op.operands])
 have hi:=hv i (by simp[Op.operands])
 simp only[pop] at h
 split at h
 ·rename_i cs k j ha hj
  rw[ha] at hx
  rw[hj] at hi
  split at h
  ·rename_i hb
   obtain⟨bs,hxv,hsz,hie⟩ : ∃bs,ev' x= .agg bs∧cs.size=bs.size∧∀i (h1:i<cs.size) (h2:i<bs.size),VR β cs[i] bs[i]:=by
    generalize ev' x=q at hx
    cases hx with
    | agg h hi=>exact⟨_,rfl,h,hi⟩
   obtain⟨v',h1,h2⟩:=run_part hsz hie he hg hn h
   refine⟨v',fun w=> ?_,h2⟩
   simp only[execOp,ho,hxv,hi.int_inv,Instr.index,asIntOf,Sem.run_bind,run_underlying ht,Result.andThen_ok,Sem.run_pure,if_pos hb,run_sz hn,h1]
  ·cases h
 ·cases h
theorem psound_mx{b:Bool}{x y:Operand}{ts:Array TypeId}:PSound P (.call { callee:= .builtin (if b then .max else .min),args:= #[x,y],argTypes:=ts }) (.mx b x y):=fun β ev ev' o v ho hv h=>by
 have hx:=hv x (by simp[Op.operands,Call.operands])
 have hy:=hv y (by simp[Op.operands,Call.operands])
 simp only[pop] at h
 split at h
 ·rename_i k m k' n ha hb
  rw[ha] at hx
  rw[hb] at hy
  cases h
  refine⟨_,fun w=> ?_, .int _ _⟩
  cases b<;>simp[execOp,ho,resolve,Sem.run_bind,Sem.run_pure,Result.andThen_ok,invoke,builtin,hx.int_inv,hy.int_inv,Builtin.max_,Builtin.min_,Builtin.max2,Builtin.min2]
 ·cases h
inductive LOp where
 | ld (x:Operand)
 | lda (n:Nat) (x:Operand)
 | slc (e sz:Nat) (x:Operand) (lo hi mx:Option Operand)
 | b2s (x:Operand)
 | ucv (f:TypeId→Nat→Nat→Bool) (x:Operand)
 | eqq (neg:Bool) (x y:Operand)
 | lkm (kk:Nat) (z:Value) (ok:Bool) (x i:Operand)
def sameK:Nat→Value→Value→Option Bool
 | 0, .int k a, .int k' b=>if k=k' then some (a==b) else none
 | 1, .string a, .string b=>some (a==b)
 | 2, .bool a, .bool b=>some (a==b)
 | _,_,_=>none
def findK(kk:Nat)(k:Value):List MapEntry→Nat→Option (Option (Nat×Value))
 | [],_=>some none
 | e::es,i=>match sameK kk k e.key with
   | some true=>some (some (i,e.val))
   | some false=>findK kk k es (i+1)
   | none=>none
def lkR (z:Value)(ok:Bool):Option (Option (Nat×Value))→Option Value
 | some (some (_,v))=>some (if ok then .tuple #[v, .bool true] else v)
 | some none=>some (if ok then .tuple #[z, .bool false] else z)
 | none=>none
def isKey:Nat→Value→Bool
 | 0, .int _ _=>true
 | 1, .string _=>true
 | 2, .bool _=>true
 | _,_=>false
def lkV (kk:Nat)(z:Value)(ok:Bool)(k:Value)(o:CObj):Option Value:=match o with
 | .map es _=>if isKey kk k=true then lkR z ok (findK kk k es.toList 0) else none
 | .fm f _=>match kk,k with
   | 1, .string s=>lkR z ok (some ((f s).map fun n=>(0, .int .i64 n)))
   | _,_=>none
 | _=>none
def okSl (H:CH)(e:TypeId):Value→Bool
 | .slice (some ⟨l,_,none⟩) _ _=>match H.ob l with
   | .cells _ e' .ro=>true
   | .cells _ e' _=>e'==e
   | _=>false
 | _=>true
def byteList:List Value→Option (List UInt8)
 | []=>some []
 | .int .u8 n::r=>(byteList r).map (UInt8.ofNat n.toNat:: ·)
 | _::_=>none
def lop (H:CH)(ev:Operand→Value):LOp→Option Value
 | .eqq neg x y=>match ev x,ev y with
   | .pointer a, .pointer none=>some (.bool (neg ^^ a.isNone))
   | .pointer none, .pointer b=>some (.bool (neg ^^ b.isNone))
   | .pointer (some ⟨l,o,none⟩), .pointer (some ⟨l',o',none⟩)=>match H.ob l with
     | .cells _ _ _=>if l=l' then some (.bool (neg ^^ (o==o'))) else none
     | _=>none
   | _,_=>none
 | .ucv f x=>match ev x with
   | .pointer none=>some (.pointer none)
   | .pointer (some ⟨l,o,none⟩)=>match H.ob l with
     | .cells cs e .ex=>if f e cs.length o=true then some (.pointer (some ⟨l,o,none⟩)) else none
     | _=>none
   | _=>none
 | .ld x=>match ev x with
   | .pointer (some ⟨l,o,none⟩)=>match H.ob l with
     | .cells cs _ _=>cs[o]?
     | _=>none
   | _=>none
 | .lda n x=>match ev x with
   | .pointer (some ⟨l,o,none⟩)=>match H.ob l with
     | .cells cs _ _=>if o+n≤cs.length then some (.agg ((cs.drop o).take n).toArray) else none
     | _=>none
   | _=>none
 | .slc e sz x lo hi mx=>match bnd ev 0 lo,bnd ev (lenV (ev x)) hi,bnd ev (capV (ev x)) mx with
   | some l,some h,some m=>if okSl H e (ev x)&&(mx.isNone||hi.isSome) then sliceV sz (ev x) l h m mx.isSome else none
   | _,_,_=>none
 | .b2s x=>match ev x with
   | .slice none 0 0=>some (.string .empty)
   | .slice (some ⟨l,o,none⟩) n _=>match H.ob l with
     | .cells cs _ _=>if o+n≤cs.length then (byteList ((cs.drop o).take n)).map fun bs=> .string ⟨bs.toArray⟩ else none
     | _=>none
   | .slice (some ⟨_,_,some _⟩) 0 _=>some (.string .empty)
   | _=>none
 | .lkm kk z ok x i=>match ev x with
   | .map none=>if isKey kk (ev i)=true then lkR z ok (some none) else none
   | .map (some l)=>lkV kk z ok (ev i) (H.ob l)
   | _=>none
def LSound(P:Program)(op:Op)(r:LOp):Prop:=
 ∀(B:Nat) (β:Nat→Ent) (H:CH) (w:World) (ev ev':Operand→Value) (o:Oper) (v:Value),o.op=op→(∀x∈op.operands,VR β (ev x) (ev' x))→Sim P B β H w→lop H ev r=some v→
  ∃v',(execOp ev' o).run P w= .ok (.value v') w∧VR β v v'
theorem run_isAgg_no{t:TypeId}{d:TypeDesc}(h:P.underlying t=some d)(hd:(match d with | .struct _ | .array _ _=>true | _=>false)=false)(w:World):(isAgg t).run P w= .ok false w:=by
 simp only[isAgg,Sem.run_bind,run_underlying h,Result.andThen_ok]
 cases d<;>first | rfl | cases hd
theorem run_isAgg_yes{t:TypeId}{d:TypeDesc}(h:P.underlying t=some d)(hd:(match d with | .struct _ | .array _ _=>true | _=>false)=true)(w:World):(isAgg t).run P w= .ok true w:=by
 simp only[isAgg,Sem.run_bind,run_underlying h,Result.andThen_ok]
 cases d<;>first | rfl | cases hd
theorem lsound_ld{t:TypeId}{d:TypeDesc}{x:Operand}(h:P.underlying t=some d)(hd:(match d with | .struct _ | .array _ _=>true | _=>false)=false):LSound P (.load t x) (.ld x):=fun B β H w ev ev' o v ho hv hS hr=>by
 have hx:=hv x (by simp[Op.operands])
 simp only[lop] at hr
 split at hr
 ·rename_i l oo ha
  split at hr
  ·rename_i cs e k hob
   rw[ha] at hx
   obtain⟨b,z,hxv,hc⟩:=hS.load hx hob
   obtain⟨u,hu,hvu⟩:=hc _ _ hr
   refine⟨u,?_,hvu⟩
   simp only[execOp,ho,hxv,Instr.loadAt,Instr.sureAddr,loadVar,Sem.run_bind,Sem.run_pure,Result.andThen_ok,run_isAgg_no h hd,Bool.false_eq_true,if_false]
   simp[Go.load,Sem.run,hu]
  ·cases hr
 ·cases hr
theorem lsound_lda{t:TypeId}{d:TypeDesc}{n:Nat}{x:Operand}(h:P.underlying t=some d)(hd:(match d with | .struct _ | .array _ _=>true | _=>false)=true)(hn:(P.info? t).map (·.size)=some n):LSound P (.load t x) (.lda n x):=fun B β H w ev ev' o v ho hv hS hr=>by
 have hx:=hv x (by simp[Op.operands])
 simp only[lop] at hr
 split at hr
 ·rename_i l oo ha
  split at hr
  ·rename_i cs e k hob
   split at hr
   ·rename_i hle
    cases hr
    rw[ha] at hx
    obtain⟨b,sz,m,hb,hlive⟩:=hS.cells hob
    have hxv:ev' x= .pointer (some ⟨b.1,oo+b.2,none⟩):=by
     generalize hxv:ev' x=xv at hx
     cases hx with
     | ptr hl=>rw[hb] at hl;cases hl;rfl
     | pdead a hl=>rw[hb] at hl;cases hl
    obtain⟨us,h1,h2,h3⟩:=hlive.reads oo n hle
    refine⟨.agg us.toArray,?_, .agg (by simp;omega) ?_⟩
    ·simp only[execOp,ho,hxv,Instr.loadAt,Instr.sureAddr,loadVar,Sem.run_bind,Sem.run_pure,Result.andThen_ok,run_isAgg_yes h hd,if_true,run_sz hn]
     have:=run_loadCells_list (P:=P) w ⟨b.1,oo+b.2,none⟩ us h3
     rw[h2] at this
     simp only[this,Result.andThen_ok]
    ·have:=(VRs.arr (xa:=((cs.drop oo).take n).toArray) (bs:=us.toArray)).1 (by simpa using h1)
     exact this.2
   ·cases hr
  ·cases hr
 ·cases hr
end Can
end Go.Proofs.YticlaccbodpkeaaGreatDoor
namespace Go.Proofs.YticlaccbodpkeaaGreatDoor
namespace Can
open Go Go.RowKit
set_option linter.unusedSimpArgs false
set_option linter.unusedVariables false
variable {P:Program}
theorem run_sliceAt{ev':Operand→Value}{o:Oper}{t e sz:Nat}{x:Operand}{lo hi mx:Option Operand}(ho:o.op= .slice t x lo hi mx)(ht:P.underlying t=some (.slice e))(hz:(P.info? e).map (·.size)=some sz)
 {a:Option Addr} {n c:Nat} (hx:ev' x= .slice a n c) {l h m:Int} (hl:Bds ev' 0 lo l) (hh:Bds ev' n hi h) (hm:Bds ev' c mx m) (hmx:mx.isSome=true→hi.isSome=true)
 (h0:0≤l) (h1:l≤h) (h2:h≤m) (h3:m≤c) (w:World) :
 (execOp ev' o).run P w= .ok (.value (.slice (if m.toNat=l.toNat then a else a.map (·.add (l.toNat*sz))) (h.toNat-l.toNat) (m.toNat-l.toNat))) w:=by
 have hr:=run_sliceBounds (P:=P) (b:=true) hl hh hm hmx h0 h1 h2 h3 w
 simp only[execOp,ho,hx,Instr.sliceAt,Instr.slice,Sem.run_bind,run_underlying ht,Result.andThen_ok,hr,run_sz hz,Sem.run_pure]
theorem lsound_slc{t e sz:Nat}{x:Operand}{lo hi mx:Option Operand}(ht:P.underlying t=some (.slice e))(hz:(P.info? e).map (·.size)=some sz):LSound P (.slice t x lo hi mx) (.slc e sz x lo hi mx):=fun B β H w ev ev' o v ho hv hS hr=>by
 have hx:=hv x (by simp[Op.operands])
 simp only[lop] at hr
 split at hr
 ·rename_i l h m hl hh hm
  split at hr
  ·rename_i hok
   obtain⟨hok,hmx⟩:=by simpa using hok
   have hmx':mx.isSome=true→hi.isSome=true:=fun g=>by cases mx<;>simp_all
   have vl:=fun y (e:lo=some y)=>hv y (by simp[Op.operands,e])
   have vh:=fun y (e:hi=some y)=>hv y (by simp[Op.operands,e])
   have vm:=fun y (e:mx=some y)=>hv y (by simp[Op.operands,e])
   have bl:=bds_of (d':=0) hl vl (fun _=>rfl)
   generalize hev:ev x=vx at *
   generalize hev':ev' x=vx' at *
   cases hx with
   | snil=>
     simp only[sliceV] at hr
     split at hr
     ·rename_i g
      obtain⟨rfl,rfl,rfl⟩:=g
      cases hr
      refine⟨_,run_sliceAt ho ht hz hev' bl (bds_of hh vh (fun _=>rfl)) (bds_of hm vm (fun _=>rfl)) hmx' (Int.le_refl _) (Int.le_refl _) (Int.le_refl _) (by simp) w,?_⟩
      simp
      exact .snil
     ·cases hr
   | svoid a=>
     simp only[sliceV] at hr
     split at hr
     ·rename_i g
      obtain⟨rfl,rfl,rfl⟩:=g
      cases hr
      refine⟨_,run_sliceAt ho ht hz hev' bl (bds_of hh vh (fun _=>rfl)) (bds_of hm vm (fun _=>rfl)) hmx' (Int.le_refl _) (Int.le_refl _) (Int.le_refl _) (by simp) w,?_⟩
      simp
      exact .svoid a
     ·cases hr
   | sweird a c=>
     simp only[sliceV] at hr
     split at hr
     ·rename_i g
      obtain⟨rfl,rfl,rfl⟩:=g
      cases hr
      cases mx with
      | none=>
        refine⟨_,run_sliceAt (m:=(c:Int)) ho ht hz hev' bl (bds_of hh vh (fun _=>rfl)) (.inl ⟨rfl,rfl⟩) (by simp) (Int.le_refl _) (Int.le_refl _) (by omega) (by simp) w,?_⟩
        simp
        split<;>exact .sweird _ _
      | some y=>
        refine⟨_,run_sliceAt (m:=0) ho ht hz hev' bl (bds_of hh vh (fun _=>rfl)) (bds_of hm vm (fun e=>(by cases e))) hmx' (Int.le_refl _) (Int.le_refl _) (by omega) (by omega) w,?_⟩
        simp
        exact .sweird _ _
     ·cases hr
   | @sdead l' oo n c c' a hd h2=>
     have hob:=hS.ent l'
     rw[hd] at hob
     cases ho':H.ob l'<;>rw[ho'] at hob<;>try exact hob.elim
     simp[okSl,ho'] at hok
   | @szero l' oo b szb nn k a hb=>
     simp only[sliceV] at hr
     split at hr
     ·rename_i g
      obtain⟨g0,g1,g2,g3⟩:=g
      have e1:l=0:=by omega
      have e2:h=0:=by omega
      have e3:m=0:=by omega
      subst e1 e2 e3
      rw[if_pos rfl] at hr
      have hrun:=run_sliceAt (m:=0) ho ht hz hev' bl (bds_of hh vh (fun _=>rfl)) (bds_of hm vm (fun _=>rfl)) hmx' (Int.le_refl _) (Int.le_refl _) (Int.le_refl _) (by simp) w
      cases mx with
      | none=>
        simp only[Option.isSome_none,Bool.false_eq_true,if_false] at hr
        cases hr
        refine⟨_,hrun,?_⟩
        simp
        exact .szero _ hb
      | some y=>
        simp only[Option.isSome_some,if_true] at hr
        cases hr
        refine⟨_,hrun,?_⟩
        simp
        exact .svoid _
     ·cases hr
   | @sl l' oo b szb nn n c c' k hb h1 h2 h3 h4 h5=>
     obtain⟨cs,e0,hob,hlive⟩:=hS.live hb
     have hsz:k≠ .ro→szb=sz:=fun hk=>by
      have he:e0=e:=by
       simp only[okSl,hob] at hok
       cases k with
       | ro=>exact absurd rfl hk
       | ex=>simpa using hok
       | gr=>simpa using hok
      subst he
      obtain⟨_,_,_,_,_,_,_,g,_⟩:=hlive
      have g:=g hk
      rw[hz] at g;exact(Option.some.inj g).symm
     simp only[sliceV] at hr
     split at hr
     ·rename_i hbd
      obtain⟨g0,g1,g2,g3⟩:=hbd
      have bh:=bds_of (d':=n) hh vh (fun _=>rfl)
      have key : ∀m':Int,Bds ev' c' mx m'→m≤m'→m'≤c'→∃v',(execOp ev' o).run P w= .ok (.value v') w∧v'=(.slice (if m'.toNat=l.toNat then some ⟨b.1,oo+b.2,none⟩ else some ⟨b.1,oo+l.toNat*sz+b.2,none⟩) (h.toNat-l.toNat) (m'.toNat-l.toNat)):=by
       intro m' bm hmm hm'
       refine⟨_,run_sliceAt ho ht hz hev' bl bh bm hmx' g0 g1 (by omega) hm' w,?_⟩
       simp[Addr.add_lit,Nat.add_right_comm]
      cases mx with
      | none=>
        have hmc:m=c:=by simpa[bnd,capV] using hm.symm
        subst hmc
        obtain⟨v',hrun,rfl⟩:=key c' (.inl ⟨rfl,rfl⟩) (by omega) (Int.le_refl _)
        refine⟨_,hrun,?_⟩
        split at hr
        ·rename_i hlm
         simp only[Option.isSome_none,Bool.false_eq_true,if_false] at hr
         cases hr
         have hh0:h.toNat-l.toNat=0:=by omega
         rw[hh0]
         by_cases hcl:c'=l.toNat
         ·have hz0:((c':Int).toNat-l.toNat)=0:=by omega
          rw[hz0]
          split<;>exact .szero _ hb
         ·rw[if_neg (by omega)]
          refine .sl hb (Nat.zero_le _) (Nat.zero_le _) (by omega) (fun g=> ?_) (fun g=> ?_)
          ·have:=h4 g
           have e0:=hsz g
           subst e0
           have e2:l.toNat*szb+(c'-l.toNat)*szb=c'*szb:=by rw[←Nat.add_mul];congr 1;omega
           simp only[Int.toNat_natCast]
           omega
          ·have:=h5 g
           simp only[Int.toNat_natCast]
           omega
        ·rename_i hlm
         cases hr
         rw[if_neg (by omega)]
         have e1:(h-l).toNat=h.toNat-l.toNat:=by omega
         rw[e1]
         have hle:l.toNat≤c':=by omega
         refine .sl hb (by omega) (by omega) (by simp only[Int.toNat_natCast];omega) (fun g=> ?_) (fun g=> ?_)
         ·have:=h4 g
          have e0:=hsz g
          subst e0
          have e2:l.toNat*szb+(c'-l.toNat)*szb=c'*szb:=by rw[←Nat.add_mul];congr 1;omega
          simp only[Int.toNat_natCast]
          omega
         ·have:=h5 g
          simp only[Int.toNat_natCast]
          omega
      | some y=>
        obtain⟨v',hrun,rfl⟩:=key m (bds_of hm vm (fun e=>(by cases e))) (Int.le_refl _) (by omega)
        refine⟨_,hrun,?_⟩
        split at hr
        ·rename_i hlm
         simp only[Option.isSome_some,if_true] at hr
         cases hr
         have hh0:h.toNat-l.toNat=0:=by omega
         have hm0:m.toNat-l.toNat=0:=by omega
         rw[hh0,hm0]
         split<;>exact .svoid _
        ·rename_i hlm
         cases hr
         rw[if_neg (by omega)]
         have e1:(h-l).toNat=h.toNat-l.toNat:=by omega
         have e2:(m-l).toNat=m.toNat-l.toNat:=by omega
         rw[e1,e2]
         refine .sl hb (by omega) (Nat.le_refl _) (by omega) (fun g=> ?_) (fun g=>rfl)
         have:=h4 g
         have e0:=hsz g
         subst e0
         have e3:l.toNat*szb+(m.toNat-l.toNat)*szb=m.toNat*szb:=by rw[←Nat.add_mul];congr 1;omega
         have e4:m.toNat*szb≤c'*szb:=Nat.mul_le_mul_right _ (by omega)
         omega
     ·cases hr
   | _=>simp[sliceV] at hr
  ·cases hr
 ·cases hr
end Can
end Go.Proofs.YticlaccbodpkeaaGreatDoor
namespace Go.Proofs.YticlaccbodpkeaaGreatDoor
namespace Can
open Go Go.RowKit
set_option linter.unusedSimpArgs false
set_option linter.unusedVariables false
variable {P:Program}
theorem fold_set(off:Nat) : ∀(vs:List Value) (i:Nat) (cells:Array Value),off+i+vs.length≤cells.size→
 ((vs.zipIdx i).foldl (fun cs (x:Value×Nat)=>cs.setIfInBounds (off+x.2) x.1) cells).toList=setCells cells.toList (off+i) vs
 | [],i,cells,_=>by simp[setCells]
 | v::r,i,cells,h=>by
   simp only[List.zipIdx_cons,List.foldl_cons]
   rw[fold_set off r (i+1) _ (by simp at h⊢;omega)]
   rw[Array.toList_setIfInBounds,show off+(i+1)=(off+i)+1 by omega,setCells_cons (by simp at h⊢;omega)]
theorem VRs.set{β:Nat→Ent}{cs cs' us us':List Value}{o:Nat}(h:VRs β cs cs')(hu:VRs β us us'):VRs β (setCells cs o us) (setCells cs' o us'):=by
 have take : ∀n,VRs β (cs.take n) (cs'.take n):=fun n=>⟨by simp[h.1],fun i v hv=>by
  rw[List.getElem?_take] at hv⊢
  split at hv
  ·obtain⟨v',a,b⟩:=h.2 i v hv;exact⟨v',by simp[*],b⟩
  ·cases hv⟩
 have drop : ∀n,VRs β (cs.drop n) (cs'.drop n):=fun n=>⟨by simp[h.1],fun i v hv=>by
  rw[List.getElem?_drop] at hv⊢
  exact h.2 _ v hv⟩
 unfold setCells
 rw[hu.1]
 exact VRs.append (VRs.append (take o) hu) (drop _)
theorem setCells_len{cs us:List Value}{o:Nat}(h:o+us.length≤cs.length):(setCells cs o us).length=cs.length:=setCells_length h
theorem fill_rel{β:Nat→Ent}{ev ev':Operand→Value}{place:Nat→Option (Nat×Nat)} : ∀(ps:List (Nat×Operand)) (pl:List (Nat×Nat×Operand)) (z cs:List Value) (z':Array Value),
 pl=ps.filterMap (fun p=>(place p.1).map fun q=>(q.1,q.2,p.2))→(∀p∈ps,(place p.1).isSome=true)→(∀p∈ps,VR β (ev p.2) (ev' p.2))→VRs β z z'.toList→bldV z (pl.map fun(o,s,x)=>(o,s,ev x))=some cs→
 ∃cs',Instr.fill place z' (ps.map fun(i,x)=>(i,ev' x))=some cs'∧VRs β cs cs'.toList
 | [],pl,z,cs,z',hp,_,_,hz,h=>by
   subst hp
   simp[bldV] at h
   subst h
   exact⟨z',rfl,hz⟩
 | (i,x)::ps,pl,z,cs,z',hp,hs,hv,hz,h=>by
   subst hp
   have hi:=hs (i,x) (List.mem_cons_self ..)
   obtain⟨⟨off,size⟩,hpl⟩:=Option.isSome_iff_exists.1 hi
   simp only at hpl
   simp only[List.filterMap_cons,hpl,Option.map_some,List.map_cons,bldV] at h
   split at h
   ·rename_i hg
    obtain⟨g1,g2,g3⟩:=hg
    have hx:=hv (i,x) (List.mem_cons_self ..)
    have hc:=hx.cells g1
    have hl1:(ev x).cells.size=(ev' x).cells.size:=by simpa using hc.1
    have hzl:z.length=z'.size:=by simpa using hz.1
    obtain⟨cs',h1,h2⟩:=fill_rel (ev:=ev) (ev':=ev') (place:=place) ps _ (setCells z off (ev x).cells.toList) cs ((ev' x).cells.zipIdx.foldl (fun cs (x:Value×Nat)=>cs.setIfInBounds (off+x.2) x.1) z') rfl
     (fun p hp=>hs p (List.mem_cons_of_mem _ hp)) (fun p hp=>hv p (List.mem_cons_of_mem _ hp)) (by
       have:=fold_set off (ev' x).cells.toList 0 z' (by simp;omega)
       rw[Nat.add_zero] at this
       rw[←Array.foldl_toList,Array.toList_zipIdx,this]
       exact hz.set hc) h
    refine⟨cs',?_,h2⟩
    simp only[List.map_cons,Instr.fill,hpl]
    rw[if_neg (by simp;omega)]
    exact h1
   ·cases h
theorem psound_bld_struct{t:TypeId}{fs:Array Field}{z:List Value}{ps:Array (Nat×Operand)}(ht:P.underlying t=some (.struct fs))(hz:(P.info? t).bind (·.zero)=some (.agg z.toArray))(hcl : ∀β,VRs β z z)
 (szs:List Nat) (hsz:fs.toList.map (fun f=>(P.info? f.type).map (·.size))=szs.map some) (hps : ∀p∈ps.toList,p.1<fs.size) :
 PSound P (.build t ps) (.bld z (ps.toList.filterMap fun p=>((fs.toList.map (·.offset)).zip szs)[p.1]?.map fun q=>(q.1,q.2,p.2))):=fun β ev ev' o v ho hv h=>by
 simp only[pop] at h
 cases hb:bldV z ((ps.toList.filterMap fun p=>((fs.toList.map (·.offset)).zip szs)[p.1]?.map fun q=>(q.1,q.2,p.2)).map fun(o,s,x)=>(o,s,ev x)) with
 | none=>rw[hb] at h;cases h
 | some cs=>
   rw[hb] at h
   cases h
   have hlen:szs.length=fs.size:=by have:=congrArg List.length hsz;simpa using this.symm
   have hplaces : ∀w:World,(fs.mapM fun f=>do pure (f.offset,←sizeOf f.type):Sem (Array (Nat×Nat))).run P w= .ok ((fs.toList.map (·.offset)).zip szs).toArray w:=by
    intro w
    have key : ∀(l:List Field) (ss:List Nat),l.map (fun f=>(P.info? f.type).map (·.size))=ss.map some→(l.mapM fun f=>do pure (f.offset,←sizeOf f.type):Sem (List (Nat×Nat))).run P w= .ok ((l.map (·.offset)).zip ss) w:=by
     intro l
     induction l with
     | nil=>intro ss hs;cases ss<;>simp_all
     | cons f l ih=>
       intro ss hs
       cases ss with
       | nil=>simp at hs
       | cons s ss=>
         simp only[List.map_cons,List.cons.injEq] at hs
         simp only[List.mapM_cons,Sem.run_bind,run_sz hs.1,Result.andThen_ok,Sem.run_pure,ih ss hs.2,List.map_cons,List.zip_cons_cons]
    rw[Array.mapM_eq_mapM_toList]
    simp only[Sem.run_map,key _ _ hsz,Result.andThen_ok]
   obtain⟨cs',h1,h2⟩:=fill_rel (β:=β) (ev:=ev) (ev':=ev') (place:=fun i=>((fs.toList.map (·.offset)).zip szs).toArray[i]?) ps.toList _ z cs z.toArray rfl
    (fun p hp=>by have:=hps p hp;simp[this,hlen]) (fun p hp=>hv _ (by simp[Op.operands];exact⟨p.1,by simpa using hp⟩)) (by simpa using hcl β) (by simpa using hb)
   refine⟨.agg cs',fun w=> ?_, .agg ?_ ?_⟩
   ·cases hi:P.info? t with
    | none=>simp[hi] at hz
    | some inf=>
      have hz':inf.zero=some (.agg z.toArray):=by simpa[hi] using hz
      simp only[execOp,ho,Instr.build,Sem.run_bind,zeroValue,typeInfo,Sem.run,hi,Result.andThen_ok,Sem.run_pure,hz',run_underlying ht,hplaces,Array.toList_map,h1,Value.cells,program,Sem.run_pure']
   ·have:=h2.1;simpa using this
   ·have:=(VRs.arr (xa:=cs.toArray) (bs:=cs')).1 (by simpa using h2)
    exact this.2
theorem psound_bld_array{t e n sz:TypeId}{z:List Value}{ps:Array (Nat×Operand)}(ht:P.underlying t=some (.array n e))(hn:(P.info? e).map (·.size)=some sz)(hz:(P.info? t).bind (·.zero)=some (.agg z.toArray))(hcl : ∀β,VRs β z z) :
 PSound P (.build t ps) (.bld z (ps.toList.map fun p=>(p.1*sz,sz,p.2))):=fun β ev ev' o v ho hv h=>by
 simp only[pop] at h
 cases hb:bldV z ((ps.toList.map fun p=>(p.1*sz,sz,p.2)).map fun(o,s,x)=>(o,s,ev x)) with
 | none=>rw[hb] at h;cases h
 | some cs=>
   rw[hb] at h
   cases h
   obtain⟨cs',h1,h2⟩:=fill_rel (β:=β) (ev:=ev) (ev':=ev') (place:=fun i=>some (i*sz,sz)) ps.toList (ps.toList.map fun p=>(p.1*sz,sz,p.2)) z cs z.toArray (by simp[List.filterMap_eq_map'])
    (fun p hp=>rfl) (fun p hp=>hv _ (by simp[Op.operands];exact⟨p.1,by simpa using hp⟩)) (by simpa using hcl β) hb
   refine⟨.agg cs',fun w=> ?_, .agg ?_ ?_⟩
   ·cases hi:P.info? t with
    | none=>simp[hi] at hz
    | some inf=>
      have hz':inf.zero=some (.agg z.toArray):=by simpa[hi] using hz
      simp only[execOp,ho,Instr.build,Sem.run_bind,zeroValue,typeInfo,Sem.run,hi,Result.andThen_ok,Sem.run_pure,hz',run_underlying ht,run_sz hn,Array.toList_map,h1,Value.cells,program,Sem.run_pure']
   ·have:=h2.1;simpa using this
   ·have:=(VRs.arr (xa:=cs.toArray) (bs:=cs')).1 (by simpa using h2)
    exact this.2
inductive AK where
 | ptr
 | sl (n c:Nat)
def akV:AK→Nat→Value
 | .ptr,l=> .pointer (some ⟨l,0,none⟩)
 | .sl n c,l=> .slice (some ⟨l,0,none⟩) n c
def AKr (mk:AK)(b sz:Nat)(k:Kd)(size:Nat)(v':Value):Prop:=
 match mk with
 | .ptr=>v'= .pointer (some ⟨b,0,none⟩)
 | .sl n c=>∃c',v'= .slice (some ⟨b,0,none⟩) n c'∧n≤c∧c≤c'∧c'≤maxLen∧c'*sz≤size∧(k≠ .gr→c'=c)
inductive AOp where
 | box (e:TypeId) (x:Operand)
 | new (e:TypeId) (z:List Value)
 | bsl (e sz n:Nat) (z:List Value) (ps:List (Nat×Operand))
 | mks (e sz bytes:Nat) (z:List Value) (l c:Operand)
def zeros(z:List Value)(n:Nat):List Value:=(List.range n).map fun i=>z.getD (i % z.length) undef
def aop (ev:Operand→Value):AOp→Option (List Value×TypeId×Kd×AK)
 | .box e x=>if isVal (ev x) then some ((ev x).cells.toList,e, .ex, .ptr) else none
 | .new e z=>some (z,e, .ex, .ptr)
 | .bsl e sz n z ps=>if n*sz≤16777216∧n≤16777216 then (bldV (zeros z (n*sz)) (ps.map fun(i,x)=>(i*sz,sz,ev x))).map fun cs=>(cs,e, .ex, .sl n n) else none
 | .mks e sz bytes z l c=>match ev l,ev c with
   | .int _ n, .int _ m=>if 0≤n∧n≤m∧(bytes:Int)*m≤281474976710656∧m≤9223372036854775807 then some (zeros z (m.toNat*sz),e, .ex, .sl n.toNat m.toNat) else none
   | _,_=>none
def ASound(P:Program)(op:Op)(r:AOp):Prop:=
 ∀(β:Nat→Ent) (ev ev':Operand→Value) (o:Oper) (cs:List Value) (e:TypeId) (k:Kd) (mk:AK),o.op=op→(∀x∈op.operands,VR β (ev x) (ev' x))→aop ev r=some (cs,e,k,mk)→
  k≠ .ro∧∃sz,(P.info? e).map (·.size)=some sz∧∀w:World,∃(cs':Array Value) (fr:Nat×Nat) (w':World) (v':Value),(execOp ev' o).run P w= .ok (.value v') w'∧w'.heap=w.heap.push (.cells cs' e fr)∧w'.os=w.os∧w'.tape=w.tape∧w'.output=w.output∧
   cs.length≤cs'.size∧(k= .ex→cs.length=cs'.size)∧(∀(i:Nat) (v:Value),cs[i]? = some v→∃u,cs'[i]? = some u∧VR β v u)∧(FrOk cs'.size fr)∧AKr mk w.heap.size sz k cs'.size v'
theorem vrs_arr{β:Nat→Ent}{cs:List Value}{cs':Array Value}(h:VRs β cs cs'.toList):cs.length=cs'.size∧∀(i:Nat) (v:Value),cs[i]? = some v→∃u,cs'[i]? = some u∧VR β v u:=
 ⟨by simpa using h.1,fun i v hv=>by obtain⟨u,a,b⟩:=h.2 i v hv;exact⟨u,by simpa using a,b⟩⟩
theorem asound_box{e sz:TypeId}{x:Operand}(hz:(P.info? e).map (·.size)=some sz):ASound P (.box e x) (.box e x):=fun β ev ev' o cs e0 k mk ho hv h=>by
 have hx:=hv x (by simp[Op.operands])
 simp only[aop] at h
 split at h
 ·rename_i hval
  simp only[Option.some.injEq,Prod.mk.injEq] at h
  obtain⟨rfl,rfl,rfl,rfl⟩:=h
  obtain⟨h1,h2⟩:=vrs_arr (hx.cells hval)
  refine⟨(by simp),sz,hz,fun w=>⟨(ev' x).cells,(0,0),w.alloc (.cells (ev' x).cells e),_,?_,rfl,rfl,rfl,rfl,by omega,fun _=>h1,h2, .inl rfl,rfl⟩⟩
  simp[execOp,ho,Instr.box,newVar,newRow,newObj,Sem.run]
 ·cases h
theorem asound_new{e sz:TypeId}{z:Value}(hz:(P.info? e).map (·.size)=some sz)(hzz:(P.info? e).bind (·.zero)=some z)(hcl : ∀β,VRs β z.cells.toList z.cells.toList):ASound P (.alloc e) (.new e z.cells.toList):=fun β ev ev' o cs e0 k mk ho hv h=>by
 simp only[aop,Option.some.injEq,Prod.mk.injEq] at h
 obtain⟨rfl,rfl,rfl,rfl⟩:=h
 obtain⟨h1,h2⟩:=vrs_arr (hcl β)
 cases hi:P.info? e with
 | none=>simp[hi] at hzz
 | some inf=>
   have hz':inf.zero=some z:=by simpa[hi] using hzz
   refine⟨(by simp),sz,by rw[←hi];exact hz,fun w=>⟨z.cells,(0,0),w.alloc (.cells z.cells e),_,?_,rfl,rfl,rfl,rfl,by omega,fun _=>h1,h2, .inl rfl,rfl⟩⟩
   simp[execOp,ho,Instr.alloc,newVar,newRow,newObj,Sem.run,zeroValue,typeInfo,hi,hz',program]
theorem zeros_rel{β:Nat→Ent}{z:Array Value}(hcl : ∀β,VRs β z.toList z.toList)(hz:0<z.size)(n:Nat):VRs β (zeros z.toList n) ((Array.range n).map (z[· % z.size]!)).toList:=by
 refine⟨by simp[zeros],fun i v hv=> ?_⟩
 unfold zeros at hv
 rw[List.getElem?_map] at hv
 cases hr:(List.range n)[i]? with
 | none=>rw[hr] at hv;cases hv
 | some j=>
   rw[hr] at hv
   obtain⟨hi,rfl⟩:=List.getElem?_eq_some_iff.1 hr
   have hin:i<n:=by simpa using hi
   simp only[Option.map_some,Option.some.injEq,List.getElem_range,Array.length_toList] at hv
   have hlt:i % z.size<z.size:=Nat.mod_lt _ hz
   obtain⟨v',h1,h2⟩:=(hcl β).2 (i % z.size) z[i % z.size] (by simp)
   have hv':v=z[i % z.size]:=by rw[←hv];simp[List.getD,hlt]
   refine⟨z[i % z.size],by simp[hin,hlt],?_⟩
   have:v'=z[i % z.size]:=by
    rw[Array.getElem?_toList,Array.getElem?_eq_getElem hlt] at h1;exact(Option.some.inj h1).symm
   rw[hv'];rw[this] at h2;exact h2
theorem asound_bsl{t e sz n:TypeId}{z:Value}{ps:Array (Nat×Operand)}(ht:P.underlying t=some (.slice e))(hz:(P.info? e).map (·.size)=some sz)(hzz:(P.info? e).bind (·.zero)=some z)(hcl : ∀β,VRs β z.cells.toList z.cells.toList)(h0:0<z.cells.size) :
 ASound P (.buildSlice t n ps) (.bsl e sz n z.cells.toList ps.toList):=fun β ev ev' o cs e0 k mk ho hv h=>by
 simp only[aop] at h
 split at h
 ·rename_i hlim
  cases hb:bldV (zeros z.cells.toList (n*sz)) (ps.toList.map fun(i,x)=>(i*sz,sz,ev x)) with
  | none=>rw[hb] at h;cases h
  | some cs0=>
    rw[hb] at h
    simp only[Option.map_some,Option.some.injEq,Prod.mk.injEq] at h
    obtain⟨rfl,rfl,rfl,rfl⟩:=h
    have hzr:VRs β (zeros z.cells.toList (n*sz)) ((Array.range (n*sz)).map (z.cells[· % z.cells.size]!)).toList:=zeros_rel hcl h0 _
    obtain⟨cs',h1,h2⟩:=fill_rel (β:=β) (ev:=ev) (ev':=ev') (place:=fun i=>some (i*sz,sz)) ps.toList (ps.toList.map fun p=>(p.1*sz,sz,p.2)) _ cs0 _ (by simp) (fun p hp=>rfl)
     (fun p hp=>hv _ (by simp[Op.operands];exact⟨p.1,by simpa using hp⟩)) hzr (by rw[List.map_map];exact hb)
    obtain⟨g1,g2⟩:=vrs_arr h2
    have hlen:cs'.size=n*sz:=by
     have key : ∀(pl:List (Nat×Nat×Value)) (z cs:List Value),bldV z pl=some cs→cs.length=z.length:=by
      intro pl
      induction pl with
      | nil=>intro z cs hh;simp[bldV] at hh;rw[hh]
      | cons p pl ih=>
        intro z cs hh
        obtain⟨o,s,v⟩:=p
        simp only[bldV] at hh
        split at hh
        ·rename_i g
         rw[ih _ _ hh,setCells_len (by simp;omega)]
        ·cases hh
     have:=key _ _ _ hb
     rw[←g1,this];simp[zeros]
    cases hi:P.info? e with
    | none=>simp[hi] at hzz
    | some inf=>
      have hz':inf.zero=some z:=by simpa[hi] using hzz
      have hsz':inf.size=sz:=by simpa[hi] using hz
      refine⟨(by simp),sz,by simpa using hsz',fun w=>⟨cs',(0,0),w.alloc (.cells cs' e),_,?_,rfl,rfl,rfl,rfl,by omega,fun _=>g1,g2, .inl rfl,n,rfl,Nat.le_refl _,Nat.le_refl _,?_,by rw[hlen];exact Nat.le_refl _,fun _=>rfl⟩⟩
      ·have hnl : ¬(16777216<n*sz):=Nat.not_lt.2 hlim.1
       by_cases hn0:n*sz=0
       ·have hemp:((Array.range (n*sz)).map ((#[]:Array Value)[· % (#[]:Array Value).size]!))=((Array.range (n*sz)).map (z.cells[· % z.cells.size]!)):=by rw[hn0];simp
        simp only[execOp,ho,Instr.buildSlice,Sem.run_bind,run_underlying ht,Result.andThen_ok,sizeOf,typeInfo,program,Sem.run,hi,Sem.run_pure,hsz']
        rw[if_neg (by simpa using hnl)]
        simp only[Sem.run_bind,Sem.run_pure,Result.andThen_ok,if_pos hn0,hemp,Array.toList_map]
        rw[h1]
        rfl
       ·simp only[execOp,ho,Instr.buildSlice,Sem.run_bind,run_underlying ht,Result.andThen_ok,sizeOf,typeInfo,program,Sem.run,hi,Sem.run_pure,hsz']
        rw[if_neg (by simpa using hnl)]
        simp only[Sem.run_bind,Sem.run_pure,Result.andThen_ok,if_neg hn0,zeroValue,typeInfo,program,Sem.run,hi,hz',Array.toList_map]
        rw[h1]
        rfl
      ·unfold maxLen;omega
 ·cases h
theorem asound_mks{t e sz bytes:Nat}{z:Value}{l c:Operand}(ht:P.underlying t=some (.slice e))(hz:(P.info? e).map (fun i=>(i.size,i.bytes))=some (sz,bytes))(hzz:(P.info? e).bind (·.zero)=some z)(hcl : ∀β,VRs β z.cells.toList z.cells.toList)(h0:0<z.cells.size) :
 ASound P (.makeSlice t l c) (.mks e sz bytes z.cells.toList l c):=fun β ev ev' o cs e0 k mk ho hv h=>by
 have hl:=hv l (by simp[Op.operands])
 have hc:=hv c (by simp[Op.operands])
 simp only[aop] at h
 split at h
 ·rename_i kn n km m hn hm
  split at h
  ·rename_i hb
   obtain⟨b0,b1,b2,b3⟩:=hb
   rw[hn] at hl;rw[hm] at hc
   simp only[Option.some.injEq,Prod.mk.injEq] at h
   obtain⟨rfl,rfl,rfl,rfl⟩:=h
   cases hi:P.info? e with
   | none=>simp[hi] at hzz
   | some inf=>
     have hz':inf.zero=some z:=by simpa[hi] using hzz
     obtain⟨hs,hby⟩:inf.size=sz∧inf.bytes=bytes:=by simpa[hi] using hz
     have hzr:VRs β (zeros z.cells.toList (m.toNat*sz)) ((Array.range (m.toNat*sz)).map (z.cells[· % z.cells.size]!)).toList:=zeros_rel hcl h0 _
     obtain⟨g1,g2⟩:=vrs_arr hzr
     have hsz:((Array.range (m.toNat*sz)).map (z.cells[· % z.cells.size]!)).size=m.toNat*sz:=by simp
     refine⟨(by simp),sz,by simpa using hs,fun w=>⟨(Array.range (m.toNat*sz)).map (z.cells[· % z.cells.size]!),(0,0),w.alloc (.cells ((Array.range (m.toNat*sz)).map (z.cells[· % z.cells.size]!)) e),_,?_,rfl,rfl,rfl,rfl,by omega,fun _=>g1,g2, .inl rfl,m.toNat,rfl,by omega,Nat.le_refl _,by unfold maxLen;omega,by rw[hsz];exact Nat.le_refl _,fun _=>rfl⟩⟩
     have hr:=run_make (P:=P) w t e inf z ht hi hz' kn km n m b0 b1 (by rw[hby];exact b2) b3
     rw[hs] at hr
     simp only[execOp,ho,hl.int_inv,hc.int_inv,Sem.run_bind,hr,Result.andThen_ok,Sem.run_pure]
     rfl
  ·cases h
 ·cases h
end Can
end Go.Proofs.YticlaccbodpkeaaGreatDoor
namespace Go.Proofs.YticlaccbodpkeaaGreatDoor
namespace Can
open Go Go.RowKit
set_option linter.unusedSimpArgs false
set_option linter.unusedVariables false
variable {P:Program}
inductive WOp where
 | st (n:Nat) (x v:Operand)
 | app (e sz bytes:Nat) (s x:Operand)
 | cpy (sz:Nat) (d s:Operand)
 | mkm
 | mup (kk:Nat) (x k v:Operand)
 | sit (x:Operand)
 | nxt (x:Operand)
 | mit (x:Operand)
 | mnx (x:Operand)
 | del (kk:Nat) (x k:Operand)
 | frz (x:Operand)
 | s2b (e bytes:Nat) (x:Operand)
 | ust (e:TypeId) (p n:Operand)
def Kd.isRo:Kd→Bool
 | .ro=>true
 | _=>false
theorem Kd.ne_ro{k:Kd}(h:k.isRo=false):k≠ .ro:=fun e=>by subst e;cases h
def Kd.isEx:Kd→Bool
 | .ex=>true
 | _=>false
def appH (full:Bool)(H:CH)(l:Nat)(o:CObj):CH:=if full then H.new o else (H.set l .dead).new o
def srcCells(H:CH)(sz:Nat):Value→Option (List Value×Nat)
 | .slice none 0 0=>some ([],0)
 | .slice (some ⟨_,_,some _⟩) 0 0=>some ([],0)
 | .slice (some ⟨l,o,none⟩) m _=>if m=0 then some ([],0) else match H.ob l with
   | .cells cs _ _=>if o+m*sz≤cs.length then some ((cs.drop o).take (m*sz),m) else none
   | _=>none
 | .string s=>if sz=1 then some (s.data.toList.map fun b=> .int .u8 b.toNat,s.size) else none
 | _=>none
def mupV (kk l:Nat)(k v:Value)(H:CH)(o:CObj):Option (Value×CH):=match o with
 | .map es c=>if isKey kk k=true∧isVal v=true then match findK kk k es.toList 0 with
   | some (some (i,_))=>some (undef,H.set l (.map (es.modify i fun e=> { e with key:=k,val:=v }) c))
   | some none=>some (undef,H.set l (.map (es.push { key:=k,val:=v,born:=c }) (c+1)))
   | none=>none
   else none
 | .fm f c=>match kk,k,v with
   | 1, .string s, .int .i64 n=>if s.size≤maxLen∧(Lit.int .i64 n).wf=true∧c+1≤maxLen then some (undef,H.set l (.fm (fun t=>if t=s then some n else f t) (c+1))) else none
   | _,_,_=>none
 | _=>none
def nxtV (l:Nat)(H:CH)(o:CObj):Option (Value×CH):=match o with
 | .siter s p=>if p<s.size then some (.tuple #[.bool true, .int .i64 p, .int .i32 (Utf8.decode s p).1],H.set l (.siter s (p+(Utf8.decode s p).2))) else some (.tuple #[.bool false],H)
 | _=>none
def mitV (l:Nat)(H:CH)(o:CObj):Option (Value×CH):=match o with
 | .map _ _=>some (.chan (some H.nx),H.new (.miter l))
 | _=>none
def mnxV (H:CH)(o:CObj):Option (Value×CH):=match o with
 | .miter m=>match H.ob m with
   | .map es _=>if es.size=0 then some (.tuple #[.bool false],H) else none
   | _=>none
 | _=>none
def delV (kk l:Nat)(k:Value)(H:CH)(o:CObj):Option (Value×CH):=match o with
 | .map es c=>if isKey kk k=true then match findK kk k es.toList 0 with
   | some none=>some (.tuple #[],H.set l (.map es c))
   | _=>none
   else none
 | _=>none
def frzV (H:CH)(v:Value):Option (Value×CH):=match v with
 | .slice (some ⟨l,o,none⟩) n c=>match H.ob l with
   | .cells _ _ k=>if k.isRo=false∧n≠0 then some (.slice (some ⟨l,o,none⟩) n c,H) else none
   | _=>none
 | _=>none
def byteList2:List Value→Option (List UInt8)
 | []=>some []
 | .int .u8 n::r=>if 0≤n∧n<256 then (byteList2 r).map (UInt8.ofNat n.toNat:: ·) else none
 | _::_=>none
def ustV (e:TypeId)(H:CH)(p n:Value):Option (Value×CH):=match p,n with
 | .pointer none, .int .i64 0=>some (.string .empty,H)
 | .pointer (some ⟨l,o,none⟩), .int .i64 m=>if m=0 then some (.string .empty,H) else match H.ob l with
   | .cells cs e' k=>if k.isRo=false∧e'=e∧0≤m∧o+m.toNat≤cs.length∧m≤9223372036854775807 then match byteList2 ((cs.drop o).take m.toNat) with
     | some bs=>some (.string ⟨bs.toArray⟩,H.set l .dead)
     | none=>none
     else none
   | _=>none
 | _,_=>none
def wop (H:CH)(ev:Operand→Value):WOp→Option (Value×CH)
 | .st n x v=>match ev x with
   | .pointer (some ⟨l,o,none⟩)=>match H.ob l with
     | .cells cs e k=>if k.isRo=false∧isVal (ev v)=true∧(ev v).cells.size=n∧o+n≤cs.length∧(ev v).cells.toList.all isCell=true then some (undef,H.set l (.cells (setCells cs o (ev v).cells.toList) e k)) else none
     | _=>none
   | _=>none
 | .app e sz bytes s x=>match srcCells H sz (ev x) with
   | some (xs,m)=>match ev s with
     | .slice none 0 0=>if m=0 then some (.slice none 0 0,H) else if xs.all isCell=true∧m*bytes≤140737488355328∧m≤maxLen then some (.slice (some ⟨H.nx,0,none⟩) m m,H.new (.cells xs e .gr)) else none
     | .slice (some ⟨a,b,some 0⟩) 0 0=>if m=0 then some (.slice (some ⟨a,b,some 0⟩) 0 0,H) else if xs.all isCell=true∧m*bytes≤140737488355328∧m≤maxLen then some (.slice (some ⟨H.nx,0,none⟩) m m,H.new (.cells xs e .gr)) else none
     | .slice (some ⟨l,o,none⟩) n c=>match H.ob l with
       | .cells cs e' k=>
         if m=0 then some (.slice (some ⟨l,o,none⟩) n c,H)
         else if o=0∧e'=e∧k.isRo=false∧n*sz≤cs.length∧xs.all isCell=true∧(n+m)*bytes≤140737488355328∧n+m≤maxLen then
          some (.slice (some ⟨H.nx,0,none⟩) (n+m) (n+m),appH (k.isEx&&decide (c<n+m)) H l (.cells (cs.take (n*sz)++xs) e .gr))
         else if k.isEx=true∧c<n+m∧e'=e∧o+n*sz≤cs.length∧xs.all isCell=true∧(n+m)*bytes≤140737488355328∧n+m≤maxLen then
          some (.slice (some ⟨H.nx,0,none⟩) (n+m) (n+m),H.new (.cells ((cs.drop o).take (n*sz)++xs) e .gr))
         else if (k.isEx&&decide (c<n+m))=false∧e'=e∧k.isRo=false∧o+n*sz≤cs.length∧xs.all isCell=true∧(n+m+(n+m) / 4+192)*bytes≤281474976710656∧n+m≤maxLen then
          some (.slice (some ⟨H.nx,0,none⟩) (n+m) (n+m),(H.set l .dead).new (.cells ((cs.drop o).take (n*sz)++xs) e .gr))
         else none
       | _=>none
     | _=>none
   | none=>none
 | .cpy sz d s=>match ev d,srcCells H sz (ev s) with
   | .slice a n c,some (xs,m)=>if n=0∨m=0 then some (.int .i64 0,H) else match a with
     | some ⟨l,o,none⟩=>match H.ob l with
       | .cells cs e k=>if k.isRo=false∧o+(min m n)*sz≤cs.length∧xs.all isCell=true then some (.int .i64 (min m n:Nat),H.set l (.cells (setCells cs o (xs.take ((min m n)*sz))) e k)) else none
       | _=>none
     | _=>none
   | _,_=>none
 | .mkm=>some (.map (some H.nx),H.new (.map #[] 0))
 | .mup kk x k v=>match ev x with
   | .map (some l)=>mupV kk l (ev k) (ev v) H (H.ob l)
   | _=>none
 | .sit x=>match ev x with
   | .string s=>some (.chan (some H.nx),H.new (.siter s 0))
   | _=>none
 | .nxt x=>match ev x with
   | .chan (some l)=>nxtV l H (H.ob l)
   | _=>none
 | .frz x=>frzV H (ev x)
 | .ust e p n=>ustV e H (ev p) (ev n)
 | .mit x=>match ev x with
   | .map (some l)=>mitV l H (H.ob l)
   | _=>none
 | .mnx x=>match ev x with
   | .chan (some l)=>mnxV H (H.ob l)
   | _=>none
 | .del kk x k=>match ev x with
   | .map (some l)=>delV kk l (ev k) H (H.ob l)
   | _=>none
 | .s2b e bytes x=>match ev x with
   | .string s=>if s.size≤maxLen then some (.slice (some ⟨H.nx,0,none⟩) s.size s.size,H.new (.cells (s.data.toList.map fun b=> .int .u8 b.toNat) e .gr)) else none
   | _=>none
def WSound(P:Program)(op:Op)(r:WOp):Prop:=
 ∀(B:Nat) (β:Nat→Ent) (H:CH) (w:World) (ev ev':Operand→Value) (o:Oper) (v:Value) (H':CH),o.op=op→(∀x∈op.operands,VR β (ev x) (ev' x))→Sim P B β H w→wop H ev r=some (v,H')→
  ∃(β':Nat→Ent) (w':World) (v':Value) (n:Next),(execOp ev' o).run P w= .ok n w'∧(n= .value v'∨n= .skip∧v'=undef)∧VR β' v v'∧Sim P B β' H' w'∧Evo β w β' w'
theorem wsound_st{t n:Nat}{x v:Operand}(hz:(P.info? t).map (·.size)=some n):WSound P (.store t x v) (.st n x v):=fun B β H w ev ev' o u H' ho hv hS hr=>by
 have hx:=hv x (by simp[Op.operands])
 have hu:=hv v (by simp[Op.operands])
 simp only[wop] at hr
 split at hr
 ·rename_i l oo ha
  split at hr
  ·rename_i cs e k hob
   split at hr
   ·rename_i hg
    obtain⟨g1,g2,g3,g4,g5⟩:=hg
    cases hr
    rw[ha] at hx
    obtain⟨b,sz,m,hb,hlive⟩:=hS.cells hob
    have hxv:ev' x= .pointer (some ⟨b.1,oo+b.2,none⟩):=by
     generalize hxv:ev' x=xv at hx
     cases hx with
     | ptr hl=>rw[hb] at hl;cases hl;rfl
     | pdead a hl=>rw[hb] at hl;cases hl
    have hc:=hu.cells g2
    have hl:(ev v).cells.size=(ev' v).cells.size:=by simpa using hc.1
    obtain⟨w',hrun,hS',hE⟩:=hS.stores0 hb hob (Kd.ne_ro g1) (o:=oo) (us:=(ev v).cells.toList) (by simpa[g3] using g4) hc (List.all_eq_true.1 g5)
    refine⟨β,w',undef, .skip,?_, .inr ⟨rfl,rfl⟩, .undef _,hS',hE⟩
    simp only[execOp,ho,hxv,Instr.storeAt,Instr.sureAddr,storeVar,Sem.run_bind,Sem.run_pure,Result.andThen_ok,run_sz hz,Sem.run_ite]
    rw[if_neg (by omega)]
    simp only[hrun,Result.andThen_ok,Sem.run_pure]
   ·cases hr
  ·cases hr
 ·cases hr
theorem src_run{B:Nat}{β:Nat→Ent}{H:CH}{w:World}(hS:Sim P B β H w){sz:Nat}{v v':Value}(hv:VR β v v'){xs:List Value}{m:Nat}(h:srcCells H sz v=some (xs,m)) :
 (∀w2:World,(Builtin.lenOf v').run P w2= .ok m w2)∧xs.length=m*sz∧∃xs',VRs β xs xs'∧∀w2:World,(∀a,w2.cell? a=w.cell? a)→∀j,j≤m→(Builtin.firstCells sz j v').run P w2= .ok (xs'.take (j*sz)).toArray w2:=by
 unfold srcCells at h
 split at h
 ·cases h
  cases hv
  refine⟨fun _=>rfl,by simp,[],VRs.nil β,fun w2 _ j hj=> ?_⟩
  obtain rfl:j=0:=by omega
  simp[Builtin.firstCells]
 ·cases h
  cases hv<;>refine⟨fun _=>rfl,by simp,[],VRs.nil β,fun w2 _ j hj=> ?_⟩<;>(obtain rfl:j=0:=by omega)<;>simp[Builtin.firstCells,loadCells,loadCellsFrom]
 ·rename_i l o m0 c
  split at h
  ·rename_i hm0
   subst hm0
   cases h
   obtain⟨a',c',rfl,hn⟩:=hv.slice_inv
   refine⟨fun _=>rfl,by simp,[],VRs.nil β,fun w2 _ j hj=> ?_⟩
   obtain rfl:j=0:=by omega
   cases a' with
   | none=>simp at hn
   | some a'=>simp[Builtin.firstCells,loadCells,loadCellsFrom]
  ·rename_i hm0n
   split at h
   ·rename_i cs e k hob
    split at h
    ·rename_i hle
     cases h
     obtain⟨b,szb,nn,hb,hlive⟩:=hS.cells hob
     have hvv : ∃c',v'= .slice (some ⟨b.1,o+b.2,none⟩) m c':=by
      cases hv with
      | sl hl _ _ _ _ _=>rw[hb] at hl;cases hl;exact⟨_,rfl⟩
      | sdead a hl _=>rw[hb] at hl;cases hl
      | szero a hl=>exact absurd rfl hm0n
     obtain⟨c',rfl⟩:=hvv
     obtain⟨us,h1,h2,h3⟩:=hlive.reads o (m*sz) hle
     refine⟨fun _=>rfl,by simp;omega,us,h1,fun w2 hw2 j hj=> ?_⟩
     have hjl:(us.take (j*sz)).length=j*sz:=by
      have:j*sz≤m*sz:=Nat.mul_le_mul_right _ hj
      simp;omega
     refine run_firstCells_some w2 sz j ⟨b.1,o+b.2,none⟩ m c' (us.take (j*sz)) hjl fun i u hi=> ?_
     rw[List.getElem?_take] at hi
     split at hi
     ·rw[hw2];exact h3 i u hi
     ·cases hi
    ·cases h
   ·cases h
 ·rename_i s
  split at h
  rotate_left
  ·cases h
  rename_i hs1
  cases h
  subst hs1
  have:=hv.string_inv
  subst this
  refine⟨fun _=>rfl,by simp only[List.length_map,Nat.mul_one];rfl,_,⟨rfl,fun i v hv=>⟨v,hv,?_⟩⟩,fun w2 _ j hj=> ?_⟩
  ·rw[List.getElem?_map] at hv
   cases hb:s.data.toList[i]? with
   | none=>rw[hb] at hv;cases hv
   | some b=>rw[hb] at hv;cases hv;exact .int _ _
  ·simp only[Builtin.firstCells,Sem.run_pure,Nat.mul_one]
   congr 1
   apply Array.ext'
   simp only[Array.toList_map,ByteArray.data_extract,Array.toList_extract,List.extract_eq_take_drop,List.drop_zero,Nat.sub_zero,List.map_take]
 ·cases h
theorem take_all{α:Type}{l:List α}{n:Nat}(h:l.length=n):l.take n=l:=List.take_of_length_le (by omega)
theorem Sim.app_in{B:Nat}{β:Nat→Ent}{H:CH}{w:World}(hS:Sim P B β H w){l:Nat}{b:Nat×Nat}{sz nn:Nat}{cs:List Value}{e:TypeId}{k:Kd}(hb:β l= .live b sz nn k)(hob:H.ob l= .cells cs e k)(hk:k≠ .ro){o p:Nat}{xs xs':List Value}
 (hp:o+p≤cs.length) (hroom:o+p+b.2+xs.length≤nn) (hx:VRs β xs xs') (hc : ∀u∈xs,isCell u=true) :
 ∃w',(storeCells ⟨b.1,o+p+b.2,none⟩ xs').run P w= .ok () w'∧Sim P B (upd (upd β l .dead) H.nx (.live (b.1,o+b.2) sz nn .gr)) ((H.set l .dead).new (.cells ((cs.drop o).take p++xs) e .gr)) w'∧Evo β w (upd (upd β l .dead) H.nx (.live (b.1,o+b.2) sz nn .gr)) w':=by
 obtain⟨cs0,e0,ho0,hlive⟩:=hS.live hb
 rw[hob] at ho0
 cases ho0
 have hlen:cs.length+b.2≤nn:=by obtain⟨_,_,_,_,_,g,_⟩:=hlive;exact g
 have hpad:=hS.pad hb hob (o+p+xs.length-cs.length) (by omega)
 have hob2:(H.set l (.cells (cs++List.replicate (o+p+xs.length-cs.length) undef) e k)).ob l= .cells (cs++List.replicate (o+p+xs.length-cs.length) undef) e k:=by simp[CH.set]
 obtain⟨w',hrun,hS',hE⟩:=hpad.stores0 hb hob2 hk (o:=o+p) (by simp;omega) hx hc
 rw[CH.set_set] at hS'
 have hob3:(H.set l (.cells (setCells (cs++List.replicate (o+p+xs.length-cs.length) undef) (o+p) xs) e k)).ob l= .cells (setCells (cs++List.replicate (o+p+xs.length-cs.length) undef) (o+p) xs) e k:=by simp[CH.set]
 obtain⟨hS2,hE2⟩:=hS'.rename hb hob3 hk o (p+xs.length) (by rw[setCells_length (by simp;omega)];simp;omega)
 refine⟨w',hrun,?_,hE.trans hE2⟩
 rw[CH.set_set] at hS2
 have:((setCells (cs++List.replicate (o+p+xs.length-cs.length) undef) (o+p) xs).drop o).take (p+xs.length)=(cs.drop o).take p++xs:=by
  unfold setCells
  rw[List.take_append_of_le_length hp,List.append_assoc,List.drop_append_of_le_length (by simp;omega),←List.append_assoc,List.take_append_of_le_length (by simp;omega),take_all (by simp;omega),List.drop_take]
  simp
 rw[this] at hS2
 exact hS2
theorem Sim.app_out{B:Nat}{β:Nat→Ent}{H:CH}{w:World}(hS:Sim P B β H w){e:TypeId}{sz:Nat}(he:(P.info? e).map (·.size)=some sz){xs:List Value}{cs':Array Value}(hl:xs.length≤cs'.size)
 (hc : ∀(i:Nat) (v:Value),xs[i]? = some v→∃v',cs'[i]? = some v'∧VR β v v') :
 Sim P B (upd β H.nx (.live (w.heap.size,0) sz cs'.size .gr)) (H.new (.cells xs e .gr)) (w.drew.alloc (.cells cs' e))∧Evo β w (upd β H.nx (.live (w.heap.size,0) sz cs'.size .gr)) (w.drew.alloc (.cells cs' e)):=by
 obtain⟨h1,h2⟩:=hS.drew
 obtain⟨h3,h4⟩:=h1.alloc .gr (by simp) he hl (by simp) hc (fr:=(0,0)) (.inl rfl) (w':=w.drew.alloc (.cells cs' e)) rfl rfl rfl rfl
 exact⟨h3,h2.trans h4⟩
theorem vrs_pre{β:Nat→Ent}{xs xs':List Value}(h:VRs β xs xs')(r:Array Value):xs.length≤(xs'.toArray++r).size∧∀(i:Nat) (v:Value),xs[i]? = some v→∃v',(xs'.toArray++r)[i]? = some v'∧VR β v v':=by
 refine⟨by simp[h.1],fun i v hv=> ?_⟩
 obtain⟨v',a,b⟩:=h.2 i v hv
 have hi:i<xs'.length:=(List.getElem?_eq_some_iff.1 a).1
 exact⟨v',by rw[Array.getElem?_append_left (by simpa using hi)];simpa using a,b⟩
theorem run_app_room{t tx ty e:TypeId}{i0:TypeInfo}(ht:P.underlying t=some (.slice e))(htx:P.underlying tx=some (.slice e)∨P.underlying tx=some .string)(hi:P.info? e=some i0)
 {a:Option Addr} {n c m:Nat} {x':Value} {w w':World} (hlen : ∀w2:World,(Builtin.lenOf x').run P w2= .ok m w2) (hn:n+m≤c) {news:List Value} (hf:(Builtin.firstCells i0.size m x').run P w= .ok news.toArray w)
 (hst:match a with | none=>w'=w | some a=>(storeCells (a.add (n*i0.size)) news).run P w= .ok () w') :
 (Builtin.append_ #[t,tx] ty #[.slice a n c,x']).run P w= .ok (.slice a (n+m) c) w':=by
 cases a with
 | none=>
   simp only at hst
   subst hst
   rcases htx with htx | htx<;>simp[Builtin.append_,run_underlying ht,run_underlying htx,sizeOf,typeInfo,hi,hlen,hn,hf]
 | some a=>
   simp only at hst
   rcases htx with htx | htx<;>simp[Builtin.append_,run_underlying ht,run_underlying htx,sizeOf,typeInfo,hi,hlen,hn,hf,hst]
theorem run_app_grow{t tx ty e:TypeId}{i0:TypeInfo}{z:Value}(ht:P.underlying t=some (.slice e))(htx:P.underlying tx=some (.slice e)∨P.underlying tx=some .string)(hi:P.info? e=some i0)(hz:i0.zero=some z)
 {a:Option Addr} {n c m:Nat} {x':Value} {w:World} (hlen : ∀w2:World,(Builtin.lenOf x').run P w2= .ok m w2) (hn:c<n+m) {olds news:List Value} (hs:(Builtin.firstCells i0.size n (.slice a n c)).run P w.drew= .ok olds.toArray w.drew)
 (hf:(Builtin.firstCells i0.size m x').run P w.drew= .ok news.toArray w.drew) (h63:n+m≤9223372036854775807) (hfit:Builtin.nextslicecap (n+m) c*i0.bytes≤281474976710656) :
 (Builtin.append_ #[t,tx] ty #[.slice a n c,x']).run P w= .ok (.slice (some ⟨w.heap.size,0,none⟩) (n+m) (grownCap w (n+m) c e))
   (w.drew.alloc (.cells (olds.toArray++news.toArray++Builtin.zeroCells z.cells (grownCap w (n+m) c e-(n+m))) e)):=by
 have hn' : ¬(n+m≤c):=by omega
 have h63' : ¬(9223372036854775807<((n:Int)+(m:Int))):=by omega
 have h48' : ¬(281474976710656<Builtin.nextslicecap (n+m) c*i0.bytes):=by omega
 rcases htx with htx | htx<;>simp[Builtin.append_,run_underlying ht,run_underlying htx,sizeOf,typeInfo,zeroValue,hi,hz,hlen,hn',h63',h48',Question.forced,hs,hf,newRow,grownCap]<;>(congr 2;apply Array.ext';simp[List.append_assoc])
theorem grownCap_bounds(w:World)(need old:Nat)(e:TypeId)(h:need≤9223372036854775807):need≤grownCap w need old e∧grownCap w need old e≤maxLen:=by
 have:=Nat.mod_lt (w.tape w.drawn (.appendCap need old e)) (show 0<2 ^ 63-need by omega)
 show need≤need+w.tape w.drawn (.appendCap need old e) % (2 ^ 63-need)∧need+w.tape w.drawn (.appendCap need old e) % (2 ^ 63-need)≤9223372036854775807
 constructor<;>omega
theorem wsound_app{t tx e sz bytes:TypeId}{z:Value}{s x:Operand}(ht:P.underlying t=some (.slice e))(htx:P.underlying tx=some (.slice e)∨P.underlying tx=some .string)(hi:(P.info? e).map (fun i=>(i.zero,i.size,i.bytes))=some (some z,sz,bytes))(hzs:z.cells.size=sz)(h0:0<sz) :
 WSound P (.call { callee:= .builtin .append,args:= #[s,x],argTypes:= #[t,tx] }) (.app e sz bytes s x):=fun B β H w ev ev' o v H' ho hv hS hr=>by
 have hs:=hv s (by simp[Op.operands,Call.operands])
 have hx:=hv x (by simp[Op.operands,Call.operands])
 obtain⟨i0,hinf,hz0,hz1,hz2⟩:=info_parts hi
 have hsize:(P.info? e).map (·.size)=some sz:=by simp[hinf,hz1]
 have hexec : ∀(u:Value) (w':World),(Builtin.append_ #[t,tx] o.type #[ev' s,ev' x]).run P w= .ok u w'→(execOp ev' o).run P w= .ok (.value u) w':=fun u w' h=>by
  simp only[execOp,ho,resolve,Sem.run_bind,Sem.run_pure,Result.andThen_ok,invoke,builtin,List.map_toArray,List.map_cons,List.map_nil,h]
 simp only[wop] at hr
 split at hr
 rotate_left
 ·cases hr
 rename_i xs m hsrc
 obtain⟨hlen,hxl,xs',hxr,hfc⟩:=src_run hS hx hsrc
 have hfull : ∀w2:World,(∀a,w2.cell? a=w.cell? a)→(Builtin.firstCells sz m (ev' x)).run P w2= .ok xs'.toArray w2:=fun w2 h2=>by
  have:=hfc w2 h2 m (Nat.le_refl _)
  rwa [take_all (by rw[←hxr.1,hxl])] at this
 have fresh : ∀(a':Option Addr),ev' s= .slice a' 0 0→m≠0→xs.all isCell=true→(∀old,old<m→Builtin.nextslicecap m old*bytes≤281474976710656)→m≤maxLen→
  ∃(β':Nat→Ent) (w':World) (v':Value),(Builtin.append_ #[t,tx] o.type #[ev' s,ev' x]).run P w= .ok v' w'∧VR β' (.slice (some ⟨H.nx,0,none⟩) m m) v'∧Sim P B β' (H.new (.cells xs e .gr)) w'∧Evo β w β' w'∧∀l',l'≠H.nx→β' l'=β l':=by
  intro a' hs' hm0 hall hby hmx
  have hmx':m≤9223372036854775807:=hmx
  have h0f:(Builtin.firstCells i0.size 0 (.slice a' 0 0)).run P w.drew= .ok ([]:List Value).toArray w.drew:=by
   cases a'<;>simp[Builtin.firstCells,loadCells,loadCellsFrom]
  have hrun:=run_app_grow (P:=P) (ty:=o.type) ht htx hinf hz0 (a:=a') (n:=0) (c:=0) hlen (by omega) h0f (by rw[hz1];exact hfull w.drew (fun _=>rfl)) (by omega) (by rw[hz2];simpa using hby 0 (by omega))
  rw[hs']
  simp only[Nat.zero_add] at hrun
  obtain⟨g1,g2⟩:=grownCap_bounds w m 0 e hmx'
  obtain⟨q1,q2⟩:=vrs_pre hxr (Builtin.zeroCells z.cells (grownCap w m 0 e-m))
  have heq:([]:List Value).toArray++xs'.toArray++Builtin.zeroCells z.cells (grownCap w m 0 e-m)=xs'.toArray++Builtin.zeroCells z.cells (grownCap w m 0 e-m):=by simp
  rw[heq] at hrun
  obtain⟨hS',hE'⟩:=hS.app_out hsize q1 q2
  refine⟨_,_,_,hrun,?_,hS',hE',fun l' h=>upd_other h⟩
  refine .sl (b:=(w.heap.size,0)) (o:=0) upd_same (Nat.le_refl _) g1 g2 (fun _=> ?_) (fun g=>absurd rfl g)
  have hxl':xs'.length=m*sz:=by rw[←hxr.1,hxl]
  simp only[Array.size_append,List.size_toArray,size_zeroCells,hxl',hzs]
  rw[←Nat.add_mul]
  simp;exact Nat.mul_le_mul_right _ (by omega)
 have empty : ∀(a':Option Addr) (n c':Nat),ev' s= .slice a' n c'→n≤c'→m=0→(Builtin.append_ #[t,tx] o.type #[ev' s,ev' x]).run P w= .ok (ev' s) w:=by
  intro a' n c' hs' hnc hm0
  subst hm0
  have hx0:xs'= []:=List.length_eq_zero_iff.1 (by rw[←hxr.1,hxl];simp)
  have:=run_app_room (P:=P) (ty:=o.type) (w':=w) ht htx hinf (a:=a') (n:=n) (c:=c') (m:=0) (x':=ev' x) hlen (by omega) (news:= []) (by rw[hz1];have:=hfull w (fun _=>rfl);rwa [hx0] at this) (by cases a'<;>first | rfl | (simp[storeCells]))
  rw[hs']
  simpa using this
 split at hr
 ·rename_i hes
  rw[hes] at hs
  have hs':ev' s= .slice none 0 0:=by generalize ev' s=q at hs;cases hs;rfl
  split at hr
  ·rename_i hm0
   cases hr
   exact⟨β,w,_,_,hexec _ _ (empty _ _ _ hs' (Nat.le_refl _) hm0), .inl rfl,hs,hS,Evo.refl β w⟩
  ·rename_i hm0
   split at hr
   ·rename_i g
    cases hr
    obtain⟨β',w',v',a,b,c,d,_⟩:=fresh _ hs' hm0 g.1 (fun old h=>growslice_fits h g.2.1) g.2.2
    exact⟨β',w',v',_,hexec _ _ a, .inl rfl,b,c,d⟩
   ·cases hr
 ·rename_i aa bb hes
  rw[hes] at hs
  obtain⟨a',hs'⟩ : ∃a',ev' s= .slice a' 0 0:=by generalize ev' s=q at hs;cases hs;exact⟨_,rfl⟩
  split at hr
  ·rename_i hm0
   cases hr
   exact⟨β,w,_,_,hexec _ _ (empty _ _ _ hs' (Nat.le_refl _) hm0), .inl rfl,hs,hS,Evo.refl β w⟩
  ·rename_i hm0
   split at hr
   ·rename_i g
    cases hr
    obtain⟨β',w',v',a,b,c,d,_⟩:=fresh _ hs' hm0 g.1 (fun old h=>growslice_fits h g.2.1) g.2.2
    exact⟨β',w',v',_,hexec _ _ a, .inl rfl,b,c,d⟩
   ·cases hr
 ·rename_i l oo n c hes
  rw[hes] at hs
  split at hr
  ·rename_i cs e' k hob
   obtain⟨b,szb,nn,hb,hlive⟩:=hS.cells hob
   have hcase:(∃c',ev' s= .slice (some ⟨b.1,oo+b.2,none⟩) n c'∧n≤c'∧c'≤maxLen∧(k≠ .ro→oo+b.2+c'*szb≤nn)∧c≤c'∧(k≠ .gr→c'=c))∨(n=0∧c=0∧∃a,ev' s= .slice (some a) 0 0):=by
    generalize ev' s=q at hs
    cases hs with
    | sl hl h1 h2 h3 h4 h5=>rw[hb] at hl;cases hl;exact .inl ⟨_,rfl,by omega,h3,h4,h2,h5⟩
    | sdead a hl _=>rw[hb] at hl;cases hl
    | szero a hl=>exact .inr ⟨rfl,rfl,a,rfl⟩
   split at hr
   ·rename_i hm0
    cases hr
    rcases hcase with ⟨c',hs',q1,_⟩ | ⟨rfl,rfl,a,hs'⟩
    ·exact⟨β,w,_,_,hexec _ _ (empty _ _ _ hs' q1 hm0), .inl rfl,hs,hS,Evo.refl β w⟩
    ·exact⟨β,w,_,_,hexec _ _ (empty _ _ _ hs' (Nat.le_refl _) hm0), .inl rfl,hs,hS,Evo.refl β w⟩
   ·rename_i hm0
    have core:e'=e→k.isRo=false→oo+n*sz≤cs.length→xs.all isCell=true→(∀old,old<n+m→Builtin.nextslicecap (n+m) old*bytes≤281474976710656)→n+m≤maxLen→
     ∃(β':Nat→Ent) (w':World) (v':Value) (nn:Next),(execOp ev' o).run P w= .ok nn w'∧(nn= .value v'∨nn= .skip∧v'=undef)∧VR β' (.slice (some ⟨H.nx,0,none⟩) (n+m) (n+m)) v'∧Sim P B β' (appH (k.isEx&&decide (c<n+m)) H l (.cells ((cs.drop oo).take (n*sz)++xs) e .gr)) w'∧Evo β w β' w':=by
     intro g1 g2 g3 g4 g5 g6
     subst g1
     have hcommG : ∀ys:List Value,l≠H.nx→(H.new (.cells ys e' .gr)).set l .dead=(H.set l .dead).new (.cells ys e' .gr):=fun ys hne=>by
      unfold CH.set CH.new
      simp only[CH.mk.injEq,true_and]
      funext k
      by_cases e1:k=l
      ·subst e1;simp[hne]
      ·simp[e1]
     have hneG:l≠H.nx:=fun e=>by rw[e,hS.nx _ (Nat.le_refl _)] at hob;cases hob
     rcases hcase with ⟨c',hs',q1,q2,q3,q4,q5⟩ | ⟨rfl,rfl,a,hs'⟩
     rotate_left
     ·obtain⟨β',w',v',f1,f2,f3,f4,f5⟩:=fresh _ hs' hm0 g4 (by simpa using g5) (by simpa using g6)
      have hxx:(cs.drop oo).take (0*sz)++xs=xs:=by simp
      rw[hxx]
      simp only[Nat.zero_add]
      have hbl:β' l= .live b szb nn k:=(f5 l hneG).trans hb
      cases hflag:(k.isEx&&decide (0<m)) with
      | false=>
        obtain⟨hS2,hE2⟩:=f3.kill hbl
        rw[hcommG _ hneG] at hS2
        simp only[appH,Bool.false_eq_true,if_false]
        exact⟨_,w',v',_,hexec _ _ f1, .inl rfl,f2.mono hE2.ext,hS2,f4.trans hE2⟩
      | true=>
        simp only[appH,if_true]
        exact⟨_,w',v',_,hexec _ _ f1, .inl rfl,f2,f3,f4⟩
     have hkro:=Kd.ne_ro g2
     have hszb:szb=sz:=by
      obtain⟨_,_,_,_,_,_,_,q,_⟩:=hlive
      have q:=q hkro
      rw[hsize] at q;exact(Option.some.inj q).symm
     subst hszb
     have q3':=q3 hkro
     have hall:=List.all_eq_true.1 g4
     by_cases hroom:n+m≤c'
     ·have hflag:(k.isEx&&decide (c<n+m))=false:=by
       cases k with
       | ex=>have:=q5 (by simp);simp[Kd.isEx];omega
       | _=>rfl
      have hle:(n+m)*szb≤c'*szb:=Nat.mul_le_mul_right _ hroom
      simp only[appH,hflag,Bool.false_eq_true,if_false]
      rw[Nat.add_mul] at hle
      obtain⟨w',hst,hS',hE'⟩:=hS.app_in hb hob hkro (o:=oo) (p:=n*szb) g3 (by omega) hxr hall
      have hrun:=run_app_room (P:=P) (ty:=o.type) (w:=w) (w':=w') ht htx hinf (a:=some ⟨b.1,oo+b.2,none⟩) (n:=n) (c:=c') (m:=m) (x':=ev' x) hlen hroom (news:=xs') (by rw[hz1];exact hfull w (fun _=>rfl)) (by simp only[Addr.add_lit,hz1];rw[Nat.add_right_comm];exact hst)
      refine⟨_,w',_,_,hexec _ _ (by rw[hs'];exact hrun), .inl rfl,?_,hS',hE'⟩
      have:=VR.sl (β:=upd (upd β l .dead) H.nx (.live (b.1,oo+b.2) szb nn .gr)) (l:=H.nx) (b:=(b.1,oo+b.2)) (o:=0) upd_same (Nat.le_refl (n+m)) hroom q2 (fun _=>by simpa using q3') (fun g=>absurd rfl g)
      simpa only[Nat.zero_add] using this
     ·obtain⟨us,u1,u2,u3⟩:=hlive.reads oo (n*szb) g3
      have hfo:=run_firstCells_some (P:=P) w.drew i0.size n ⟨b.1,oo+b.2,none⟩ n c' us (by rw[hz1];exact u2) (by simpa using u3)
      have hrun:=run_app_grow (P:=P) (ty:=o.type) (w:=w) ht htx hinf hz0 (a:=some ⟨b.1,oo+b.2,none⟩) (n:=n) (c:=c') (m:=m) (x':=ev' x) hlen (by omega) hfo (by rw[hz1];exact hfull w.drew (fun _=>rfl)) g6 (by rw[hz2];exact g5 _ (by omega))
      have hall2:VRs β ((cs.drop oo).take (n*szb)++xs) (us++xs'):=u1.append hxr
      obtain⟨p1,p2⟩:=vrs_pre hall2 (Builtin.zeroCells z.cells (grownCap w (n+m) c' e'-(n+m)))
      have heq:(us++xs').toArray++Builtin.zeroCells z.cells (grownCap w (n+m) c' e'-(n+m))=us.toArray++xs'.toArray++Builtin.zeroCells z.cells (grownCap w (n+m) c' e'-(n+m)):=by simp
      obtain⟨hS',hE'⟩:=hS.app_out hsize p1 p2
      rw[heq] at hS' hE'
      have hne:l≠H.nx:=fun e=>by rw[e,hS.nx _ (Nat.le_refl _)] at hob;cases hob
      have hb2:upd β H.nx (Ent.live (w.heap.size,0) szb (us.toArray++xs'.toArray++Builtin.zeroCells z.cells (grownCap w (n+m) c' e'-(n+m))).size .gr) l= .live b szb nn k:=by rw[upd_other hne];exact hb
      obtain⟨hS2,hE2⟩:=hS'.kill hb2
      obtain⟨r1,r2⟩:=grownCap_bounds w (n+m) c' e' g6
      have hcomm:(H.new (.cells ((cs.drop oo).take (n*szb)++xs) e' .gr)).set l .dead=(H.set l .dead).new (.cells ((cs.drop oo).take (n*szb)++xs) e' .gr):=by
       unfold CH.set CH.new
       simp only[CH.mk.injEq,true_and]
       funext k
       by_cases e1:k=l
       ·subst e1;simp[hne]
       ·simp[e1]
      rw[hcomm] at hS2
      have hlast:0+grownCap w (n+m) c' e'*szb≤(us.toArray++xs'.toArray++Builtin.zeroCells z.cells (grownCap w (n+m) c' e'-(n+m))).size:=by
       have hxl':xs'.length=m*szb:=by rw[←hxr.1,hxl]
       have hul:us.length=n*szb:=u2
       simp only[Array.size_append,List.size_toArray,size_zeroCells,hxl',hul,hzs]
       rw[←Nat.add_mul,←Nat.add_mul]
       simp;exact Nat.mul_le_mul_right _ (by omega)
      cases hflag:(k.isEx&&decide (c<n+m)) with
      | false=>
        simp only[appH,Bool.false_eq_true,if_false]
        refine⟨_,_,_,_,hexec _ _ (by rw[hs'];exact hrun), .inl rfl,?_,hS2,hE'.trans hE2⟩
        exact .sl (b:=(w.heap.size,0)) (o:=0) (by rw[upd_other hne.symm];exact upd_same) (Nat.le_refl _) r1 r2 (fun _=>hlast) (fun g=>absurd rfl g)
      | true=>
        simp only[appH,if_true]
        refine⟨_,_,_,_,hexec _ _ (by rw[hs'];exact hrun), .inl rfl,?_,hS',hE'⟩
        exact .sl (b:=(w.heap.size,0)) (o:=0) upd_same (Nat.le_refl _) r1 r2 (fun _=>hlast) (fun g=>absurd rfl g)
    split at hr
    ·rename_i g
     obtain⟨g0,g1,g2,g3,g4,g5,g6⟩:=g
     cases hr
     subst g0
     have:=core g1 g2 (by omega) g4 (fun old h=>growslice_fits h g5) g6
     simpa only[List.drop_zero] using this
    ·rename_i hg1
     split at hr
     ·rename_i g
      obtain⟨g2,g0,g1,g3,g4,g5,g6⟩:=g
      cases hr
      have hkex:k.isRo=false:=by cases k<;>first | rfl | cases g2
      have:=core g1 hkex g3 g4 (fun old h=>growslice_fits h g5) g6
      rw[g2,decide_eq_true g0] at this
      exact this
     ·rename_i hg2
      split at hr
      ·rename_i g
       obtain⟨hflag,g1,g2,g3,g4,g5,g6⟩:=g
       cases hr
       have:=core g1 g2 g3 g4 (fun old h=>growslice_fits_wide h g5) g6
       rw[hflag] at this
       exact this
      ·cases hr
  ·cases hr
 ·cases hr
theorem VRs.take{β:Nat→Ent}{cs cs':List Value}(h:VRs β cs cs')(n:Nat):VRs β (cs.take n) (cs'.take n):=
 ⟨by simp[h.1],fun i v hv=>by
   rw[List.getElem?_take] at hv⊢
   split at hv
   ·obtain⟨v',a,b⟩:=h.2 i v hv;exact⟨v',by simp[*],b⟩
   ·cases hv⟩
theorem wsound_cpy{t tx e sz:TypeId}{d s:Operand}(ht:P.underlying t=some (.slice e))(hz:(P.info? e).map (·.size)=some sz) :
 WSound P (.call { callee:= .builtin .copy,args:= #[d,s],argTypes:= #[t,tx] }) (.cpy sz d s):=fun B β H w ev ev' o v H' ho hv hS hr=>by
 have hd:=hv d (by simp[Op.operands,Call.operands])
 have hs:=hv s (by simp[Op.operands,Call.operands])
 have hexec : ∀(u:Value) (w':World),(Builtin.copy_ #[t,tx] o.type #[ev' d,ev' s]).run P w= .ok u w'→(execOp ev' o).run P w= .ok (.value u) w':=fun u w' h=>by
  simp only[execOp,ho,resolve,Sem.run_bind,Sem.run_pure,Result.andThen_ok,invoke,builtin,List.map_toArray,List.map_cons,List.map_nil,h]
 simp only[wop] at hr
 split at hr
 rotate_left
 ·cases hr
 rename_i a n c xs m hed hsrc
 obtain⟨hlen,hxl,xs',hxr,hfc⟩:=src_run hS hs hsrc
 rw[hed] at hd
 obtain⟨a',c',hd',hnn⟩:=hd.slice_inv
 have run : ∀w',(match a' with | none=>w'=w | some a'=>(storeCells a' (xs'.take (min m n*sz))).run P w= .ok () w')→(Builtin.copy_ #[t,tx] o.type #[ev' d,ev' s]).run P w= .ok (.int .i64 (min m n:Nat)) w':=by
  intro w' hst
  have hf:=hfc w (fun _=>rfl) (min m n) (Nat.min_le_left _ _)
  rw[hd']
  cases a' with
  | none=>
    simp only at hst
    subst hst
    simp[Builtin.copy_,run_underlying ht,hlen,run_sz hz,goInt,hf]
  | some a'=>
    simp only at hst
    simp[Builtin.copy_,run_underlying ht,hlen,run_sz hz,goInt,hf,hst]
 split at hr
 ·rename_i h0
  cases hr
  have hmin:min m n=0:=by omega
  have:=run w (by cases a'<;>simp[hmin,storeCells])
  rw[hmin] at this
  exact⟨β,w,_,_,hexec _ _ this, .inl rfl, .int _ _,hS,Evo.refl β w⟩
 ·rename_i h0
  split at hr
  ·rename_i l oo
   split at hr
   ·rename_i cs e' k hob
    split at hr
    ·rename_i g
     obtain⟨g1,g2,g3⟩:=g
     cases hr
     obtain⟨b,szb,nn,hb,hlive⟩:=hS.cells hob
     have ha':a'=some ⟨b.1,oo+b.2,none⟩:=by
      rw[hd'] at hd
      cases hd with
      | sl hl _ _ _ _ _=>rw[hb] at hl;cases hl;rfl
      | sdead a hl _=>rw[hb] at hl;cases hl
      | szero a hl=>exact absurd (.inl rfl) h0
     subst ha'
     have hlx:(xs.take (min m n*sz)).length=min m n*sz:=by
      have:min m n*sz≤m*sz:=Nat.mul_le_mul_right _ (Nat.min_le_left _ _)
      simp;omega
     obtain⟨w',hst,hS',hE'⟩:=hS.stores0 hb hob (Kd.ne_ro g1) (o:=oo) (us:=xs.take (min m n*sz)) (by rw[hlx];exact g2) (hxr.take _) (fun u hu=>List.all_eq_true.1 g3 u (List.mem_of_mem_take hu))
     exact⟨β,w',_,_,hexec _ _ (run w' hst), .inl rfl, .int _ _,hS',hE'⟩
    ·cases hr
   ·cases hr
  ·cases hr
end Can
end Go.Proofs.YticlaccbodpkeaaGreatDoor
namespace Go.Proofs.YticlaccbodpkeaaGreatDoor
namespace Can
open Go Go.RowKit
set_option linter.unusedSimpArgs false
set_option linter.unusedVariables false
variable {P:Program}
def kkOf:TypeDesc→Option Nat
 | .int _=>some 0
 | .string=>some 1
 | .bool=>some 2
 | _=>none
theorem Sim.newObj{B:Nat}{β:Nat→Ent}{H:CH}{w:World}(h:Sim P B β H w){o:CObj}{o':Obj}(hr : ∀β' w',β'=upd β H.nx (.obj w.heap.size)→w'.heap[w.heap.size]? = some o'→EntRel P B β' w' (.obj w.heap.size) o) :
 Sim P B (upd β H.nx (.obj w.heap.size)) (H.new o) (w.alloc o')∧Evo β w (upd β H.nx (.obj w.heap.size)) (w.alloc o'):=by
 have hun:=h.unborn
 have hext:EntExt β (upd β H.nx (.obj w.heap.size)):=fun l=>by
  by_cases hl:l=H.nx
  ·subst hl;exact .inr (.inl hun)
  ·exact .inl (upd_other hl)
 have hold : ∀b,b<w.heap.size→(w.alloc o').heap[b]? = w.heap[b]? :=fun b hb=>by
  show(w.heap.push _)[b]? = _
  rw[Array.getElem?_push,if_neg (by omega)]
 have hnew:=World.alloc_heap_new w o'
 refine⟨⟨fun l=> ?_,fun l hl=> ?_,fun l l' b ho ho'=> ?_,by simpa using Nat.le_succ_of_le h.base,h.ro.upd fun _ _ _ e=>(by cases e)⟩,⟨rfl,rfl,rfl,by simp,fun b hb hout=>⟨hold b hb,fun l ho=> ?_⟩,hext⟩⟩
 ·by_cases hl':l=H.nx
  ·subst hl'
   simp only[upd_same,CH.new,if_true]
   exact hr _ _ rfl hnew
  ·simp only[upd_other hl',CH.new,if_neg hl']
   exact(h.ent l).mono hext fun b hb=>hold b (at_lt h hb)
 ·have:l≠H.nx:=by simp[CH.new] at hl;omega
  simp only[CH.new,if_neg this]
  exact h.nx l (by simp[CH.new] at hl;omega)
 ·by_cases e1:l=H.nx<;>by_cases e2:l'=H.nx
  ·rw[e1,e2]
  ·subst e1
   rw[upd_same] at ho
   rw[upd_other e2] at ho'
   have:=(owns_ge h ho').2
   have:w.heap.size=b:=ho;omega
  ·subst e2
   rw[upd_same] at ho'
   rw[upd_other e1] at ho
   have:=(owns_ge h ho).2
   have:w.heap.size=b:=ho';omega
  ·rw[upd_other e1] at ho
   rw[upd_other e2] at ho'
   exact h.inj _ _ b ho ho'
 ·by_cases e1:l=H.nx
  ·subst e1
   rw[upd_same] at ho
   have:w.heap.size=b:=ho;omega
  ·rw[upd_other e1] at ho
   exact hout l ho
theorem Sim.setObj{B:Nat}{β:Nat→Ent}{H:CH}{w:World}(h:Sim P B β H w){l b:Nat}(hl:β l= .obj b){o1:Obj}(h1:w.heap[b]? = some o1)(hc:(∀cs e f,o1≠ .cells cs e f)∧∀r,o1≠ .loop r){o:CObj}{o':Obj}(hr : ∀w',w'.heap[b]? = some o'→EntRel P B β w' (.obj b) o) :
 Sim P B β (H.set l o) (w.putObj b o')∧Evo β w β (w.putObj b o'):=by
 have hlt:=obj_lt h hl
 have hother : ∀k,k≠b→(w.putObj b o').heap[k]? = w.heap[k]? :=fun k hk=>World.putObj_heap_other hk
 refine⟨⟨fun l'=> ?_,fun l' hl'=> ?_,h.inj,by simpa using h.base,h.ro⟩,⟨rfl,rfl,rfl,by simp,fun k hk hout=>⟨hother k ?_,hout⟩,EntExt.refl β⟩⟩
 ·by_cases e:l'=l
  ·subst e
   simp only[CH.set,if_true,hl]
   exact hr _ (World.putObj_heap_same hlt)
  ·simp only[CH.set,if_neg e]
   refine(h.ent l').mono (EntExt.refl β) fun k hk=>hother k ?_
   rintro rfl
   rcases hk with ⟨z,sz,n,kd,hk⟩ | hk | hk
   ·obtain⟨cs,e,_,cs',e',frz,p1,_⟩:=h.live hk
    rw[h1] at p1;cases p1;exact hc.1 _ _ _ rfl
   ·exact e (h.inj _ _ k (by rw[hk];rfl) (by rw[hl];rfl))
   ·exact e (h.inj _ _ k (by rw[hk];rfl) (by rw[hl];rfl))
 ·have:l'≠l:=fun e=>by
   subst e
   have:=h.ent l'
   rw[hl,h.nx _ hl'] at this;exact this
  simp only[CH.set,if_neg this]
  exact h.nx _ hl'
 ·rintro rfl
  exact hout l (by rw[hl];rfl)
theorem Sim.mapAt{B:Nat}{β:Nat→Ent}{H:CH}{w:World}(h:Sim P B β H w){l:Nat}{es:Array MapEntry}{c:Nat}(ho:H.ob l= .map es c) : ∃b,β l= .obj b∧B≤b∧MapRel β w b es c:=by
 have h1:=h.ent l
 rw[ho] at h1
 cases hb:β l with
 | obj b=>rw[hb] at h1;exact⟨b,rfl,h1.1,h1.2⟩
 | _=>rw[hb] at h1;exact h1.elim
theorem Sim.siterAt{B:Nat}{β:Nat→Ent}{H:CH}{w:World}(h:Sim P B β H w){l:Nat}{s:ByteArray}{p:Nat}(ho:H.ob l= .siter s p) : ∃b,β l= .obj b∧B≤b∧w.heap[b]? = some (.stringIter s p):=by
 have h1:=h.ent l
 rw[ho] at h1
 cases hb:β l with
 | obj b=>rw[hb] at h1;exact⟨b,rfl,h1.1,h1.2⟩
 | _=>rw[hb] at h1;exact h1.elim
theorem isKey_eq{β:Nat→Ent}{kk:Nat}{v v':Value}(hv:VR β v v')(h:isKey kk v=true):v'=v:=by
 unfold isKey at h
 split at h
 ·cases hv;rfl
 ·cases hv;rfl
 ·cases hv;rfl
 ·cases h
theorem sameK_key{kk:Nat}{a b:Value}{r:Bool}(h:sameK kk a b=some r):isKey kk b=true:=by
 unfold sameK at h
 split at h<;>first | rfl | cases h
theorem sameK_now{kk:Nat}{d:TypeDesc}(hd:kkOf d=some kk){a b:Value}{r:Bool}(h:sameK kk a b=some r):Instr.sameNow d a b=some r∧(r=true→a=b):=by
 cases d<;>simp only[kkOf,Option.some.injEq,reduceCtorEq] at hd<;>subst hd<;>cases a<;>cases b<;>simp only[sameK,reduceCtorEq,Option.some.injEq] at h
 ·subst h;exact⟨rfl,fun e=>by rw[eq_of_beq e]⟩
 ·split at h
  ·rename_i e;subst e;cases h
   exact⟨by simp[Instr.sameNow],fun e=>by rw[eq_of_beq e]⟩
  ·cases h
 ·subst h
  refine⟨rfl,fun e=> ?_⟩
  rw[(Go.MapKept.bytes_beq _ _).1 e]
theorem findK_rel{β:Nat→Ent}{kk:Nat}{d:TypeDesc}(hd:kkOf d=some kk){k:Value} : ∀ {es es':List MapEntry} {i:Nat} {r:Option (Nat×Value)},es.length=es'.length→
 (∀j (h:j<es.length) (h':j<es'.length),VR β es[j].key es'[j].key∧VR β es[j].val es'[j].val)→findK kk k es i=some r→
 (r=none∧Instr.findNow d k es' i=some none)∨∃j v v',r=some (i+j,v)∧Instr.findNow d k es' i=some (some (i+j,v'))∧VR β v v'∧(∃e,es'[j]? = some e∧e.key=k)
 | [],[],i,r,_,_,h=>by simp only[findK,Option.some.injEq] at h;exact .inl ⟨h.symm,rfl⟩
 | [],_::_,_,_,hl,_,_=>absurd hl (by simp)
 | _::_,[],_,_,hl,_,_=>absurd hl (by simp)
 | e::es,e'::es',i,r,hl,hr,h=>by
   have h0:=hr 0 (by simp) (by simp)
   simp only[List.getElem_cons_zero] at h0
   simp only[findK] at h
   split at h
   ·rename_i hs
    cases h
    have hk:=isKey_eq h0.1 (sameK_key hs)
    obtain⟨s1,s2⟩:=sameK_now hd hs
    rw[←hk] at s1
    exact .inr ⟨0,_,e'.val,rfl,by simp[Instr.findNow,s1],h0.2,e',rfl,by rw[hk];exact(s2 rfl).symm⟩
   ·rename_i hs
    have hk:=isKey_eq h0.1 (sameK_key hs)
    obtain⟨s1,_⟩:=sameK_now hd hs
    rw[←hk] at s1
    rcases findK_rel hd (by simpa using hl) (fun j q q'=>by have:=hr (j+1) (by simpa using q) (by simpa using q');simp only[List.getElem_cons_succ] at this;exact this) h with ⟨h1,h2⟩ | ⟨j,v,v',h1,h2,h3,e1,h4,h5⟩
    ·exact .inl ⟨h1,by simp[Instr.findNow,s1,h2]⟩
    ·exact .inr ⟨j+1,v,v',by rw[h1];congr 2;omega,by simp only[Instr.findNow,s1];rw[h2];congr 3;omega,h3,e1,by simpa using h4,h5⟩
   ·cases h
theorem run_ck{kt:TypeId}{d:TypeDesc}{kk:Nat}(hd:P.underlying kt=some d)(hk:kkOf d=some kk)(e:Bool)(n:Nat)(v:Value)(w:World):(Instr.checkKey e (n+1) kt v).run P w= .ok () w:=by
 unfold Instr.checkKey
 simp only[Sem.run_bind,run_underlying hd,Result.andThen]
 cases d<;>simp only[kkOf] at hk<;>first | (cases hk;done) | rfl
theorem run_kts{kk:Nat}{k:Value}(h:isKey kk k=true)(w:World):(Instr.keyThatStays k k).run P w= .ok k w:=by
 unfold isKey at h
 split at h
 ·simp[Instr.keyThatStays,Instr.sameBits,Sem.run_pure]
 ·simp[Instr.keyThatStays,Instr.sameBits,Sem.run_pure,(Go.MapKept.bytes_beq _ _).2 rfl]
 ·simp[Instr.keyThatStays,Instr.sameBits,Sem.run_pure]
 ·cases h
theorem rel_list{β:Nat→Ent}{es es':Array MapEntry}(hs:es'.size=es.size)(h : ∀i (h:i<es.size) (h':i<es'.size),VR β es[i].key es'[i].key∧VR β es[i].val es'[i].val∧es'[i].born=es[i].born) :
 es.toList.length=es'.toList.length∧∀j (q:j<es.toList.length) (q':j<es'.toList.length),VR β es.toList[j].key es'.toList[j].key∧VR β es.toList[j].val es'.toList[j].val:=
 ⟨by simpa using hs.symm,fun j q q'=>by
   have:=h j (by simpa using q) (by simpa using q')
   simp only[Array.getElem_toList]
   exact⟨this.1,this.2.1⟩⟩
theorem fm_find{d:TypeDesc}(hd:kkOf d=some 1)(s:ByteArray) : ∀(es:List MapEntry) (i:Nat),(∀e∈es,∃s n,e.key= .string s∧e.val= .int .i64 n)→
 ((∀e∈es,e.key≠ .string s)∧Instr.findNow d (.string s) es i=some none)∨∃j e,es[j]? = some e∧e.key= .string s∧Instr.findNow d (.string s) es i=some (some (i+j,e.val))
 | [],i,_=> .inl ⟨fun e he=>(by cases he),rfl⟩
 | a::es,i,h=>by
   obtain⟨s',n,h1,h2⟩:=h a (List.mem_cons_self ..)
   obtain⟨s1,s2⟩:=sameK_now hd (a:= .string s) (b:= .string s') (r:=s==s') (by simp[sameK])
   rw[←h1] at s1
   cases hs:(s==s') with
   | true=>
     rw[hs] at s1
     refine .inr ⟨0,a,rfl,?_,by simp[Instr.findNow,s1]⟩
     rw[h1];exact(s2 hs).symm
   | false=>
     rw[hs] at s1
     have hne:a.key≠ .string s:=fun e=>by
      rw[h1] at e;cases e
      rw[(Go.MapKept.bytes_beq _ _).2 rfl] at hs;cases hs
     rcases fm_find hd s es (i+1) fun e he=>h e (List.mem_cons_of_mem _ he) with ⟨g1,g2⟩ | ⟨j,e,g1,g2,g3⟩
     ·refine .inl ⟨fun e he=> ?_,by simp[Instr.findNow,s1,g2]⟩
      rcases List.mem_cons.1 he with rfl | he
      ·exact hne
      ·exact g1 e he
     ·exact .inr ⟨j+1,e,by simpa using g1,g2,by simp only[Instr.findNow,s1];rw[g3];congr 3;omega⟩
theorem Sim.fmAt{B:Nat}{β:Nat→Ent}{H:CH}{w:World}(h:Sim P B β H w){l:Nat}{f:ByteArray→Option Int}{k:Nat}(ho:H.ob l= .fm f k) : ∃b,β l= .obj b∧B≤b∧FmRel w b f k:=by
 have h1:=h.ent l
 rw[ho] at h1
 cases hb:β l with
 | obj b=>rw[hb] at h1;exact⟨b,rfl,h1.1,h1.2⟩
 | _=>rw[hb] at h1;exact h1.elim
theorem lsound_lkm{t kt et:TypeId}{d:TypeDesc}{kk:Nat}{z:Value}{ok:Bool}{x i:Operand}{inf:TypeInfo}(ht:P.underlying t=some (.map kt et))(hd:P.underlying kt=some d)(hk:kkOf d=some kk)(hi:P.info? et=some inf)(hz:inf.zero=some z)(hzc : ∀β,VR β z z) :
 LSound P (.lookup t x i ok) (.lkm kk z ok x i):=fun B β H w ev ev' o v ho hv hS hr=>by
 have hx:=hv x (by simp[Op.operands])
 have hi':=hv i (by simp[Op.operands])
 have hzr:(zeroValue et).run P w= .ok z w:=by simp[zeroValue,typeInfo,hi,hz]
 have fin : ∀(r:Option (Nat×Value)) (u:Value) (q:Option Value),lkR z ok (some r)=some u→(r=none∧q=none∨∃j a a',r=some (j,a)∧q=some a'∧VR β a a')→
  ∃u',u'=(if ok then .tuple #[q.getD z, .bool q.isSome] else q.getD z)∧VR β u u':=fun r u q hl hq=>by
  refine⟨_,rfl,?_⟩
  rcases hq with ⟨rfl,rfl⟩ | ⟨j,a,a',rfl,rfl,ha⟩
  ·simp only[lkR,Option.some.injEq] at hl
   subst hl
   cases ok
   ·exact hzc β
   ·exact .tuple rfl fun i h1 h2=>by
     match i,h1 with
     | 0,_=>exact hzc β
     | 1,_=>exact .bool _
  ·simp only[lkR,Option.some.injEq] at hl
   subst hl
   cases ok
   ·exact ha
   ·exact .tuple rfl fun i h1 h2=>by
     match i,h1 with
     | 0,_=>exact ha
     | 1,_=>exact .bool _
 simp only[lop] at hr
 split at hr
 ·rename_i hxe
  split at hr
  ·rw[hxe] at hx
   have hx':ev' x= .map none:=by generalize ev' x=q at hx;cases hx;rfl
   obtain⟨u',e,hu⟩:=fin none v none hr (.inl ⟨rfl,rfl⟩)
   refine⟨u',?_,hu⟩
   have hck:=run_ck (P:=P) hd hk true 9999 (ev' i) w
   have hfk:(Instr.findKey kt (ev' i) ([]:List MapEntry)).run P w= .ok none w:=Go.MapKept.run_findKey hd rfl
   subst e
   cases ok<;>simp[execOp,ho,hx',Instr.lookup,run_underlying ht,hck,hfk,hzr,Result.andThen]
  ·cases hr
 ·rename_i l hxe
  rw[hxe] at hx
  cases hob:H.ob l with
  | map es c=>
    rw[hob] at hr
    simp only[lkV] at hr
    split at hr
    ·rename_i hik
     obtain⟨b,hb,hB,es',h1,h2,h3⟩:=hS.mapAt hob
     have hx':ev' x= .map (some b):=by generalize ev' x=q at hx;cases hx with | map h=>rw[hb] at h;cases h;rfl
     have hki:=isKey_eq hi' hik
     obtain⟨q1,q2⟩:=rel_list h2 h3
     cases hf:findK kk (ev i) es.toList 0 with
     | none=>rw[hf] at hr;cases hr
     | some r=>
       rw[hf] at hr
       have hck : ∀em,(Instr.checkKey em 10000 kt (ev i)).run P w= .ok () w:=fun em=>run_ck (P:=P) hd hk em 9999 (ev i) w
       rcases findK_rel (β:=β) hk q1 q2 hf with ⟨g1,g2⟩ | ⟨j,a,a',g1,g2,g3,g4⟩
       ·obtain⟨u',e,hu⟩:=fin r v none hr (.inl ⟨g1,rfl⟩)
        refine⟨u',?_,hu⟩
        subst e
        cases ok<;>simp[execOp,ho,hx',hki,Instr.lookup,run_underlying ht,hck,Go.MapKept.run_getObj_map h1,Go.MapKept.run_findKey hd g2,hzr,Result.andThen]
       ·obtain⟨u',e,hu⟩:=fin r v (some a') hr (.inr ⟨_,a,a',g1,rfl,g3⟩)
        refine⟨u',?_,hu⟩
        subst e
        cases ok<;>simp[execOp,ho,hx',hki,Instr.lookup,run_underlying ht,hck,Go.MapKept.run_getObj_map h1,Go.MapKept.run_findKey hd g2,hzr,Result.andThen]
    ·cases hr
  | fm f k=>
    rw[hob] at hr
    simp only[lkV] at hr
    split at hr
    ·rename_i s hik
     obtain⟨b,hb,hB,es,c,h1,h2,h3,h4,h5,h6,h7,h8,h9⟩:=hS.fmAt hob
     have hx':ev' x= .map (some b):=by generalize ev' x=q at hx;cases hx with | map h=>rw[hb] at h;cases h;rfl
     have hki:ev' i= .string s:=by
      have:=isKey_eq (kk:=1) hi' (by rw[hik];rfl)
      rw[this,hik]
     have hck : ∀em,(Instr.checkKey em 10000 kt (.string s)).run P w= .ok () w:=fun em=>run_ck (P:=P) hd hk em 9999 _ w
     rcases fm_find hk s es.toList 0 (fun e he=>let ⟨s,n,a,b,_⟩:=h2 e he;⟨s,n,a,b⟩) with ⟨g1,g2⟩ | ⟨j,e,g1,g2,g3⟩
     ·have hfs:f s=none:=by
       cases hf:f s with
       | none=>rfl
       | some n=>obtain⟨e,he,e1,_⟩:=h5 s n hf;exact absurd e1 (g1 e he)
      rw[hfs] at hr
      obtain⟨u',e,hu⟩:=fin none v none hr (.inl ⟨rfl,rfl⟩)
      refine⟨u',?_,hu⟩
      subst e
      cases ok<;>simp[execOp,ho,hx',hki,Instr.lookup,run_underlying ht,hck,Go.MapKept.run_getObj_map h1,Go.MapKept.run_findKey hd g2,hzr,Result.andThen]
     ·have hem:e∈es.toList:=List.mem_of_getElem? g1
      obtain⟨s',n,e1,e2,_⟩:=h2 e hem
      rw[g2] at e1;cases e1
      have hfs:=h4 e hem s n g2 e2
      rw[hfs] at hr
      obtain⟨u',e',hu⟩:=fin (some (0, .int .i64 n)) v (some (.int .i64 n)) hr (.inr ⟨_,_,_,rfl,rfl, .int _ _⟩)
      rw[e2] at g3
      refine⟨u',?_,hu⟩
      subst e'
      cases ok<;>simp[execOp,ho,hx',hki,Instr.lookup,run_underlying ht,hck,Go.MapKept.run_getObj_map h1,Go.MapKept.run_findKey hd g3,hzr,Result.andThen]
    ·cases hr
  | _=>rw[hob] at hr;cases hr
 ·cases hr
theorem wsound_mkm{t:TypeId}{r:Option Operand}(hr0:r=none):WSound P (.makeMap t r) .mkm:=fun B β H w ev ev' o v H' ho hv hS hr=>by
 subst hr0
 simp only[wop,Option.some.injEq,Prod.mk.injEq] at hr
 obtain⟨rfl,rfl⟩:=hr
 obtain⟨h1,h2⟩:=hS.newObj (o:= .map #[] 0) (o':= .map #[] 0) fun β' w' _ hw=>⟨hS.base,#[],hw,rfl,fun i h=>absurd h (by simp)⟩
 exact⟨_,_, .map (some w.heap.size),_,by simp[execOp,ho,Instr.makeMap], .inl rfl, .map upd_same,h1,h2⟩
theorem map_modify{β:Nat→Ent}{es es':Array MapEntry}(hs:es'.size=es.size)(h : ∀i (h:i<es.size) (h':i<es'.size),VR β es[i].key es'[i].key∧VR β es[i].val es'[i].val∧es'[i].born=es[i].born){k k' v v':Value}(hk:VR β k k')(hv:VR β v v')(j:Nat) :
 (es'.modify j fun e=> { e with key:=k',val:=v' }).size=(es.modify j fun e=> { e with key:=k,val:=v }).size∧∀i (h:i<(es.modify j fun e=> { e with key:=k,val:=v }).size) (h':i<(es'.modify j fun e=> { e with key:=k',val:=v' }).size),
   VR β (es.modify j fun e=> { e with key:=k,val:=v })[i].key (es'.modify j fun e=> { e with key:=k',val:=v' })[i].key∧VR β (es.modify j fun e=> { e with key:=k,val:=v })[i].val (es'.modify j fun e=> { e with key:=k',val:=v' })[i].val∧(es'.modify j fun e=> { e with key:=k',val:=v' })[i].born=(es.modify j fun e=> { e with key:=k,val:=v })[i].born:=by
 refine⟨by simpa using hs,fun i h1 h2=> ?_⟩
 have h1':i<es.size:=by simpa using h1
 have h2':i<es'.size:=by simpa using h2
 simp only[Array.getElem_modify]
 by_cases e:j=i
 ·simp only[e,if_true]
  exact⟨hk,hv,(h i h1' h2').2.2⟩
 ·simp only[e,if_false]
  exact h i h1' h2'
theorem map_push{β:Nat→Ent}{es es':Array MapEntry}(hs:es'.size=es.size)(h : ∀i (h:i<es.size) (h':i<es'.size),VR β es[i].key es'[i].key∧VR β es[i].val es'[i].val∧es'[i].born=es[i].born){a a':MapEntry}(hk:VR β a.key a'.key)(hv:VR β a.val a'.val)(hb:a'.born=a.born) :
 (es'.push a').size=(es.push a).size∧∀i (h:i<(es.push a).size) (h':i<(es'.push a').size),VR β (es.push a)[i].key (es'.push a')[i].key∧VR β (es.push a)[i].val (es'.push a')[i].val∧(es'.push a')[i].born=(es.push a)[i].born:=by
 refine⟨by simpa using hs,fun i h1 h2=> ?_⟩
 simp only[Array.getElem_push]
 by_cases e:i<es.size
 ·have e':i<es'.size:=by omega
  simp only[e,e',dif_pos]
  exact h i e e'
 ·have e' : ¬i<es'.size:=by omega
  simp only[e,e',dif_neg,not_false_eq_true]
  exact⟨hk,hv,hb⟩
theorem wsound_mup{t kt et:TypeId}{d:TypeDesc}{kk:Nat}{x k u:Operand}{op:Op}(hop:op= .mapUpdate t x k u∨op= .insert t x k u)(ht:P.underlying t=some (.map kt et))(hd:P.underlying kt=some d)(hk:kkOf d=some kk):WSound P op (.mup kk x k u):=fun B β H w ev ev' o v H' ho hv hS hr=>by
 have hopn:op.operands= #[x,k,u]:=by rcases hop with rfl | rfl<;>rfl
 have hexec:execOp ev' o=(do Instr.mapUpdate t (ev' x) (ev' k) (ev' u);pure .skip):=by rcases hop with rfl | rfl<;>simp only[execOp,ho]<;>rfl
 have hx:=hv x (by simp[hopn])
 have hk':=hv k (by simp[hopn])
 have hu:=hv u (by simp[hopn])
 simp only[wop] at hr
 split at hr
 ·rename_i l hxe
  rw[hxe] at hx
  cases hob:H.ob l with
  | map es c=>
    rw[hob] at hr
    simp only[mupV] at hr
    split at hr
    ·rename_i g
     obtain⟨b,hb,hB,es',h1,h2,h3⟩:=hS.mapAt hob
     have hx':ev' x= .map (some b):=by generalize ev' x=q at hx;cases hx with | map h=>rw[hb] at h;cases h;rfl
     have hki:=isKey_eq hk' g.1
     obtain⟨q1,q2⟩:=rel_list h2 h3
     have hck : ∀em,(Instr.checkKey em 10000 kt (ev k)).run P w= .ok () w:=fun em=>run_ck (P:=P) hd hk em 9999 (ev k) w
     have hc:(∀cs e f,Obj.map es' c≠ .cells cs e f)∧∀r,Obj.map es' c≠ .loop r:=⟨fun _ _ _ e=>(nomatch e),fun _ e=>(nomatch e)⟩
     have hset : ∀o2:Obj,(setObj b o2).run P w= .ok () (w.putObj b o2):=fun o2=>Go.MapKept.run_setObj_map o2 h1
     split at hr
     ·rename_i j a hf
      cases hr
      rcases findK_rel (β:=β) hk q1 q2 hf with ⟨g1,_⟩ | ⟨j',a0,a',g1,g2,g3,e1,g4,g5⟩
      ·cases g1
      ·cases g1
       rw[Nat.zero_add] at *
       obtain⟨m1,m2⟩:=map_modify h2 h3 (hki▸hk':VR β (ev k) (ev k)) hu j'
       obtain⟨s1,s2⟩:=hS.setObj hb h1 hc (o:= .map (es.modify j' fun e=> { e with key:=ev k,val:=ev u }) c) (o':= .map (es'.modify j' fun e=> { e with key:=ev k,val:=ev' u }) c) fun w' hw=>⟨hB,_,hw,m1,m2⟩
       refine⟨β,_,undef, .skip,?_, .inr ⟨rfl,rfl⟩, .undef _,s1,s2⟩
       have hkey:((es'[j']?).map (·.key)).getD (ev k)=ev k:=by
        have:es'[j']? = some e1:=by simpa using g4
        rw[this];exact g5
       rw[hexec]
       simp[hx',hki,Instr.mapUpdate,run_underlying ht,hck,Go.MapKept.run_getObj_map h1,Go.MapKept.run_findKey hd g2,hkey,run_kts g.1,hset,Result.andThen]
     ·rename_i hf
      cases hr
      rcases findK_rel (β:=β) hk q1 q2 hf with ⟨_,g2⟩ | ⟨_,_,_,g1,_⟩
      ·obtain⟨m1,m2⟩:=map_push h2 h3 (a:= { key:=ev k,val:=ev u,born:=c }) (a':= { key:=ev k,val:=ev' u,born:=c }) (hki▸hk':VR β (ev k) (ev k)) hu rfl
       obtain⟨s1,s2⟩:=hS.setObj hb h1 hc (o:= .map (es.push { key:=ev k,val:=ev u,born:=c }) (c+1)) (o':= .map (es'.push { key:=ev k,val:=ev' u,born:=c }) (c+1)) fun w' hw=>⟨hB,_,hw,m1,m2⟩
       refine⟨β,_,undef, .skip,?_, .inr ⟨rfl,rfl⟩, .undef _,s1,s2⟩
       rw[hexec]
       simp[hx',hki,Instr.mapUpdate,run_underlying ht,hck,Go.MapKept.run_getObj_map h1,Go.MapKept.run_findKey hd g2,hset,Result.andThen]
      ·cases g1
     ·cases hr
    ·cases hr
  | fm f cnt=>
    rw[hob] at hr
    simp only[mupV] at hr
    split at hr
    ·rename_i s n hik hiu
     split at hr
     case isFalse=>cases hr
     rename_i g
     obtain⟨gs,gw,gc⟩:=g
     cases hr
     obtain⟨b,hb,hB,es,c,h1,h2,h3,h4,h5,h6,h7,h8,h9⟩:=hS.fmAt hob
     have hx':ev' x= .map (some b):=by generalize ev' x=q at hx;cases hx with | map h=>rw[hb] at h;cases h;rfl
     have hki:ev' k= .string s:=by
      have:=isKey_eq (kk:=1) hk' (by rw[hik];rfl)
      rw[this,hik]
     have hui:ev' u= .int .i64 n:=by
      have:=isKey_eq (kk:=0) hu (by rw[hiu];rfl)
      rw[this,hiu]
     have hck : ∀em,(Instr.checkKey em 10000 kt (.string s)).run P w= .ok () w:=fun em=>run_ck (P:=P) hd hk em 9999 _ w
     have hc:(∀cs e f,Obj.map es c≠ .cells cs e f)∧∀r,Obj.map es c≠ .loop r:=⟨fun _ _ _ e=>(nomatch e),fun _ e=>(nomatch e)⟩
     have hset : ∀o2:Obj,(setObj b o2).run P w= .ok () (w.putObj b o2):=fun o2=>Go.MapKept.run_setObj_map o2 h1
     have hkts:(Instr.keyThatStays (.string s) (.string s)).run P w= .ok (.string s) w:=run_kts (kk:=1) rfl w
     rcases fm_find hk s es.toList 0 (fun e he=>let ⟨s,n,a,b,_⟩:=h2 e he;⟨s,n,a,b⟩) with ⟨g1,g2⟩ | ⟨j,e,g1,g2,g3⟩
     ·have hm : ∀e,e∈(es.push { key:= .string s,val:= .int .i64 n,born:=c }).toList↔e∈es.toList∨e= { key:= .string s,val:= .int .i64 n,born:=c }:=fun e=>by simp
      have hfm : ∀w':World,w'.heap[b]? = some (.map (es.push { key:= .string s,val:= .int .i64 n,born:=c }) (c+1))→FmRel w' b (fun t=>if t=s then some n else f t) (cnt+1):=fun w' hw=>by
       refine⟨_,_,hw,fun e he=> ?_,?_,fun e he s' n' e1 e2=> ?_,fun s' n' hf=> ?_,?_,gc,fun e he=> ?_,?_⟩
       ·rcases(hm e).1 he with he | rfl
        ·exact h2 e he
        ·exact⟨_,_,rfl,rfl,gs,gw⟩
       ·rw[Array.toList_push,List.pairwise_append]
        refine⟨h3,List.pairwise_singleton ..,fun a ha b hb=> ?_⟩
        rw[List.mem_singleton.1 hb]
        exact g1 a ha
       ·rcases(hm e).1 he with he | rfl
        ·have hne:s'≠s:=fun h=>g1 e he (by rw[e1,h])
         simp only[hne,if_false]
         exact h4 e he s' n' e1 e2
        ·cases e1;cases e2;simp
       ·by_cases hs:s'=s
        ·subst hs
         simp only[if_true,Option.some.injEq] at hf
         subst hf
         exact⟨_,(hm _).2 (.inr rfl),rfl,rfl⟩
        ·simp only[hs,if_false] at hf
         obtain⟨e,he,e1,e2⟩:=h5 s' n' hf
         exact⟨e,(hm _).2 (.inl he),e1,e2⟩
       ·simp;omega
       ·rcases(hm e).1 he with he | rfl
        ·exact Nat.lt_succ_of_lt (h8 e he)
        ·exact Nat.lt_succ_self _
       ·rw[Array.toList_push,List.pairwise_append]
        refine⟨h9,List.pairwise_singleton ..,fun a ha b hb=> ?_⟩
        rw[List.mem_singleton.1 hb]
        exact fun h=>by have:=h8 a ha;simp at h;omega
      obtain⟨s1,s2⟩:=hS.setObj hb h1 hc (o:= .fm (fun t=>if t=s then some n else f t) (cnt+1)) (o':= .map (es.push { key:= .string s,val:= .int .i64 n,born:=c }) (c+1)) fun w' hw=>⟨hB,hfm w' hw⟩
      refine⟨β,_,undef, .skip,?_, .inr ⟨rfl,rfl⟩, .undef _,s1,s2⟩
      rw[hexec]
      simp[hx',hki,hui,Instr.mapUpdate,run_underlying ht,hck,Go.MapKept.run_getObj_map h1,Go.MapKept.run_findKey hd g2,hset,Result.andThen]
     ·have hjl:j<es.size:=by
       have:=(List.getElem?_eq_some_iff.1 g1).1;simpa using this
      have hej:es[j]=e:=by
       have:=(List.getElem?_eq_some_iff.1 g1).2;simpa using this
      have hat : ∀i (h:i<es.size),(es.modify j fun e=> { e with key:= .string s,val:= .int .i64 n })[i]'(by simpa using h)=if j=i then { es[i] with key:= .string s,val:= .int .i64 n } else es[i]:=fun i h=>by
       simp only[Array.getElem_modify]
      have hm : ∀e',e'∈(es.modify j fun e=> { e with key:= .string s,val:= .int .i64 n }).toList↔(∃i,∃h:i<es.size,i≠j∧es[i]=e')∨e'= { es[j] with key:= .string s,val:= .int .i64 n }:=fun e'=>by
       rw[Array.mem_toList_iff,Array.mem_iff_getElem]
       constructor
       ·rintro⟨i,hi,h⟩
        have hi':i<es.size:=by simpa using hi
        rw[hat i hi'] at h
        by_cases e:j=i
        ·subst e;rw[if_pos rfl] at h;exact .inr h.symm
        ·rw[if_neg e] at h;exact .inl ⟨i,hi',fun h=>e h.symm,h⟩
       ·rintro(⟨i,hi,hne,h⟩ | h)
        ·exact⟨i,by simpa using hi,by rw[hat i hi,if_neg (fun e=>hne e.symm)];exact h⟩
        ·exact⟨j,by simpa using hjl,by rw[hat j hjl,if_pos rfl];exact h.symm⟩
      have hdis : ∀i (h:i<es.size),i≠j→es[i].key≠ .string s:=fun i h hne hk=>by
       have hp:=List.pairwise_iff_getElem.1 h3
       rcases Nat.lt_or_gt_of_ne hne with hlt | hlt
       ·exact hp i j (by simpa using h) (by simpa using hjl) hlt (by simp only[Array.getElem_toList];rw[hk,hej,g2])
       ·exact hp j i (by simpa using hjl) (by simpa using h) hlt (by simp only[Array.getElem_toList];rw[hk,hej,g2])
      have hfm : ∀w':World,w'.heap[b]? = some (.map (es.modify j fun e=> { e with key:= .string s,val:= .int .i64 n }) c)→FmRel w' b (fun t=>if t=s then some n else f t) (cnt+1):=fun w' hw=>by
       refine⟨_,_,hw,fun e he=> ?_,?_,fun e he s' n' e1 e2=> ?_,fun s' n' hf=> ?_,?_,gc,fun e he=> ?_,?_⟩
       ·rcases(hm e).1 he with ⟨i,hi,_,rfl⟩ | rfl
        ·exact h2 _ (by simp)
        ·exact⟨_,_,rfl,rfl,gs,gw⟩
       ·rw[List.pairwise_iff_getElem]
        intro a b ha hb' hab
        have ha':a<es.size:=by simpa using ha
        have hb2:b<es.size:=by simpa using hb'
        simp only[Array.getElem_toList,Array.getElem_modify]
        by_cases ea:j=a<;>by_cases eb:j=b
        ·omega
        ·simp only[ea,if_true,eb,if_false]
         rw[if_neg (by omega)]
         exact fun h=>hdis b hb2 (fun h=>eb h.symm) h.symm
        ·simp only[eb,if_true,ea,if_false]
         rw[if_neg (by omega)]
         exact hdis a ha' (by omega)
        ·simp only[ea,eb,if_false]
         have hp:=List.pairwise_iff_getElem.1 h3 a b (by simpa using ha') (by simpa using hb2) hab
         simpa only[Array.getElem_toList] using hp
       ·rcases(hm e).1 he with ⟨i,hi,hne,rfl⟩ | rfl
        ·have hs:s'≠s:=fun h=>hdis i hi hne (by rw[e1,h])
         simp only[hs,if_false]
         exact h4 _ (by simp) s' n' e1 e2
        ·cases e1;cases e2;simp
       ·by_cases hs:s'=s
        ·subst hs
         simp only[if_true,Option.some.injEq] at hf
         subst hf
         exact⟨_,(hm _).2 (.inr rfl),rfl,rfl⟩
        ·simp only[hs,if_false] at hf
         obtain⟨e',he',q1,q2⟩:=h5 s' n' hf
         obtain⟨i,hi,hie⟩:=List.getElem_of_mem he'
         have hi':i<es.size:=by simpa using hi
         have hie':es[i]=e':=by simpa using hie
         refine⟨e',(hm _).2 (.inl ⟨i,hi',fun h=> ?_,hie'⟩),q1,q2⟩
         subst h
         rw[hej] at hie'
         subst hie'
         rw[g2] at q1;cases q1;exact hs rfl
       ·simp;omega
       ·rcases(hm e).1 he with ⟨i,hi,_,rfl⟩ | rfl
        ·exact h8 _ (by simp)
        ·exact h8 es[j] (by simp)
       ·rw[List.pairwise_iff_getElem]
        intro a b ha hb' hab
        have ha':a<es.size:=by simpa using ha
        have hb2:b<es.size:=by simpa using hb'
        have hp:=List.pairwise_iff_getElem.1 h9 a b (by simpa using ha') (by simpa using hb2) hab
        simp only[Array.getElem_toList] at hp
        simp only[Array.getElem_toList,Array.getElem_modify]
        split<;>split<;>exact hp
      obtain⟨s1,s2⟩:=hS.setObj hb h1 hc (o:= .fm (fun t=>if t=s then some n else f t) (cnt+1)) (o':= .map (es.modify j fun e=> { e with key:= .string s,val:= .int .i64 n }) c) fun w' hw=>⟨hB,hfm w' hw⟩
      refine⟨β,_,undef, .skip,?_, .inr ⟨rfl,rfl⟩, .undef _,s1,s2⟩
      have hkey:((es[j]?).map (·.key)).getD (.string s)= .string s:=by
       rw[Array.getElem?_eq_getElem hjl,hej];exact g2
      rw[Nat.zero_add] at g3
      rw[hexec]
      simp[hx',hki,hui,Instr.mapUpdate,run_underlying ht,hck,Go.MapKept.run_getObj_map h1,Go.MapKept.run_findKey hd g3,hkey,hkts,hset,Result.andThen]
    ·cases hr
  | _=>rw[hob] at hr;cases hr
 ·cases hr
theorem Sim.miterAt{B:Nat}{β:Nat→Ent}{H:CH}{w:World}(h:Sim P B β H w){l m:Nat}(ho:H.ob l= .miter m) : ∃b,β l= .obj b∧B≤b∧∃(b' since last:Nat) (seen:Array Nat),β m= .obj b'∧w.heap[b]? = some (.mapIter (some b') since seen last):=by
 have h1:=h.ent l
 rw[ho] at h1
 cases hb:β l with
 | obj b=>rw[hb] at h1;exact⟨b,rfl,h1.1,h1.2⟩
 | _=>rw[hb] at h1;exact h1.elim
theorem wsound_mit{t kt et:TypeId}{x:Operand}(ht:P.underlying t=some (.map kt et)):WSound P (.range t x) (.mit x):=fun B β H w ev ev' o v H' ho hv hS hr=>by
 have hx:=hv x (by simp[Op.operands])
 simp only[wop] at hr
 split at hr
 ·rename_i l hxe
  rw[hxe] at hx
  cases hob:H.ob l with
  | map es c=>
    rw[hob] at hr
    simp only[mitV,Option.some.injEq,Prod.mk.injEq] at hr
    obtain⟨rfl,rfl⟩:=hr
    obtain⟨b,hb,hB,es',h1,h2,h3⟩:=hS.mapAt hob
    have hx':ev' x= .map (some b):=by generalize ev' x=q at hx;cases hx with | map h=>rw[hb] at h;cases h;rfl
    have hne:l≠H.nx:=fun e=>by
     have:=hS.nx H.nx (Nat.le_refl _)
     rw[←e,hob] at this;cases this
    obtain⟨g1,g2⟩:=hS.newObj (o:= .miter l) (o':= .mapIter (some b) c #[] c) fun β' w' e hw=>⟨hS.base,b,c,c,#[],by rw[e,upd_other hne];exact hb,hw⟩
    exact⟨_,_, .pointer (some ⟨w.heap.size,0,none⟩),_,by simp[execOp,ho,hx',Instr.range,run_underlying ht,Go.MapKept.run_getObj_map h1], .inl rfl, .iter upd_same,g1,g2⟩
  | _=>rw[hob] at hr;cases hr
 ·cases hr
theorem wsound_mnx{x:Operand}:WSound P (.next x false) (.mnx x):=fun B β H w ev ev' o v H' ho hv hS hr=>by
 have hx:=hv x (by simp[Op.operands])
 simp only[wop] at hr
 split at hr
 ·rename_i l hxe
  rw[hxe] at hx
  cases hob:H.ob l with
  | miter m=>
    rw[hob] at hr
    simp only[mnxV] at hr
    obtain⟨b,hb,hB,b',since,last,seen,hm,h1⟩:=hS.miterAt hob
    have hx':ev' x= .pointer (some ⟨b,0,none⟩):=by generalize ev' x=q at hx;cases hx with | iter h=>rw[hb] at h;cases h;rfl
    cases hom:H.ob m with
    | map es c=>
      rw[hom] at hr
      simp only at hr
      split at hr
      ·rename_i h0
       cases hr
       obtain⟨b2,hb2,_,es',q1,q2,_⟩:=hS.mapAt hom
       rw[hm] at hb2
       cases hb2
       have he:es'= #[]:=Array.eq_empty_of_size_eq_zero (q2.trans h0)
       subst he
       refine⟨β,w, .tuple #[.bool false],_,?_, .inl rfl, .tuple rfl fun i g1 g2=> ?_,hS,Evo.refl β w⟩
       ·simp[execOp,ho,hx',Instr.next,getObj,Sem.run,h1,q1,choose,Question.forced,Sem.run_bind,Result.andThen]
       ·match i,g1 with
        | 0,_=>exact .bool _
      ·cases hr
    | _=>rw[hom] at hr;cases hr
  | _=>rw[hob] at hr;cases hr
 ·cases hr
theorem wsound_del{t tk kt et:TypeId}{d:TypeDesc}{kk:Nat}{x k:Operand}(ht:P.underlying t=some (.map kt et))(hd:P.underlying kt=some d)(hk:kkOf d=some kk):WSound P (.call { callee:= .builtin .delete,args:= #[x,k],argTypes:= #[t,tk] }) (.del kk x k):=fun B β H w ev ev' o v H' ho hv hS hr=>by
 have hx:=hv x (by simp[Op.operands,Call.operands])
 have hk':=hv k (by simp[Op.operands,Call.operands])
 have hexec : ∀(u:Value) (w':World),(Builtin.delete_ #[t,tk] o.type #[ev' x,ev' k]).run P w= .ok u w'→(execOp ev' o).run P w= .ok (.value u) w':=fun u w' h=>by
  simp only[execOp,ho,resolve,Sem.run_bind,Sem.run_pure,Result.andThen_ok,invoke,builtin,List.map_toArray,List.map_cons,List.map_nil,h]
 simp only[wop] at hr
 split at hr
 ·rename_i l hxe
  rw[hxe] at hx
  cases hob:H.ob l with
  | map es c=>
    rw[hob] at hr
    simp only[delV] at hr
    split at hr
    ·rename_i g
     obtain⟨b,hb,hB,es',h1,h2,h3⟩:=hS.mapAt hob
     have hx':ev' x= .map (some b):=by generalize ev' x=q at hx;cases hx with | map h=>rw[hb] at h;cases h;rfl
     have hki:=isKey_eq hk' g
     obtain⟨q1,q2⟩:=rel_list h2 h3
     have hck : ∀em,(Instr.checkKey em 10000 kt (ev k)).run P w= .ok () w:=fun em=>run_ck (P:=P) hd hk em 9999 (ev k) w
     have hc:(∀cs e f,Obj.map es' c≠ .cells cs e f)∧∀r,Obj.map es' c≠ .loop r:=⟨fun _ _ _ e=>(nomatch e),fun _ e=>(nomatch e)⟩
     have hset : ∀o2:Obj,(setObj b o2).run P w= .ok () (w.putObj b o2):=fun o2=>Go.MapKept.run_setObj_map o2 h1
     split at hr
     ·rename_i hf
      cases hr
      rcases findK_rel (β:=β) hk q1 q2 hf with ⟨_,g2⟩ | ⟨_,_,_,g1,_⟩
      ·obtain⟨s1,s2⟩:=hS.setObj hb h1 hc (o:= .map es c) (o':= .map es' c) fun w' hw=>⟨hB,_,hw,h2,h3⟩
       refine⟨β,_, .tuple #[], .value (.tuple #[]),hexec _ _ ?_, .inl rfl, .tuple rfl fun i g1 g2=>(by simp at g1),s1,s2⟩
       simp[Builtin.delete_,hx',hki,run_underlying ht,hck,Go.MapKept.run_getObj_map h1,Go.MapKept.run_findKey hd g2,hset,Result.andThen]
      ·cases g1
     ·cases hr
    ·cases hr
  | _=>rw[hob] at hr;cases hr
 ·cases hr
theorem wsound_sit{t:TypeId}{x:Operand}(ht:P.underlying t=some .string):WSound P (.range t x) (.sit x):=fun B β H w ev ev' o v H' ho hv hS hr=>by
 have hx:=hv x (by simp[Op.operands])
 simp only[wop] at hr
 split at hr
 ·rename_i s hxe
  rw[hxe] at hx
  have hx':=hx.string_inv
  cases hr
  obtain⟨h1,h2⟩:=hS.newObj (o:= .siter s 0) (o':= .stringIter s 0) fun β' w' _ hw=>⟨hS.base,hw⟩
  exact⟨_,_, .pointer (some ⟨w.heap.size,0,none⟩),_,by simp[execOp,ho,hx',Instr.range,run_underlying ht], .inl rfl, .iter upd_same,h1,h2⟩
 ·cases hr
theorem wsound_nxt{x:Operand}:WSound P (.next x true) (.nxt x):=fun B β H w ev ev' o v H' ho hv hS hr=>by
 have hx:=hv x (by simp[Op.operands])
 simp only[wop] at hr
 split at hr
 ·rename_i l hxe
  rw[hxe] at hx
  cases hob:H.ob l with
  | siter s p=>
    rw[hob] at hr
    simp only[nxtV] at hr
    obtain⟨b,hb,hB,h1⟩:=hS.siterAt hob
    have hx':ev' x= .pointer (some ⟨b,0,none⟩):=by generalize ev' x=q at hx;cases hx with | iter h=>rw[hb] at h;cases h;rfl
    have hc:(∀cs e f,Obj.stringIter s p≠ .cells cs e f)∧∀r,Obj.stringIter s p≠ .loop r:=⟨fun _ _ _ e=>(nomatch e),fun _ e=>(nomatch e)⟩
    split at hr
    ·rename_i hlt
     cases hr
     obtain⟨s1,s2⟩:=hS.setObj hb h1 hc (o:= .siter s (p+(Utf8.decode s p).2)) (o':= .stringIter s (p+(Utf8.decode s p).2)) fun w' hw=>⟨hB,hw⟩
     refine⟨β,_, .tuple #[.bool true, .int .i64 p, .int .i32 (Utf8.decode s p).1],_,?_, .inl rfl, .tuple rfl fun i g1 g2=> ?_,s1,s2⟩
     ·simp only[execOp,ho,hx']
      have:=Lib.run_next_any_at (P:=P) w b s p o.type h1 hlt
      simp only[Sem.run_bind,this,Result.andThen_ok,Sem.run_pure]
      rfl
     ·match i,g1 with
      | 0,_=>exact .bool _
      | 1,_=>exact .int _ _
      | 2,_=>exact .int _ _
    ·rename_i hlt
     cases hr
     refine⟨β,w, .tuple #[.bool false],_,?_, .inl rfl, .tuple rfl fun i g1 g2=> ?_,hS,Evo.refl β w⟩
     ·simp only[execOp,ho,hx']
      have:=Lib.run_next_end_at (P:=P) w b s p o.type h1 hlt
      simp only[Sem.run_bind,this,Result.andThen_ok,Sem.run_pure]
     ·match i,g1 with
      | 0,_=>exact .bool _
  | _=>rw[hob] at hr;cases hr
 ·cases hr
theorem bytes_heap(w:World)(e:TypeId)(s:ByteArray):(Lib.bytesWorld w e s).heap=w.drew.heap.push (.cells (Lib.bytesCells w e s) e ((Lib.bytesCells w e s).size,(Lib.bytesCells w e s).size+1)):=by
 apply Array.ext_getElem?
 intro j
 have hd:w.drew.heap=w.heap:=rfl
 rw[hd,Array.getElem?_push]
 by_cases h:j=w.heap.size
 ·rw[h,Lib.bytesWorld_at_new,if_pos rfl]
 ·rw[if_neg h]
  by_cases h2:j<w.heap.size
  ·exact Lib.bytesWorld_at_old w e s j h2
  ·rw[Array.getElem?_eq_none (by rw[Lib.bytesWorld_size];omega),Array.getElem?_eq_none (by omega)]
theorem wsound_s2b{src dst e bytes:TypeId}{x:Operand}(hs:P.underlying src=some .string)(hd:P.underlying dst=some (.slice e))(he:P.underlying e=some (.int .u8))(hi:(P.info? e).map (·.size)=some 1):WSound P (.convert src dst x) (.s2b e bytes x):=fun B β H w ev ev' o v H' ho hv hS hr=>by
 have hx:=hv x (by simp[Op.operands])
 simp only[wop] at hr
 split at hr
 ·rename_i s hxe
  rw[hxe] at hx
  have hx':=hx.string_inv
  split at hr
  ·rename_i hsz
   cases hr
   obtain⟨g1,g2⟩:=grownCap_bounds w s.size 0 e (by have:maxLen=9223372036854775807:=rfl;omega)
   have hsize:(Lib.bytesCells w e s).size=grownCap w s.size 0 e:=by simp[Lib.bytesCells];have:s.data.size=s.size:=rfl;omega
   obtain⟨h1,h2⟩:=hS.drew
   obtain⟨h3,h4⟩:=h1.alloc (cs:=s.data.toList.map fun b=> .int .u8 b.toNat) (cs':=Lib.bytesCells w e s) (e:=e) .gr (by simp) hi (by simp[Lib.bytesCells]) (by simp) (fun i v hv=>by
    have hlt:i<s.data.size:=by have:=(List.getElem?_eq_some_iff.1 hv).1;simpa using this
    refine⟨v,?_,?_⟩
    ·unfold Lib.bytesCells
     rw[Array.getElem?_append_left (by simpa using hlt)]
     simp only[List.getElem?_map,Array.getElem?_toList] at hv
     simpa using hv
    ·simp only[List.getElem?_map,Option.map_eq_some_iff] at hv
     obtain⟨b,_,rfl⟩:=hv
     exact .int _ _) (fr:=((Lib.bytesCells w e s).size,(Lib.bytesCells w e s).size+1)) (.inr (Nat.le_refl _)) (w':=Lib.bytesWorld w e s) (bytes_heap w e s) rfl rfl rfl
   refine⟨_,_, .slice (some ⟨w.heap.size,0,none⟩) s.size (grownCap w s.size 0 e),_,?_, .inl rfl,?_,h3,h2.trans h4⟩
   ·simp only[execOp,ho,hx']
    have:=Lib.run_convert_string_bytes (P:=P) w src dst e s hs hd he
    simp only[Sem.run_bind,this,Result.andThen_ok,Sem.run_pure]
   ·exact .sl (b:=(w.heap.size,0)) (o:=0) upd_same (Nat.le_refl _) g1 g2 (fun _=>by rw[hsize];simp) (fun g=>absurd rfl g)
  ·cases hr
 ·cases hr
theorem byteList_spec : ∀ {l:List Value} {bs:List UInt8},byteList l=some bs→∃xs:List Int,l=xs.map (.int .u8)∧bs=xs.map fun n=>UInt8.ofNat n.toNat
 | [],bs,h=>by simp only[byteList,Option.some.injEq] at h;exact⟨[],rfl,h.symm⟩
 | v::l,bs,h=>by
   cases v with
   | int k n=>
     cases k<;>simp only[byteList,reduceCtorEq] at h
     cases hb:byteList l with
     | none=>rw[hb] at h;cases h
     | some bs0=>
       rw[hb] at h
       cases h
       obtain⟨xs,rfl,rfl⟩:=byteList_spec hb
       exact⟨n::xs,rfl,rfl⟩
   | _=>simp only[byteList,reduceCtorEq] at h
theorem lsound_b2s{src dst e:TypeId}{x:Operand}(hs:P.underlying src=some (.slice e))(hd:P.underlying dst=some .string)(he:P.underlying e=some (.int .u8)):LSound P (.convert src dst x) (.b2s x):=fun B β H w ev ev' o v ho hv hS hr=>by
 have hx:=hv x (by simp[Op.operands])
 have hex : ∀u w',(convert src dst (ev' x)).run P w= .ok u w'→(execOp ev' o).run P w= .ok (.value u) w':=fun u w' h=>by simp only[execOp,ho,Sem.run_bind,h,Result.andThen_ok,Sem.run_pure]
 have h00 : ∀(a:Addr) (c:Nat),(convert src dst (.slice (some a) 0 c)).run P w= .ok (.string .empty) w:=fun a c=>by
  rw[run_convert_bytes_string w src dst e _ 0 c hs he hd]
  have:=run_bytesToString (P:=P) w a 0 c [] (by simp[loadCells,loadCellsFrom])
  simpa using this
 simp only[lop] at hr
 split at hr
 ·rename_i hxe
  cases hr
  rw[hxe] at hx
  have hx':ev' x= .slice none 0 0:=by generalize ev' x=q at hx;cases hx;rfl
  exact⟨_,hex _ _ (by rw[hx'];exact run_convert_bytes_nil w src e hs he 0 0 dst hd), .string _⟩
 ·rename_i l oo n c hxe
  rw[hxe] at hx
  split at hr
  ·rename_i cs e0 k hob
   split at hr
   ·rename_i hle
    obtain⟨b,sz,m,hb,hlive⟩:=hS.cells hob
    obtain⟨us,h1,h2,h3⟩:=hlive.reads oo n hle
    cases hbl:byteList ((cs.drop oo).take n) with
    | none=>rw[hbl] at hr;cases hr
    | some bs=>
      rw[hbl] at hr
      cases hr
      obtain⟨xs,hxs,rfl⟩:=byteList_spec hbl
      have hus:us=xs.map (.int .u8):=by
       rw[hxs] at h1
       refine List.ext_getElem? fun i=> ?_
       cases hi:(xs.map (Value.int .u8))[i]? with
       | none=>
         have:=h1.1
         rw[List.getElem?_eq_none_iff] at hi⊢
         omega
       | some u=>
         obtain⟨u',q1,q2⟩:=h1.2 i u hi
         rw[q1]
         simp only[List.getElem?_map,Option.map_eq_some_iff] at hi
         obtain⟨z,_,rfl⟩:=hi
         cases q2;rfl
      have hlen:xs.length=n:=by
       have:=congrArg List.length hxs
       simp at this
       omega
      have hstr:(⟨(xs.map fun n=>UInt8.ofNat n.toNat).toArray⟩:ByteArray)=strOfNums xs:=rfl
      show ∃v',(execOp ev' o).run P w= .ok (.value v') w∧VR β (.string ⟨(xs.map fun n=>UInt8.ofNat n.toNat).toArray⟩) v'
      rw[hstr]
      by_cases hn:n=0
      ·subst hn
       have hx' : ∃a c',ev' x= .slice (some a) 0 c':=by
        generalize ev' x=q at hx
        cases hx with
        | sl=>exact⟨_,_,rfl⟩
        | sdead=>exact⟨_,_,rfl⟩
        | szero=>exact⟨_,_,rfl⟩
       obtain⟨a,c',hx'⟩:=hx'
       have:xs= []:=List.length_eq_zero_iff.1 hlen
       subst this
       exact⟨_,hex _ _ (by rw[hx'];exact h00 a c'), .string _⟩
      ·have hx' : ∃c',ev' x= .slice (some ⟨b.1,oo+b.2,none⟩) n c':=by
        generalize ev' x=q at hx
        cases hx with
        | sl hl=>rw[hb] at hl;cases hl;exact⟨_,rfl⟩
        | sdead a hl=>rw[hb] at hl;cases hl
        | szero=>exact absurd rfl hn
       obtain⟨c',hx'⟩:=hx'
       refine⟨_,hex _ _ ?_, .string _⟩
       rw[hx']
       refine run_convert_bytes_arg w src e hs he b.1 (oo+b.2) n c' xs hlen (fun i hi=> ?_) dst hd
       have hxi:us[i]? = some (.int .u8 (xs.getD i 0)):=by
        rw[hus,List.getElem?_map,List.getElem?_eq_getElem (by omega),List.getD_eq_getElem?_getD,List.getElem?_eq_getElem (by omega)];rfl
       have:=h3 i _ hxi
       simpa[Addr.add_lit] using this
   ·cases hr
  ·cases hr
 ·rename_i a1 a2 a3 c hxe
  cases hr
  rw[hxe] at hx
  have hx' : ∃a c',ev' x= .slice (some a) 0 c':=by
   generalize ev' x=q at hx
   cases hx<;>exact⟨_,_,rfl⟩
  obtain⟨a,c',hx'⟩:=hx'
  exact⟨_,hex _ _ (by rw[hx'];exact h00 a c'), .string _⟩
 ·cases hr
theorem Sim.freeze{B:Nat}{β:Nat→Ent}{H:CH}{w:World}(h:Sim P B β H w){l:Nat}{b:Nat×Nat}{sz n:Nat}{k:Kd}(hb:β l= .live b sz n k)(hk:k≠ .ro) :
 Sim P B β H (w.freeze ⟨b.1,n,none⟩ 1)∧Evo β w β (w.freeze ⟨b.1,n,none⟩ 1):=by
 obtain⟨cs,e,hob,cs',e',fr,h1,h2,h3,h4,h5,h6,h7,h8⟩:=h.live hb
 have hother : ∀b',b'≠b.1→(w.freeze ⟨b.1,n,none⟩ 1).heap[b']? = w.heap[b']? :=fun b' hne=>by
  simp[World.freeze,Array.getElem?_modify,Ne.symm hne]
 have hheap : ∃fr',FrOk n fr'∧(w.freeze ⟨b.1,n,none⟩ 1).heap[b.1]? = some (.cells cs' e' fr'):=by
  obtain⟨lo,hi⟩:=fr
  refine⟨if lo==hi then (n,n+1) else (min lo n,max hi (n+1)),?_,by simp[World.freeze,Array.getElem?_modify,h1]⟩
  split
  ·exact .inr (Nat.le_refl _)
  ·rename_i hne
   rcases(h6 hk).2.2 with g | g
   ·exact absurd (by simpa using g) hne
   ·exact .inr (by simp only;omega)
 obtain⟨fr',hfr,hheap⟩:=hheap
 have hsize:(w.freeze ⟨b.1,n,none⟩ 1).heap.size=w.heap.size:=by simp[World.freeze]
 refine⟨⟨fun l'=> ?_,h.nx,h.inj,by rw[hsize];exact h.base,h.ro⟩,⟨rfl,rfl,rfl,by rw[hsize];exact Nat.le_refl _,fun b' hb' hout=>⟨hother b' ?_,hout⟩,EntExt.refl β⟩⟩
 ·by_cases el:l'=l
  ·subst el
   have:=h.ent l'
   rw[hb,hob] at this⊢
   refine⟨this.1,cs',e',fr',hheap,h2,h3,h4,h5,fun g=>⟨(h6 g).1,(h6 g).2.1,hfr⟩,h7,h8⟩
  ·exact(h.ent l').mono (EntExt.refl β) fun b' hb'=>hother b' (live_apart h hb hk hb' el)
 ·rintro rfl
  exact hout l (by rw[hb];exact⟨hk,rfl⟩)
theorem wsound_frz{t e:TypeId}{x:Operand}(ht:P.underlying t=some (.slice e))(he:P.underlying e=some (.int .u8)):WSound P (.convert t t x) (.frz x):=fun B β H w ev ev' o v H' ho hv hS hr=>by
 have hx:=hv x (by simp[Op.operands])
 simp only[wop,frzV] at hr
 split at hr
 ·rename_i l oo n c hxe
  rw[hxe] at hx
  split at hr
  ·rename_i cs e0 k hob
   split at hr
   ·rename_i g
    cases hr
    have hk:=Kd.ne_ro g.1
    obtain⟨b,sz,m,hb,hlive⟩:=hS.cells hob
    obtain⟨cs',e',fr,g1,g2,_⟩:=hlive
    obtain⟨s1,s2⟩:=hS.freeze hb hk
    have hsh:w.shape? b.1=some (e',m):=by simp[World.shape?,g1,g2]
    generalize hq:ev' x=q at hx
    cases hx with
    | @sl _ _ b2 _ _ _ _ c' _ hl q1 q2 q3 q4 q5=>
      rw[hb] at hl;cases hl
      refine⟨β,w.freeze ⟨b.1,m,none⟩ 1,_,_,?_, .inl rfl, .sl hb q1 q2 q3 q4 q5,s1,s2⟩
      simp[execOp,ho,hq,convert,run_underlying ht,run_underlying he,markStringish,hsh,Result.andThen]
    | sdead a hl=>rw[hb] at hl;cases hl
    | szero a hl=>exact absurd rfl g.2
   ·cases hr
  ·cases hr
 ·cases hr
theorem lies_off{e:TypeId}(hc:P.cellsOf e=1){count o n:Nat}(hn:o+n≤count):liesAt P P.depth e count o e n=true:=by
 have hd:P.depth=(2*(P.types.size+Made.depth)+1)+1:=rfl
 rw[hd]
 simp only[liesAt,Bool.or_eq_true]
 left
 rw[hd]
 simp[rowAt,hc,hn,sameLayout]
 omega
theorem run_ust(w:World)(pt it ty e:TypeId)(hp:P.underlying pt=some (.pointer e))(hc:P.cellsOf e=1)(g o cells:Nat)(hsh:w.shape? g=some (e,cells))(l:List UInt8)(h0:l≠ [])(hn:o+l.length≤cells)(h63:l.length≤9223372036854775807)
 (hcell : ∀j x,l[j]? = some x→w.cell? ((⟨g,o,none⟩:Addr).add j)=some (.int .u8 x.toNat)) :
 (Builtin.unsafeString_ #[pt,it] ty #[.pointer (some ⟨g,o,none⟩), .int .i64 l.length]).run P w= .ok (.string ⟨l.toArray⟩) (w.freeze ⟨g,o,none⟩ l.length):=by
 have hl:l.length≠0:=by simpa using h0
 have hlb:=Lib.run_loadBytes (P:=P) w l ⟨g,o,none⟩ .empty hcell
 have hlies:=lies_off (P:=P) hc (count:=cells / P.cellsOf e) (o:=o) (n:=l.length) (by rw[hc];simpa using hn)
 have h63' : ¬(9223372036854775807:Int)<(l.length:Int):=by omega
 have hdef:Builtin.unsafeString_ #[pt,it] ty #[.pointer (some ⟨g,o,none⟩), .int .i64 l.length] =
  (do
    let n ←asInt (.int .i64 l.length)
    if n<0 then runtimePanic (.error "unsafe.String: len out of range")
    if n>IntKind.i64.max then unsupported (.unsafePointer "String: a length above the largest int")
    if n=0 then pure (.string .empty)
    else if ←variablesAt ⟨g,o,none⟩ (←elemOf pt) n.toNat then do
     let s ←loadBytes ⟨g,o,none⟩ .empty n.toNat
     freeze ⟨g,o,none⟩ n.toNat
     pure (.string s)
    else unsupported (.unsafePointer "String: not so many bytes at ptr")):=rfl
 rw[hdef]
 have hmax:IntKind.i64.max=9223372036854775807:=rfl
 have hneg : ¬(l.length:Int)<0:=by omega
 simp[asInt,asIntOf,hmax,h63',hneg,hl,variablesAt,hsh,elemOf,run_underlying hp,hlies,hlb]
theorem Sim.freezeD{B:Nat}{β:Nat→Ent}{H:CH}{w:World}(h:Sim P B β H w){l:Nat}{b:Nat×Nat}{sz n:Nat}{k:Kd}(hb:β l= .live b sz n k)(hk:k≠ .ro)(o m:Nat) :
 Sim P B (upd β l .dead) (H.set l .dead) (w.freeze ⟨b.1,o,none⟩ m)∧Evo β w (upd β l .dead) (w.freeze ⟨b.1,o,none⟩ m):=by
 obtain⟨k1,k2⟩:=h.kill hb
 have hother : ∀b',b'≠b.1→(w.freeze ⟨b.1,o,none⟩ m).heap[b']? = w.heap[b']? :=fun b' hne=>by
  simp only[World.freeze]
  split
  ·rfl
  ·simp[Array.getElem?_modify,Ne.symm hne]
 have hsize:(w.freeze ⟨b.1,o,none⟩ m).heap.size=w.heap.size:=by
  simp only[World.freeze]
  split
  ·rfl
  ·simp
 refine⟨⟨fun l'=> ?_,k1.nx,k1.inj,by rw[hsize];exact h.base,k1.ro⟩,⟨(by simp only[World.freeze];split<;>rfl),(by simp only[World.freeze];split<;>rfl),(by simp only[World.freeze];split<;>rfl),by rw[hsize];exact Nat.le_refl _,fun b' hb' hout=>⟨hother b' ?_,(k2.keep b' hb' hout).2⟩,k2.ext⟩⟩
 ·by_cases el:l'=l
  ·subst el
   simp only[upd_same,CH.set,if_true];trivial
  ·have:=k1.ent l'
   simp only[upd_other el,CH.set,if_neg el] at this⊢
   refine this.mono (EntExt.refl _) fun b' hb'=>hother b' (live_apart h hb hk hb' el)
 ·rintro rfl
  exact hout l (by rw[hb];exact⟨hk,rfl⟩)
def touB:TypeId→Nat→Nat→Bool:=fun _ n o=>Nat.blt o n
@[irreducible] def friB {P:Program} (u:TypeId):TypeId→Nat→Nat→Bool:=fun e n o=>liesAt P P.depth e (n / P.cellsOf e) o u 1
theorem lsound_tou{src dst t:TypeId}{j:TypeInfo}{x:Operand}(hs:P.underlying src=some (.pointer t))(hd:P.underlying dst=some .unsafePointer)(ht:P.info? t=some j)(hj:j.size≠0):LSound P (.convert src dst x) (.ucv touB x):=fun B β H w ev ev' o v ho hv hS hr=>by
 have hx:=hv x (by simp[Op.operands])
 simp only[lop] at hr
 split at hr
 ·rename_i ha
  cases hr
  have hxv:ev' x= .pointer none:=by
   generalize ev' x=xv at hx
   rw[ha] at hx
   cases hx;rfl
  exact⟨.pointer none,by simp[execOp,ho,hxv,convert,run_underlying hs,run_underlying hd,Conv.unsafePointer], .pnil⟩
 ·rename_i l oo ha
  split at hr
  ·rename_i cs e hob
   split at hr
   ·rename_i hf
    cases hr
    rw[ha] at hx
    obtain⟨b,sz,m,hb,hlive⟩:=hS.cells hob
    obtain⟨cs',e',fr,g1,g2,g3,_⟩:=hlive
    have hsh:w.shape? b.1=some (e',m):=by simp[World.shape?,g1,g2]
    have hxv:ev' x= .pointer (some ⟨b.1,oo+b.2,none⟩):=by
     generalize ev' x=xv at hx
     cases hx with
     | ptr hl=>rw[hb] at hl;cases hl;rfl
     | pdead a hl=>rw[hb] at hl;cases hl
    have hlt:oo<cs.length:=Nat.le_of_ble_eq_true hf
    refine⟨_,?_, .ptr hb⟩
    have:=Lib.run_to_unsafe w ⟨b.1,oo+b.2,none⟩ hs hd ht hj hsh (by show oo+b.2<m;omega)
    simp only[execOp,ho,hxv]
    simp[this]
   ·cases hr
  ·cases hr
 ·cases hr
theorem lsound_fru{src dst u:TypeId}{j:TypeInfo}{x:Operand}(hs:P.underlying src=some .unsafePointer)(hd:P.underlying dst=some (.pointer u))(hu:P.info? u=some j):LSound P (.convert src dst x) (.ucv (friB (P:=P) u) x):=fun B β H w ev ev' o v ho hv hS hr=>by
 have hx:=hv x (by simp[Op.operands])
 simp only[lop] at hr
 split at hr
 ·rename_i ha
  cases hr
  have hxv:ev' x= .pointer none:=by
   generalize ev' x=xv at hx
   rw[ha] at hx
   cases hx;rfl
  exact⟨.pointer none,by simp[execOp,ho,hxv,convert,run_underlying hs,run_underlying hd,Conv.unsafePointer], .pnil⟩
 ·rename_i l oo ha
  split at hr
  ·rename_i cs e hob
   split at hr
   ·rename_i hf
    unfold friB at hf
    cases hr
    rw[ha] at hx
    obtain⟨b,sz,m,hb,hlive⟩:=hS.cells hob
    obtain⟨cs',e',fr,g1,g2,g3,g4,g5,g6,g7,g8⟩:=hlive
    obtain⟨q1,q2⟩:=g8 rfl
    obtain⟨rfl,_⟩:=g6 (by simp)
    have hsh:w.shape? b.1=some (e',cs.length):=by simp[World.shape?,g1,g2];omega
    have hxv:ev' x= .pointer (some ⟨b.1,oo+b.2,none⟩):=by
     generalize ev' x=xv at hx
     cases hx with
     | ptr hl=>rw[hb] at hl;cases hl;rfl
     | pdead a hl=>rw[hb] at hl;cases hl
    refine⟨_,?_, .ptr hb⟩
    have:=Lib.run_from_unsafe w ⟨b.1,oo+b.2,none⟩ hs hd hu hsh (by show liesAt P P.depth e' (cs.length / P.cellsOf e') (oo+b.2) u 1=true;rw[q2];exact hf)
    simp only[execOp,ho,hxv]
    simp[this]
   ·cases hr
  ·cases hr
 ·cases hr
theorem run_equal_pp{t e:TypeId}{j:TypeInfo}(ht:P.underlying t=some (.pointer e))(hi:P.info? e=some j)(hj:j.size≠0)(a b:Addr)(hab:a.block=b.block)(w:World) :
 (Op.equal t (.pointer (some a)) (.pointer (some b))).run P w= .ok (a==b) w:=by
 unfold Op.equal
 obtain⟨d,hd⟩ : ∃d,Op.maxDepth=d+1:=⟨9999,rfl⟩
 rw[hd]
 simp[Op.equalIn,run_underlying ht,sizeOf,typeInfo,hi,hj,sameAddr,hab]
theorem lsound_eqq{neg:Bool}{t u e:TypeId}{j:TypeInfo}{x y:Operand}(ht:P.underlying t=some (.pointer e))(hi:P.info? e=some j)(hj:j.size≠0):LSound P (.binOp (eqOp neg) t x y u) (.eqq neg x y):=fun B β H w ev ev' o v ho hv hS h=>by
 have hp:=psound_eqp (P:=P) (neg:=neg) (u:=u) (x:=x) (y:=y) ht
 simp only[lop] at h
 split at h
 ·rename_i a ha hb
  obtain⟨v',q1,q2⟩:=hp β ev ev' o v ho hv (by simp only[pop,ha,hb];exact h)
  exact⟨v',q1 w,q2⟩
 ·rename_i b hne ha hb
  obtain⟨v',q1,q2⟩:=hp β ev ev' o v ho hv (by
   simp only[pop,ha,hb]
   cases b with
   | none=>simpa using h
   | some b=>simpa using h)
  exact⟨v',q1 w,q2⟩
 ·rename_i l oo l' oo' ha hb
  split at h
  ·rename_i cs e0 k hob
   split at h
   ·rename_i hll
    subst hll
    cases h
    have hx:=hv x (by simp[Op.operands])
    have hy:=hv y (by simp[Op.operands])
    rw[ha] at hx;rw[hb] at hy
    obtain⟨b,sz,m,hbl,hlive⟩:=hS.cells hob
    have ex:ev' x= .pointer (some ⟨b.1,oo+b.2,none⟩):=by
     generalize ev' x=q at hx
     cases hx with
     | ptr hl=>rw[hbl] at hl;cases hl;rfl
     | pdead a hl=>rw[hbl] at hl;cases hl
    have ey:ev' y= .pointer (some ⟨b.1,oo'+b.2,none⟩):=by
     generalize ev' y=q at hy
     cases hy with
     | ptr hl=>rw[hbl] at hl;cases hl;rfl
     | pdead a hl=>rw[hbl] at hl;cases hl
    have hg:(eqGuard (eqOp neg) t x y (.pointer (some ⟨b.1,oo+b.2,none⟩)) (.pointer (some ⟨b.1,oo'+b.2,none⟩))).run P w= .ok () w:=by
     unfold eqGuard eqOp;cases neg<;>rfl
    have hr:=run_equal_pp (P:=P) ht hi hj ⟨b.1,oo+b.2,none⟩ ⟨b.1,oo'+b.2,none⟩ rfl w
    have hq:((⟨b.1,oo+b.2,none⟩:Addr)==⟨b.1,oo'+b.2,none⟩)=(oo==oo'):=by
     by_cases e:oo=oo'
     ·subst e;simp
     ·have:(oo==oo')=false:=by simpa using e
      rw[this]
      simp only[beq_eq_false_iff_ne,ne_eq,Addr.mk.injEq,true_and,and_true]
      omega
    refine⟨_,?_, .bool _⟩
    simp only[execOp,ho,ex,ey,Sem.run_bind,hg,Result.andThen_ok]
    cases neg<;>simp only[eqOp,binOp,Sem.run_bind,hr,hq,Result.andThen_ok,Sem.run_pure,if_true,Bool.false_eq_true,if_false]<;>simp
   ·cases h
  ·cases h
 ·cases h
theorem byteList2_spec : ∀ {l:List Value} {bs:List UInt8},byteList2 l=some bs→l=bs.map fun x=> .int .u8 x.toNat
 | [],bs,h=>by cases h;rfl
 | v::r,bs,h=>by
   unfold byteList2 at h
   split at h
   ·rename_i e;cases e
   ·rename_i n r' e
    cases e
    split at h
    ·rename_i hn
     cases hr:byteList2 r with
     | none=>rw[hr] at h;cases h
     | some l'=>
       rw[hr] at h
       cases h
       rw[byteList2_spec hr,List.map_cons]
       congr 2
       have:(UInt8.ofNat n.toNat).toNat=n.toNat:=by
        show n.toNat % 256=n.toNat
        omega
       rw[this];omega
    ·cases h
   ·cases h
theorem wsound_ust{pt it e:TypeId}{p n:Operand}(hp:P.underlying pt=some (.pointer e))(hc:P.cellsOf e=1):WSound P (.call ⟨.builtin .unsafeString,#[p,n],#[pt,it]⟩) (.ust e p n):=fun B β H w ev ev' o v H' ho hv hS hr=>by
 have hx:=hv p (by simp[Op.operands,Call.operands])
 have hn:=hv n (by simp[Op.operands,Call.operands])
 have hexec : ∀(u:Value) (w':World),(Builtin.unsafeString_ #[pt,it] o.type #[ev' p,ev' n]).run P w= .ok u w'→(execOp ev' o).run P w= .ok (.value u) w':=fun u w' h=>by
  simp only[execOp,ho,resolve,Sem.run_bind,Sem.run_pure,Result.andThen_ok,invoke,builtin,List.map_toArray,List.map_cons,List.map_nil,h]
 simp only[wop,ustV] at hr
 split at hr
 ·rename_i ha hb
  cases hr
  rw[ha] at hx;rw[hb] at hn
  have e1:ev' p= .pointer none:=by
   generalize ev' p=q at hx
   cases hx;rfl
  have e2:ev' n= .int .i64 0:=by
   generalize ev' n=q at hn
   cases hn;rfl
  exact⟨β,w,_,_,hexec _ _ (by rw[e1,e2];exact Lib.run_unsafeString_none w pt it o.type none), .inl rfl, .string _,hS,Evo.refl _ _⟩
 ·rename_i l oo m ha hb
  rw[ha] at hx;rw[hb] at hn
  have e2:ev' n= .int .i64 m:=by
   generalize ev' n=q at hn
   cases hn;rfl
  split at hr
  ·rename_i hm
   subst hm
   cases hr
   obtain⟨a,e1⟩ : ∃a,ev' p= .pointer (some a):=by
    generalize ev' p=q at hx
    cases hx<;>exact⟨_,rfl⟩
   exact⟨β,w,_,_,hexec _ _ (by rw[e1,e2];exact Lib.run_unsafeString_none w pt it o.type (some a)), .inl rfl, .string _,hS,Evo.refl _ _⟩
  ·rename_i hm
   split at hr
   ·rename_i cs e0 k hob
    split at hr
    ·rename_i hg
     obtain⟨h1,rfl,h2,h3,h4⟩:=hg
     split at hr
     ·rename_i bs hbs
      cases hr
      have hk:=Kd.ne_ro h1
      obtain⟨b,sz,nn,hb',hlive⟩:=hS.cells hob
      obtain⟨cs',e',fr,g1,g2,g3,g4,g5,g6,g7,g8⟩:=hlive
      obtain⟨rfl,_⟩:=g6 hk
      have hsh:w.shape? b.1=some (e',nn):=by simp[World.shape?,g1,g2]
      have e1:ev' p= .pointer (some ⟨b.1,oo+b.2,none⟩):=by
       generalize ev' p=q at hx
       cases hx with
       | ptr hl=>rw[hb'] at hl;cases hl;rfl
       | pdead a hl=>rw[hb'] at hl;cases hl
      have hxs:=byteList2_spec hbs
      have hlen:bs.length=m.toNat:=by
       have:=congrArg List.length hxs
       rw[List.length_map,List.length_take,List.length_drop] at this
       omega
      obtain⟨s1,s2⟩:=hS.freezeD hb' hk (oo+b.2) bs.length
      refine⟨_,_,_,_,hexec _ _ ?_, .inl rfl, .string _,s1,s2⟩
      rw[e1,e2]
      have hmm:m=(bs.length:Int):=by rw[hlen];omega
      rw[hmm]
      refine run_ust w pt it o.type e' hp hc b.1 (oo+b.2) nn hsh bs (fun e=>by rw[e] at hlen;simp at hlen;omega) (by omega) (by omega) fun jj x hjx=> ?_
      have hj:=(List.getElem?_eq_some_iff.1 hjx).1
      have hcs:cs[oo+jj]? = some (.int .u8 x.toNat):=by
       have h5:=congrArg (fun l=>l[jj]?) hxs
       simp only[List.getElem?_take_of_lt (show jj<m.toNat by omega),List.getElem?_drop,List.getElem?_map,hjx,Option.map_some] at h5
       exact h5
      obtain⟨v',q1,q2⟩:=g4 _ _ hcs
      cases q2
      have hadd:(⟨b.1,oo+b.2,none⟩:Addr).add jj=⟨b.1,oo+b.2+jj,none⟩:=by
       simp only[Addr.add]
       split
       ·rename_i hj0;subst hj0;rfl
       ·rfl
      rw[hadd]
      simp only[World.cell?,g1]
      rw[show oo+b.2+jj=oo+jj+b.2 by omega]
      simpa using q1
     ·cases hr
    ·cases hr
   ·cases hr
 ·cases hr
end Can
end Go.Proofs.YticlaccbodpkeaaGreatDoor
namespace Go.Proofs.YticlaccbodpkeaaGreatDoor
namespace Can
open Go Go.RowKit
set_option linter.unusedSimpArgs false
set_option linter.unusedVariables false
variable {P:Program} {B:Nat}
inductive ROp where
 | p (x:POp)
 | l (x:LOp)
 | a (x:AOp)
 | w (x:WOp)
 | call (f:FuncId) (args:List Operand)
 | callv (g:Operand) (args:List Operand)
structure Item where
 dst:Option Nat
 op:ROp
 guard:Option (Nat×Bool)
abbrev Fr:=Nat→Value
def evF (fr:Fr):Operand→Value
 | .tmp t=>fr t
 | .const v=>v
 | .global g=> .pointer (some ⟨g,0,none⟩)
 | .func f=> .func (.func f) #[] #[]
def putF (fr:Fr):Option Nat→Value→Fr
 | none,_=>fr
 | some d,v=>fun t=>if t=d then v else fr t
structure Hd where
 call:FuncId→List Value→CH→Option (Value×CH)
 round:Nat→List Value→CH→Option (Value×CH)
def skipV:Value:= .chan none
def rop (h:Hd)(fr:Fr)(H:CH):ROp→Option (Value×CH)
 | .p x=>(pop (evF fr) x).map fun v=>(v,H)
 | .l x=>(lop H (evF fr) x).map fun v=>(v,H)
 | .a x=>(aop (evF fr) x).map fun(cs,e,k,mk)=>(akV mk H.nx,H.new (.cells cs e k))
 | .w x=>wop H (evF fr) x
 | .call f args=>h.call f (args.map (evF fr)) H
 | .callv g args=>match evF fr g with
   | .func (.func f) _ caps=>h.call f (args.map (evF fr)++caps.toList) H
   | .func (.yield l) _ _=>h.round l (args.map (evF fr)) H
   | _=>none
def wantedF(fr:Fr):Option (Nat×Bool)→Option Bool
 | none=>some true
 | some (s,b)=>match fr s with
   | .bool c=>some (c==b)
   | .chan none=>some false
   | _=>none
def stepI(h:Hd)(it:Item)(fr:Fr)(H:CH):Option (Fr×CH):=
 match wantedF fr it.guard with
 | some true=>(rop h fr H it.op).map fun(v,H')=>(putF fr it.dst v,H')
 | some false=>some (putF fr it.dst skipV,H)
 | none=>none
def FR (β:Nat→Ent)(N:Nat)(fr:Fr)(a:Act):Prop:=N≤a.tmps.size∧∀t,VR β (fr t) (a.tmps.getD t undef)
theorem FR.mono{β β':Nat→Ent}{N:Nat}{fr:Fr}{a:Act}(h:FR β N fr a)(hx:EntExt β β'):FR β' N fr a:=⟨h.1,fun t=>(h.2 t).mono hx⟩
theorem FR.put{β:Nat→Ent}{N:Nat}{fr:Fr}{a:Act}(h:FR β N fr a){d:Option Nat}(hd : ∀x,d=some x→x<N){v v':Value}(hv:VR β v v'):FR β N (putF fr d v) (a.put d v'):=by
 cases d with
 | none=>exact h
 | some x=>
   have hx:=hd x rfl
   refine⟨by simpa[Act.put] using h.1,fun t=> ?_⟩
   simp only[putF,Act.put]
   by_cases e:t=x
   ·subst e
    have:t<a.tmps.size:=Nat.lt_of_lt_of_le hx h.1
    simp[this];exact hv
   ·simp only[if_neg e]
    have:=h.2 t
    simpa[Array.getElem?_setIfInBounds_ne (show x≠t from fun g=>e g.symm)] using this
def closedV:Value→Bool
 | .bool _ | .int _ _ | .float _ _ | .string _ | .pointer none | .slice none 0 0 | .nilFunc | .nilIface | .map none=>true
 | _=>false
def closedC:List Value→Bool:=fun l=>l.all closedV
def closedW:Value→Bool
 | .agg cs=>closedC cs.toList
 | v=>closedV v
theorem closedV_rel{v:Value}(h:closedV v=true)(β:Nat→Ent):VR β v v:=by
 unfold closedV at h
 split at h<;>first | (constructor;done) | cases h
theorem closedC_rel{l:List Value}(h:closedC l=true)(β:Nat→Ent):VRs β l l:=
 ⟨rfl,fun i v hv=>⟨v,hv,closedV_rel (List.all_eq_true.1 h v (List.mem_of_getElem? hv)) β⟩⟩
theorem closedW_rel{v:Value}(h:closedW v=true)(β:Nat→Ent):VR β v v:=by
 unfold closedW at h
 split at h
 ·rename_i cs
  exact .agg rfl (VRs.arr.1 (closedC_rel (l:=cs.toList) h β)).2
 ·exact closedV_rel h β
def okOpnd:Operand→Bool
 | .tmp _=>true
 | .const v=>closedW v
 | .func _=>true
 | .global _=>false
theorem evF_rel{β:Nat→Ent}{N:Nat}{fr:Fr}{a:Act}(h:FR β N fr a){x:Operand}(hx:okOpnd x=true):VR β (evF fr x) (a.eval x):=by
 cases x with
 | tmp t=>exact h.2 t
 | const v=>exact closedW_rel hx β
 | func f=>exact .fn f rfl fun i h1 h2=>absurd h1 (by simp)
 | global g=>cases hx
def callable(P:Program)(f:FuncId):Bool:=
 match P.funcs[f]? with
 | some fn=>fn.body.isSome && !(fn.name== "runtime.NumGoroutine")
 | none=>false
theorem run_callFunc{f:FuncId}(h:callable P f=true)(args:Array Value)(w:World):(callFunc f args).run P w= .ok (.enter f args) w:=by
 unfold callable at h
 split at h
 ·rename_i fn hf
  simp only[Bool.and_eq_true,Bool.not_eq_true'] at h
  have hb:fn.body.isNone=false:=by cases hfb:fn.body<;>simp_all
  have hn : ¬(fn.name= "runtime.NumGoroutine"):=by simpa using h.2
  unfold callFunc
  simp only[Sem.run_bind,program,Sem.run,Result.andThen_ok,hf]
  rw[if_neg (by simpa using hn),if_neg (by simp[hb])]
  rfl
 ·cases h
def Fn (ro:Option Nat):Fence:= { Fence.wide with round:=ro }
theorem callsIn_Fn{ro:Option Nat}{n:Nat}{f:FuncId}{args:Array Value}{w:World}{R:Ending→World→Prop}(h:CallsIn Fence.wide 0 P f args w R):CallsIn (Fn ro) n P f args w R:=
 ⟨trivial,fun cs _=>h.2 cs (room_wide _)⟩
theorem roundIn_Fn{ro:Option Nat}{n:Nat}{l:Nat}{f:FuncId}{tmps:Array Value}{asg body:Code}{w:World}{R:Ending→World→Prop}(h:RoundIn Fence.wide 0 P l f tmps asg body w R):RoundIn (Fn ro) n P l f tmps asg body w R:=
 ⟨trivial,fun c cs _=>h.2 c cs (room_wide _)⟩
def closedA(args:List Value):Bool:=args.all closedW
theorem closedA_rel{args:List Value}(h:closedA args=true)(β:Nat→Ent):VRs β args args:=
 ⟨rfl,fun i v hv=>⟨v,hv,closedW_rel (List.all_eq_true.1 h v (List.mem_of_getElem? hv)) β⟩⟩
theorem closedV_eq{v v':Value}(h:closedV v=true){β:Nat→Ent}(hr:VR β v v'):v'=v:=by
 unfold closedV at h
 split at h<;>first | (cases hr;rfl) | cases h
theorem closedW_eq{v v':Value}(h:closedW v=true){β:Nat→Ent}(hr:VR β v v'):v'=v:=by
 unfold closedW at h
 split at h
 ·rename_i cs
  cases hr with
  | agg hs hi=>
    congr 1
    refine Array.ext (hs.symm) fun i h1 h2=> ?_
    exact closedV_eq (List.all_eq_true.1 h _ (by simp)) (hi i h2 h1)
 ·exact closedV_eq h hr
theorem closedA_eq{args args':List Value}(h:closedA args=true){β:Nat→Ent}(hr:VRs β args args'):args'=args:=by
 refine List.ext_getElem hr.1.symm fun i h1 h2=> ?_
 obtain⟨v',q1,q2⟩:=hr.2 i args[i] (by simp[h2])
 rw[List.getElem?_eq_getElem h1] at q1
 cases q1
 exact closedW_eq (List.all_eq_true.1 h _ (by simp)) q2
def nfn:Value→Bool
 | .func .. =>false
 | _=>true
theorem nfn_closed{v:Value}(h:closedW v=true):nfn v=true:=by
 cases v<;>first | rfl | simp[closedW,closedV] at h
def ExtOk(P:Program)(f:FuncId)(args:List Value)(v:Value):Prop:=args.all nfn=true∧∀(β:Nat→Ent) (args':List Value),VRs β args args'→∃v',VR β v v'∧∀w,(callFunc f args'.toArray).run P w= .ok (.value v') w
theorem extOk_closed{P:Program}{f:FuncId}{args:List Value}{v:Value}(ha:closedA args=true)(hv:closedW v=true)(h : ∀w,(callFunc f args.toArray).run P w= .ok (.value v) w):ExtOk P f args v:=⟨List.all_eq_true.2 fun x hx=>nfn_closed (List.all_eq_true.1 ha x hx),fun β args' hr=>
 ⟨v,closedW_rel hv β,fun w=>by rw[closedA_eq ha hr];exact h w⟩⟩
def HS (P:Program)(B:Nat)(h:Hd):Prop:=(∀f args H v H',h.call f args H=some (v,H')→(callable P f=true∧∀β w (args':List Value),Sim P B β H w→VRs β args args'→
 CallsIn Fence.wide 0 P f args'.toArray w fun e w'=>∃v' β',e= .returned v'∧VR β' v v'∧Sim P B β' H' w'∧Evo β w β' w')∨(ExtOk P f args v∧H'=H))∧
 ∀l args H v H',h.round l args H=some (v,H')→∀β w b (args':List Value),Sim P B β H w→β l= .loop b→VRs β args args'→
 ∃fn tmps asg body,(Instr.yield b args'.toArray).run P w= .ok (.round b fn tmps asg body) w∧RoundIn Fence.wide 0 P b fn tmps asg body w fun e w'=>∃v' β',e= .returned v'∧VR β' v v'∧Sim P B β' H' w'∧Evo β w β' w'
inductive OpOk(P:Program)(op:Op):ROp→Prop where
 | p {x:POp} (h:PSound P op x):OpOk P op (.p x)
 | l {x:LOp} (h:LSound P op x):OpOk P op (.l x)
 | a {x:AOp} (h:ASound P op x):OpOk P op (.a x)
 | w {x:WOp} (h:WSound P op x):OpOk P op (.w x)
 | call {f:FuncId} {args:Array Operand} {ts:Array TypeId} (h:op= .call { callee:= .value (.func f),args,argTypes:=ts }):OpOk P op (.call f args.toList)
 | callv {g:Operand} {args:Array Operand} {ts:Array TypeId} (h:op= .call { callee:= .value g,args,argTypes:=ts }):OpOk P op (.callv g args.toList)
structure ItemOk(P:Program)(N:Nat)(ops:Array Oper)(o:Oper)(it:Item):Prop where
 dst:it.dst=o.dst
 lt : ∀d,o.dst=some d→d<N
 op:OpOk P o.op it.op
 opnds : ∀x∈o.op.operands,okOpnd x=true
 nodefer : ∀c,o.op≠ .defer c
 guard:(o.guard=none∧it.guard=none)∨∃j b s,o.guard=some (j,b)∧it.guard=some (s,b)∧(ops[j]?).bind (·.dst)=some s∧s<N
theorem wanted_rel{β:Nat→Ent}{N:Nat}{fr:Fr}{a:Act}{ops:Array Oper}{o:Oper}{it:Item}(hok:ItemOk P N ops o it)(hf:FR β N fr a){b:Bool}(h:wantedF fr it.guard=some b):Region.wanted o (yielded ops a.tmps)=b:=by
 rcases hok.guard with ⟨g1,g2⟩ | ⟨j,c,s,g1,g2,g3,g4⟩
 ·rw[g2] at h
  simp only[wantedF,Option.some.injEq] at h
  simp[Region.wanted,g1,←h]
 ·rw[g2] at h
  have hlt:s<a.tmps.size:=Nat.lt_of_lt_of_le g4 hf.1
  have hv:=hf.2 s
  simp only[wantedF] at h
  simp only[Region.wanted,g1,yielded,g3,Option.bind_some]
  rw[Array.getD_eq_getD_getElem?,Array.getElem?_eq_getElem hlt,Option.getD_some] at hv
  rw[Array.getElem?_eq_getElem hlt]
  split at h
  ·rename_i q hq
   rw[hq] at hv
   rw[hv.bool_inv]
   simp only[Option.some.injEq] at h
   rw[←h]
   cases q<;>cases c<;>rfl
  ·rename_i hq
   rw[hq] at hv
   have:a.tmps[s]= .tuple #[]:=by generalize a.tmps[s]=q at hv;cases hv;rfl
   rw[this]
   simp only[Option.some.injEq] at h
   rw[←h]
   rfl
  ·cases h
theorem item_sound{h:Hd}(hh:HS P B h){ro:Option Nat}{N:Nat}{ops:Array Oper}{o:Oper}{it:Item}(hok:ItemOk P N ops o it){β:Nat→Ent}{fr fr':Fr}{H H':CH}{a:Act}{w:World}(hS:Sim P B β H w)(hf:FR β N fr a)
 (hw:wantedF fr it.guard=some true) (hr:(rop h fr H it.op).map (fun(x:Value×CH)=>(putF fr it.dst x.1,x.2))=some (fr',H')) {K:Act→World→Prop} {Q:Exit→Act→World→Prop}
 (hK : ∀β' w' v',Sim P B β' H' w'→Evo β w β' w'→FR β' N fr' (a.put o.dst v')→K (a.put o.dst v') w'):o.wpIn (Fn ro) 0 P a w K Q:=by
 refine⟨fun f _=>trivial,?_⟩
 rw[show(Fn ro).round=ro from rfl,Oper.semAt_eq ro _ _ hok.nodefer]
 cases hrop:rop h fr H it.op with
 | none=>rw[hrop] at hr;cases hr
 | some r=>
   obtain⟨v,H1⟩:=r
   rw[hrop] at hr
   simp only[Option.map_some,Option.some.injEq,Prod.mk.injEq] at hr
   obtain⟨rfl,rfl⟩:=hr
   have hv : ∀x∈o.op.operands,VR β (evF fr x) (a.eval x):=fun x hx=>evF_rel hf (hok.opnds x hx)
   have hd : ∀x,it.dst=some x→x<N:=fun x hx=>hok.lt x (by rw[←hok.dst];exact hx)
   have hrel : ∀args:List Operand,(∀x∈args,VR β (evF fr x) (a.eval x))→VRs β (args.map (evF fr)) (args.map a.eval):=by
    intro args hargs
    refine⟨by simp,fun i u hu=> ?_⟩
    rw[List.getElem?_map] at hu⊢
    cases hx:args[i]? with
    | none=>rw[hx] at hu;cases hu
    | some x=>rw[hx] at hu;cases hu;exact⟨_,rfl,hargs x (List.mem_of_getElem? hx)⟩
   have hop:=hok.op
   generalize hio:it.op=io at hop hrop
   cases hop with
   | p hp=>
     rename_i x
     simp only[rop] at hrop
     cases hpx:pop (evF fr) x with
     | none=>rw[hpx] at hrop;cases hrop
     | some u=>
       rw[hpx] at hrop
       cases hrop
       obtain⟨v',hrun,hvr⟩:=hp β _ _ o v rfl hv hpx
       rw[hrun w]
       exact hK β w _ hS (Evo.refl β w) (by rw[←hok.dst];exact hf.put hd hvr)
   | l hl=>
     rename_i x
     simp only[rop] at hrop
     cases hpx:lop H (evF fr) x with
     | none=>rw[hpx] at hrop;cases hrop
     | some u=>
       rw[hpx] at hrop
       cases hrop
       obtain⟨v',hrun,hvr⟩:=hl B β H w _ _ o v rfl hv hS hpx
       rw[hrun]
       exact hK β w _ hS (Evo.refl β w) (by rw[←hok.dst];exact hf.put hd hvr)
   | a ha=>
     rename_i x
     simp only[rop] at hrop
     cases hpx:aop (evF fr) x with
     | none=>rw[hpx] at hrop;cases hrop
     | some u=>
       obtain⟨cs,e,k,mk⟩:=u
       rw[hpx] at hrop
       cases hrop
       obtain⟨hk,sz,hsz,hrun⟩:=ha β _ _ o cs e k mk rfl hv hpx
       obtain⟨cs',frz,w',v',h1,h2,h3,h4,h5,h6,h7,h8,h9,h10⟩:=hrun w
       obtain⟨hS',hE'⟩:=hS.alloc k hk hsz h6 h7 h8 h9 h2 h3 h4 h5
       rw[h1]
       refine hK _ w' _ hS' hE' ?_
       rw[←hok.dst]
       refine(hf.mono hE'.ext).put hd ?_
       cases mk with
       | ptr=>simp only[AKr] at h10;subst h10;exact .ptr upd_same
       | sl n c=>
         obtain⟨c',rfl,q1,q2,q3,q4,q5⟩:=h10
         exact .sl upd_same q1 q2 q3 (fun _=>by simpa using q4) q5
   | w hw'=>
     rename_i x
     obtain⟨β',w',v',n,h1,h2,h3,h4,h5⟩:=hw' B β H w _ _ o v _ rfl hv hS hrop
     rw[h1]
     rcases h2 with rfl | ⟨rfl,rfl⟩
     ·exact hK β' w' _ h4 h5 (by rw[←hok.dst];exact(hf.mono h5.ext).put hd h3)
     ·exact hK β' w' _ h4 h5 (by rw[←hok.dst];exact(hf.mono h5.ext).put hd h3)
   | call he=>
     rename_i f args ts
     simp only[rop] at hrop
     have hargs:VRs β (args.toList.map (evF fr)) (args.toList.map a.eval):=hrel _ fun x hx=>hv x (by rw[he];simp[Op.operands,Call.operands];exact .inr (by simpa using hx))
     rcases hh.1 _ _ _ _ _ hrop with ⟨hc,hcall⟩ | ⟨hx,rfl⟩
     case inr=>
      obtain⟨v',x2,x3⟩:=hx.2 β _ hargs
      have hrun:(execOp a.eval o).run P w= .ok (.value v') w:=by
       simp only[execOp,he,resolve,Act.eval,Deferred.ofValue,Sem.run_bind,Sem.run_pure,Result.andThen_ok,invoke]
       have:=x3 w
       have e1:(args.toList.map a.eval).toArray=args.map a.eval:=by apply Array.ext';simp
       rw[e1] at this
       simpa using this
      rw[hrun]
      exact hK β w _ hS (Evo.refl β w) (by rw[←hok.dst];exact hf.put hd x2)
     have hrun:(execOp a.eval o).run P w= .ok (.enter f (args.map a.eval)) w:=by
      simp only[execOp,he,resolve,Act.eval,Deferred.ofValue,Sem.run_bind,Sem.run_pure,Result.andThen_ok,invoke]
      rw[run_callFunc hc]
      simp
     rw[hrun]
     refine⟨fun h=>absurd h (by simp[Fn,Fence.wide]),callsIn_Fn ?_⟩
     have:=hcall β w _ hS hargs
     have e1:(args.toList.map a.eval).toArray=args.map a.eval:=by apply Array.ext';simp
     rw[e1] at this
     refine this.mono ?_
     rintro e w' ⟨v',β',rfl,g1,g2,g3⟩
     exact hK β' w' _ g2 g3 (by rw[←hok.dst];exact(hf.mono g3.ext).put hd g1)
   | callv he=>
     rename_i g args ts
     simp only[rop] at hrop
     split at hrop
     ·rename_i f fst caps hg
      have hgv:=hv g (by rw[he];simp[Op.operands,Call.operands])
      rw[hg] at hgv
      obtain⟨caps',hg',hsz,hcaps⟩ : ∃caps',a.eval g= .func (.func f) #[] caps'∧caps.size=caps'.size∧∀i (h1:i<caps.size) (h2:i<caps'.size),VR β caps[i] caps'[i]:=by
       generalize a.eval g=q at hgv
       cases hgv with
       | fn _ h hi=>exact⟨_,rfl,h,hi⟩
      have hargs:VRs β (args.toList.map (evF fr)) (args.toList.map a.eval):=hrel _ fun x hx=>hv x (by rw[he];simp[Op.operands,Call.operands];exact .inr (by simpa using hx))
      rcases hh.1 _ _ _ _ _ hrop with ⟨hc,hcall⟩ | ⟨hx,rfl⟩
      case inr=>
       obtain⟨v',x2,x3⟩:=hx.2 β _ (hargs.append (VRs.arr.2 ⟨hsz,hcaps⟩))
       have hrun:(execOp a.eval o).run P w= .ok (.value v') w:=by
        simp only[execOp,he,resolve,hg',Deferred.ofValue,Sem.run_bind,Sem.run_pure,Result.andThen_ok,invoke]
        have:=x3 w
        have e1:(args.toList.map a.eval++caps'.toList).toArray=args.map a.eval++caps':=by apply Array.ext';simp
        rw[e1] at this
        simpa using this
       rw[hrun]
       exact hK β w _ hS (Evo.refl β w) (by rw[←hok.dst];exact hf.put hd x2)
      have hrun:(execOp a.eval o).run P w= .ok (.enter f (args.map a.eval++caps')) w:=by
       simp only[execOp,he,resolve,hg',Deferred.ofValue,Sem.run_bind,Sem.run_pure,Result.andThen_ok,invoke]
       rw[run_callFunc hc]
       simp
      rw[hrun]
      refine⟨fun h=>absurd h (by simp[Fn,Fence.wide]),callsIn_Fn ?_⟩
      have:=hcall β w _ hS (hargs.append (VRs.arr.2 ⟨hsz,hcaps⟩))
      have e1:(args.toList.map a.eval++caps'.toList).toArray=args.map a.eval++caps':=by apply Array.ext';simp
      rw[e1] at this
      refine this.mono ?_
      rintro e w' ⟨v',β',rfl,g1,g2,g3⟩
      exact hK β' w' _ g2 g3 (by rw[←hok.dst];exact(hf.mono g3.ext).put hd g1)
     ·rename_i l fst caps hg
      have hgv:=hv g (by rw[he];simp[Op.operands,Call.operands])
      rw[hg] at hgv
      obtain⟨b,hg',hlb⟩ : ∃b,a.eval g= .func (.yield b) #[] #[]∧β l= .loop b:=by
       generalize a.eval g=q at hgv
       cases hgv with
       | yld h=>exact⟨_,rfl,h⟩
      have hargs:VRs β (args.toList.map (evF fr)) (args.toList.map a.eval):=hrel _ fun x hx=>hv x (by rw[he];simp[Op.operands,Call.operands];exact .inr (by simpa using hx))
      obtain⟨fn,tmps,asg,body,hy,hro⟩:=hh.2 _ _ _ _ _ hrop β w b _ hS hlb hargs
      have e1:(args.toList.map a.eval).toArray=args.map a.eval:=by apply Array.ext';simp
      rw[e1] at hy
      have hrun:(execOp a.eval o).run P w= .ok (.round b fn tmps asg body) w:=by
       simp only[execOp,he,resolve,hg',Deferred.ofValue,Sem.run_bind,Sem.run_pure,Result.andThen_ok,invoke,Array.empty_append]
       exact hy
      rw[hrun]
      refine⟨fun h=>absurd h (by simp[Fn,Fence.wide]),roundIn_Fn ?_⟩
      refine hro.mono ?_
      rintro e w' ⟨v',β',rfl,g1,g2,g3⟩
      exact hK β' w' _ g2 g3 (by rw[←hok.dst];exact(hf.mono g3.ext).put hd g1)
     ·cases hrop
end Can
end Go.Proofs.YticlaccbodpkeaaGreatDoor
namespace Go.Proofs.YticlaccbodpkeaaGreatDoor
namespace Can
open Go Go.RowKit
set_option linter.unusedSimpArgs false
set_option linter.unusedVariables false
variable {P:Program} {B:Nat}
def runI (h:Hd):List Item→Fr→CH→Option (Fr×CH)
 | [],fr,H=>some (fr,H)
 | it::r,fr,H=>match stepI h it fr H with
   | some (fr',H')=>runI h r fr' H'
   | none=>none
structure DReg where
 its:List Item
 chk:List (Item×Nat)
 pan:Option (List Item)
inductive RCode where
 | skip
 | reg (its:List Item)
 | drw (d:DReg)
 | seq (a b:RCode)
 | cond (c:Operand) (a b:RCode)
 | block (id:Nat) (c:RCode)
 | loop (c:RCode)
 | exit (id:Nat)
 | ret
 | rangeF (g:Operand) (key:Nat×Nat)
 | bad
inductive CExit where
 | normal
 | exit (id:Nat)
 | ret
def CExit.toExit:CExit→Exit
 | .normal=> .normal
 | .exit i=> .exit i
 | .ret=> .ret
abbrev Res:=Option (CExit×Fr×CH)
def loopN:Nat→(Fr→CH→Res)→Fr→CH→Res
 | 0,_,_,_=>none
 | n+1,f,fr,H=>match f fr H with
   | some (.normal,fr',H')=>loopN n f fr' H'
   | r=>r
def isW:ROp→Bool
 | .w _ | .call _ _ | .callv _ _=>true
 | _=>false
def runD (h:Hd):List Item→Fr→CH→Option (Fr×CH×List CH)
 | [],fr,H=>some (fr,H,[])
 | it::r,fr,H=>match stepI h it fr H with
   | some (fr',H')=>(runD h r fr' H').map fun(f,K,l)=>(f,K,if isW it.op then H'::l else l)
   | none=>none
def Again(fr:Fr)(G:CH)(it:Item):Prop:=
 wantedF fr it.guard=some false∨∃x d,it.op= .l x∧it.dst=some d∧lop G (evF fr) x=some (fr d)
def jumpX:Option (Option Nat)→CExit
 | none=> .normal
 | some none=> .ret
 | some (some i)=> .exit i
open Classical in
noncomputable def evD(h:Hd)(d:DReg)(fr:Fr)(H:CH):Option (Fr×CH):=
 match runD h d.its fr H with
 | some (fr',H',l)=>if ∀p∈d.chk,∃G,(H::l)[p.2]? = some G∧Again fr' G p.1 then some (fr',H') else none
 | none=>none
noncomputable def evR(h:Hd)(n:Nat):RCode→Fr→CH→Res
 | .skip,fr,H=>some (.normal,fr,H)
 | .reg its,fr,H=>(runI h its fr H).map fun(f,K)=>(.normal,f,K)
 | .drw d,fr,H=>(evD h d fr H).map fun(f,K)=>(.normal,f,K)
 | .seq a b,fr,H=>match evR h n a fr H with
   | some (.normal,fr',H')=>evR h n b fr' H'
   | r=>r
 | .cond c a b,fr,H=>match evF fr c with
   | .bool true=>evR h n a fr H
   | .bool false=>evR h n b fr H
   | _=>none
 | .block id c,fr,H=>match evR h n c fr H with
   | some (.exit i,fr',H')=>if i=id then some (.normal,fr',H') else some (.exit i,fr',H')
   | r=>r
 | .loop c,fr,H=>loopN n (evR h n c) fr H
 | .exit id,fr,H=>some (.exit id,fr,H)
 | .ret,fr,H=>some (.ret,fr,H)
 | .bad,_,_=>none
 | .rangeF g key,fr,H=>match evF fr g with
   | .func (.func f) _ caps=>match h.call f (.func (.yield H.nx) #[] #[]::caps.toList) (H.new (.loop .ready none fr key)) with
     | some (_,H2)=>match H2.ob H.nx with
       | .loop st pend fr' key'=>if st= .busy then none else some (jumpX pend,fr,H2.set H.nx (.loop .exhausted pend fr' key'))
       | _=>none
     | none=>none
   | _=>none
def DOk (P:Program)(N:Nat)(ops:Array Oper)(d:DReg):Prop:=
 ∀(B:Nat) (h:Hd) (ro:Option Nat) (β:Nat→Ent) (fr fr':Fr) (H H':CH) (a:Act) (w:World) (id:Nat) (Q:Exit→Act→World→Prop),HS P B h→Sim P B β H w→FR β N fr a→evD h d fr H=some (fr',H')→
  (∀β' w' a',Sim P B β' H' w'→Evo β w β' w'→FR β' N fr' a'→a'.defers=a.defers→Q .normal a' w')→(Code.region id ops true).wpIn (Fn ro) 0 P Q a w
def isQ:ROp→Bool
 | .p _ | .l _=>true
 | _=>false
def hush (it:Item):Item:=match it.op with
 | .a (.new _ _)=>⟨it.dst, .p (.mov (.const undef)),it.guard⟩
 | _=>it
def PanC (P:Program)(B:Nat)(f:FuncId)(args:List Value)(H:CH)(v:Value)(H':CH):Prop:=callable P f=true∧∀β w (args':List Value),Sim P B β H w→VRs β args args'→
 CallsIn Fence.wide 0 P f args'.toArray w fun e w'=>∃v' β',e= .panicked [{ v:=v',recovered:=false }]∧VR β' v v'∧Sim P B β' H' w'∧Evo β w β' w'
def PDOk (P:Program)(N:Nat)(ops:Array Oper)(d:DReg):Prop:=
 ∀Zl,d.pan=some Zl→∀(B:Nat) (h:Hd) (ro:Option Nat) (β:Nat→Ent) (fr fr1:Fr) (H H1 H':CH) (v:Value) (A:List Item) (k:Item) (R:List Item) (f:FuncId) (args:List Operand) (a:Act) (w:World) (id:Nat) (Q:Exit→Act→World→Prop),
  HS P B h→Sim P B β H w→FR β N fr a→d.its=A++k::R→(∀x∈A,isQ x.op=true)→k.op= .call f args→runI h A fr H=some (fr1,H1)→(∃r,runI h Zl fr1 H1=some r)→wantedF fr1 k.guard=some true→PanC P B f (args.map (evF fr1)) H1 v H'→
  (∀β' w' a' v',Sim P B β' H' w'→Evo β w β' w'→VR β' v v'→a'.defers=a.defers→(∀t,(∀x∈d.its,x.dst≠some t)→VR β' (fr t) (a'.tmps.getD t undef))→Q (.panic [{ v:=v',recovered:=false }]) a' w')→(Code.region id ops true).wpIn (Fn ro) 0 P Q a w
inductive CodeOk(P:Program)(N:Nat):Code→RCode→Prop where
 | skip:CodeOk P N .skip .skip
 | label {l:Nat}:CodeOk P N (.label l) .skip
 | reg {id:Nat} {ops:Array Oper} {its:List Item} (hl:its.length=ops.size) (h : ∀i (h1:i<its.length) (h2:i<ops.size),ItemOk P N ops ops[i] its[i]):CodeOk P N (.region id ops false) (.reg its)
 | drw {id:Nat} {ops:Array Oper} {d:DReg} (h:DOk P N ops d∧PDOk P N ops d):CodeOk P N (.region id ops true) (.drw d)
 | seq {a b:Code} {ra rb:RCode} (ha:CodeOk P N a ra) (hb:CodeOk P N b rb):CodeOk P N (.seq a b) (.seq ra rb)
 | cond {c:Operand} {a b:Code} {ra rb:RCode} (hc:okOpnd c=true) (ha:CodeOk P N a ra) (hb:CodeOk P N b rb):CodeOk P N (.cond c a b) (.cond c ra rb)
 | block {id:Nat} {c:Code} {rc:RCode} (h:CodeOk P N c rc):CodeOk P N (.block id c) (.block id rc)
 | loop {c:Code} {rc:RCode} (h:CodeOk P N c rc):CodeOk P N (.loop c) (.loop rc)
 | exit {id:Nat}:CodeOk P N (.exit id) (.exit id)
 | ret:CodeOk P N .ret .ret
 | bad {c:Code}:CodeOk P N c .bad
 | scope {c:Code} {rc:RCode} (h:CodeOk P N c rc):CodeOk P N (.scope c) rc
 | rangeF {g:Operand} {ps:Array Tmp} {ca cb:Code} {key:Nat×Nat} (hg:okOpnd g=true) (hk:keyOf P key=some (N,ps,ca,cb)):CodeOk P N (.rangeFunc g ps ca cb) (.rangeF g key)
def mkD (D:Nat):Deferred:= { target:= .collected D,args:= #[] }
def DM (D0:List Deferred)(B1:Nat)(β:Nat→Ent)(w:World)(a:Act):Prop:=
 ∃ms:List Nat,a.defers=ms.map mkD++D0∧ms.Nodup∧∀D∈ms,B1≤D∧w.heap[D]? = some (.deferred (some []))∧Out β D
theorem DM.evo{D0:List Deferred}{B1:Nat}{β β':Nat→Ent}{w w':World}{a a':Act}(h:DM D0 B1 β w a)(e:Evo β w β' w')(hd:a'.defers=a.defers):DM D0 B1 β' w' a':=by
 obtain⟨ms,h1,h2,h3⟩:=h
 refine⟨ms,hd.trans h1,h2,fun D hD=> ?_⟩
 obtain⟨g1,g2,g3⟩:=h3 D hD
 obtain⟨k1,k2⟩:=e.keep D (Array.getElem?_eq_some_iff.1 g2).1 g3
 exact⟨g1,k1.trans g2,k2⟩
theorem DM.none{D0:List Deferred}{B1:Nat}{β:Nat→Ent}{w:World}{a:Act}(h:a.defers=D0):DM D0 B1 β w a:=⟨[],h,List.nodup_nil,fun D hD=>by cases hD⟩
def RoOk (β:Nat→Ent)(ro:Option Nat):Prop:=∀b,ro=some b→∃l,β l= .loop b
theorem RoOk.evo{β β':Nat→Ent}{ro:Option Nat}(h:RoOk β ro)(e:EntExt β β'):RoOk β' ro:=fun b hb=>by
 obtain⟨l,hl⟩:=h b hb
 rcases e l with g | g | ⟨_,_,_,_,g,_⟩
 ·exact⟨l,g.trans hl⟩
 ·rw[hl] at g;cases g
 ·rw[hl] at g;cases g
theorem Sim.loop{β:Nat→Ent}{H:CH}{w:World}(h:Sim P B β H w){l b:Nat}(hl:β l= .loop b) : ∃st pend fr key,H.ob l= .loop st pend fr key∧B≤b∧LoopRel P β w b st pend fr key:=by
 have h1:=h.ent l
 rw[hl] at h1
 cases ho:H.ob l with
 | loop st pend fr key=>rw[ho] at h1;exact⟨_,_,_,_,rfl,h1.1,h1.2⟩
 | _=>rw[ho] at h1;exact h1.elim
theorem Sim.push0{β:Nat→Ent}{H:CH}{w:World}(h:Sim P B β H w)(o:Obj):Sim P B β H (w.alloc o)∧Evo β w β (w.alloc o):=by
 have hold : ∀b,b<w.heap.size→(w.alloc o).heap[b]? = w.heap[b]? :=fun b hb=>by
  show(w.heap.push o)[b]? = _
  rw[Array.getElem?_push,if_neg (by omega)]
 exact⟨⟨fun l=>(h.ent l).mono (EntExt.refl β) fun b hb=>hold b (at_lt h hb),h.nx,h.inj,by simpa using Nat.le_succ_of_le h.base,h.ro⟩,⟨rfl,rfl,rfl,by simp,fun b hb ho=>⟨hold b hb,ho⟩,EntExt.refl β⟩⟩
theorem Sim.newLoop{β:Nat→Ent}{H:CH}{w:World}(h:Sim P B β H w){r:Loop}{N:Nat}{fr:Nat→Value}{key:Nat×Nat}(h1:r.state= .ready)(h2:r.pending=none)(h3:keyOf P key=some (N,r.params,r.assign,r.body))(h4:N≤r.tmps.size)(h5 : ∀t,VR β (fr t) (r.tmps.getD t undef)) :
 Sim P B (upd β H.nx (.loop w.heap.size)) (H.new (.loop .ready none fr key)) (w.alloc (.loop r))∧Evo β w (upd β H.nx (.loop w.heap.size)) (w.alloc (.loop r)):=by
 have hun:=h.unborn
 have hext:EntExt β (upd β H.nx (.loop w.heap.size)):=fun l=>by
  by_cases hl:l=H.nx
  ·subst hl;exact .inr (.inl hun)
  ·exact .inl (upd_other hl)
 have hold : ∀b,b<w.heap.size→(w.alloc (.loop r)).heap[b]? = w.heap[b]? :=fun b hb=>by
  show(w.heap.push _)[b]? = _
  rw[Array.getElem?_push,if_neg (by omega)]
 have hnew:=World.alloc_heap_new w (.loop r)
 refine⟨⟨fun l=> ?_,fun l hl=> ?_,fun l l' b ho ho'=> ?_,by simpa using Nat.le_succ_of_le h.base,h.ro.upd fun _ _ _ e=>(by cases e)⟩,⟨rfl,rfl,rfl,by simp,fun b hb hout=>⟨hold b hb,fun l ho=> ?_⟩,hext⟩⟩
 ·by_cases hl':l=H.nx
  ·subst hl'
   simp only[upd_same,CH.new,if_true]
   exact⟨h.base,r,N,hnew,h1,by rw[h2];rfl,h3,h4,fun t=>(h5 t).mono hext⟩
  ·simp only[upd_other hl',CH.new,if_neg hl']
   exact(h.ent l).mono hext fun b hb=>hold b (at_lt h hb)
 ·have:l≠H.nx:=by simp[CH.new] at hl;omega
  simp only[CH.new,if_neg this]
  exact h.nx l (by simp[CH.new] at hl;omega)
 ·by_cases e1:l=H.nx<;>by_cases e2:l'=H.nx
  ·rw[e1,e2]
  ·subst e1
   rw[upd_same] at ho
   rw[upd_other e2] at ho'
   have:=(owns_ge h ho').2
   have:w.heap.size=b:=ho;omega
  ·subst e2
   rw[upd_same] at ho'
   rw[upd_other e1] at ho
   have:=(owns_ge h ho).2
   have:w.heap.size=b:=ho';omega
  ·rw[upd_other e1] at ho
   rw[upd_other e2] at ho'
   exact h.inj _ _ b ho ho'
 ·by_cases e1:l=H.nx
  ·subst e1
   rw[upd_same] at ho
   have:w.heap.size=b:=ho;omega
  ·rw[upd_other e1] at ho
   exact hout l ho
theorem Sim.setLoop{β:Nat→Ent}{H:CH}{w:World}(h:Sim P B β H w){l b:Nat}(hl:β l= .loop b){st:LoopState}{pend:Option (Option Nat)}{fr:Nat→Value}{key:Nat×Nat}{r:Loop}{N:Nat}(h1:r.state=st)(h2:r.pending=pend.map pendC)(h3:keyOf P key=some (N,r.params,r.assign,r.body))
 (h4:N≤r.tmps.size) (h5 : ∀t,VR β (fr t) (r.tmps.getD t undef)):Sim P B β (H.set l (.loop st pend fr key)) (w.putObj b (.loop r))∧Evo β w β (w.putObj b (.loop r)):=by
 have hlt:=loop_lt h hl
 have hge:B≤b:=(owns_ge h (l:=l) (b:=b) (by rw[hl];rfl)).1
 have hother : ∀k,k≠b→(w.putObj b (.loop r)).heap[k]? = w.heap[k]? :=fun k hk=>World.putObj_heap_other hk
 refine⟨⟨fun l'=> ?_,fun l' hl'=> ?_,h.inj,by simpa using h.base,h.ro⟩,⟨rfl,rfl,rfl,by simp,fun k hk hout=>⟨hother k ?_,hout⟩,EntExt.refl β⟩⟩
 ·by_cases e:l'=l
  ·subst e
   simp only[CH.set,if_true,hl]
   exact⟨hge,r,N,World.putObj_heap_same hlt,h1,h2,h3,h4,h5⟩
  ·simp only[CH.set,if_neg e]
   refine(h.ent l').mono (EntExt.refl β) fun k hk=>hother k ?_
   rintro rfl
   obtain⟨_,_,_,_,_,_,q⟩:=h.loop hl
   obtain⟨r0,_,q1,_⟩:=q
   rcases hk with ⟨z,sz,n,kd,hk⟩ | hk | hk
   ·obtain⟨cs,e,_,cs',e',frz,p1,_⟩:=h.live hk
    rw[q1] at p1;cases p1
   ·have:=h.ent l'
    rw[hk] at this
    cases ho:H.ob l' with
    | map es c=>rw[ho] at this;obtain⟨_,es',p1,_⟩:=this;rw[q1] at p1;cases p1
    | siter ss pp=>rw[ho] at this;have p1:=this.2;rw[q1] at p1;cases p1
    | fm ff kk=>rw[ho] at this;obtain⟨_,_,_,p1,_⟩:=this;rw[q1] at p1;cases p1
    | miter mm=>rw[ho] at this;obtain⟨_,_,_,_,_,_,p1⟩:=this;rw[q1] at p1;cases p1
    | _=>rw[ho] at this;exact this.elim
   ·exact e (h.inj _ _ k (by rw[hk];rfl) (by rw[hl];rfl))
 ·have:l'≠l:=fun e=>by
   subst e
   obtain⟨_,_,_,_,ho,_⟩:=h.loop hl
   rw[h.nx _ hl'] at ho;cases ho
  simp only[CH.set,if_neg this]
  exact h.nx _ hl'
 ·rintro rfl
  exact hout l (by rw[hl];rfl)
theorem execRange{g:Operand}{a:Act}{f:FuncId}{caps:Array Value}(hg:a.eval g= .func (.func f) #[] caps)(hc:callable P f=true)(l:Nat)(w:World) :
 (resolve a.eval (rangeCall g l) 0).run P w= .ok { target:= .fn (.func f) caps,args:= #[.func (.yield l) #[] #[]] } w∧
 (invoke (.fn (.func f) caps) #[.func (.yield l) #[] #[]]).run P w= .ok (.enter f (#[.func (.yield l) #[] #[]]++caps)) w:=by
 refine⟨?_,?_⟩
 ·simp only[resolve,rangeCall,hg,Deferred.ofValue,List.map_toArray,List.map_cons,List.map_nil,Array.empty_append]
  rfl
 ·simp only[invoke]
  exact run_callFunc hc _ _
theorem items_sound{h:Hd}(hh:HS P B h){ro:Option Nat}{N:Nat}{ops:Array Oper}{Q:Exit→Act→World→Prop} : ∀(l:List Nat) (its:List Item) (β:Nat→Ent) (fr fr':Fr) (H H':CH) (a:Act) (w:World),
 its.length=l.length→(∀k (h1:k<its.length) (h2:k<l.length),∃o,ops[l[k]]? = some o∧ItemOk P N ops o its[k])→Sim P B β H w→FR β N fr a→runI h its fr H=some (fr',H')→
 (∀β' w' a',Sim P B β' H' w'→Evo β w β' w'→FR β' N fr' a'→a'.defers=a.defers→Q .normal a' w')→wpOpsIn (Fn ro) 0 P ops Q l a w
 | [],its,β,fr,fr',H,H',a,w,hl,_,hS,hf,hr,hK=>by
   have:its= []:=List.length_eq_zero_iff.1 (by simpa using hl)
   subst this
   simp only[runI,Option.some.injEq,Prod.mk.injEq] at hr
   obtain⟨rfl,rfl⟩:=hr
   exact hK β w a hS (Evo.refl β w) hf rfl
 | i::l,its,β,fr,fr',H,H',a,w,hl,hok,hS,hf,hr,hK=>by
   match its,hl with
   | [],hl=>simp at hl
   | it::its,hl=>
     obtain⟨o,ho,hit⟩:=hok 0 (by simp) (by simp)
     simp only[List.getElem_cons_zero] at ho hit
     have hrest : ∀(β1:Nat→Ent) (fr1:Fr) (H1:CH) (a1:Act) (w1:World),Sim P B β1 H1 w1→Evo β w β1 w1→FR β1 N fr1 a1→a1.defers=a.defers→runI h its fr1 H1=some (fr',H')→wpOpsIn (Fn ro) 0 P ops Q l a1 w1:=by
      intro β1 fr1 H1 a1 w1 hS1 hE1 hf1 hd1 hr1
      refine items_sound hh l its β1 fr1 fr' H1 H' a1 w1 (by simpa using hl) (fun k h1 h2=> ?_) hS1 hf1 hr1 fun β' w' a' q1 q2 q3 q4=>hK β' w' a' q1 (hE1.trans q2) q3 (q4.trans hd1)
      have:=hok (k+1) (by simpa using h1) (by simpa using h2)
      simpa using this
     simp only[runI] at hr
     simp only[wpOpsIn,ho]
     cases hst:stepI h it fr H with
     | none=>rw[hst] at hr;cases hr
     | some r=>
       obtain⟨fr1,H1⟩:=r
       rw[hst] at hr
       simp only at hr
       cases hw:wantedF fr it.guard with
       | none=>simp[stepI,hw] at hst
       | some b=>
         rw[wanted_rel hit hf hw]
         cases b with
         | true=>
           simp only[if_true]
           simp only[stepI,hw] at hst
           exact item_sound hh hit hS hf hw hst fun β1 w1 v1 q1 q2 q3=>hrest β1 fr1 H1 _ w1 q1 q2 q3 (by cases o.dst<;>rfl) hr
         | false=>
           simp only[Bool.false_eq_true,if_false]
           simp only[stepI,hw,Option.some.injEq,Prod.mk.injEq] at hst
           obtain⟨rfl,rfl⟩:=hst
           refine⟨fun _ _=>trivial,hrest β _ _ _ w hS (Evo.refl β w) ?_ (by cases o.dst<;>rfl) hr⟩
           rw[←hit.dst]
           exact hf.put (fun x hx=>hit.lt x (by rw[←hit.dst];exact hx)) .skip
theorem least_ex{p:Nat→Prop}(h : ∃n,p n) : ∃n,p n∧∀m,p m→n≤m:=by
 obtain⟨n,hn⟩:=h
 induction n using Nat.strongRecOn with
 | _ n ih=>
   by_cases g : ∃m,m<n∧p m
   ·obtain⟨m,h1,h2⟩:=g
    exact ih m h1 h2
   ·refine⟨n,hn,fun m hm=> ?_⟩
    by_cases hlt:m<n
    ·exact absurd ⟨m,hlt,hm⟩ g
    ·omega
noncomputable def leastN{p:Nat→Prop}(h : ∃n,p n):Nat:=Classical.choose (least_ex h)
theorem leastN_spec{p:Nat→Prop}(h : ∃n,p n):p (leastN h):=(Classical.choose_spec (least_ex h)).1
theorem leastN_le{p:Nat→Prop}(h : ∃n,p n){m:Nat}(hm:p m):leastN h≤m:=(Classical.choose_spec (least_ex h)).2 m hm
theorem stepR_scope{b:Frame}{a:Act}{k:List Go.Item}{cs:List Frame}{w:World}{c:Code}:step P (lone (b.atR a (.code (.scope c)::k)) cs w)= .next (lone (b.atR a (.code c:: .inScope c::k)) cs w):=
 step_lone_go (by simp[stepG,stepG.exec,Frame.atR])
theorem stepR_inScope{b:Frame}{a:Act}{k:List Go.Item}{cs:List Frame}{w:World}{c:Code}:step P (lone (b.atR a (.inScope c::k)) cs w)= .next (lone (b.atR a k) cs w):=
 step_lone_go (by simp[stepG,stepG.exec,Frame.atR])
theorem wpIn_scope{F:Fence}{n:Nat}{c:Code}{Q:Exit→Act→World→Prop}{a:Act}{w:World}(h:c.wpIn F n P (fun e a w=>(∀l,e≠ .goto l)∧Q e a w) a w):(Code.scope c).wpIn F n P Q a w:=by
 intro b k cs hro hb hr
 have h0:(lone (b.atR a (.code (.scope c)::k)) cs w).fenced P F:=fenced_calm hb hr rfl
 obtain⟨e,a₁,w₁,⟨hng,hq⟩,harr⟩:=h b (.inScope c::k) cs hro hb hr
 cases e with
 | normal=>exact⟨.normal,a₁,w₁,hq, .head h0 stepR_scope (StepsIn.trans harr (.one (fenced_calm hb hr rfl) stepR_inScope))⟩
 | exit id=>
   have hx:exitTo id (.inScope c::k)=exitTo id k:=by simp[exitTo]
   exact⟨.exit id,a₁,w₁,hq,fun k' hk=> .head h0 stepR_scope (harr.1 k' (by rw[hx];exact hk)),
    fun hr' hk=>let ⟨k₁,h1,h2⟩:=harr.2 hr' (by rw[hx];exact hk);⟨k₁,h1, .head h0 stepR_scope h2⟩⟩
 | goto l=>exact absurd rfl (hng l)
 | ret=>exact⟨_,a₁,w₁,hq, .of_steps (.one h0 stepR_scope) harr⟩
 | panic ch=>exact⟨_,a₁,w₁,hq, .of_steps (.one h0 stepR_scope) harr⟩
 | outgrown=>exact⟨_,a₁,w₁,hq, .of_steps (.one h0 stepR_scope) harr⟩
theorem code_sound{h:Hd}(hh:HS P B h){n:Nat}{ro:Option Nat}{N B1:Nat}{D0:List Deferred}{c:Code}{r:RCode}(hok:CodeOk P N c r) : ∀(β:Nat→Ent) (fr fr':Fr) (H H':CH) (a:Act) (w:World) (x:CExit) (Q:Exit→Act→World→Prop),
 Sim P B β H w→FR β N fr a→RoOk β ro→DM D0 B1 β w a→B1≤w.heap.size→evR h n r fr H=some (x,fr',H')→
 (∀β' w' a',Sim P B β' H' w'→Evo β w β' w'→FR β' N fr' a'→DM D0 B1 β' w' a'→Q x.toExit a' w')→c.wpIn (Fn ro) 0 P Q a w:=by
 induction hok with
 | bad=>
   intro β fr fr' H H' a w x Q hS hf hro hdm hB hr hK
   simp[evR] at hr
 | scope hc ih=>
   intro β fr fr' H H' a w x Q hS hf hro hdm hB hr hK
   exact wpIn_scope (ih β fr fr' H H' a w x _ hS hf hro hdm hB hr fun β' w' a' q1 q2 q3 q4=>⟨fun l e=>(by cases x<;>cases e),hK β' w' a' q1 q2 q3 q4⟩)
 | skip=>
   intro β fr fr' H H' a w x Q hS hf hro hdm hB hr hK
   simp only[evR,Option.some.injEq,Prod.mk.injEq] at hr
   obtain⟨rfl,rfl,rfl⟩:=hr
   exact wpIn_skip (hK β w a hS (Evo.refl β w) hf hdm)
 | label=>
   intro β fr fr' H H' a w x Q hS hf hro hdm hB hr hK
   simp only[evR,Option.some.injEq,Prod.mk.injEq] at hr
   obtain⟨rfl,rfl,rfl⟩:=hr
   exact wpIn_label (hK β w a hS (Evo.refl β w) hf hdm)
 | exit=>
   intro β fr fr' H H' a w x Q hS hf hro hdm hB hr hK
   simp only[evR,Option.some.injEq,Prod.mk.injEq] at hr
   obtain⟨rfl,rfl,rfl⟩:=hr
   exact wpIn_exit (hK β w a hS (Evo.refl β w) hf hdm)
 | ret=>
   intro β fr fr' H H' a w x Q hS hf hro hdm hB hr hK
   simp only[evR,Option.some.injEq,Prod.mk.injEq] at hr
   obtain⟨rfl,rfl,rfl⟩:=hr
   exact wpIn_ret (hK β w a hS (Evo.refl β w) hf hdm)
 | @reg id ops its hl hi=>
   intro β fr fr' H H' a w x Q hS hf hro hdm hB hr hK
   simp only[evR] at hr
   cases hrun:runI h its fr H with
   | none=>rw[hrun] at hr;cases hr
   | some q=>
     obtain⟨fr1,H1⟩:=q
     rw[hrun] at hr
     simp only[Option.map_some,Option.some.injEq,Prod.mk.injEq] at hr
     obtain⟨rfl,rfl,rfl⟩:=hr
     refine wpIn_region (items_sound hh _ its β fr _ H _ a w (by simpa using hl) (fun k h1 h2=> ?_) hS hf hrun fun β' w' a' q1 q2 q3 q4=>hK β' w' a' q1 q2 q3 (hdm.evo q2 q4))
     have hk:k<ops.size:=by omega
     exact⟨ops[k],by simp[hk],hi k h1 hk⟩
 | @drw id ops d hd=>
   intro β fr fr' H H' a w x Q hS hf hro hdm hB hr hK
   simp only[evR] at hr
   cases hrun:evD h d fr H with
   | none=>rw[hrun] at hr;cases hr
   | some q=>
     obtain⟨fr1,H1⟩:=q
     rw[hrun] at hr
     simp only[Option.map_some,Option.some.injEq,Prod.mk.injEq] at hr
     obtain⟨rfl,rfl,rfl⟩:=hr
     exact hd.1 B h ro β fr _ H _ a w id Q hh hS hf hrun fun β' w' a' q1 q2 q3 q4=>hK β' w' a' q1 q2 q3 (hdm.evo q2 q4)
 | @seq ca cb ra rb ha hb iha ihb=>
   intro β fr fr' H H' a w x Q hS hf hro hdm hB hr hK
   simp only[evR] at hr
   cases hrun:evR h n ra fr H with
   | none=>rw[hrun] at hr;cases hr
   | some q=>
     obtain⟨x1,fr1,H1⟩:=q
     rw[hrun] at hr
     refine wpIn_seq (iha β fr fr1 H H1 a w x1 _ hS hf hro hdm hB hrun fun β' w' a' q1 q2 q3 q4=> ?_)
     cases x1 with
     | normal=>exact ihb β' fr1 fr' H1 H' a' w' x Q q1 q3 (hro.evo q2.ext) q4 (Nat.le_trans hB q2.size) hr fun β2 w2 a2 p1 p2 p3 p4=>hK β2 w2 a2 p1 (q2.trans p2) p3 p4
     | exit i=>
       simp only[Option.some.injEq,Prod.mk.injEq] at hr
       obtain⟨rfl,rfl,rfl⟩:=hr
       exact hK β' w' a' q1 q2 q3 q4
     | ret=>
       simp only[Option.some.injEq,Prod.mk.injEq] at hr
       obtain⟨rfl,rfl,rfl⟩:=hr
       exact hK β' w' a' q1 q2 q3 q4
 | @cond c ca cb ra rb hc ha hb iha ihb=>
   intro β fr fr' H H' a w x Q hS hf hro hdm hB hr hK
   simp only[evR] at hr
   have hv:=evF_rel hf hc
   split at hr
   ·rename_i e
    rw[e] at hv
    exact wpIn_cond_true hv.bool_inv (iha β fr fr' H H' a w x Q hS hf hro hdm hB hr hK)
   ·rename_i e
    rw[e] at hv
    exact wpIn_cond_false hv.bool_inv (ihb β fr fr' H H' a w x Q hS hf hro hdm hB hr hK)
   ·cases hr
 | @block id c rc hc ih=>
   intro β fr fr' H H' a w x Q hS hf hro hdm hB hr hK
   simp only[evR] at hr
   cases hrun:evR h n rc fr H with
   | none=>rw[hrun] at hr;cases hr
   | some q=>
     obtain⟨x1,fr1,H1⟩:=q
     rw[hrun] at hr
     refine wpIn_block (ih β fr fr1 H H1 a w x1 _ hS hf hro hdm hB hrun fun β' w' a' q1 q2 q3 q4=> ?_)
     cases x1 with
     | normal=>
       simp only[Option.some.injEq,Prod.mk.injEq] at hr
       obtain⟨rfl,rfl,rfl⟩:=hr
       exact hK β' w' a' q1 q2 q3 q4
     | exit i=>
       simp only at hr
       split at hr
       ·rename_i e
        simp only[Option.some.injEq,Prod.mk.injEq] at hr
        obtain⟨rfl,rfl,rfl⟩:=hr
        simp only[CExit.toExit,Exit.inBlock,if_pos e]
        exact hK β' w' a' q1 q2 q3 q4
       ·rename_i e
        simp only[Option.some.injEq,Prod.mk.injEq] at hr
        obtain⟨rfl,rfl,rfl⟩:=hr
        simp only[CExit.toExit,Exit.inBlock,if_neg e]
        exact hK β' w' a' q1 q2 q3 q4
     | ret=>
       simp only[Option.some.injEq,Prod.mk.injEq] at hr
       obtain⟨rfl,rfl,rfl⟩:=hr
       exact hK β' w' a' q1 q2 q3 q4
 | @loop c rc hc ih=>
   intro β0 fr0 fr' H0 H' a0 w0 x Q hS0 hf0 hro hdm hB hr0 hK
   simp only[evR] at hr0
   let Rel:Nat→Act→World→Prop:=fun m a w=>∃β fr H,Sim P B β H w∧Evo β0 w0 β w∧FR β N fr a∧DM D0 B1 β w a∧loopN m (evR h n rc) fr H=some (x,fr',H')
   classical
   refine wpIn_loop (fun a w=>∃m,Rel m a w) (fun a w=>if g : ∃m,Rel m a w then leastN g else 0) ⟨n,β0,fr0,H0,hS0,Evo.refl β0 w0,hf0,hdm,hr0⟩ fun a w hI=> ?_
   have hfind:=leastN_spec hI
   rw[dif_pos hI]
   generalize hm:leastN hI=m at hfind
   obtain⟨β,fr,H,hS,hE,hf,hd,hr⟩:=hfind
   cases m with
   | zero=>simp[loopN] at hr
   | succ m=>
     simp only[loopN] at hr
     cases hrun:evR h n rc fr H with
     | none=>rw[hrun] at hr;cases hr
     | some q=>
       obtain⟨x1,fr1,H1⟩:=q
       rw[hrun] at hr
       refine ih β fr fr1 H H1 a w x1 _ hS hf (hro.evo hE.ext) hd (Nat.le_trans hB hE.size) hrun fun β' w' a' q1 q2 q3 q4=> ?_
       cases x1 with
       | normal=>
         simp only at hr
         have hnew:Rel m a' w':=⟨β',fr1,H1,q1,hE.trans q2,q3,q4,hr⟩
         have hex : ∃m,Rel m a' w':=⟨m,hnew⟩
         refine⟨hex,?_⟩
         rw[dif_pos hex]
         have:=leastN_le hex hnew
         omega
       | exit i=>
         simp only[Option.some.injEq,Prod.mk.injEq] at hr
         obtain⟨rfl,rfl,rfl⟩:=hr
         exact hK β' w' a' q1 (hE.trans q2) q3 q4
       | ret=>
         simp only[Option.some.injEq,Prod.mk.injEq] at hr
         obtain⟨rfl,rfl,rfl⟩:=hr
         exact hK β' w' a' q1 (hE.trans q2) q3 q4
 | @rangeF g ps ca cb key hg hk=>
   intro β fr fr' H H' a w x Q hS hf hro hdm hB hr hK
   simp only[evR] at hr
   split at hr
   ·rename_i f fst caps hgv
    split at hr
    ·rename_i v2 H2 hcall
     obtain⟨hc,hsound⟩:callable P f=true∧_:=(hh.1 _ _ _ _ _ hcall).resolve_right fun hx=>by
      have:=hx.1.1
      simp[nfn] at this
     obtain⟨caps',hg',hsz,hcaps⟩ : ∃caps',a.eval g= .func (.func f) #[] caps'∧caps.size=caps'.size∧∀i (h1:i<caps.size) (h2:i<caps'.size),VR β caps[i] caps'[i]:=by
      have:=evF_rel hf hg
      rw[hgv] at this
      generalize a.eval g=q at this
      cases this with
      | fn _ h hi=>exact⟨_,rfl,h,hi⟩
     split at hr
     ·rename_i st pend fr2 key2 ho2
      split at hr
      ·cases hr
      ·rename_i hst
       simp only[Option.some.injEq,Prod.mk.injEq] at hr
       obtain⟨rfl,rfl,rfl⟩:=hr
       have enter : ∀fn:FuncId,∃(l:Nat) (mark:List Deferred) (w₁ : World),(Instr.enterLoop fn a.tmps ps ca cb ro).run P w= .ok (l,mark) w₁ ∧Sim P B (upd β H.nx (.loop l)) (H.new (.loop .ready none fr key)) w₁ ∧Evo β w (upd β H.nx (.loop l)) w₁ ∧
        ∀a':Act,a'.defers=mark++a.defers→DM D0 B1 (upd β H.nx (.loop l)) w₁ a':=by
        intro fn
        cases hroo:ro with
        | none=>
          obtain⟨s1,e1⟩:=hS.push0 (.deferred (some []))
          obtain⟨s2,e2⟩:=s1.newLoop (r:= { state:= .ready,pending:=none,fn,tmps:=a.tmps,params:=ps,assign:=ca,body:=cb,defers:=w.heap.size }) (N:=N) (fr:=fr) (key:=key) rfl rfl hk hf.1 hf.2
          have hs:(w.alloc (.deferred (some []))).heap.size=w.heap.size+1:=by simp
          rw[hs] at s2 e2
          refine⟨_,_,_,run_enterLoop_outer fn a.tmps ps ca cb,s2,e1.trans e2,fun a' ha'=> ?_⟩
          obtain⟨ms,m1,m2,m3⟩:=hdm
          refine⟨w.heap.size::ms,by rw[ha',m1];rfl,List.nodup_cons.2 ⟨fun hm=> ?_,m2⟩,fun D hD=> ?_⟩
          ·have:=(Array.getElem?_eq_some_iff.1 (m3 _ hm).2.1).1;omega
          ·rcases List.mem_cons.1 hD with rfl | hD
           ·refine⟨hB,?_,fun l ho=> ?_⟩
            ·have hn:=World.alloc_heap_new w (.deferred (some []))
             rw[←hn]
             exact Below.heap_alloc _ _ _ (by simp)
            ·by_cases hl:l=H.nx
             ·subst hl
              rw[upd_same] at ho
              have:w.heap.size+1=w.heap.size:=ho;omega
             ·rw[upd_other hl] at ho
              have:=(owns_ge hS ho).2;omega
           ·obtain⟨g1,g2,g3⟩:=m3 D hD
            obtain⟨k1,k2⟩:=(e1.trans e2).keep D (Array.getElem?_eq_some_iff.1 g2).1 g3
            exact⟨g1,k1.trans g2,k2⟩
        | some b0=>
          obtain⟨l0,hl0⟩:=hro b0 hroo
          obtain⟨_,_,_,_,_,_,r0,_,hr0,_⟩:=hS.loop hl0
          obtain⟨s2,e2⟩:=hS.newLoop (r:= { state:= .ready,pending:=none,fn,tmps:=a.tmps,params:=ps,assign:=ca,body:=cb,defers:=r0.defers }) (N:=N) (fr:=fr) (key:=key) rfl rfl hk hf.1 hf.2
          exact⟨_,_,_,run_enterLoop_inner hr0 fn a.tmps ps ca cb,s2,e2,fun a' ha'=>hdm.evo e2 (by simpa using ha')⟩
       refine wpIn_rangeFunc fun fn _=> ?_
       obtain⟨l,mark,w₁,hen,s1,e1,hdm1⟩:=enter fn
       obtain⟨x1,x2⟩:=execRange hg' hc l w₁
       refine⟨l,mark,w₁,_,w₁,f,_,w₁,hen,x1,fun _ _=>trivial,x2,fun h=>absurd h (by simp[Fn,Fence.wide]),callsIn_Fn ?_⟩
       have hargs:VRs (upd β H.nx (.loop l)) (.func (.yield H.nx) #[] #[]::caps.toList) (.func (.yield l) #[] #[]::caps'.toList):=
        VRs.cons (.yld upd_same) ((VRs.arr.2 ⟨hsz,hcaps⟩).mono e1.ext)
       have:=hsound _ w₁ _ s1 hargs
       have e2:(Value.func (.yield l) #[] #[]::caps'.toList).toArray= #[.func (.yield l) #[] #[]]++caps':=by apply Array.ext';simp
       rw[e2] at this
       refine this.mono ?_
       rintro e w3 ⟨v',β3,rfl,g1,g2,g3⟩
       have hl3:β3 H.nx= .loop l:=by
        rcases g3.ext H.nx with q | q | ⟨_,_,_,_,q,_⟩
        ·rw[q,upd_same]
        ·rw[upd_same] at q;cases q
        ·rw[upd_same] at q;cases q
       obtain⟨st3,pend3,fr3,key3,ho3,_,r3,N3,p1,p2,p3,p4,p5,p6⟩:=g2.loop hl3
       rw[ho2] at ho3
       cases ho3
       have hend:=run_endLoop (P:=P) p1 (by rw[p2];exact hst)
       obtain⟨s4,e4⟩:=g2.setLoop hl3 (st:= .exhausted) (pend:=pend) (fr:=fr2) (key:=key2) (r:= { r3 with state:= .exhausted }) (N:=N3) rfl p3 p4 p5 p6
       generalize w3.putObj l (.loop { r3 with state:= .exhausted })=w4 at hend s4 e4
       have hfin:Q (jumpX pend).toExit { a with defers:=mark++a.defers } w4:=
        hK _ _ _ s4 (e1.trans (g3.trans e4)) (FR.mono (a:= { a with defers:=mark++a.defers }) hf ((e1.trans (g3.trans e4)).ext)) ((hdm1 { a with defers:=mark++a.defers } rfl).evo (g3.trans e4) rfl)
       refine⟨r3.pending,_,hend,?_⟩
       rw[p3]
       cases pend with
       | none=>exact hfin
       | some j=>
         cases j with
         | none=>exact wpIn_ret hfin
         | some i=>exact wpIn_exit hfin
     ·cases hr
    ·cases hr
   ·cases hr
end Can
end Go.Proofs.YticlaccbodpkeaaGreatDoor
